/- Own texts as one, only what is reached (shake.py). -/
import Derived.Test.YtigmbblgfnkpbaaGreatGbe
import Derived.ChangeSlices
import Derived.Deep.Slices
import Derived.Test.YtigmbblgfnkpbaaGreatProg
set_option linter.unusedSectionVars false
namespace Go.Proofs.YtigmbblgfnkpbaaGreat
open Go Go.Proofs
set_option linter.unusedVariables false
set_option linter.unusedSimpArgs false
attribute [local irreducible] apK cpK mkK br
structure OkC (C:List Cm):Prop where
 nd:(C.map (·.id)).Nodup
 dt:∀ c ∈ C,0≤c.date∧c.date < 17179869184
 par:∀ c ∈ C,∀ p ∈ c.par,p ∈ C.map (·.id)
theorem qxg (pr:Nd→List Nm) (L:List Nd):(L.map (cmN pr)).map (·.id)=L.map Nd.nm:=by
 rw [List.map_map]
 rfl
theorem qgg {L:List Nd}:(L.map Nd.nm).Nodup ↔ (L.map (·.id)).Nodup:=by
 unfold List.Nodup
 rw [List.pairwise_map,List.pairwise_map]
 exact ⟨fun h=>h.imp fun hab e=>hab (qgk.2 e),fun h=>h.imp fun hab e=>hab (qgk.1 e)⟩
theorem OkC.perm {C D:List Cm} (h:OkC C) (hp:C.Perm D):OkC D :=
 ⟨(hp.map _).nodup_iff.1 h.nd,fun c hc=>h.dt c (hp.mem_iff.2 hc),fun c hc p hpp=>(hp.map _).mem_iff.1 (h.par c (hp.mem_iff.2 hc) p hpp)⟩
theorem gl_map {S:List Nd} {gl:List Int} (hn:(S.map (·.id)).Nodup) (hl:gl.length=S.length):gl=S.map fun n=>gF S gl n.nm:=by
 apply lext (by simpa using hl)
 intro j hj
 rw [hl] at hj
 have:gF S gl S[j].nm=gl.getD j 0:=by
  unfold gF
  rw [qmn hn hj,if_neg (by omega),Int.toNat_natCast]
 rw [List.getD_eq_getElem?_getD (l:=S.map _),List.getElem?_map,List.getElem?_eq_getElem hj]
 show _=gF S gl S[j].nm
 rw [this]
section
variable {F0:List Nat} {w0 w:World} {ps rest:List As} {s t:Sl} {L R:List Nd} {n:Nd} {pr:Nd→List Nm} {K:Ending→World→Prop}
theorem ref_Make.c (h:St F0 w0 w ps) [Rdb F0 w0 s ps 42 (L.flatMap ndC)] (hL:L.length≤1000000) (hpr:∀ n ∈ L,(pr n).length≤1000000) (hP:∀ n ∈ L,Rdb F0 w0 n.par ps 20 ((pr n).flatMap nmC))
 (hk1:¬ OkC (L.map (cmN pr))→∀ w',St F0 w0 w' ps→K (.returned (.tuple ⟨[.pointer none,.int .i64 1]⟩)) w')
 (hk2:OkC (L.map (cmN pr))→∀ O g w',Wk (fC (L.map (cmN pr))) true O g→O.length < L.length→St F0 w0 w' ps→K (.returned (.tuple ⟨[.pointer none,.int .i64 12]⟩)) w')
 (hk3:OkC (L.map (cmN pr))→∀ O g w',Wk (fC (L.map (cmN pr))) true O g→L.length≤O.length→1024 < L.length→St F0 w0 w' ps→K (.returned (.tuple ⟨[.pointer none,.int .i64 5]⟩)) w')
 (hk4:OkC (L.map (cmN pr))→∀ O g S t u nb w',Wk (fC (L.map (cmN pr))) true O g→L.length≤O.length→L.length≤1024→S.Perm L→RisN S→t.len=S.length→u.len=S.length →
   St F0 w0 w' (qnb nb [.slice t.a t.len t.cap,.slice u.a u.len u.cap] :: qjb 42 t (S.flatMap ndC) :: qjb 1 u (ivs .i64 (S.map fun n=>g n.nm)) :: ps)→K (.returned (.tuple ⟨[.pointer (some ⟨nb,0,none⟩),.int .i64 0]⟩)) w') :
 Calls Tryz.prog 34 ⟨[sV s]⟩ w K:=by
 have hl:=h.rlen (s:=s) (f:=ndC) (L:=L)
 have hC:∀ i (hi:i < L.length),cmN pr L[i] ∈ L.map (cmN pr):=fun i hi=>List.mem_map.2 ⟨_,List.getElem_mem hi,rfl⟩
 refine qec (qrb.ok _ _ _ ?_)
 unfold qrb qrb.j1 qrb.j3
 refine qud (fun (i:Nat) (i':Int) w'=>i'=(i:Int)∧i≤L.length∧(∀ j (hj:j < L.length),j < i→atD L L[j].nm=j∧0≤L[j].date∧L[j].date < 17179869184∧allD L (pr L[j])=true)∧St F0 w0 w' ps) (fun i=>L.length - i) 0 ⟨rfl,Nat.zero_le _,fun j _ hj=>absurd hj (Nat.not_lt_zero _),h⟩ ?_
 clear h
 rintro i _ wL I μ ⟨rfl,hi,hat,h⟩ hin
 unfold qrb.b1
 refine qmc (fun g=>?_) (fun g=>?_)
 · have hix:i < L.length:=by omega
   refine h.lrId (s:=s) (L:=L) i rfl hix ?_
   refine quj.c (L:=L) (q:=L[i].nm) h hL fun w h=>⟨_,rfl,?_⟩
   refine qnc (fun g2=>?_) (fun g2=>?_)
   · refine hk1 (fun hok=>?_) w h
     have hn:=qgg.1 (by have:=hok.nd; rwa [qxg] at this)
     rw [qmn hn hix] at g2
     simp at g2
   have hLi:=List.getElem_mem hix
   haveI:=hP _ hLi
   refine h.lr (s:=s) (f:=ndC) (L:=L) i rfl hix ?_
   refine ref_all.c (n:=L[i]) (L:=L) (P:=pr L[i]) h hL (hpr _ hLi) fun w h=>⟨_,rfl,?_⟩
   refine qnc (fun g3=>?_) (fun g3=>?_)
   · refine hk1 (fun hok=>?_) w h
     have:allD L (pr L[i])=true:=qlm.2 fun p hp=>by
      have:=hok.par _ (hC i hix) p hp
      rwa [qxg] at this
     rw [this] at g3; cases g3
   refine h.lrI (s:=s) (f:=ndC) (L:=L) (o:=41) i rfl hix (by decide) (ndC_date _) ?_
   refine qmc (fun g4=>?_) (fun g4=>?_)
   · exact hk1 (fun hok=>by have:=(hok.dt _ (hC i hix)).1; exact absurd g4 (Int.not_lt.2 this)) w h
   refine h.lrI (s:=s) (f:=ndC) (L:=L) (o:=41) i rfl hix (by decide) (ndC_date _) ?_
   refine qmc (fun g5=>?_) (fun g5=>?_)
   · refine hk1 (fun hok=>?_) w h
     have:L[i].date < 17179869184:=(hok.dt _ (hC i hix)).2
     omega
   refine qy (e':=((i+1:Nat):Int)) (by rw [qm (by omega) (by omega)]; rfl) ?_
   refine ⟨rfl,hin (i+1) _ _ ⟨rfl,by omega,fun j hj hji=>?_,h⟩ (by omega)⟩
   by_cases e:j=i
   · subst e
     exact ⟨by simpa using g2,by omega,by omega,by simpa using g3⟩
   · exact hat j hj (by omega)
 · have:i=L.length:=by omega
   subst this
   have hn:(L.map (·.id)).Nodup:=nd_of_at fun j hj=>(hat j hj hj).1
   have hok:OkC (L.map (cmN pr)):=by
    refine ⟨by rw [qxg]; exact qgg.2 hn,fun c hc=>?_,fun c hc p hp=>?_⟩
    · obtain ⟨n,hm,rfl⟩:=List.mem_map.1 hc
      obtain ⟨j,hj,rfl⟩:=List.getElem_of_mem hm
      exact ⟨(hat j hj hj).2.1,(hat j hj hj).2.2.1⟩
    · obtain ⟨n,hm,rfl⟩:=List.mem_map.1 hc
      obtain ⟨j,hj,rfl⟩:=List.getElem_of_mem hm
      rw [qxg]
      exact qlm.1 (hat j hj hj).2.2.2 p hp
   unfold qrb.j2
   refine qxk.c (s:=s) (L:=L) h hL fun S t w hS ht hSL h=>⟨t,rfl,?_⟩
   have hp:=hS.perm hn
   have hCp:(L.map (cmN pr)).Perm (S.map (cmN pr)):=(hp.map _).symm
   have hfS:fC (L.map (cmN pr))=fC (S.map (cmN pr)):=qcn hok.nd hCp
   have hsl:=hp.length_eq
   refine qoi.c (s:=t) (L:=S) (pr:=pr) h (by omega) (fun n hm=>hpr n (hp.mem_iff.1 hm)) (fun n hm=>by haveI:=hP n (hp.mem_iff.1 hm); infer_instance) (fun e=>absurd hS.ris.nd e) (fun _ O g w hW hO h=>⟨⟨none,0,0⟩,_,rfl,?_⟩) (fun _ O gl u w hW hO hG hu h=>⟨_,_,rfl,?_⟩)
   · rw [← hfS] at hW
     exact qnc (fun _=>hk2 hok O g w hW (by omega) h.drop) (fun g=>by cases g)
   · rw [← hfS] at hW
     refine qnc (fun g=>by cases g) (fun _=>?_)
     refine qmc (fun g2=>?_) (fun g2=>?_)
     · exact hk3 hok O _ w hW (by omega) (by omega) h.drop.drop
     · refine h.new fun nb w h=>?_
       refine hk4 hok O _ S t u nb w hW (by omega) (by omega) hp hS.ris ht (by omega) ?_
       rw [← gl_map hS.ris.nd hG.len]
       exact h.sub
end
end Go.Proofs.YtigmbblgfnkpbaaGreat
namespace Go.Proofs.YtigmbblgfnkpbaaGreat
open Go Go.Proofs
set_option linter.unusedVariables false
set_option maxRecDepth 100000
def qeh (x_0 n_1:Int) (Q:VWP) (w:World):Prop :=
 lt (World.drew w) fun w1 =>
 (0:Int)≤n_1 ∧
 lt (qpf .u32 x_0 n_1) fun x2 =>
 lt (IntKind.i64.wrap (32 - n_1)) fun x3 =>
 (0:Int)≤x3 ∧
 lt (shrV .u32 x_0 x3) fun x4 =>
 lt (orV .u32 x2 x4) fun x5 =>
 Q (.int .u32 x5) w1
theorem qeh.ok (x_0:Int) (n_1:Int) (Q:VWP) (w:World) (h:qeh x_0 n_1 Q w):Calls Tryz.prog 114 ⟨[.int .u32 x_0,.int .i64 n_1]⟩ w (Ret Q) :=
 qgc [.tmp 4] qjd Tryz.func114 rfl rfl rfl rfl .lf (by kernel_rfl) h
def quk (t_0 b_1 c_2 d_3:Int) (Q:VWP) (w:World):Prop :=
 (20:Int) ≠ 0 ∧
 lt (IntKind.i64.wrap (Int.tdiv t_0 20)) fun x1 =>
 br (x1 == 0) (
 lt (andV .u32 b_1 c_2) fun x2 =>
 lt (qcj .u32 (if IntKind.signed .u32 then -1 else IntKind.max .u32) b_1) fun x3 =>
 lt (andV .u32 x3 d_3) fun x4 =>
 lt (orV .u32 x2 x4) fun x5 =>
 Q (.tuple ⟨[.int .u32 x5,.int .u32 1518500249]⟩) w) (
 br (x1 == 1) (
 lt (qcj .u32 b_1 c_2) fun x6 =>
 lt (qcj .u32 x6 d_3) fun x7 =>
 Q (.tuple ⟨[.int .u32 x7,.int .u32 1859775393]⟩) w) (
 br (x1 == 2) (
 lt (andV .u32 b_1 c_2) fun x8 =>
 lt (andV .u32 b_1 d_3) fun x9 =>
 lt (orV .u32 x8 x9) fun x10 =>
 lt (andV .u32 c_2 d_3) fun x11 =>
 lt (orV .u32 x10 x11) fun x12 =>
 Q (.tuple ⟨[.int .u32 x12,.int .u32 2400959708]⟩) w) (
 lt (qcj .u32 b_1 c_2) fun x13 =>
 lt (qcj .u32 x13 d_3) fun x14 =>
 Q (.tuple ⟨[.int .u32 x14,.int .u32 3395469782]⟩) w)))
theorem quk.ok (t_0:Int) (b_1:Int) (c_2:Int) (d_3:Int) (Q:VWP) (w:World) (h:quk t_0 b_1 c_2 d_3 Q w):Calls Tryz.prog 115 ⟨[.int .i64 t_0,.int .u32 b_1,.int .u32 c_2,.int .u32 d_3]⟩ w (Ret Q) :=
 qgc [.tmp 8,.tmp 9] qjd Tryz.func115 rfl rfl rfl rfl .lf (by kernel_rfl) h
def qz.b1 (d_0:OAd) (t121:(Array Value)) (t122:Int) (Q:VWP) (nx1:OAd→(Array Value)→Int→WP) (w:World):Prop :=
 br (decide (t122 < 5)) (
 ((0:Int)≤t122∧t122 < ((5:Nat):Int)) ∧
 ptI .u32 t121 (Int.toNat t122 * 1) fun x1 =>
 lt (World.drew w) fun w2 =>
 nz d_0 fun a3 =>
 ixA (Addr.add a3 0) 5 t122 1 fun a4 =>
 ldI .u32 w2 a4 fun x5 =>
 lt (IntKind.u32.wrap (x5+x1)) fun x6 =>
 nz d_0 fun a7 =>
 ixA (Addr.add a7 0) 5 t122 1 fun a8 =>
 st w2 a8 (.int .u32 x6) fun w9 =>
 lt (IntKind.i64.wrap (t122+1)) fun x10 =>
 nx1 d_0 t121 x10 w9) (
 Q (.tuple ⟨[]⟩) w)
def qz.l1 (d_0:OAd) (t121:(Array Value)) (t122:Int) (Q:VWP) (w:World):Prop :=
 ∃ (I:Int→WP) (μ:Int→World→Nat),I t122 w∧∀ t122:Int,∀ w:World,I t122 w→qz.b1 d_0 t121 t122 Q (fun d_0' t121' t122' w'=>(d_0'=d_0∧t121'=t121)∧I t122' w'∧μ t122' w' < μ t122 w) w
def qz.j6 (d_0:OAd) (t121:(Array Value)) (t122:Int) (Q:VWP) (w:World):Prop :=
 qz.l1 d_0 t121 t122 Q w
def qz.j5 (d_0:OAd) (t8:Int) (t9 t10 t11 t12:Int) (Q:VWP) (w:World):Prop :=
 qz.j6 d_0 ⟨[.int .u32 t8,.int .u32 t9,.int .u32 t10,.int .u32 t11,.int .u32 t12]⟩ 0 Q w
def qz.b2 (d_0:OAd) (t87:(Array Value)) (t8 t9 t10 t11 t12 t88:Int) (Q:VWP) (nx2:OAd→(Array Value)→Int→Int→Int→Int→Int→Int→WP) (w:World):Prop :=
 br (decide (t88 < 80)) (
 ((0:Int)≤t88∧t88 < ((80:Nat):Int)) ∧
 ptI .u32 t87 (Int.toNat t88 * 1) fun x11 =>
 Calls Tryz.prog 115 ⟨[.int .i64 t88,.int .u32 t9,.int .u32 t10,.int .u32 t11]⟩ w fun e12 w13 =>
 ∃ r14:Int,∃ r15:Int,e12=.returned (.tuple ⟨[.int .u32 r14,.int .u32 r15]⟩) ∧
 qwi 114 [.int .u32 t8,.int .i64 5] w13 fun r18 w17 =>
 lt (IntKind.u32.wrap (r18+r14)) fun x19 =>
 lt (IntKind.u32.wrap (x19+t12)) fun x20 =>
 lt (IntKind.u32.wrap (x20+r15)) fun x21 =>
 lt (IntKind.u32.wrap (x21+x11)) fun x22 =>
 qwi 114 [.int .u32 t9,.int .i64 30] w17 fun r25 w24 =>
 lt (IntKind.i64.wrap (t88+1)) fun x26 =>
 nx2 d_0 t87 x22 t8 r25 t10 t11 x26 w24) (
 qz.j5 d_0 t8 t9 t10 t11 t12 Q w)
def qz.l2 (d_0:OAd) (t87:(Array Value)) (t8 t9 t10 t11 t12 t88:Int) (Q:VWP) (w:World):Prop :=
 ∃ (I:Int→Int→Int→Int→Int→Int→WP) (μ:Int→Int→Int→Int→Int→Int→World→Nat),I t8 t9 t10 t11 t12 t88 w∧∀ t8:Int,∀ t9:Int,∀ t10:Int,∀ t11:Int,∀ t12:Int,∀ t88:Int,∀ w:World,I t8 t9 t10 t11 t12 t88 w→qz.b2 d_0 t87 t8 t9 t10 t11 t12 t88 Q (fun d_0' t87' t8' t9' t10' t11' t12' t88' w'=>(d_0'=d_0∧t87'=t87)∧I t8' t9' t10' t11' t12' t88' w'∧μ t8' t9' t10' t11' t12' t88' w' < μ t8 t9 t10 t11 t12 t88 w) w
def qz.j7 (d_0:OAd) (t8:Int) (t9 t10 t11 t12:Int) (t87:(Array Value)) (t88:Int) (Q:VWP) (w:World):Prop :=
 qz.l2 d_0 t87 t8 t9 t10 t11 t12 t88 Q w
def qz.j4 (d_0:OAd) (t4:Addr) (t8 t9 t10 t11 t12:Int) (Q:VWP) (w:World):Prop :=
 ldA w t4 80 fun c27 =>
 qz.j7 d_0 t8 t9 t10 t11 t12 c27 0 Q w
def qz.j3 (d_0:OAd) (t4:Addr) (Q:VWP) (w:World):Prop :=
 lt (World.drew w) fun w28 =>
 nz d_0 fun a29 =>
 ixA (Addr.add a29 0) 5 0 1 fun a30 =>
 ldI .u32 w28 a30 fun x31 =>
 nz d_0 fun a32 =>
 ixA (Addr.add a32 0) 5 1 1 fun a33 =>
 ldI .u32 w28 a33 fun x34 =>
 nz d_0 fun a35 =>
 ixA (Addr.add a35 0) 5 2 1 fun a36 =>
 ldI .u32 w28 a36 fun x37 =>
 nz d_0 fun a38 =>
 ixA (Addr.add a38 0) 5 3 1 fun a39 =>
 ldI .u32 w28 a39 fun x40 =>
 nz d_0 fun a41 =>
 ixA (Addr.add a41 0) 5 4 1 fun a42 =>
 ldI .u32 w28 a42 fun x43 =>
 qz.j4 d_0 t4 x31 x34 x37 x40 x43 Q w28
def qz.b3 (d_0:OAd) (t4:Addr) (t7:Int) (Q:VWP) (nx3:OAd→Addr→Int→WP) (w:World):Prop :=
 br (decide (t7 < 80)) (
 lt (World.drew w) fun w44 =>
 lt (IntKind.i64.wrap (t7 - 3)) fun x45 =>
 ixA t4 80 x45 1 fun a46 =>
 ldI .u32 w44 a46 fun x47 =>
 lt (IntKind.i64.wrap (t7 - 8)) fun x48 =>
 ixA t4 80 x48 1 fun a49 =>
 ldI .u32 w44 a49 fun x50 =>
 lt (qcj .u32 x47 x50) fun x51 =>
 lt (IntKind.i64.wrap (t7 - 14)) fun x52 =>
 ixA t4 80 x52 1 fun a53 =>
 ldI .u32 w44 a53 fun x54 =>
 lt (qcj .u32 x51 x54) fun x55 =>
 lt (IntKind.i64.wrap (t7 - 16)) fun x56 =>
 ixA t4 80 x56 1 fun a57 =>
 ldI .u32 w44 a57 fun x58 =>
 lt (qcj .u32 x55 x58) fun x59 =>
 qwi 114 [.int .u32 x59,.int .i64 1] w44 fun r62 w61 =>
 ixA t4 80 t7 1 fun a63 =>
 st w61 a63 (.int .u32 r62) fun w64 =>
 lt (IntKind.i64.wrap (t7+1)) fun x65 =>
 nx3 d_0 t4 x65 w64) (
 qz.j3 d_0 t4 Q w)
def qz.l3 (d_0:OAd) (t4:Addr) (t7:Int) (Q:VWP) (w:World):Prop :=
 ∃ (I:Int→WP) (μ:Int→World→Nat),I t7 w∧∀ t7:Int,∀ w:World,I t7 w→qz.b3 d_0 t4 t7 Q (fun d_0' t4' t7' w'=>(d_0'=d_0∧t4'=t4)∧I t7' w'∧μ t7' w' < μ t7 w) w
def qz.j8 (d_0:OAd) (t4:Addr) (t7:Int) (Q:VWP) (w:World):Prop :=
 qz.l3 d_0 t4 t7 Q w
def qz.j2 (d_0:OAd) (t4:Addr) (Q:VWP) (w:World):Prop :=
 qz.j8 d_0 t4 16 Q w
def qz.b4 (d_0:OAd) (t4:Addr) (t19:(Array Value)) (t20:Int) (Q:VWP) (nx4:OAd→Addr→(Array Value)→Int→WP) (w:World):Prop :=
 br (decide (t20 < 64)) (
 ((0:Int)≤t20∧t20 < ((64:Nat):Int)) ∧
 ptI .u8 t19 (Int.toNat t20 * 1) fun x66 =>
 (4:Int) ≠ 0 ∧
 lt (IntKind.i64.wrap (Int.tdiv t20 4)) fun x67 =>
 (4:Int) ≠ 0 ∧
 lt (IntKind.i64.wrap (Int.tdiv t20 4)) fun x68 =>
 ixA t4 80 x68 1 fun a69 =>
 ldI .u32 w a69 fun x70 =>
 (0:Int)≤8 ∧
 lt (qpf .u32 x70 8) fun x71 =>
 lt (IntKind.u32.wrap x66) fun x72 =>
 lt (orV .u32 x71 x72) fun x73 =>
 ixA t4 80 x67 1 fun a74 =>
 st w a74 (.int .u32 x73) fun w75 =>
 lt (IntKind.i64.wrap (t20+1)) fun x76 =>
 nx4 d_0 t4 t19 x76 w75) (
 qz.j2 d_0 t4 Q w)
def qz.l4 (d_0:OAd) (t4:Addr) (t19:(Array Value)) (t20:Int) (Q:VWP) (w:World):Prop :=
 ∃ (I:Int→WP) (μ:Int→World→Nat),I t20 w∧∀ t20:Int,∀ w:World,I t20 w→qz.b4 d_0 t4 t19 t20 Q (fun d_0' t4' t19' t20' w'=>(d_0'=d_0∧t4'=t4∧t19'=t19)∧I t20' w'∧μ t20' w' < μ t20 w) w
def qz.j9 (d_0:OAd) (t4:Addr) (t19:(Array Value)) (t20:Int) (Q:VWP) (w:World):Prop :=
 qz.l4 d_0 t4 t19 t20 Q w
def qz.j1 (d_0:OAd) (t3:Addr) (t4:Addr) (Q:VWP) (w:World):Prop :=
 ldA w t3 64 fun c77 =>
 qz.j9 d_0 t4 c77 0 Q w
def qz (d_0:OAd) (i_1:(Array Value)) (Q:VWP) (w:World):Prop :=
 nw w i_1 147 fun a78 w79 =>
 nw w79 (zc Tryz.prog 162) 162 fun a80 w81 =>
 qz.j1 d_0 a78 a80 Q w81
theorem qz.ok (d_0:OAd) (i_1:(Array Value)) (Q:VWP) (w:World) (h:qz d_0 i_1 Q w):Calls Tryz.prog 102 ⟨[.pointer d_0,.agg i_1]⟩ w (Ret Q) :=
 qgc [] qjd Tryz.func102 rfl rfl rfl rfl (.pr 1 [sP 0,sA 3,sA 4] (fun a b c w=>qz.j1 a b c Q w) (.sq [sP 0,sA 4] (fun a b w=>qz.j2 a b Q w) (.sq [sP 0,sA 4,(19,.G),sI 20] (fun a b c d w=>qz.j9 a b c d Q w) .lf (.bk (.lo [sP 0,sA 4,(19,.G)] [sI 20] (fun a b c d w=>qz.l4 a b c d Q w) (fun nx4 a b c d w=>qz.b4 a b c d Q nx4 w) fun nx4=>.lf))) (.sq [sP 0,sA 4] (fun a b w=>qz.j3 a b Q w) (.sq [sP 0,sA 4,sI 7] (fun a b c w=>qz.j8 a b c Q w) .lf (.bk (.lo [sP 0,sA 4] [sI 7] (fun a b c w=>qz.l3 a b c Q w) (fun nx3 a b c w=>qz.b3 a b c Q nx3 w) fun nx3=>.lf))) (.sq [sP 0,sA 4,(8,.I .u32),(9,.I .u32),(10,.I .u32),(11,.I .u32),(12,.I .u32)] (fun a b c d e f g w=>qz.j4 a b c d e f g Q w) .lf (.sq [sP 0,(8,.I .u32),(9,.I .u32),(10,.I .u32),(11,.I .u32),(12,.I .u32)] (fun a b c d e f w=>qz.j5 a b c d e f Q w) (.sq [sP 0,(8,.I .u32),(9,.I .u32),(10,.I .u32),(11,.I .u32),(12,.I .u32),(87,.G),sI 88] (fun a b c d e f g h w=>qz.j7 a b c d e f g h Q w) .lf (.bk (.lo [sP 0,(87,.G)] [(8,.I .u32),(9,.I .u32),(10,.I .u32),(11,.I .u32),(12,.I .u32),sI 88] (fun a b c d e f g h w=>qz.l2 a b c d e f g h Q w) (fun nx2 a b c d e f g h w=>qz.b2 a b c d e f g h Q nx2 w) fun nx2=>.lf))) (.sq [sP 0,(121,.G),sI 122] (fun a b c w=>qz.j6 a b c Q w) .lf (.bk (.lo [sP 0,(121,.G)] [sI 122] (fun a b c w=>qz.l1 a b c Q w) (fun nx1 a b c w=>qz.b1 a b c Q nx1 w) fun nx1=>.lf)))))))) (by kernel_rfl) h
def qfc.b1 (h_0:OAd) (t6:Sl) (t7 t8:Int) (Q:VWP) (nx1:OAd→Sl→Int→Int→WP) (w:World):Prop :=
 br (decide (t8 < t7)) (
 ixS t6.a t6.len t8 1 fun a1 =>
 ldI .u8 w a1 fun x2 =>
 lt (World.drew w) fun w3 =>
 nz h_0 fun a4 =>
 ldI .i64 w3 (Addr.add a4 69) fun x5 =>
 (64:Int) ≠ 0 ∧
 lt (Int.tmod x5 64) fun x6 =>
 nz h_0 fun a7 =>
 ixA (Addr.add a7 5) 64 x6 1 fun a8 =>
 st w3 a8 (.int .u8 x2) fun w9 =>
 nz h_0 fun a10 =>
 ldI .i64 w9 (Addr.add a10 69) fun x11 =>
 lt (IntKind.i64.wrap (x11+1)) fun x12 =>
 nz h_0 fun a13 =>
 st w9 (Addr.add a13 69) (.int .i64 x12) fun w14 =>
 nz h_0 fun a15 =>
 ldI .i64 w14 (Addr.add a15 69) fun x16 =>
 (64:Int) ≠ 0 ∧
 lt (Int.tmod x16 64) fun x17 =>
 br (x17 == 0) (
 nz h_0 fun a18 =>
 ldA w14 (Addr.add a18 5) 64 fun c19 =>
 ct_ 102 [.pointer h_0,.agg c19] w14 fun w21 =>
 lt (IntKind.i64.wrap (t8+1)) fun x22 =>
 nx1 h_0 t6 t7 x22 w21) (
 lt (IntKind.i64.wrap (t8+1)) fun x23 =>
 nx1 h_0 t6 t7 x23 w14)) (
 Q (.tuple ⟨[]⟩) w)
def qfc.l1 (h_0:OAd) (t6:Sl) (t7 t8:Int) (Q:VWP) (w:World):Prop :=
 ∃ (I:Int→WP) (μ:Int→World→Nat),I t8 w∧∀ t8:Int,∀ w:World,I t8 w→qfc.b1 h_0 t6 t7 t8 Q (fun h_0' t6' t7' t8' w'=>(h_0'=h_0∧t6'=t6∧t7'=t7)∧I t8' w'∧μ t8' w' < μ t8 w) w
def qfc.j1 (h_0:OAd) (t6:Sl) (t7 t8:Int) (Q:VWP) (w:World):Prop :=
 qfc.l1 h_0 t6 t7 t8 Q w
def qfc (h_0:OAd) (b_1:Sl) (Q:VWP) (w:World):Prop :=
 qfc.j1 h_0 b_1 (b_1.len:Int) 0 Q w
theorem qfc.ok (h_0:OAd) (b_1:Sl) (Q:VWP) (w:World) (h:qfc h_0 b_1 Q w):Calls Tryz.prog 71 ⟨[.pointer h_0,sV b_1]⟩ w (Ret Q) :=
 qgc [] qjd Tryz.func71 rfl rfl rfl rfl (.sq [sP 0,sL 6,sI 7,sI 8] (fun a b c d w=>qfc.j1 a b c d Q w) .lf (.bk (.lo [sP 0,sL 6,sI 7] [sI 8] (fun a b c d w=>qfc.l1 a b c d Q w) (fun nx1 a b c d w=>qfc.b1 a b c d Q nx1 w) fun nx1=>.lf))) (by kernel_rfl) h
def qff (h_0:OAd) (Q:VWP) (w:World):Prop :=
 nz h_0 fun a1 =>
 ldA w a1 70 fun c2 =>
 nw w (zc Tryz.prog 149) 149 fun a3 w4 =>
 (c2).size=70 ∧
 stA w4 a3 c2 fun w5 =>
 Q (.pointer (some a3)) w5
theorem qff.ok (h_0:OAd) (Q:VWP) (w:World) (h:qff h_0 Q w):Calls Tryz.prog 103 ⟨[.pointer h_0]⟩ w (Ret Q) :=
 qgc [.tmp 2] qjd Tryz.func103 rfl rfl rfl rfl .lf (by kernel_rfl) h
def qkb.j5 (t2:Addr) (out_4:Sl) (Q:VWP) (w:World):Prop :=
 20≤out_4.len ∧
 nz out_4.a fun a1 =>
 ldA w a1 20 fun c2 =>
 (c2).size=20 ∧
 stA w t2 c2 fun w3 =>
 ldA w3 t2 20 fun c4 =>
 Q (.agg c4) w3
def qkb.b1 (t2:Addr) (t32:(Array Value)) (out_4:Sl) (t33:Int) (Q:VWP) (nx1:Addr→(Array Value)→Sl→Int→WP) (w:World):Prop :=
 br (decide (t33 < 5)) (
 ((0:Int)≤t33∧t33 < ((5:Nat):Int)) ∧
 ptI .u32 t32 (Int.toNat t33 * 1) fun x5 =>
 lt (IntKind.i64.wrap x5) fun x6 =>
 qtc 30 [sV out_4,.int .i64 x6] w fun r9 w8 =>
 lt (IntKind.i64.wrap (t33+1)) fun x10 =>
 nx1 t2 t32 r9 x10 w8) (
 qkb.j5 t2 out_4 Q w)
def qkb.l1 (t2:Addr) (t32:(Array Value)) (out_4:Sl) (t33:Int) (Q:VWP) (w:World):Prop :=
 ∃ (I:Sl→Int→WP) (μ:Sl→Int→World→Nat),I out_4 t33 w∧∀ out_4:Sl,∀ t33:Int,∀ w:World,I out_4 t33 w→qkb.b1 t2 t32 out_4 t33 Q (fun t2' t32' out_4' t33' w'=>(t2'=t2∧t32'=t32)∧I out_4' t33' w'∧μ out_4' t33' w' < μ out_4 t33 w) w
def qkb.j6 (t2:Addr) (out_4:Sl) (t32:(Array Value)) (t33:Int) (Q:VWP) (w:World):Prop :=
 qkb.l1 t2 t32 out_4 t33 Q w
def qkb.j4 (t2:Addr) (t_3:OAd) (out_4:Sl) (Q:VWP) (w:World):Prop :=
 nz t_3 fun a11 =>
 ldA w (Addr.add a11 0) 5 fun c12 =>
 qkb.j6 t2 out_4 c12 0 Q w
def qkb.j3 (h_0:OAd) (t2:Addr) (t_3:OAd) (Q:VWP) (w:World):Prop :=
 nz h_0 fun a13 =>
 ldI .i64 w (Addr.add a13 69) fun x14 =>
 lt (IntKind.i64.wrap (8 * x14)) fun x15 =>
 qtc 32 [.slice none 0 0,.int .i64 x15] w fun r18 w17 =>
 ct_ 71 [.pointer t_3,sV r18] w17 fun w20 =>
 qkb.j4 t2 t_3 ⟨none,0,0⟩ Q w20
def qkb.b2 (h_0:OAd) (t2:Addr) (t_3:OAd) (Q:VWP) (nx2:OAd→Addr→OAd→WP) (w:World):Prop :=
 nz t_3 fun a21 =>
 ldI .i64 w (Addr.add a21 69) fun x22 =>
 (64:Int) ≠ 0 ∧
 lt (Int.tmod x22 64) fun x23 =>
 br (x23 != 56) (
 nw w ⟨[.int .u8 0]⟩ 5 fun a24 w25 =>
 ct_ 71 [.pointer t_3,.slice (some a24) 1 1] w25 fun w27 =>
 nx2 h_0 t2 t_3 w27) (
 qkb.j3 h_0 t2 t_3 Q w)
def qkb.l2 (h_0:OAd) (t2:Addr) (t_3:OAd) (Q:VWP) (w:World):Prop :=
 ∃ (I:WP) (μ:World→Nat),I  w∧∀ w:World,I  w→qkb.b2 h_0 t2 t_3 Q (fun h_0' t2' t_3' w'=>(h_0'=h_0∧t2'=t2∧t_3'=t_3)∧I  w'∧μ  w' < μ  w) w
def qkb.j2 (h_0:OAd) (t2:Addr) (t_3:OAd) (Q:VWP) (w:World):Prop :=
 qkb.l2 h_0 t2 t_3 Q w
def qkb.j1 (h_0:OAd) (t2:Addr) (Q:VWP) (w:World):Prop :=
 cr_P 103 [.pointer h_0] w fun r30 w29 =>
 nw w29 ⟨[.int .u8 128]⟩ 5 fun a31 w32 =>
 ct_ 71 [.pointer r30,.slice (some a31) 1 1] w32 fun w34 =>
 qkb.j2 h_0 t2 r30 Q w34
def qkb (h_0:OAd) (Q:VWP) (w:World):Prop :=
 nw w (zc Tryz.prog 24) 24 fun a35 w36 =>
 qkb.j1 h_0 a35 Q w36
theorem qkb.ok (h_0:OAd) (Q:VWP) (w:World) (h:qkb h_0 Q w):Calls Tryz.prog 72 ⟨[.pointer h_0]⟩ w (Ret Q) :=
 qgc [.cell 2 24] qjd Tryz.func72 rfl rfl rfl rfl (.sq [sP 0,sA 2] (fun a b w=>qkb.j1 a b Q w) .lf (.pr 1 [sP 0,sA 2,sP 3] (fun a b c w=>qkb.j2 a b c Q w) (.sq [sP 0,sA 2,sP 3] (fun a b c w=>qkb.j3 a b c Q w) (.bk (.lo [sP 0,sA 2,sP 3] [] (fun a b c w=>qkb.l2 a b c Q w) (fun nx2 a b c w=>qkb.b2 a b c Q nx2 w) fun nx2=>.lf)) (.pr 1 [sA 2,sP 3,sL 4] (fun a b c w=>qkb.j4 a b c Q w) (.sq [sA 2,sL 4] (fun a b w=>qkb.j5 a b Q w) (.sq [sA 2,sL 4,(32,.G),sI 33] (fun a b c d w=>qkb.j6 a b c d Q w) .lf (.bk (.lo [sA 2,(32,.G)] [sL 4,sI 33] (fun a b c d w=>qkb.l1 a b c d Q w) (fun nx1 a b c d w=>qkb.b1 a b c d Q nx1 w) fun nx1=>.lf))) .lf))))) (by kernel_rfl) h
def qvk  (Q:VWP) (w:World):Prop :=
 ((⟨[.int .u32 1732584193,.int .u32 4023233417,.int .u32 2562383102,.int .u32 271733878,.int .u32 3285377520]⟩:Array Value)).size=5 ∧
 nw w (⟨(spl (zc Tryz.prog 149).toList 0 (⟨[.int .u32 1732584193,.int .u32 4023233417,.int .u32 2562383102,.int .u32 271733878,.int .u32 3285377520]⟩:Array Value))⟩:Array Value) 149 fun a1 w2 =>
 Q (.pointer (some a1)) w2
theorem qvk.ok  (Q:VWP) (w:World) (h:qvk  Q w):Calls Tryz.prog 70 ⟨[]⟩ w (Ret Q) :=
 qgc [.tmp 0] qjd Tryz.func70 rfl rfl rfl rfl .lf (by kernel_rfl) h
def qwh (b_0:Sl) (Q:VWP) (w:World):Prop :=
 nw w (zc Tryz.prog 24) 24 fun a1 w2 =>
 cr_P 70 [] w2 fun r5 w4 =>
 ct_ 71 [.pointer r5,sV b_0] w4 fun w7 =>
 cr_G 72 [.pointer r5] w7 fun r10 w9 =>
 (r10).size=20 ∧
 stA w9 a1 r10 fun w11 =>
 ldA w11 a1 20 fun c12 =>
 Q (.agg c12) w11
theorem qwh.ok (b_0:Sl) (Q:VWP) (w:World) (h:qwh b_0 Q w):Calls Tryz.prog 38 ⟨[sV b_0]⟩ w (Ret Q) :=
 qgc [.cell 2 24] qjd Tryz.func38 rfl rfl rfl rfl .lf (by kernel_rfl) h
end Go.Proofs.YtigmbblgfnkpbaaGreat
namespace Go.Proofs.YtigmbblgfnkpbaaGreat
open Go Go.Proofs
set_option linter.unusedVariables false
set_option maxRecDepth 100000
def qvc (w_0 n_1:Int) (Q:VWP) (w:World):Prop :=
 (0:Int)≤n_1 ∧
 lt (qpf .u32 w_0 n_1) fun x1 =>
 lt (IntKind.u64.wrap (32 - n_1)) fun x2 =>
 (0:Int)≤x2 ∧
 lt (shrV .u32 w_0 x2) fun x3 =>
 lt (orV .u32 x1 x3) fun x4 =>
 Q (.int .u32 x4) w
theorem qvc.ok (w_0:Int) (n_1:Int) (Q:VWP) (w:World) (h:qvc w_0 n_1 Q w):Calls Tryz.prog 107 ⟨[.int .u32 w_0,.int .u64 n_1]⟩ w (Ret Q) :=
 qgc [.tmp 4] qjd Tryz.func107 rfl rfl rfl rfl .lf (by kernel_rfl) h
def qwe (b_0:Sl) (Q:VWP) (w:World):Prop :=
 lt (World.drew w) fun w1 =>
 ixS b_0.a b_0.len 0 1 fun a2 =>
 ldI .u8 w1 a2 fun x3 =>
 lt (IntKind.u32.wrap x3) fun x4 =>
 (0:Int)≤24 ∧
 lt (qpf .u32 x4 24) fun x5 =>
 ixS b_0.a b_0.len 1 1 fun a6 =>
 ldI .u8 w1 a6 fun x7 =>
 lt (IntKind.u32.wrap x7) fun x8 =>
 (0:Int)≤16 ∧
 lt (qpf .u32 x8 16) fun x9 =>
 lt (orV .u32 x5 x9) fun x10 =>
 ixS b_0.a b_0.len 2 1 fun a11 =>
 ldI .u8 w1 a11 fun x12 =>
 lt (IntKind.u32.wrap x12) fun x13 =>
 (0:Int)≤8 ∧
 lt (qpf .u32 x13 8) fun x14 =>
 lt (orV .u32 x10 x14) fun x15 =>
 ixS b_0.a b_0.len 3 1 fun a16 =>
 ldI .u8 w1 a16 fun x17 =>
 lt (IntKind.u32.wrap x17) fun x18 =>
 lt (orV .u32 x15 x18) fun x19 =>
 Q (.int .u32 x19) w1
theorem qwe.ok (b_0:Sl) (Q:VWP) (w:World) (h:qwe b_0 Q w):Calls Tryz.prog 106 ⟨[sV b_0]⟩ w (Ret Q) :=
 qgc [.tmp 2] qjd Tryz.func106 rfl rfl rfl rfl .lf (by kernel_rfl) h
def qg.j6 (t2 t4:Addr) (Q:VWP) (w:World):Prop :=
 ldA w t2 5 fun c1 =>
 (c1).size=5 ∧
 stA w t4 c1 fun w2 =>
 ldA w2 t4 5 fun c3 =>
 Q (.agg c3) w2
def qg.b1 (t2 t4 t8:Addr) (t13:Int) (Q:VWP) (nx1:Addr→Addr→Addr→Int→WP) (w:World):Prop :=
 br (decide (t13 < 5)) (
 lt (World.drew w) fun w4 =>
 ixA t2 5 t13 1 fun a5 =>
 ldI .u32 w4 a5 fun x6 =>
 ixA t8 5 t13 1 fun a7 =>
 ldI .u32 w4 a7 fun x8 =>
 lt (IntKind.u32.wrap (x6+x8)) fun x9 =>
 ixA t2 5 t13 1 fun a10 =>
 st w4 a10 (.int .u32 x9) fun w11 =>
 lt (IntKind.i64.wrap (t13+1)) fun x12 =>
 nx1 t2 t4 t8 x12 w11) (
 qg.j6 t2 t4 Q w)
def qg.l1 (t2 t4 t8:Addr) (t13:Int) (Q:VWP) (w:World):Prop :=
 ∃ (I:Int→WP) (μ:Int→World→Nat),I t13 w∧∀ t13:Int,∀ w:World,I t13 w→qg.b1 t2 t4 t8 t13 Q (fun t2' t4' t8' t13' w'=>(t2'=t2∧t4'=t4∧t8'=t8)∧I t13' w'∧μ t13' w' < μ t13 w) w
def qg.j7 (t2 t4 t8:Addr) (t13:Int) (Q:VWP) (w:World):Prop :=
 qg.l1 t2 t4 t8 t13 Q w
def qg.j5 (t2 t4 t8:Addr) (Q:VWP) (w:World):Prop :=
 qg.j7 t2 t4 t8 0 Q w
def qg.j10 (t2 t4:Addr) (t5:Sl) (t8:Addr) (t9:Int) (Q:VWP) (nx2:Addr→Addr→Sl→Addr→Int→WP) (w:World):Prop :=
 lt (IntKind.i64.wrap (t9+1)) fun x13 =>
 nx2 t2 t4 t5 t8 x13 w
def qg.j13 (t2 t4:Addr) (t5:Sl) (t8:Addr) (t9:Int) (t12:Int) (Q:VWP) (nx2:Addr→Addr→Sl→Addr→Int→WP) (w:World):Prop :=
 ixA t8 5 3 1 fun a14 =>
 ldI .u32 w a14 fun x15 =>
 ixA t8 5 4 1 fun a16 =>
 st w a16 (.int .u32 x15) fun w17 =>
 ixA t8 5 2 1 fun a18 =>
 ldI .u32 w17 a18 fun x19 =>
 ixA t8 5 3 1 fun a20 =>
 st w17 a20 (.int .u32 x19) fun w21 =>
 ixA t8 5 1 1 fun a22 =>
 ldI .u32 w21 a22 fun x23 =>
 qwi 107 [.int .u32 x23,.int .u64 30] w21 fun r26 w25 =>
 ixA t8 5 2 1 fun a27 =>
 st w25 a27 (.int .u32 r26) fun w28 =>
 ixA t8 5 0 1 fun a29 =>
 ldI .u32 w28 a29 fun x30 =>
 ixA t8 5 1 1 fun a31 =>
 st w28 a31 (.int .u32 x30) fun w32 =>
 ixA t8 5 0 1 fun a33 =>
 st w32 a33 (.int .u32 t12) fun w34 =>
 qg.j10 t2 t4 t5 t8 t9 Q nx2 w34
def qg.j12 (t2 t4:Addr) (t5:Sl) (t8:Addr) (t9:Int) (t10 t11:Int) (Q:VWP) (nx2:Addr→Addr→Sl→Addr→Int→WP) (w:World):Prop :=
 lt (World.drew w) fun w35 =>
 ixA t8 5 0 1 fun a36 =>
 ldI .u32 w35 a36 fun x37 =>
 ixA t8 5 4 1 fun a38 =>
 ixS t5.a t5.len t9 1 fun a39 =>
 (qwi 107 [.int .u32 x37,.int .u64 5] w35 fun r42 w41 =>
 lt (IntKind.u32.wrap (r42+t10)) fun x43 =>
 (ldI .u32 w41 a38 fun x44 =>
 lt (IntKind.u32.wrap (x43+x44)) fun x45 =>
 lt (IntKind.u32.wrap (x45+t11)) fun x46 =>
 ldI .u32 w41 a39 fun x47 =>
 lt (IntKind.u32.wrap (x46+x47)) fun x48 =>
 qg.j13 t2 t4 t5 t8 t9 x48 Q nx2 w41)∧(
 ldI .u32 w41 a39 fun x49 =>
 ldI .u32 w41 a38 fun x50 =>
 lt (IntKind.u32.wrap (x43+x50)) fun x51 =>
 lt (IntKind.u32.wrap (x51+t11)) fun x52 =>
 lt (IntKind.u32.wrap (x52+x49)) fun x53 =>
 qg.j13 t2 t4 t5 t8 t9 x53 Q nx2 w41))∧(
 ldI .u32 w35 a38 fun x54 =>
 (qwi 107 [.int .u32 x37,.int .u64 5] w35 fun r57 w56 =>
 lt (IntKind.u32.wrap (r57+t10)) fun x58 =>
 lt (IntKind.u32.wrap (x58+x54)) fun x59 =>
 lt (IntKind.u32.wrap (x59+t11)) fun x60 =>
 ldI .u32 w56 a39 fun x61 =>
 lt (IntKind.u32.wrap (x60+x61)) fun x62 =>
 qg.j13 t2 t4 t5 t8 t9 x62 Q nx2 w56)∧(
 ldI .u32 w35 a39 fun x63 =>
 qwi 107 [.int .u32 x37,.int .u64 5] w35 fun r66 w65 =>
 lt (IntKind.u32.wrap (r66+t10)) fun x67 =>
 lt (IntKind.u32.wrap (x67+x54)) fun x68 =>
 lt (IntKind.u32.wrap (x68+t11)) fun x69 =>
 lt (IntKind.u32.wrap (x69+x63)) fun x70 =>
 qg.j13 t2 t4 t5 t8 t9 x70 Q nx2 w65))∧(
 ldI .u32 w35 a39 fun x71 =>
 (qwi 107 [.int .u32 x37,.int .u64 5] w35 fun r74 w73 =>
 lt (IntKind.u32.wrap (r74+t10)) fun x75 =>
 ldI .u32 w73 a38 fun x76 =>
 lt (IntKind.u32.wrap (x75+x76)) fun x77 =>
 lt (IntKind.u32.wrap (x77+t11)) fun x78 =>
 lt (IntKind.u32.wrap (x78+x71)) fun x79 =>
 qg.j13 t2 t4 t5 t8 t9 x79 Q nx2 w73)∧(
 ldI .u32 w35 a38 fun x80 =>
 qwi 107 [.int .u32 x37,.int .u64 5] w35 fun r83 w82 =>
 lt (IntKind.u32.wrap (r83+t10)) fun x84 =>
 lt (IntKind.u32.wrap (x84+x80)) fun x85 =>
 lt (IntKind.u32.wrap (x85+t11)) fun x86 =>
 lt (IntKind.u32.wrap (x86+x71)) fun x87 =>
 qg.j13 t2 t4 t5 t8 t9 x87 Q nx2 w82))
def qg.j11 (t2 t4:Addr) (t5:Sl) (t8:Addr) (t9:Int) (Q:VWP) (nx2:Addr→Addr→Sl→Addr→Int→WP) (w:World):Prop :=
 br (decide (t9 < 20)) (
 ixA t8 5 1 1 fun a88 =>
 ldI .u32 w a88 fun x89 =>
 ixA t8 5 2 1 fun a90 =>
 ldI .u32 w a90 fun x91 =>
 lt (andV .u32 x89 x91) fun x92 =>
 ixA t8 5 1 1 fun a93 =>
 ldI .u32 w a93 fun x94 =>
 lt (qcj .u32 (if IntKind.signed .u32 then -1 else IntKind.max .u32) x94) fun x95 =>
 ixA t8 5 3 1 fun a96 =>
 ldI .u32 w a96 fun x97 =>
 lt (andV .u32 x95 x97) fun x98 =>
 lt (orV .u32 x92 x98) fun x99 =>
 qg.j12 t2 t4 t5 t8 t9 x99 1518500249 Q nx2 w) (
 br (decide (t9 < 40)) (
 ixA t8 5 1 1 fun a100 =>
 ldI .u32 w a100 fun x101 =>
 ixA t8 5 2 1 fun a102 =>
 ldI .u32 w a102 fun x103 =>
 lt (qcj .u32 x101 x103) fun x104 =>
 ixA t8 5 3 1 fun a105 =>
 ldI .u32 w a105 fun x106 =>
 lt (qcj .u32 x104 x106) fun x107 =>
 qg.j12 t2 t4 t5 t8 t9 x107 1859775393 Q nx2 w) (
 br (decide (t9 < 60)) (
 ixA t8 5 1 1 fun a108 =>
 ldI .u32 w a108 fun x109 =>
 ixA t8 5 2 1 fun a110 =>
 ldI .u32 w a110 fun x111 =>
 lt (andV .u32 x109 x111) fun x112 =>
 ixA t8 5 1 1 fun a113 =>
 ldI .u32 w a113 fun x114 =>
 ixA t8 5 3 1 fun a115 =>
 ldI .u32 w a115 fun x116 =>
 lt (andV .u32 x114 x116) fun x117 =>
 lt (orV .u32 x112 x117) fun x118 =>
 ixA t8 5 2 1 fun a119 =>
 ldI .u32 w a119 fun x120 =>
 ixA t8 5 3 1 fun a121 =>
 ldI .u32 w a121 fun x122 =>
 lt (andV .u32 x120 x122) fun x123 =>
 lt (orV .u32 x118 x123) fun x124 =>
 qg.j12 t2 t4 t5 t8 t9 x124 2400959708 Q nx2 w) (
 ixA t8 5 1 1 fun a125 =>
 ldI .u32 w a125 fun x126 =>
 ixA t8 5 2 1 fun a127 =>
 ldI .u32 w a127 fun x128 =>
 lt (qcj .u32 x126 x128) fun x129 =>
 ixA t8 5 3 1 fun a130 =>
 ldI .u32 w a130 fun x131 =>
 lt (qcj .u32 x129 x131) fun x132 =>
 qg.j12 t2 t4 t5 t8 t9 x132 3395469782 Q nx2 w)))
def qg.j9 (t2 t4:Addr) (t5:Sl) (t8:Addr) (t9:Int) (Q:VWP) (nx2:Addr→Addr→Sl→Addr→Int→WP) (w:World):Prop :=
 qg.j11 t2 t4 t5 t8 t9 Q nx2 w
def qg.b2 (t2 t4:Addr) (t5:Sl) (t8:Addr) (t9:Int) (Q:VWP) (nx2:Addr→Addr→Sl→Addr→Int→WP) (w:World):Prop :=
 br (decide (t9 < 80)) (
 qg.j9 t2 t4 t5 t8 t9 Q nx2 w) (
 qg.j5 t2 t4 t8 Q w)
def qg.l2 (t2 t4:Addr) (t5:Sl) (t8:Addr) (t9:Int) (Q:VWP) (w:World):Prop :=
 ∃ (I:Int→WP) (μ:Int→World→Nat),I t9 w∧∀ t9:Int,∀ w:World,I t9 w→qg.b2 t2 t4 t5 t8 t9 Q (fun t2' t4' t5' t8' t9' w'=>(t2'=t2∧t4'=t4∧t5'=t5∧t8'=t8)∧I t9' w'∧μ t9' w' < μ t9 w) w
def qg.j8 (t2 t4:Addr) (t5:Sl) (t8:Addr) (t9:Int) (Q:VWP) (w:World):Prop :=
 qg.l2 t2 t4 t5 t8 t9 Q w
def qg.j4 (t2 t4:Addr) (t5:Sl) (t8:Addr) (Q:VWP) (w:World):Prop :=
 qg.j8 t2 t4 t5 t8 0 Q w
def qg.j3 (t2 t4:Addr) (t5:Sl) (Q:VWP) (w:World):Prop :=
 ldA w t2 5 fun c133 =>
 nw w (zc Tryz.prog 126) 126 fun a134 w135 =>
 (c133).size=5 ∧
 stA w135 a134 c133 fun w136 =>
 qg.j4 t2 t4 t5 a134 Q w136
def qg.b3 (t2 t4:Addr) (t5:Sl) (t7:Int) (Q:VWP) (nx3:Addr→Addr→Sl→Int→WP) (w:World):Prop :=
 br (decide (t7 < 80)) (
 lt (World.drew w) fun w137 =>
 lt (IntKind.i64.wrap (t7 - 3)) fun x138 =>
 ixS t5.a t5.len x138 1 fun a139 =>
 ldI .u32 w137 a139 fun x140 =>
 lt (IntKind.i64.wrap (t7 - 8)) fun x141 =>
 ixS t5.a t5.len x141 1 fun a142 =>
 ldI .u32 w137 a142 fun x143 =>
 lt (qcj .u32 x140 x143) fun x144 =>
 lt (IntKind.i64.wrap (t7 - 14)) fun x145 =>
 ixS t5.a t5.len x145 1 fun a146 =>
 ldI .u32 w137 a146 fun x147 =>
 lt (qcj .u32 x144 x147) fun x148 =>
 lt (IntKind.i64.wrap (t7 - 16)) fun x149 =>
 ixS t5.a t5.len x149 1 fun a150 =>
 ldI .u32 w137 a150 fun x151 =>
 lt (qcj .u32 x148 x151) fun x152 =>
 qwi 107 [.int .u32 x152,.int .u64 1] w137 fun r155 w154 =>
 ixS t5.a t5.len t7 1 fun a156 =>
 st w154 a156 (.int .u32 r155) fun w157 =>
 lt (IntKind.i64.wrap (t7+1)) fun x158 =>
 nx3 t2 t4 t5 x158 w157) (
 qg.j3 t2 t4 t5 Q w)
def qg.l3 (t2 t4:Addr) (t5:Sl) (t7:Int) (Q:VWP) (w:World):Prop :=
 ∃ (I:Int→WP) (μ:Int→World→Nat),I t7 w∧∀ t7:Int,∀ w:World,I t7 w→qg.b3 t2 t4 t5 t7 Q (fun t2' t4' t5' t7' w'=>(t2'=t2∧t4'=t4∧t5'=t5)∧I t7' w'∧μ t7' w' < μ t7 w) w
def qg.j14 (t2 t4:Addr) (t5:Sl) (t7:Int) (Q:VWP) (w:World):Prop :=
 qg.l3 t2 t4 t5 t7 Q w
def qg.j2 (t2 t4:Addr) (t5:Sl) (Q:VWP) (w:World):Prop :=
 qg.j14 t2 t4 t5 16 Q w
def qg.b4 (i_1:Sl) (t2:Addr) (t4:Addr) (t5:Sl) (t6:Int) (Q:VWP) (nx4:Sl→Addr→Addr→Sl→Int→WP) (w:World):Prop :=
 br (decide (t6 < 16)) (
 lt (IntKind.i64.wrap (4 * t6)) fun x159 =>
 bd x159 i_1.len fun n160 =>
 lt (⟨qwd i_1.a i_1.cap n160 1,i_1.len - n160,i_1.cap - n160⟩:Sl) fun s161 =>
 qwi 106 [sV s161] w fun r164 w163 =>
 ixS t5.a t5.len t6 1 fun a165 =>
 st w163 a165 (.int .u32 r164) fun w166 =>
 lt (IntKind.i64.wrap (t6+1)) fun x167 =>
 nx4 i_1 t2 t4 t5 x167 w166) (
 qg.j2 t2 t4 t5 Q w)
def qg.l4 (i_1:Sl) (t2:Addr) (t4:Addr) (t5:Sl) (t6:Int) (Q:VWP) (w:World):Prop :=
 ∃ (I:Int→WP) (μ:Int→World→Nat),I t6 w∧∀ t6:Int,∀ w:World,I t6 w→qg.b4 i_1 t2 t4 t5 t6 Q (fun i_1' t2' t4' t5' t6' w'=>(i_1'=i_1∧t2'=t2∧t4'=t4∧t5'=t5)∧I t6' w'∧μ t6' w' < μ t6 w) w
def qg.j15 (i_1:Sl) (t2:Addr) (t4:Addr) (t5:Sl) (t6:Int) (Q:VWP) (w:World):Prop :=
 qg.l4 i_1 t2 t4 t5 t6 Q w
def qg.j1 (i_1:Sl) (t2:Addr) (t4:Addr) (t5:Sl) (Q:VWP) (w:World):Prop :=
 qg.j15 i_1 t2 t4 t5 0 Q w
def qg (d_0:(Array Value)) (i_1:Sl) (Q:VWP) (w:World):Prop :=
 nw w d_0 126 fun a168 w169 =>
 nw w169 (zc Tryz.prog 126) 126 fun a170 w171 =>
 mkK Tryz.prog 125 w171 80 80 fun s172 w173 =>
 qg.j1 i_1 a168 a170 s172 Q w173
theorem qg.ok (d_0:(Array Value)) (i_1:Sl) (Q:VWP) (w:World) (h:qg d_0 i_1 Q w):Calls Tryz.prog 79 ⟨[.agg d_0,sV i_1]⟩ w (Ret Q) :=
 qgc [.cell 4 126] qjd Tryz.func79 rfl rfl rfl rfl (.pr 1 [sL 1,sA 2,sA 4,sL 5] (fun a b c d w=>qg.j1 a b c d Q w) (.sq [sA 2,sA 4,sL 5] (fun a b c w=>qg.j2 a b c Q w) (.sq [sL 1,sA 2,sA 4,sL 5,sI 6] (fun a b c d e w=>qg.j15 a b c d e Q w) .lf (.bk (.lo [sL 1,sA 2,sA 4,sL 5] [sI 6] (fun a b c d e w=>qg.l4 a b c d e Q w) (fun nx4 a b c d e w=>qg.b4 a b c d e Q nx4 w) fun nx4=>.lf))) (.sq [sA 2,sA 4,sL 5] (fun a b c w=>qg.j3 a b c Q w) (.sq [sA 2,sA 4,sL 5,sI 7] (fun a b c d w=>qg.j14 a b c d Q w) .lf (.bk (.lo [sA 2,sA 4,sL 5] [sI 7] (fun a b c d w=>qg.l3 a b c d Q w) (fun nx3 a b c d w=>qg.b3 a b c d Q nx3 w) fun nx3=>.lf))) (.sq [sA 2,sA 4,sL 5,sA 8] (fun a b c d w=>qg.j4 a b c d Q w) .lf (.sq [sA 2,sA 4,sA 8] (fun a b c w=>qg.j5 a b c Q w) (.sq [sA 2,sA 4,sL 5,sA 8,sI 9] (fun a b c d e w=>qg.j8 a b c d e Q w) .lf (.bk (.lo [sA 2,sA 4,sL 5,sA 8] [sI 9] (fun a b c d e w=>qg.l2 a b c d e Q w) (fun nx2 a b c d e w=>qg.b2 a b c d e Q nx2 w) fun nx2=>(.sq [sA 2,sA 4,sL 5,sA 8,sI 9] (fun a b c d e w=>qg.j9 a b c d e Q nx2 w) .lf (.sq [sA 2,sA 4,sL 5,sA 8,sI 9] (fun a b c d e w=>qg.j10 a b c d e Q nx2 w) (.bk (.sq [sA 2,sA 4,sL 5,sA 8,sI 9] (fun a b c d e w=>qg.j11 a b c d e Q nx2 w) .lf (.pr 1 [sA 2,sA 4,sL 5,sA 8,sI 9,(10,.I .u32),(11,.I .u32)] (fun a b c d e f g w=>qg.j12 a b c d e f g Q nx2 w) (.sq [sA 2,sA 4,sL 5,sA 8,sI 9,(12,.I .u32)] (fun a b c d e f w=>qg.j13 a b c d e f Q nx2 w) .lf .lf)))) .lf))))) (.sq [sA 2,sA 4] (fun a b w=>qg.j6 a b Q w) (.sq [sA 2,sA 4,sA 8,sI 13] (fun a b c d w=>qg.j7 a b c d Q w) .lf (.bk (.lo [sA 2,sA 4,sA 8] [sI 13] (fun a b c d w=>qg.l1 a b c d Q w) (fun nx1 a b c d w=>qg.b1 a b c d Q nx1 w) fun nx1=>.lf))) .lf)))))) (by kernel_rfl) h
def qq.j9 (t2 t8:Addr) (Q:VWP) (w:World):Prop :=
 ldA w t8 20 fun c1 =>
 (c1).size=20 ∧
 stA w t2 c1 fun w2 =>
 ldA w2 t2 20 fun c3 =>
 Q (.agg c3) w2
def qq.b1 (t2 t6 t8:Addr) (t9:Int) (Q:VWP) (nx1:Addr→Addr→Addr→Int→WP) (w:World):Prop :=
 br (decide (t9 < 20)) (
 (4:Int) ≠ 0 ∧
 lt (IntKind.i64.wrap (Int.tdiv t9 4)) fun x4 =>
 ixA t6 5 x4 1 fun a5 =>
 ldI .u32 w a5 fun x6 =>
 (4:Int) ≠ 0 ∧
 lt (Int.tmod t9 4) fun x7 =>
 lt (IntKind.u64.wrap x7) fun x8 =>
 lt (IntKind.u64.wrap (8 * x8)) fun x9 =>
 lt (IntKind.u64.wrap (24 - x9)) fun x10 =>
 (0:Int)≤x10 ∧
 lt (shrV .u32 x6 x10) fun x11 =>
 lt (IntKind.u8.wrap x11) fun x12 =>
 ixA t8 20 t9 1 fun a13 =>
 st w a13 (.int .u8 x12) fun w14 =>
 lt (IntKind.i64.wrap (t9+1)) fun x15 =>
 nx1 t2 t6 t8 x15 w14) (
 qq.j9 t2 t8 Q w)
def qq.l1 (t2 t6 t8:Addr) (t9:Int) (Q:VWP) (w:World):Prop :=
 ∃ (I:Int→WP) (μ:Int→World→Nat),I t9 w∧∀ t9:Int,∀ w:World,I t9 w→qq.b1 t2 t6 t8 t9 Q (fun t2' t6' t8' t9' w'=>(t2'=t2∧t6'=t6∧t8'=t8)∧I t9' w'∧μ t9' w' < μ t9 w) w
def qq.j10 (t2 t6 t8:Addr) (t9:Int) (Q:VWP) (w:World):Prop :=
 qq.l1 t2 t6 t8 t9 Q w
def qq.j8 (t2 t6 t8:Addr) (Q:VWP) (w:World):Prop :=
 qq.j10 t2 t6 t8 0 Q w
def qq.j7 (t2 t6:Addr) (Q:VWP) (w:World):Prop :=
 nw w (zc Tryz.prog 23) 23 fun a16 w17 =>
 qq.j8 t2 t6 a16 Q w17
def qq.b2 (t2:Addr) (t3:Sl) (t6:Addr) (t7:Int) (Q:VWP) (nx2:Addr→Sl→Addr→Int→WP) (w:World):Prop :=
 br (decide (t7 < (t3.len:Int))) (
 lt (World.drew w) fun w18 =>
 ldA w18 t6 5 fun c19 =>
 lt (IntKind.i64.wrap (t7+64)) fun x20 =>
 bd x20 t3.cap fun n21 =>
 bd t7 n21 fun n22 =>
 lt (⟨qwd t3.a t3.cap n22 1,n21 - n22,t3.cap - n22⟩:Sl) fun s23 =>
 cr_G 79 [.agg c19,sV s23] w18 fun r26 w25 =>
 (r26).size=5 ∧
 stA w25 t6 r26 fun w27 =>
 lt (IntKind.i64.wrap (t7+64)) fun x28 =>
 nx2 t2 t3 t6 x28 w27) (
 qq.j7 t2 t6 Q w)
def qq.l2 (t2:Addr) (t3:Sl) (t6:Addr) (t7:Int) (Q:VWP) (w:World):Prop :=
 ∃ (I:Int→WP) (μ:Int→World→Nat),I t7 w∧∀ t7:Int,∀ w:World,I t7 w→qq.b2 t2 t3 t6 t7 Q (fun t2' t3' t6' t7' w'=>(t2'=t2∧t3'=t3∧t6'=t6)∧I t7' w'∧μ t7' w' < μ t7 w) w
def qq.j11 (t2:Addr) (t3:Sl) (t6:Addr) (t7:Int) (Q:VWP) (w:World):Prop :=
 qq.l2 t2 t3 t6 t7 Q w
def qq.j6 (t2:Addr) (t3:Sl) (t6:Addr) (Q:VWP) (w:World):Prop :=
 qq.j11 t2 t3 t6 0 Q w
def qq.j5 (t2:Addr) (t3:Sl) (Q:VWP) (w:World):Prop :=
 nw w (zc Tryz.prog 126) 126 fun a29 w30 =>
 ((⟨[.int .u32 1732584193,.int .u32 4023233417,.int .u32 2562383102,.int .u32 271733878,.int .u32 3285377520]⟩:Array Value)).size=5 ∧
 stA w30 a29 (⟨[.int .u32 1732584193,.int .u32 4023233417,.int .u32 2562383102,.int .u32 271733878,.int .u32 3285377520]⟩:Array Value) fun w31 =>
 qq.j6 t2 t3 a29 Q w31
def qq.b3 (t2:Addr) (t4:Int) (t3:Sl) (t5:Int) (Q:VWP) (nx3:Addr→Int→Sl→Int→WP) (w:World):Prop :=
 br (decide (t5 ≥ 0)) (
 lt (IntKind.u64.wrap t5) fun x32 =>
 lt (IntKind.u64.wrap (8 * x32)) fun x33 =>
 (0:Int)≤x33 ∧
 lt (shrV .u64 t4 x33) fun x34 =>
 lt (IntKind.u8.wrap x34) fun x35 =>
 nw w ⟨[.int .u8 x35]⟩ 5 fun a36 w37 =>
 rdO w37 (some a36) (1 * 1) fun c38 =>
 apK Tryz.prog 5 w37 t3.a t3.len t3.cap 1 c38 fun s39 w40 =>
 lt (IntKind.i64.wrap (t5 - 1)) fun x41 =>
 nx3 t2 t4 s39 x41 w40) (
 qq.j5 t2 t3 Q w)
def qq.l3 (t2:Addr) (t4:Int) (t3:Sl) (t5:Int) (Q:VWP) (w:World):Prop :=
 ∃ (I:Sl→Int→WP) (μ:Sl→Int→World→Nat),I t3 t5 w∧∀ t3:Sl,∀ t5:Int,∀ w:World,I t3 t5 w→qq.b3 t2 t4 t3 t5 Q (fun t2' t4' t3' t5' w'=>(t2'=t2∧t4'=t4)∧I t3' t5' w'∧μ t3' t5' w' < μ t3 t5 w) w
def qq.j12 (t2:Addr) (t3:Sl) (t4 t5:Int) (Q:VWP) (w:World):Prop :=
 qq.l3 t2 t4 t3 t5 Q w
def qq.j4 (t2:Addr) (t3:Sl) (t4:Int) (Q:VWP) (w:World):Prop :=
 qq.j12 t2 t3 t4 7 Q w
def qq.j3 (d_0:Sl) (t2:Addr) (t3:Sl) (Q:VWP) (w:World):Prop :=
 lt (IntKind.u64.wrap (d_0.len:Int)) fun x42 =>
 lt (IntKind.u64.wrap (x42 * 8)) fun x43 =>
 qq.j4 t2 t3 x43 Q w
def qq.b4 (d_0:Sl) (t2:Addr) (t3:Sl) (Q:VWP) (nx4:Sl→Addr→Sl→WP) (w:World):Prop :=
 (64:Int) ≠ 0 ∧
 lt (Int.tmod (t3.len:Int) 64) fun x44 =>
 br (x44 != 56) (
 nw w ⟨[.int .u8 0]⟩ 5 fun a45 w46 =>
 rdO w46 (some a45) (1 * 1) fun c47 =>
 apK Tryz.prog 5 w46 t3.a t3.len t3.cap 1 c47 fun s48 w49 =>
 nx4 d_0 t2 s48 w49) (
 qq.j3 d_0 t2 t3 Q w)
def qq.l4 (d_0:Sl) (t2:Addr) (t3:Sl) (Q:VWP) (w:World):Prop :=
 ∃ (I:Sl→WP) (μ:Sl→World→Nat),I t3 w∧∀ t3:Sl,∀ w:World,I t3 w→qq.b4 d_0 t2 t3 Q (fun d_0' t2' t3' w'=>(d_0'=d_0∧t2'=t2)∧I t3' w'∧μ t3' w' < μ t3 w) w
def qq.j2 (d_0:Sl) (t2:Addr) (t3:Sl) (Q:VWP) (w:World):Prop :=
 qq.l4 d_0 t2 t3 Q w
def qq.j1 (d_0:Sl) (t2:Addr) (Q:VWP) (w:World):Prop :=
 nw w ⟨[]⟩ 5 fun a50 w51 =>
 rdO w51 d_0.a (d_0.len * 1) fun c52 =>
 apK Tryz.prog 5 w51 (some a50) 0 0 d_0.len c52 fun s53 w54 =>
 nw w54 ⟨[.int .u8 128]⟩ 5 fun a55 w56 =>
 rdO w56 (some a55) (1 * 1) fun c57 =>
 apK Tryz.prog 5 w56 s53.a s53.len s53.cap 1 c57 fun s58 w59 =>
 qq.j2 d_0 t2 s58 Q w59
def qq (d_0:Sl) (Q:VWP) (w:World):Prop :=
 nw w (zc Tryz.prog 23) 23 fun a60 w61 =>
 qq.j1 d_0 a60 Q w61
theorem qq.ok (d_0:Sl) (Q:VWP) (w:World) (h:qq d_0 Q w):Calls Tryz.prog 41 ⟨[sV d_0]⟩ w (Ret Q) :=
 qgc [.cell 2 23] qjd Tryz.func41 rfl rfl rfl rfl (.sq [sL 0,sA 2] (fun a b w=>qq.j1 a b Q w) .lf (.pr 1 [sL 0,sA 2,sL 3] (fun a b c w=>qq.j2 a b c Q w) (.sq [sL 0,sA 2,sL 3] (fun a b c w=>qq.j3 a b c Q w) (.bk (.lo [sL 0,sA 2] [sL 3] (fun a b c w=>qq.l4 a b c Q w) (fun nx4 a b c w=>qq.b4 a b c Q nx4 w) fun nx4=>.lf)) (.sq [sA 2,sL 3,(4,.I .u64)] (fun a b c w=>qq.j4 a b c Q w) .lf (.sq [sA 2,sL 3] (fun a b w=>qq.j5 a b Q w) (.sq [sA 2,sL 3,(4,.I .u64),sI 5] (fun a b c d w=>qq.j12 a b c d Q w) .lf (.bk (.lo [sA 2,(4,.I .u64)] [sL 3,sI 5] (fun a b c d w=>qq.l3 a b c d Q w) (fun nx3 a b c d w=>qq.b3 a b c d Q nx3 w) fun nx3=>.lf))) (.sq [sA 2,sL 3,sA 6] (fun a b c w=>qq.j6 a b c Q w) .lf (.sq [sA 2,sA 6] (fun a b w=>qq.j7 a b Q w) (.sq [sA 2,sL 3,sA 6,sI 7] (fun a b c d w=>qq.j11 a b c d Q w) .lf (.bk (.lo [sA 2,sL 3,sA 6] [sI 7] (fun a b c d w=>qq.l2 a b c d Q w) (fun nx2 a b c d w=>qq.b2 a b c d Q nx2 w) fun nx2=>.lf))) (.sq [sA 2,sA 6,sA 8] (fun a b c w=>qq.j8 a b c Q w) .lf (.sq [sA 2,sA 8] (fun a b w=>qq.j9 a b Q w) (.sq [sA 2,sA 6,sA 8,sI 9] (fun a b c d w=>qq.j10 a b c d Q w) .lf (.bk (.lo [sA 2,sA 6,sA 8] [sI 9] (fun a b c d w=>qq.l1 a b c d Q w) (fun nx1 a b c d w=>qq.b1 a b c d Q nx1 w) fun nx1=>.lf))) .lf))))))))) (by kernel_rfl) h
end Go.Proofs.YtigmbblgfnkpbaaGreat
namespace Go.Proofs.YtigmbblgfnkpbaaGreat
open Go Go.Proofs
set_option linter.unusedVariables false
set_option linter.unusedSimpArgs false
attribute [local irreducible] apK cpK mkK
def lf (x n:Int):Int:=orV .u32 (qpf .u32 x n) (shrV .u32 x (32 - n))
def no32 (b:Int):Int:=qcj .u32 4294967295 b
def mixF (t:Nat) (b c d:Int):Int × Int :=
 if t < 20 then (orV .u32 (andV .u32 b c) (andV .u32 (no32 b) d),1518500249)
 else if t < 40 then (qcj .u32 (qcj .u32 b c) d,1859775393)
 else if t < 60 then (orV .u32 (orV .u32 (andV .u32 b c) (andV .u32 b d)) (andV .u32 c d),2400959708)
 else (qcj .u32 (qcj .u32 b c) d,3395469782)
structure W5 where
 a:Int
 b:Int
 c:Int
 d:Int
 e:Int
def stepF (t:Nat) (x:Int) (s:W5):W5 :=
 ⟨IntKind.u32.wrap (IntKind.u32.wrap (IntKind.u32.wrap (IntKind.u32.wrap (lf s.a 5+(mixF t s.b s.c s.d).1)+s.e)+(mixF t s.b s.c s.d).2)+x),s.a,lf s.b 30,s.c,s.d⟩
def rounds (l:List Int):Nat→W5→W5
 | 0,s=>s
 | n+1,s=>stepF n (l.getD n 0) (rounds l n s)
def nextW (l:List Int):Int:=lf (qcj .u32 (qcj .u32 (qcj .u32 (l.getD (l.length - 3) 0) (l.getD (l.length - 8) 0)) (l.getD (l.length - 14) 0)) (l.getD (l.length - 16) 0)) 1
def qkf:Nat→List Int→List Int
 | 0,l=>l
 | n+1,l=>qkf n (l ++ [nextW l])
theorem qbo (n:Nat):∀ l,qkf (n+1) l=qkf n l ++ [nextW (qkf n l)]:=by
 induction n with
 | zero=>intro l; rfl
 | succ n ih=>intro l; rw [qkf,ih]; rfl
theorem qrl (n:Nat) (l:List Int):(qkf n l).length=l.length+n:=by
 induction n generalizing l with
 | zero=>rfl
 | succ n ih=>rw [qkf,ih]; simp; omega
def be (l:List Int):Int:=l.foldl (fun a x=>a * 256+x) 0
theorem be_snoc (l:List Int) (x:Int):be (l ++ [x])=be l * 256+x:=by simp [be]
def qyd (p:List Int):List Int:=(List.range 16).map fun t=>be ((p.drop (4 * t)).take 4)
def addW (s x:W5):W5:=⟨IntKind.u32.wrap (s.a+x.a),IntKind.u32.wrap (s.b+x.b),IntKind.u32.wrap (s.c+x.c),IntKind.u32.wrap (s.d+x.d),IntKind.u32.wrap (s.e+x.e)⟩
def blkF (s:W5) (p:List Int):W5:=addW s (rounds (qkf 64 (qyd p)) 80 s)
def W5.l (s:W5):List Int:=[s.a,s.b,s.c,s.d,s.e]
abbrev qpe (l:List Int):List Value:=l.map (Value.int .u32)
theorem qqc (l:List Int):(qpe l).length=l.length:=by simp [qpe]
theorem qej {l:List Int} {i:Nat} (h:i < l.length):(qpe l)[i]?=some (.int .u32 (l.getD i 0)):=by
 simp [qpe,h,List.getD,List.getElem?_eq_getElem h]
theorem u32s_set (l:List Int) (i:Nat) (v:Int):(qpe l).set i (.int .u32 v)=qpe (l.set i v):=by
 unfold qpe; rw [List.map_set]
theorem u8s_get {l:List Int} {i:Nat} (h:i < l.length):(u8s l)[i]?=some (.int .u8 (l.getD i 0)):=by
 simp [u8s,h,List.getD,List.getElem?_eq_getElem h]
def init5:W5:=⟨1732584193,4023233417,2562383102,271733878,3285377520⟩
def hs (xs:List Int):Nat→W5
 | 0=>init5
 | n+1=>blkF (hs xs n) ((xs.drop (64 * n)).take 64)
theorem hs_front (xs ys:List Int):∀ n,64 * n≤xs.length→hs (xs ++ ys) n=hs xs n
 | 0,_=>rfl
 | n+1,h=>by
   rw [hs,hs,hs_front xs ys n (by omega)]
   congr 1
   rw [List.drop_append_of_le_length (by omega),List.take_append_of_le_length (by rw [List.length_drop]; omega)]
def be8 (n:Int):List Int:=(List.range 8).map fun i=>n / 2 ^ (8 * (7 - i)) % 256
def zeros (n:Nat):List Int:=List.replicate ((119 - n % 64) % 64) 0
def padded (xs:List Int):List Int:=xs ++ [128] ++ zeros xs.length ++ be8 (8 * xs.length)
theorem padded_length (xs:List Int):(padded xs).length % 64=0:=by
 simp [padded,zeros,be8]; omega
def sumW (xs:List Int):W5:=hs (padded xs) ((padded xs).length / 64)
def word4 (x:Int):List Int:=[x / 2 ^ 24 % 256,x / 2 ^ 16 % 256,x / 2 ^ 8 % 256,x % 256]
def qxe (xs:List Int):List Int:=(sumW xs).l.flatMap word4
section
variable {F0:List Nat} {w0 w:World} {ps:List As}
theorem qbi {b o n sz:Nat} {i:Int} {K:Addr→Prop} (h0:0≤i) (h1:i < (n:Int)) (hk:K ⟨b,o+i.toNat * sz,none⟩):ixA ⟨b,o,none⟩ n i sz K:=by
 unfold ixA
 rw [qld]
 exact ⟨⟨h0,h1⟩,hk⟩
theorem qeh.c {x n:Int} {K:Ending→World→Prop} (hn:0≤n∧n≤32) (hk:∀ w',Mod [] w w'→K (.returned (.int .u32 (lf x n))) w'):Calls Tryz.prog 114 ⟨[.int .u32 x,.int .i64 n]⟩ w K:=by
 refine qec (qeh.ok _ _ _ _ ?_)
 unfold qeh
 refine qed ?_
 refine ⟨hn.1,qed ?_⟩
 refine qy (qm (by omega) (by omega)) ?_
 refine ⟨by omega,qed (qed ?_)⟩
 exact hk _ (Mod.drew w)
theorem qvc.c {x n:Int} {K:Ending→World→Prop} (hn:0≤n∧n≤32) (hk:K (.returned (.int .u32 (lf x n))) w):Calls Tryz.prog 107 ⟨[.int .u32 x,.int .u64 n]⟩ w K:=by
 refine qec (qvc.ok _ _ _ _ ?_)
 unfold qvc
 refine ⟨hn.1,qed ?_⟩
 refine qy (show IntKind.u64.wrap (32 - n)=32 - n by rw [qee]; omega) ?_
 refine ⟨by omega,qed (qed ?_)⟩
 exact hk
theorem quk.c {t:Nat} {b c d:Int} {K:Ending→World→Prop} (ht:t < 80) (hk:K (.returned (.tuple ⟨[.int .u32 (mixF t b c d).1,.int .u32 (mixF t b c d).2]⟩)) w):Calls Tryz.prog 115 ⟨[.int .i64 t,.int .u32 b,.int .u32 c,.int .u32 d]⟩ w K:=by
 refine qec (quk.ok _ _ _ _ _ _ ?_)
 unfold quk
 refine ⟨by decide,?_⟩
 rw [tdiv_nn (by omega)]
 refine qy (qm (by omega) (by omega)) ?_
 unfold mixF at hk
 refine qnc (fun h1=>?_) (fun h1=>?_)
 · have h1:(t:Int) / 20=0:=by simpa using h1
   rw [if_pos (by omega)] at hk
   exact qed (qed (qed (qed hk)))
 have h1:¬ (t:Int) / 20=0:=by simpa using h1
 rw [if_neg (by omega)] at hk
 refine qnc (fun h2=>?_) (fun h2=>?_)
 · have h2:(t:Int) / 20=1:=by simpa using h2
   rw [if_pos (by omega)] at hk
   exact qed (qed hk)
 have h2:¬ (t:Int) / 20=1:=by simpa using h2
 rw [if_neg (by omega)] at hk
 refine qnc (fun h3=>?_) (fun h3=>?_)
 · have h3:(t:Int) / 20=2:=by simpa using h3
   rw [if_pos (by omega)] at hk
   exact qed (qed (qed (qed (qed hk))))
 have h3:¬ (t:Int) / 20=2:=by simpa using h3
 rw [if_neg (by omega)] at hk
 exact qed (qed hk)
end
end Go.Proofs.YtigmbblgfnkpbaaGreat
namespace Go.Proofs.YtigmbblgfnkpbaaGreat
open Go Go.Proofs
set_option linter.unusedVariables false
set_option linter.unusedSimpArgs false
attribute [local irreducible] apK cpK mkK
theorem loop6 {α A B D E G H:Type} {C:(A→B→D→E→G→H→World→Prop)→(A→B→D→E→G→H→World→Nat)→A→B→D→E→G→H→World→Prop} {x:A} {y:B} {z:D} {u:E} {v:G} {t:H} {w:World} (Inv:α→A→B→D→E→G→H→World→Prop) (m:α→Nat) (a:α) (h:Inv a x y z u v t w)
 (hb:∀ a x y z u v t w I μ,Inv a x y z u v t w→(∀ a' x' y' z' u' v' t' w',Inv a' x' y' z' u' v' t' w'→m a' < m a→I x' y' z' u' v' t' w'∧μ x' y' z' u' v' t' w' < μ x y z u v t w)→C I μ x y z u v t w):∃ I μ,I x y z u v t w∧∀ x y z u v t w,I x y z u v t w→C I μ x y z u v t w:=by
 obtain ⟨I,μ,h1,h2⟩:=qnh (σ:=A × B × D × E × G × H × World) (C:=fun I μ s=>C (fun x y z u v t w=>I (x,y,z,u,v,t,w)) (fun x y z u v t w=>μ (x,y,z,u,v,t,w)) s.1 s.2.1 s.2.2.1 s.2.2.2.1 s.2.2.2.2.1 s.2.2.2.2.2.1 s.2.2.2.2.2.2) (s:=(x,y,z,u,v,t,w))
  (fun a s=>Inv a s.1 s.2.1 s.2.2.1 s.2.2.2.1 s.2.2.2.2.1 s.2.2.2.2.2.1 s.2.2.2.2.2.2) m a h
  (fun a s I μ hi hn=>hb a s.1 s.2.1 s.2.2.1 s.2.2.2.1 s.2.2.2.2.1 s.2.2.2.2.2.1 s.2.2.2.2.2.2 _ _ hi fun a' x' y' z' u' v' t' w'=>hn a' (x',y',z',u',v',t',w'))
 exact ⟨fun x y z u v t w=>I (x,y,z,u,v,t,w),fun x y z u v t w=>μ (x,y,z,u,v,t,w),h1,fun x y z u v t w hI=>h2 (x,y,z,u,v,t,w) hI⟩
attribute [local irreducible] rounds qkf
theorem qug (l:List Value) (i:Nat):(⟨l⟩:Array Value)[i]?=l[i]?:=by simp
def qje (l:List Int):Prop:=∀ x ∈ l,0≤x∧x < 256
theorem be_lt:∀ (l:List Int),qje l→0≤be l∧be l < 256 ^ l.length:=by
 intro l
 have key:∀ (l:List Int) (a:Int) (k:Nat),qje l→0≤a→a < 256 ^ k→0≤l.foldl (fun a x=>a * 256+x) a∧l.foldl (fun a x=>a * 256+x) a < 256 ^ (k+l.length):=by
  intro l
  induction l with
  | nil=>intro a k _ h0 h1; exact ⟨h0,h1⟩
  | cons x l ih =>
    intro a k hb h0 h1
    have hx:=hb x (by simp)
    have:=ih (a * 256+x) (k+1) (fun y hy=>hb y (by simp [hy])) (by omega) (by rw [Int.pow_succ]; omega)
    rw [List.foldl_cons,List.length_cons,show k+(l.length+1)=k+1+l.length by omega]
    exact this
 intro hb
 have:=key l 0 0 hb (by omega) (by decide)
 rwa [Nat.zero_add] at this
theorem or_byte {x c:Int} (hx:0≤x∧x < 16777216) (hc:0≤c∧c < 256):orV .u32 (qpf .u32 x 8) c=x * 256+c:=by
 obtain ⟨n,rfl⟩:∃ n:Nat,x=n:=⟨x.toNat,by omega⟩
 obtain ⟨m,rfl⟩:∃ m:Nat,c=m:=⟨c.toNat,by omega⟩
 have h1:qpf .u32 (n:Int) 8=(n:Int) * 2 ^ 8:=shlV_u (k:=.u32) (t:=8) rfl (by decide) (by show n * 2 ^ 8 < 2 ^ 32; omega)
 rw [h1,qdm,orV_uadd (k:=.u32) (t:=8) rfl (by omega) (by show m+n * 2 ^ 8 < 2 ^ 32; omega)]
 omega
def fillW (p:List Int) (i:Nat):List Int:=(List.range 80).map fun t=>be (((p.take i).drop (4 * t)).take 4)
theorem qvi (p:List Int) (i:Nat):(fillW p i).length=80:=by unfold fillW; rw [List.length_map,List.length_range]
theorem fillW_zero (p:List Int):fillW p 0=List.replicate 80 0:=by
 apply List.ext_getElem
 · simp [fillW]
 · intro i h1 h2
   rw [List.getElem_replicate]
   simp [fillW,be]
theorem fillW_getD {p:List Int} {i t:Nat} (h:t < 80):(fillW p i).getD t 0=be (((p.take i).drop (4 * t)).take 4):=by
 unfold fillW
 rw [List.getD_eq_getElem?_getD,List.getElem?_map,List.getElem?_range h]
 rfl
theorem fillW_bound {p:List Int} {i:Nat} (hp:qje p) (hi:i < p.length):0≤be (((p.take i).drop (4 * (i / 4))).take 4)∧be (((p.take i).drop (4 * (i / 4))).take 4) < 16777216:=by
 have h:=be_lt (((p.take i).drop (4 * (i / 4))).take 4) (fun x hx=>hp x (List.mem_of_mem_take (List.mem_of_mem_drop (List.mem_of_mem_take hx))))
 refine ⟨h.1,Int.lt_of_lt_of_le h.2 ?_⟩
 have hl:(((p.take i).drop (4 * (i / 4))).take 4).length≤3:=by
  rw [List.length_take,List.length_drop,List.length_take]; omega
 generalize (((p.take i).drop (4 * (i / 4))).take 4).length=n at hl ⊢
 have h3:(256:Nat) ^ n≤256 ^ 3:=Nat.pow_le_pow_right (by decide) hl
 have h4:((256 ^ n:Nat):Int)=256 ^ n:=by rw [Int.natCast_pow]; rfl
 have h5:(256:Nat) ^ 3=16777216:=by decide
 omega
theorem fillW_succ {p:List Int} {i:Nat} (hi:i < p.length) (h64:i < 64):(fillW p i).set (i / 4) (be (((p.take i).drop (4 * (i / 4))).take 4) * 256+p[i])=fillW p (i+1):=by
 apply List.ext_getElem
 · simp [fillW]
 · intro t h1 h2
   simp only [List.length_set,qvi] at h1
   have htk:p.take (i+1)=p.take i ++ [p[i]]:=List.take_succ_eq_append_getElem hi
   rw [List.getElem_set]
   simp only [fillW,List.getElem_map,List.getElem_range]
   have hlen:(p.take i).length=i:=by rw [List.length_take]; omega
   by_cases h:i / 4=t
   · subst h
     rw [if_pos rfl,← be_snoc,htk,List.drop_append_of_le_length (by rw [hlen]; omega),List.take_append,List.take_of_length_le (l:=(p.take i).drop _) (by rw [List.length_drop,hlen]; omega)]
     congr 2
     rw [List.length_drop,hlen,List.take_of_length_le]
     simp; omega
   · rw [if_neg h,htk]
     congr 1
     rcases Nat.lt_or_ge t (i / 4) with h3 | h3
     · rw [List.drop_append_of_le_length (by rw [hlen]; omega),List.take_append_of_le_length (by rw [List.length_drop,hlen]; omega)]
     · rw [List.drop_eq_nil_of_le (by rw [hlen]; omega),List.drop_eq_nil_of_le (by rw [List.length_append,hlen]; simp; omega)]
theorem fillW_end {p:List Int} (hp:p.length=64):fillW p 64=qyd p ++ List.replicate 64 0:=by
 apply List.ext_getElem
 · simp [fillW,qyd]
 · intro t h1 h2
   rw [List.getElem_append]
   simp only [fillW,List.getElem_map,List.getElem_range,qyd,List.length_map,List.length_range]
   have e:p.take 64=p:=List.take_of_length_le (by omega)
   rw [e]
   split
   · rfl
   · rw [List.drop_eq_nil_of_le (by omega)]
     rw [List.getElem_replicate]
     simp [be]
theorem qdf {l m:List Int} {i:Nat} (h:i < l.length):(l ++ m).getD i 0=l.getD i 0:=by
 simp [List.getD,List.getElem?_append_left h]
theorem zc_w80:zc Tryz.prog 162=⟨qpe (List.replicate 80 0)⟩:=by kernel_rfl
section
variable {F0:List Nat} {w0 w:World} {ps:List As}
theorem St.ldu32 {b o:Nat} {l:List Int} {m:List Value} {i:Nat} {K:Int→Prop} (h:St F0 w0 w (qnb b (qpe l ++ m) :: ps)) (ho:o=i) (hi:i < l.length) (hk:K (l.getD i 0)):ldI .u32 w ⟨b,o,none⟩ K:=by
 subst ho
 refine h.blk.ldI ?_ hk
 rw [List.getElem?_append_left (by rw [qqc]; exact hi),qej hi]
theorem St.ldu32' {b o:Nat} {l:List Int} {i:Nat} {K:Int→Prop} (h:St F0 w0 w (qnb b (qpe l) :: ps)) (ho:o=i) (hi:i < l.length) (hk:K (l.getD i 0)):ldI .u32 w ⟨b,o,none⟩ K:=by
 subst ho
 exact h.blk.ldI (qej hi) hk
theorem St.stu32 {b o:Nat} {l:List Int} {i:Nat} {v:Int} {K:World→Prop} (h:St F0 w0 w (qnb b (qpe l) :: ps)) (ho:o=i) (hi:i < l.length) (hk:∀ w',St F0 w0 w' (qnb b (qpe (l.set i v)) :: ps)→K w'):Go.Proofs.YtigmbblgfnkpbaaGreat.st w ⟨b,o,none⟩ (.int .u32 v) K:=by
 subst ho
 refine h.st (by rw [qqc]; exact hi) trivial fun w' h=>hk w' ?_
 rw [u32s_set] at h
 exact h
def someW (s x:W5) (n:Nat):List Int :=
 [if 0 < n then IntKind.u32.wrap (s.a+x.a) else s.a,if 1 < n then IntKind.u32.wrap (s.b+x.b) else s.b,if 2 < n then IntKind.u32.wrap (s.c+x.c) else s.c,if 3 < n then IntKind.u32.wrap (s.d+x.d) else s.d,if 4 < n then IntKind.u32.wrap (s.e+x.e) else s.e]
theorem qz.add {hb:Nat} {s x:W5} {tl:List Value} {Q:VWP} (h:St F0 w0 w (qnb hb (qpe s.l ++ tl) :: ps))
 (hk:∀ w',St F0 w0 w' (qnb hb (qpe (addW s x).l ++ tl) :: ps)→Q (.tuple ⟨[]⟩) w'):qz.l1 (some ⟨hb,0,none⟩) ⟨qpe x.l⟩ 0 Q w:=by
 refine qud (fun (i:Nat) (i':Int) w=>i'=i∧i≤5∧St F0 w0 w (qnb hb (qpe (someW s x i) ++ tl) :: ps)) (fun i=>5 - i) 0 ⟨rfl,by omega,h⟩ ?_
 clear h
 rintro i i' w I μ ⟨rfl,hi,h⟩ hin
 unfold qz.b1
 refine qmc (fun h1=>?_) (fun h1=>?_)
 · refine ⟨by omega,?_⟩
   have ei:((i:Int)).toNat * 1=i:=by omega
   rw [ei]
   refine ⟨x.l.getD i 0,?_,?_⟩
   · rw [qug]
     exact qej (by show i < 5; omega)
   refine h.drewK fun w h=>?_
   refine qde (qbi (by omega) (by omega) ?_)
   rw [ei]
   refine h.ldu32 (i:=i) (by omega) (by show i < 5; omega) ?_
   refine qed ?_
   refine qde (qbi (by omega) (by omega) ?_)
   rw [ei]
   refine h.st (by rw [List.length_append,qqc]; show 0+i < 5+tl.length; omega) trivial fun w h=>?_
   refine qy (qm (by omega) (by omega)) ?_
   refine ⟨⟨rfl,rfl⟩,hin (i+1) _ _ ⟨by simp,by omega,?_⟩ (by omega)⟩
   rw [List.set_append_left _ _ (by rw [qqc]; show 0+i < 5; omega),u32s_set] at h
   have hc:i=0 ∨ i=1 ∨ i=2 ∨ i=3 ∨ i=4:=by omega
   rcases hc with rfl | rfl | rfl | rfl | rfl <;> exact h
 · have:i=5:=by omega
   subst this
   exact hk w h
theorem qz.rounds {hb:Nat} {s:W5} {tl:List Value} {l:List Int} (hl:l.length=80) {Q:VWP} (h:St F0 w0 w (qnb hb (qpe s.l ++ tl) :: ps))
 (hk:∀ w',St F0 w0 w' (qnb hb (qpe (addW s (rounds l 80 s)).l ++ tl) :: ps)→Q (.tuple ⟨[]⟩) w'):qz.l2 (some ⟨hb,0,none⟩) ⟨qpe l⟩ s.a s.b s.c s.d s.e 0 Q w:=by
 refine loop6 (fun (t:Nat) a b c d e (t':Int) w=>t'=t∧t≤80∧(⟨a,b,c,d,e⟩:W5)=Go.Proofs.YtigmbblgfnkpbaaGreat.rounds l t s∧St F0 w0 w (qnb hb (qpe s.l ++ tl) :: ps)) (fun t=>80 - t) 0 ⟨rfl,by omega,by rw [Go.Proofs.YtigmbblgfnkpbaaGreat.rounds],h⟩ ?_
 clear h
 rintro t a b c d e t' w I μ ⟨rfl,ht,hr,h⟩ hin
 unfold qz.b2
 refine qmc (fun h1=>?_) (fun h1=>?_)
 · refine ⟨by omega,?_⟩
   have ei:((t:Int)).toNat * 1=t:=by omega
   rw [ei]
   refine ⟨l.getD t 0,?_,?_⟩
   · rw [qug]
     exact qej (by omega)
   refine quk.c (by omega) ⟨_,_,rfl,?_⟩
   refine qeh.c (by decide) fun w1 hm=>⟨_,rfl,?_⟩
   have h:=h.skip hm
   refine qed (qed (qed (qed ?_)))
   refine qeh.c (by decide) fun w2 hm=>⟨_,rfl,?_⟩
   have h:=h.skip hm
   refine qy (qm (by omega) (by omega)) ?_
   refine ⟨⟨rfl,rfl⟩,hin (t+1) _ _ _ _ _ _ _ ⟨by simp,by omega,?_,h⟩ (by omega)⟩
   rw [Go.Proofs.YtigmbblgfnkpbaaGreat.rounds,← hr]
   rfl
 · have:t=80:=by omega
   subst this
   unfold qz.j5 qz.j6
   refine qz.add (x:=⟨a,b,c,d,e⟩) h ?_
   rw [hr]
   exact hk
theorem qz.c {hb:Nat} {s:W5} {tl:List Value} {p:List Int} {K:Ending→World→Prop} (hp:p.length=64) (hpb:qje p) (h:St F0 w0 w (qnb hb (qpe s.l ++ tl) :: ps))
 (hk:∀ w',St F0 w0 w' (qnb hb (qpe (blkF s p).l ++ tl) :: ps)→K (.returned (.tuple ⟨[]⟩)) w'):Calls Tryz.prog 102 ⟨[.pointer (some ⟨hb,0,none⟩),.agg ⟨u8s p⟩]⟩ w K:=by
 unfold blkF at hk
 refine qec (qz.ok _ _ _ _ ?_)
 unfold qz
 refine h.new fun n1 w h=>?_
 refine h.new fun n2 w h=>?_
 unfold qz.j1
 refine h.blk1.ldA (cs:=⟨u8s p⟩) (by show (u8s p).length=64; rw [qmb,hp]) (fun i hi=>by rw [Nat.zero_add,qug]) ?_
 have h:St F0 w0 w (qnb n2 (qpe (fillW p 0)) :: qnb hb (qpe s.l ++ tl) :: ps):=by
  have h:=h.at1.drop
  rw [zc_w80] at h
  rw [fillW_zero]
  exact h
 unfold qz.j9
 refine qud (fun (i:Nat) (i':Int) w=>i'=i∧i≤64∧St F0 w0 w (qnb n2 (qpe (fillW p i)) :: qnb hb (qpe s.l ++ tl) :: ps)) (fun i=>64 - i) 0 ⟨rfl,by omega,h⟩ ?_
 clear h
 rintro i i' w I μ ⟨rfl,hi,h⟩ hin
 unfold qz.b4
 refine qmc (fun h1=>?_) (fun h1=>?_)
 · refine ⟨by omega,?_⟩
   have ei:((i:Int)).toNat * 1=i:=by omega
   have ei4:((i:Int) / 4).toNat * 1=i / 4:=by omega
   rw [ei]
   refine ⟨p.getD i 0,?_,?_⟩
   · rw [qug]
     exact u8s_get (by omega)
   have hip:i < p.length:=by omega
   have hc:p.getD i 0=p[i]:=by simp [List.getD,hip]
   have hcb:=hpb p[i] (List.getElem_mem hip)
   rw [hc]
   refine ⟨by decide,?_⟩
   rw [tdiv_nn (by omega)]
   refine qy (qm (by omega) (by omega)) ?_
   refine ⟨by decide,?_⟩
   refine qy (qm (by omega) (by omega)) ?_
   refine qbi (by omega) (by omega) ?_
   rw [ei4]
   refine h.ldu32' (i:=i / 4) (by omega) (by rw [qvi]; omega) ?_
   rw [fillW_getD (by omega)]
   refine ⟨by decide,qed ?_⟩
   refine qy (show IntKind.u32.wrap p[i]=p[i] by rw [qdj]; omega) ?_
   refine qy (or_byte (fillW_bound hpb hip) hcb) ?_
   refine qbi (by omega) (by omega) ?_
   rw [ei4]
   refine h.stu32 (i:=i / 4) (by omega) (by rw [qvi]; omega) fun w h=>?_
   refine qy (qm (by omega) (by omega)) ?_
   refine ⟨⟨rfl,rfl,rfl⟩,hin (i+1) _ _ ⟨by simp,by omega,?_⟩ (by omega)⟩
   rw [fillW_succ hip (by omega)] at h
   exact h
 have:i=64:=by omega
 subst this
 rw [fillW_end hp] at h
 clear hin hi h1
 unfold qz.j2 qz.j8
 have hb16:(qyd p).length=16:=by simp [qyd]
 refine qud (fun (t:Nat) (t':Int) w=>t'=(t:Int)+16∧t≤64∧St F0 w0 w (qnb n2 (qpe (qkf t (qyd p) ++ List.replicate (64 - t) 0)) :: qnb hb (qpe s.l ++ tl) :: ps)) (fun t=>64 - t) 0 ⟨rfl,by omega,by rw [qkf]; exact h⟩ ?_
 clear h
 rintro t t' w I μ ⟨rfl,ht,h⟩ hin
 have hgl:(qkf t (qyd p)).length=t+16:=by rw [qrl,hb16]; omega
 unfold qz.b3
 refine qmc (fun h1=>?_) (fun h1=>?_)
 · refine h.drewK fun w h=>?_
   have hlen:(qkf t (qyd p) ++ List.replicate (64 - t) (0:Int)).length=80:=by rw [List.length_append,hgl,List.length_replicate]; omega
   refine qy (qm (by omega) (by omega)) ?_
   refine qbi (by omega) (by omega) ?_
   refine h.ldu32' (i:=t+13) (by omega) (by omega) ?_
   refine qy (qm (by omega) (by omega)) ?_
   refine qbi (by omega) (by omega) ?_
   refine h.ldu32' (i:=t+8) (by omega) (by omega) ?_
   refine qed ?_
   refine qy (qm (by omega) (by omega)) ?_
   refine qbi (by omega) (by omega) ?_
   refine h.ldu32' (i:=t+2) (by omega) (by omega) ?_
   refine qed ?_
   refine qy (qm (by omega) (by omega)) ?_
   refine qbi (by omega) (by omega) ?_
   refine h.ldu32' (i:=t) (by omega) (by omega) ?_
   refine qed ?_
   refine qeh.c (by decide) fun w1 hm=>⟨_,rfl,?_⟩
   have h:=h.skip hm
   refine qbi (by omega) (by omega) ?_
   refine h.stu32 (i:=t+16) (by omega) (by omega) fun w h=>?_
   refine qy (qm (by omega) (by omega)) ?_
   refine ⟨⟨rfl,rfl⟩,hin (t+1) _ _ ⟨by omega,by omega,?_⟩ (by omega)⟩
   rw [qdf (by omega),qdf (by omega),qdf (by omega),qdf (by omega)] at h
   have e:qkf (t+1) (qyd p) ++ List.replicate (64 - (t+1)) 0=(qkf t (qyd p) ++ List.replicate (64 - t) 0).set (t+16)
    (lf (qcj .u32 (qcj .u32 (qcj .u32 ((qkf t (qyd p)).getD (t+13) 0) ((qkf t (qyd p)).getD (t+8) 0)) ((qkf t (qyd p)).getD (t+2) 0)) ((qkf t (qyd p)).getD t 0)) 1):=by
    rw [qbo,List.set_append_right _ _ (by omega),hgl,Nat.sub_self,show 64 - t=(64 - (t+1))+1 by omega,List.replicate_succ,List.set_cons_zero,List.append_assoc]
    unfold nextW
    rw [hgl]
    rfl
   rw [e]
   exact h
 have:t=64:=by omega
 subst this
 clear hin ht h1
 rw [Nat.sub_self,List.replicate_zero,List.append_nil] at h
 unfold qz.j3
 refine h.drewK fun w h=>?_
 have hw:=h.at1
 refine qde (qbi (by decide) (by decide) ?_)
 refine hw.ldu32 (i:=0) (by decide) (by show 0 < 5; decide) ?_
 refine qde (qbi (by decide) (by decide) ?_)
 refine hw.ldu32 (i:=1) (by decide) (by show 1 < 5; decide) ?_
 refine qde (qbi (by decide) (by decide) ?_)
 refine hw.ldu32 (i:=2) (by decide) (by show 2 < 5; decide) ?_
 refine qde (qbi (by decide) (by decide) ?_)
 refine hw.ldu32 (i:=3) (by decide) (by show 3 < 5; decide) ?_
 refine qde (qbi (by decide) (by decide) ?_)
 refine hw.ldu32 (i:=4) (by decide) (by show 4 < 5; decide) ?_
 unfold qz.j4
 refine h.blk.ldA (cs:=⟨qpe (qkf 64 (qyd p))⟩) (by show (qpe _).length=80; rw [qqc,hgl]) (fun i hi=>by rw [Nat.zero_add,qug]) ?_
 unfold qz.j7
 exact qz.rounds (by rw [hgl]) hw.at1.drop fun w h=>hk w h
end
end Go.Proofs.YtigmbblgfnkpbaaGreat
namespace Go.Proofs.YtigmbblgfnkpbaaGreat
open Go Go.Proofs
set_option linter.unusedVariables false
set_option maxRecDepth 100000
def qfd.j2 (out_7:Sl) (Q:VWP) (w:World):Prop :=
 qtc 66 [sV out_7] w fun r3 w2 =>
 Q (sV r3) w2
def qfd.b1 (v_1 bits_2:Int) (out_7:Sl) (Q:VWP) (nx1:Int→Int→Sl→WP) (w:World):Prop :=
 br (decide (bits_2 > 0)) (
 lt (IntKind.i64.wrap (bits_2 - 8)) fun x4 =>
 (0:Int)≤x4 ∧
 lt (shrV .i64 v_1 x4) fun x5 =>
 lt (IntKind.u8.wrap x5) fun x6 =>
 nw w ⟨[.int .u8 x6]⟩ 5 fun a7 w8 =>
 rdO w8 (some a7) (1 * 1) fun c9 =>
 apK Tryz.prog 5 w8 out_7.a out_7.len out_7.cap 1 c9 fun s10 w11 =>
 nx1 v_1 x4 s10 w11) (
 qfd.j2 out_7 Q w)
def qfd.l1 (v_1 bits_2:Int) (out_7:Sl) (Q:VWP) (w:World):Prop :=
 ∃ (I:Int→Sl→WP) (μ:Int→Sl→World→Nat),I bits_2 out_7 w∧∀ bits_2:Int,∀ out_7:Sl,∀ w:World,I bits_2 out_7 w→qfd.b1 v_1 bits_2 out_7 Q (fun v_1' bits_2' out_7' w'=>(v_1'=v_1)∧I bits_2' out_7' w'∧μ bits_2' out_7' w' < μ bits_2 out_7 w) w
def qfd.j1 (v_1 bits_2:Int) (out_7:Sl) (Q:VWP) (w:World):Prop :=
 qfd.l1 v_1 bits_2 out_7 Q w
def qfd (b_0:Sl) (v_1:Int) (bits_2:Int) (Q:VWP) (w:World):Prop :=
 qtc 100 [sV b_0] w fun r14 w13 =>
 qfd.j1 v_1 bits_2 r14 Q w13
theorem qfd.ok (b_0:Sl) (v_1:Int) (bits_2:Int) (Q:VWP) (w:World) (h:qfd b_0 v_1 bits_2 Q w):Calls Tryz.prog 64 ⟨[sV b_0,.int .i64 v_1,.int .i64 bits_2]⟩ w (Ret Q) :=
 qgc [.tmp 6] qjd Tryz.func64 rfl rfl rfl rfl (.pr 1 [sI 1,sI 2,sL 7] (fun a b c w=>qfd.j1 a b c Q w) (.sq [sL 7] (fun a w=>qfd.j2 a Q w) (.bk (.lo [sI 1] [sI 2,sL 7] (fun a b c w=>qfd.l1 a b c Q w) (fun nx1 a b c w=>qfd.b1 a b c Q nx1 w) fun nx1=>.lf)) .lf)) (by kernel_rfl) h
def qrd (b_0:Sl) (v_1:Int) (Q:VWP) (w:World):Prop :=
 qtc 64 [sV b_0,.int .i64 v_1,.int .i64 32] w fun r3 w2 =>
 Q (sV r3) w2
theorem qrd.ok (b_0:Sl) (v_1:Int) (Q:VWP) (w:World) (h:qrd b_0 v_1 Q w):Calls Tryz.prog 30 ⟨[sV b_0,.int .i64 v_1]⟩ w (Ret Q) :=
 qgc [.tmp 4] qjd Tryz.func30 rfl rfl rfl rfl .lf (by kernel_rfl) h
def qve (b_0:Sl) (v_1:Int) (Q:VWP) (w:World):Prop :=
 qtc 64 [sV b_0,.int .i64 v_1,.int .i64 64] w fun r3 w2 =>
 Q (sV r3) w2
theorem qve.ok (b_0:Sl) (v_1:Int) (Q:VWP) (w:World) (h:qve b_0 v_1 Q w):Calls Tryz.prog 32 ⟨[sV b_0,.int .i64 v_1]⟩ w (Ret Q) :=
 qgc [.tmp 4] qjd Tryz.func32 rfl rfl rfl rfl .lf (by kernel_rfl) h
end Go.Proofs.YtigmbblgfnkpbaaGreat
namespace Go.Proofs.YtigmbblgfnkpbaaGreat
open Go Go.Proofs
set_option linter.unusedVariables false
set_option linter.unusedSimpArgs false
attribute [local irreducible] apK cpK mkK hs
def cellsH (s:W5) (rest:List Int) (n:Int):List Value:=qpe s.l ++ (u8s rest ++ [.int .i64 n])
theorem W5.l_length (s:W5):s.l.length=5:=rfl
theorem qok {s:W5} {rest:List Int} {n:Int} (h:rest.length=64):(cellsH s rest n)[69]?=some (.int .i64 n):=by
 unfold cellsH
 rw [List.getElem?_append_right (by rw [qqc,W5.l_length]; omega),qqc,W5.l_length,List.getElem?_append_right (by rw [qmb]; omega),qmb,h]
 rfl
theorem qei {s:W5} {rest:List Int} {n:Int} (h:rest.length=64):(cellsH s rest n).length=70:=by
 unfold cellsH
 rw [List.length_append,List.length_append,qqc,qmb,W5.l_length,h]
 rfl
theorem cellsH_setn {s:W5} {rest:List Int} {n m:Int} (h:rest.length=64):(cellsH s rest n).set 69 (.int .i64 m)=cellsH s rest m:=by
 unfold cellsH
 rw [List.set_append_right _ _ (by rw [qqc,W5.l_length]; omega),qqc,W5.l_length,List.set_append_right _ _ (by rw [qmb]; omega),qmb,h]
 rfl
theorem cellsH_set {s:W5} {rest:List Int} {n c:Int} {k:Nat} (h:rest.length=64) (hk:k < 64):(cellsH s rest n).set (5+k) (.int .u8 c)=cellsH s (rest.set k c) n:=by
 unfold cellsH
 rw [List.set_append_right _ _ (by rw [qqc,W5.l_length]; omega),qqc,W5.l_length,show 5+k - 5=k by omega,List.set_append_left _ _ (by rw [qmb]; omega),u8s_set]
theorem cellsH_rest {s:W5} {rest:List Int} {n:Int} (h:rest.length=64) {i:Nat} (hi:i < 64):(cellsH s rest n)[5+i]?=(u8s rest)[i]?:=by
 unfold cellsH
 rw [List.getElem?_append_right (by rw [qqc,W5.l_length]; omega),qqc,W5.l_length,show 5+i - 5=i by omega,List.getElem?_append_left (by rw [qmb]; omega)]
def shA (hb:Nat) (xs:List Int):As:=exA fun rest:List Int=>ifA (rest.length=64∧rest.take (xs.length % 64)=xs.drop (64 * (xs.length / 64))∧qje rest) <| qnb hb (cellsH (Go.Proofs.YtigmbblgfnkpbaaGreat.hs xs (xs.length / 64)) rest (xs.length:Int))
section
variable {F0:List Nat} {w0 w:World} {ps:List As}
theorem shA_o {hb:Nat} {xs:List Int} (h:St F0 w0 w (shA hb xs :: ps)):∃ rest:List Int,rest.length=64∧rest.take (xs.length % 64)=xs.drop (64 * (xs.length / 64))∧qje rest∧St F0 w0 w (qnb hb (cellsH (hs xs (xs.length / 64)) rest (xs.length:Int)) :: ps):=by
 obtain ⟨rest,h⟩:=h.exE
 obtain ⟨⟨h1,h2,h3⟩,h⟩:=h.ifE
 exact ⟨rest,h1,h2,h3,h⟩
theorem shA_i {hb:Nat} {xs rest:List Int} (h1:rest.length=64) (h2:rest.take (xs.length % 64)=xs.drop (64 * (xs.length / 64))) (h3:qje rest) (h:St F0 w0 w (qnb hb (cellsH (hs xs (xs.length / 64)) rest (xs.length:Int)) :: ps)):St F0 w0 w (shA hb xs :: ps) :=
 (h.ifI ⟨h1,h2,h3⟩).exI (p:=fun rest:List Int=>ifA (rest.length=64∧rest.take (xs.length % 64)=xs.drop (64 * (xs.length / 64))∧qje rest) <| qnb hb (cellsH (hs xs (xs.length / 64)) rest (xs.length:Int))) rest
theorem allB_set {l:List Int} {k:Nat} {c:Int} (h:qje l) (hc:0≤c∧c < 256):qje (l.set k c):=by
 intro x hx
 rcases List.mem_or_eq_of_mem_set hx with h1 | h1
 · exact h x h1
 · subst h1; exact hc
theorem qfc.c {hb:Nat} {xs zs:List Int} {s:Sl} {K:Ending→World→Prop} (h:St F0 w0 w (shA hb xs :: ps)) (hr:∀ w' p,St F0 w0 w' (p :: ps)→Rd w' 1 s (u8s zs)) (hz:qje zs) (hL:xs.length+zs.length≤1099511627776)
 (hk:∀ w',St F0 w0 w' (shA hb (xs ++ zs) :: ps)→K (.returned (.tuple ⟨[]⟩)) w'):Calls Tryz.prog 71 ⟨[.pointer (some ⟨hb,0,none⟩),.slice s.a s.len s.cap]⟩ w K:=by
 have hs0:=(hr w _ h).1
 rw [qmb] at hs0
 refine qec (qfc.ok _ _ _ _ ?_)
 unfold qfc qfc.j1
 refine qud (fun (i:Nat) (i':Int) w=>i'=i∧i≤zs.length∧St F0 w0 w (shA hb (xs ++ zs.take i) :: ps)) (fun i=>zs.length - i) 0 ⟨rfl,by omega,by simpa using h⟩ ?_
 clear h
 rintro i i' w I μ ⟨rfl,hi,h⟩ hin
 unfold qfc.b1
 refine qmc (fun h1=>?_) (fun h1=>?_)
 · have hiz:i < zs.length:=by omega
   have ei:((i:Int)).toNat * 1=i:=by omega
   refine (hr w _ h).ix (by decide) (by omega) (by omega) fun a ha=>?_
   rw [ei]
   refine (hr w _ h).ldI (n:=zs[i]) ha (by simp [u8s,hiz]) ?_
   have hcb:=hz zs[i] (List.getElem_mem hiz)
   have htk:xs ++ zs.take (i+1)=(xs ++ zs.take i) ++ [zs[i]]:=by rw [List.take_succ_eq_append_getElem hiz,List.append_assoc]
   have hlen:(xs ++ zs.take i).length≤1099511627776:=by rw [List.length_append,List.length_take]; omega
   generalize hy:xs ++ zs.take i=ys at h htk hlen
   generalize zs[i]=c at hcb htk
   refine h.drewK fun w h=>?_
   obtain ⟨rest,r1,r2,r3,h⟩:=shA_o h
   refine qde (h.blk.ldI (o:=69) (qok r1) ?_)
   refine ⟨by decide,?_⟩
   refine qy (qrk (by omega)) ?_
   have em:(ys.length:Int) % 64=(ys.length % 64:Nat):=by omega
   rw [em]
   have hk64:ys.length % 64 < 64:=Nat.mod_lt _ (by decide)
   refine qde (qbi (by omega) (by omega) ?_)
   have eo:0+5+(((ys.length % 64:Nat):Int)).toNat * 1=5+ys.length % 64:=by omega
   rw [eo]
   refine h.st (by rw [qei r1]; omega) trivial fun w h=>?_
   rw [cellsH_set r1 hk64] at h
   have r1':(rest.set (ys.length % 64) c).length=64:=by rw [List.length_set]; exact r1
   refine qde (h.blk.ldI (o:=69) (qok r1') ?_)
   refine qy (qm (by omega) (by omega)) ?_
   refine qde (h.st (o:=69) (by rw [qei r1']; omega) trivial fun w h=>?_)
   rw [cellsH_setn r1'] at h
   refine qde (h.blk.ldI (o:=69) (qok r1') ?_)
   refine ⟨by decide,?_⟩
   refine qy (qrk (by omega)) ?_
   have r3':=allB_set (k:=ys.length % 64) r3 hcb
   have r2':(rest.set (ys.length % 64) c).take (ys.length % 64+1)=(ys ++ [c]).drop (64 * (ys.length / 64)):=by
    rw [List.take_succ_eq_append_getElem (by omega),List.getElem_set_self,List.take_set_of_le (Nat.le_refl _),r2,List.drop_append_of_le_length (by omega)]
   have hl1:(ys ++ [c]).length=ys.length+1:=by simp
   refine qnc (fun h2=>?_) (fun h2=>?_)
   · have h2:((ys.length:Int)+1) % 64=0:=by simpa using h2
     refine qde (h.blk.ldA (cs:=⟨u8s (rest.set (ys.length % 64) c)⟩) (by show (u8s _).length=64; rw [qmb,r1']) (fun j hj=>by rw [qug,Nat.zero_add,cellsH_rest r1' hj]) ?_)
     unfold cellsH at h
     refine qz.c r1' r3' h fun w h=>⟨rfl,?_⟩
     refine qy (qm (by omega) (by omega)) ?_
     refine ⟨⟨rfl,rfl,rfl⟩,hin (i+1) _ _ ⟨by simp,by omega,?_⟩ (by omega)⟩
     rw [htk]
     refine shA_i r1' ?_ r3' ?_
     · rw [hl1,show (ys.length+1) % 64=0 by omega,List.take_zero,List.drop_eq_nil_of_le (by rw [hl1]; omega)]
     · rw [hl1,show (ys.length+1) / 64=ys.length / 64+1 by omega,hs,hs_front ys [c] _ (by omega)]
       have e:((ys ++ [c]).drop (64 * (ys.length / 64))).take 64=rest.set (ys.length % 64) c:=by
        rw [← r2',List.take_of_length_le (l:=(rest.set (ys.length % 64) c)) (by omega),List.take_of_length_le (by omega)]
       rw [e]
       exact h
   · have h2:¬ ((ys.length:Int)+1) % 64=0:=by simpa using h2
     refine qy (qm (by omega) (by omega)) ?_
     refine ⟨⟨rfl,rfl,rfl⟩,hin (i+1) _ _ ⟨by simp,by omega,?_⟩ (by omega)⟩
     rw [htk]
     refine shA_i r1' ?_ r3' ?_
     · rw [hl1,show (ys.length+1) % 64=ys.length % 64+1 by omega,show (ys.length+1) / 64=ys.length / 64 by omega]
       exact r2'
     · rw [hl1,show (ys.length+1) / 64=ys.length / 64 by omega,hs_front ys [c] _ (by omega)]
       exact h
 · have:i=zs.length:=by omega
   subst this
   rw [List.take_length] at h
   exact hk w h
end
end Go.Proofs.YtigmbblgfnkpbaaGreat
namespace Go.Proofs.YtigmbblgfnkpbaaGreat
open Go Go.Proofs
set_option linter.unusedVariables false
set_option linter.unusedSimpArgs false
attribute [local irreducible] apK cpK mkK hs
theorem zc_hash_size:(zc Tryz.prog 149).size=70:=by kernel_rfl
theorem new_cells:spl (zc Tryz.prog 149).toList 0 (⟨[.int .u32 1732584193,.int .u32 4023233417,.int .u32 2562383102,.int .u32 271733878,.int .u32 3285377520]⟩:Array Value)=cellsH init5 (List.replicate 64 0) 0:=by kernel_rfl
def beJ (n j:Nat) (v:Int):List Int:=(List.range j).map fun i=>v / 2 ^ (8 * (n - 1 - i)) % 256
theorem qic (n j:Nat) (v:Int):(beJ n j v).length=j:=by simp [beJ]
theorem qjm (n j:Nat) (v:Int):beJ n (j+1) v=beJ n j v ++ [v / 2 ^ (8 * (n - 1 - j)) % 256]:=by simp [beJ,List.range_succ]
theorem qii (n j:Nat) (v:Int):qje (beJ n j v):=by
 intro x hx
 obtain ⟨i,_,rfl⟩:=List.mem_map.1 hx
 omega
section
variable {F0:List Nat} {w0 w:World} {ps:List As}
theorem St.blkrd {b n:Nat} {l:List Value} (h:St F0 w0 w (qnb b l :: ps)) (hn:l.length=n):St F0 w0 w (rdA 1 ⟨some ⟨b,0,none⟩,n,n⟩ l :: ps):=by
 refine h.mp ?_
 rintro F ⟨hb,rfl⟩
 exact ⟨by simp [hn],Or.inr ⟨b,0,l,rfl,hb.rb,rfl,fun i hi=>by rw [Nat.zero_add]⟩⟩
theorem qff.c {hb:Nat} {xs:List Int} {K:Ending→World→Prop} (h:St F0 w0 w (shA hb xs :: ps)) (hk:∀ tb w',St F0 w0 w' (shA tb xs :: shA hb xs :: ps)→K (.returned (.pointer (some ⟨tb,0,none⟩))) w'):Calls Tryz.prog 103 ⟨[.pointer (some ⟨hb,0,none⟩)]⟩ w K:=by
 refine qec (qff.ok _ _ _ ?_)
 unfold qff
 obtain ⟨rest,r1,r2,r3,h⟩:=shA_o h
 have hlen:=qei (s:=hs xs (xs.length / 64)) (n:=(xs.length:Int)) r1
 refine qde (h.blk.ldA (cs:=⟨cellsH (hs xs (xs.length / 64)) rest (xs.length:Int)⟩) hlen (fun j hj=>by rw [qug,Nat.zero_add]) ?_)
 refine h.new fun nb w h=>?_
 refine ⟨hlen,?_⟩
 have hz:(zc Tryz.prog 149).toList.length=70:=by rw [Array.length_toList]; exact zc_hash_size
 refine h.stA (o:=0) (by rw [hz,Nat.zero_add]; show (cellsH _ _ _).length≤70; omega) ?_ fun w h=>?_
 · intro v hv
   have hv:v ∈ cellsH (hs xs (xs.length / 64)) rest (xs.length:Int):=by simpa using hv
   unfold cellsH at hv
   rcases List.mem_append.1 hv with hv | hv
   · obtain ⟨n,_,rfl⟩:=List.mem_map.1 hv; trivial
   rcases List.mem_append.1 hv with hv | hv
   · obtain ⟨n,_,rfl⟩:=List.mem_map.1 hv; trivial
   · rw [List.mem_singleton.1 hv]; trivial
 · have e:(zc Tryz.prog 149).toList.take 0 ++ (⟨cellsH (hs xs (xs.length / 64)) rest (xs.length:Int)⟩:Array Value).toList ++ (zc Tryz.prog 149).toList.drop (0+(⟨cellsH (hs xs (xs.length / 64)) rest (xs.length:Int)⟩:Array Value).size)=cellsH (hs xs (xs.length / 64)) rest (xs.length:Int):=by
    rw [List.take_zero,List.nil_append,List.drop_eq_nil_of_le (by rw [hz]; show 70≤0+(cellsH _ _ _).length; omega),List.append_nil]
   rw [e] at h
   exact hk nb w ((shA_i r1 r2 r3 h).tail fun _ _ _ h=>shA_i r1 r2 r3 h)
theorem new_as {nb:Nat} {l m:List Value} (e:l=m) (h:St F0 w0 w (qnb nb (⟨l⟩:Array Value).toList :: ps)):St F0 w0 w (qnb nb m :: ps):=by
 subst e; exact h
theorem qvk.c {K:Ending→World→Prop} (h:St F0 w0 w ps) (hk:∀ hb w',St F0 w0 w' (shA hb [] :: ps)→K (.returned (.pointer (some ⟨hb,0,none⟩))) w'):Calls Tryz.prog 70 ⟨[]⟩ w K:=by
 refine qec (qvk.ok _ _ ?_)
 unfold qvk
 refine ⟨rfl,?_⟩
 refine h.new fun nb w h=>?_
 have h:=new_as new_cells h
 refine hk nb w (shA_i (xs:=[]) (rest:=List.replicate 64 0) (by decide) rfl ?_ ?_)
 · intro x hx
   rw [List.eq_of_mem_replicate hx]; decide
 · have e:hs [] (([]:List Int).length / 64)=init5:=by show hs [] 0=init5; rw [hs]
   rw [e]
   exact h
theorem qfd.c {s:Sl} {xs:List Int} {v:Int} {n:Nat} {K:Ending→World→Prop} (h:St F0 w0 w ps) (hr:Rd w 1 s (u8s xs)) (hL:xs.length≤1099511627776) (hn:n≤8)
 (hk:∀ s' w',s'.len=xs.length+n→s'.cap=s'.len→St F0 w0 w' (rdA 1 s' (u8s (xs ++ beJ n n v)) :: ps)→K (.returned (.slice s'.a s'.len s'.cap)) w'):Calls Tryz.prog 64 ⟨[.slice s.a s.len s.cap,.int .i64 v,.int .i64 ((8 * n:Nat):Int)]⟩ w K:=by
 refine qec (qfd.ok _ _ _ _ _ ?_)
 unfold qfd
 refine qsc.c h hr (by omega) fun s1 w h=>⟨s1,rfl,?_⟩
 unfold qfd.j1
 refine qbf (fun (j:Nat) (b':Int) (o':Sl) w=>b'=((8 * (n - j):Nat):Int)∧j≤n∧St F0 w0 w (qjb 1 o' (u8s (xs ++ beJ n j v)) :: ps)) (fun j=>n - j) 0 ⟨rfl,by omega,by simpa [beJ] using h⟩ ?_
 clear h
 rintro j b' o w I μ ⟨rfl,hj,h⟩ hin
 unfold qfd.b1
 refine qmc (fun h1=>?_) (fun h1=>?_)
 · refine qy (qm (by omega) (by omega)) ?_
   have e:((8 * (n - j):Nat):Int) - 8=((8 * (n - 1 - j):Nat):Int):=by omega
   rw [e]
   refine ⟨by omega,?_⟩
   refine qy (qdh .i64 _ (show 8 * (n - 1 - j)≤64 by omega)) ?_
   refine qy (quh _) ?_
   refine h.new fun nb w h=>?_
   refine h.rdB rfl ?_
   refine h.drop.append_u8 (by rw [List.length_append,qic]; omega) rfl fun s2 w h=>?_
   refine ⟨rfl,hin (j+1) _ _ _ ⟨?_,by omega,?_⟩ (by omega)⟩
   · rw [show n - 1 - j=n - (j+1) by omega]
   · rw [qjm,← List.append_assoc]
     exact h
 · have:j=n:=by omega
   subst this
   have hcap:=h.cap (by decide)
   have hlen:=h.len
   rw [qmb,List.length_append,qic] at hlen
   unfold qfd.j2
   refine qkc.c h.ro hcap fun s3 hs1 hs2 h=>⟨s3,rfl,hk s3 w (by omega) (by omega) h⟩
end
end Go.Proofs.YtigmbblgfnkpbaaGreat
namespace Go.Proofs.YtigmbblgfnkpbaaGreat
open Go Go.Proofs
set_option linter.unusedVariables false
set_option linter.unusedSimpArgs false
attribute [local irreducible] apK cpK mkK hs
def okW (s:W5):Prop:=∀ x ∈ s.l,0≤x∧x < 4294967296
theorem okW_hs (xs:List Int):∀ n,okW (hs xs n)
 | 0=>by
   rw [hs]
   intro x hx
   simp [W5.l,init5] at hx
   rcases hx with rfl | rfl | rfl | rfl | rfl <;> decide
 | n+1=>by
   rw [hs]
   unfold blkF
   generalize rounds _ 80 _=y
   generalize hs xs n=z
   intro x hx
   simp only [W5.l,addW,qdj,List.mem_cons,List.not_mem_nil,or_false] at hx
   rcases hx with rfl | rfl | rfl | rfl | rfl <;> omega
theorem qsn:(zc Tryz.prog 24).size=20:=by kernel_rfl
theorem beJ4 (x:Int):beJ 4 4 x=word4 x:=by
 simp [beJ,word4,List.range_succ]
theorem be8_eq (v:Int):beJ 8 8 v=be8 v:=rfl
section
variable {F0:List Nat} {w0 w:World} {ps:List As}
theorem qrd.c {s:Sl} {xs:List Int} {v:Int} {K:Ending→World→Prop} (h:St F0 w0 w ps) (hr:Rd w 1 s (u8s xs)) (hL:xs.length≤1099511627776)
 (hk:∀ s' w',s'.len=xs.length+4→s'.cap=s'.len→St F0 w0 w' (rdA 1 s' (u8s (xs ++ word4 v)) :: ps)→K (.returned (.slice s'.a s'.len s'.cap)) w'):Calls Tryz.prog 30 ⟨[.slice s.a s.len s.cap,.int .i64 v]⟩ w K:=by
 refine qec (qrd.ok _ _ _ _ ?_)
 unfold qrd
 refine qfd.c (n:=4) h hr hL (by decide) fun s' w h1 h2 h=>⟨s',rfl,?_⟩
 rw [beJ4] at h
 exact hk s' w h1 h2 h
theorem qve.c {s:Sl} {xs:List Int} {v:Int} {K:Ending→World→Prop} (h:St F0 w0 w ps) (hr:Rd w 1 s (u8s xs)) (hL:xs.length≤1099511627776)
 (hk:∀ s' w',s'.len=xs.length+8→s'.cap=s'.len→St F0 w0 w' (rdA 1 s' (u8s (xs ++ be8 v)) :: ps)→K (.returned (.slice s'.a s'.len s'.cap)) w'):Calls Tryz.prog 32 ⟨[.slice s.a s.len s.cap,.int .i64 v]⟩ w K:=by
 refine qec (qve.ok _ _ _ _ ?_)
 unfold qve
 refine qfd.c (n:=8) h hr hL (by decide) fun s' w h1 h2 h=>⟨s',rfl,?_⟩
 rw [be8_eq] at h
 exact hk s' w h1 h2 h
theorem qfg (xs:List Int):(qxe xs).length=20:=rfl
theorem qkb.out {tb nb:Nat} {zs:List Int} {c:List Value} (hc:c.length=20) {Q:VWP} (h:St F0 w0 w (shA tb zs :: qnb nb c :: ps))
 (hk:∀ w',St F0 w0 w' ps→Q (.agg ⟨u8s ((hs zs (zs.length / 64)).l.flatMap word4)⟩) w'):qkb.j4 ⟨nb,0,none⟩ (some ⟨tb,0,none⟩) ⟨none,0,0⟩ Q w:=by
 unfold qkb.j4
 obtain ⟨rest,r1,r2,r3,h⟩:=shA_o h
 have hok:=okW_hs zs (zs.length / 64)
 generalize hs zs (zs.length / 64)=s at h hk hok
 refine qde (h.blk.ldA (cs:=⟨qpe s.l⟩) rfl (fun j hj=>?_) ?_)
 · rw [qug]
   unfold cellsH
   rw [List.getElem?_append_left (by rw [qqc,W5.l_length]; omega)]
   congr 1
   omega
 unfold qkb.j6
 refine qbf (fun (i:Nat) (o':Sl) (i':Int) w=>i'=i∧i≤5∧o'.len=4 * i∧St F0 w0 w (rdA 1 o' (u8s ((s.l.take i).flatMap word4)) :: qnb nb c :: ps)) (fun i=>5 - i) 0 ⟨rfl,by omega,rfl,(h.drop.nil 1).ro⟩ ?_
 clear h
 rintro i o i' w I μ ⟨rfl,hi,ho,h⟩ hin
 unfold qkb.b1
 refine qmc (fun h1=>?_) (fun h1=>?_)
 · refine ⟨by omega,?_⟩
   have ei:((i:Int)).toNat * 1=i:=by omega
   have hil:i < s.l.length:=by rw [W5.l_length]; omega
   rw [ei]
   refine ⟨s.l[i],?_,?_⟩
   · rw [qug]; simp [qpe,hil]
   have hb:=hok s.l[i] (List.getElem_mem hil)
   refine qy (qm (by omega) (by omega)) ?_
   have hlen:=h.rd.1
   rw [qmb] at hlen
   refine qrd.c h h.rd (by omega) fun o2 w l1 l2 h=>⟨o2,rfl,?_⟩
   refine qy (qm (by omega) (by omega)) ?_
   refine ⟨⟨rfl,rfl⟩,hin (i+1) _ _ _ ⟨by simp,by omega,by omega,?_⟩ (by omega)⟩
   rw [List.take_succ_eq_append_getElem hil,List.flatMap_append,List.flatMap_singleton]
   exact h.tail fun _ _ _ h=>h.drop
 · have:i=5:=by omega
   subst this
   have hfl:s.l.take 5=s.l:=rfl
   rw [hfl] at h
   unfold qkb.j5
   refine ⟨by omega,?_⟩
   have hr:=h.rd
   obtain ⟨a,ha,_⟩:=hr.2 0 (by show 0 < 20; decide)
   rw [ha]
   refine qde ⟨⟨u8s (s.l.flatMap word4)⟩,rfl,fun j hj=>?_,?_⟩
   · rw [hr.cell ha (by show j < 20; exact hj),qug]
   refine ⟨rfl,?_⟩
   refine h.at1.stA (o:=0) (by rw [hc]; exact Nat.le_refl 20) ?_ fun w h=>?_
   · intro v hv
     have hv:v ∈ u8s (s.l.flatMap word4):=by simpa using hv
     obtain ⟨n,_,rfl⟩:=List.mem_map.1 hv
     trivial
   · have e:c.take 0 ++ (⟨u8s (s.l.flatMap word4)⟩:Array Value).toList ++ c.drop (0+(⟨u8s (s.l.flatMap word4)⟩:Array Value).size)=u8s (s.l.flatMap word4):=by
      rw [List.take_zero,List.nil_append,List.drop_eq_nil_of_le (by rw [hc]; exact Nat.le_refl 20),List.append_nil]
     rw [e] at h
     refine h.blk.ldA (cs:=⟨u8s (s.l.flatMap word4)⟩) rfl (fun j hj=>by rw [qug,Nat.zero_add]) ?_
     exact hk w h.drop.drop
theorem St.tail1 {p q r:As} (h:St F0 w0 w (p :: q :: r :: ps)):St F0 w0 w (p :: r :: ps):=h.tail fun _ _ _ h=>h.drop
theorem qkb.c {hb:Nat} {xs:List Int} {K:Ending→World→Prop} (h:St F0 w0 w (shA hb xs :: ps)) (hL:xs.length≤34359738368)
 (hk:∀ w',St F0 w0 w' (shA hb xs :: ps)→K (.returned (.agg ⟨u8s (qxe xs)⟩)) w'):Calls Tryz.prog 72 ⟨[.pointer (some ⟨hb,0,none⟩)]⟩ w K:=by
 refine qec (qkb.ok _ _ _ ?_)
 unfold qkb
 refine h.new fun nb w h=>?_
 have hz:(zc Tryz.prog 24).toList.length=20:=by rw [Array.length_toList]; exact qsn
 generalize (zc Tryz.prog 24).toList=c at h hz
 unfold qkb.j1
 refine qff.c h.at1 fun tb w h=>⟨_,rfl,?_⟩
 refine h.new fun n1 w h=>?_
 have h:=(h.blkrd (n:=1) rfl).at1
 refine qfc.c (s:=⟨some ⟨n1,0,none⟩,1,1⟩) (zs:=[128]) h (fun w' p h=>h.drop.rd) (by intro x hx; rw [List.mem_singleton.1 hx]; decide) (by simp; omega) fun w h=>⟨rfl,?_⟩
 have h:=h.tail1
 unfold qkb.j2
 refine loop0 (fun (j:Nat) w=>j≤(119 - xs.length % 64) % 64∧St F0 w0 w (shA tb (xs ++ [128] ++ List.replicate j 0) :: shA hb xs :: qnb nb c :: ps)) (fun j=>64 - j) 0 ⟨by omega,by simpa using h⟩ ?_
 clear h
 rintro j w I μ ⟨hj,h⟩ hin
 unfold qkb.b2
 obtain ⟨rest,r1,r2,r3,h⟩:=shA_o h
 have hyl:(xs ++ [128] ++ List.replicate j 0).length=xs.length+1+j:=by simp; omega
 refine qde (h.blk.ldI (o:=69) (qok r1) ?_)
 have h:=shA_i r1 r2 r3 h
 refine ⟨by decide,?_⟩
 refine qy (qrk (by omega)) ?_
 refine qnc (fun h1=>?_) (fun h1=>?_)
 · have h1:¬ ((xs ++ [128] ++ List.replicate j 0).length:Int) % 64=56:=by simpa using h1
   refine h.new fun n2 w h=>?_
   have h:=(h.blkrd (n:=1) rfl).at1
   refine qfc.c (s:=⟨some ⟨n2,0,none⟩,1,1⟩) (zs:=[0]) h (fun w' p h=>h.drop.rd) (by intro x hx; rw [List.mem_singleton.1 hx]; decide) (by simp; omega) fun w h=>⟨rfl,?_⟩
   refine ⟨⟨rfl,rfl,rfl⟩,hin (j+1) _ ⟨by omega,?_⟩ (by omega)⟩
   rw [List.replicate_succ',← List.append_assoc]
   exact h.tail1
 · have h1:((xs ++ [128] ++ List.replicate j 0).length:Int) % 64=56:=by simpa using h1
   have hjz:j=(119 - xs.length % 64) % 64:=by omega
   unfold qkb.j3
   obtain ⟨rest,r1,r2,r3,h2⟩:=shA_o h.at1
   refine qde (h2.blk.ldI (o:=69) (qok r1) ?_)
   refine qy (qm (by omega) (by omega)) ?_
   refine qve.c (s:=⟨none,0,0⟩) (xs:=[]) h ⟨rfl,fun i hi=>by simp [u8s] at hi⟩ (by simp) fun s w l1 l2 h=>⟨s,rfl,?_⟩
   refine qfc.c (zs:=be8 (8 * xs.length)) h.at1 (fun w' p h=>h.drop.rd) (qii 8 8 _) (by rw [hyl]; show _+8≤_; omega) fun w h=>⟨rfl,?_⟩
   have e:xs ++ [128] ++ List.replicate j 0 ++ be8 (8 * xs.length)=padded xs:=by rw [padded,zeros,hjz]
   rw [e] at h
   refine qkb.out hz (h.tail1.tail fun _ _ _ h=>h.at1) fun w h=>hk w h
end
end Go.Proofs.YtigmbblgfnkpbaaGreat
namespace Go.Proofs.YtigmbblgfnkpbaaGreat
open Go Go.Proofs
set_option linter.unusedVariables false
set_option linter.unusedSimpArgs false
attribute [local irreducible] apK cpK mkK hs qxe
section
variable {F0:List Nat} {w0 w:World} {ps:List As}
theorem qog (xs:List Int):(u8s (qxe xs)).length=20:=by rw [qmb]; exact qfg xs
theorem quf {l:List Int}:∀ v ∈ (⟨u8s l⟩:Array Value),storable v:=by
 intro v hv
 have hv:v ∈ u8s l:=by simpa using hv
 obtain ⟨n,_,rfl⟩:=List.mem_map.1 hv
 trivial
theorem St.st20 {nb:Nat} {c l:List Value} {K:World→Prop} (h:St F0 w0 w (qnb nb c :: ps)) (hc:c.length=20) (hl:l.length=20) (hs:∀ v ∈ (⟨l⟩:Array Value),storable v)
 (hk:∀ w',St F0 w0 w' (qnb nb l :: ps)→K w'):Go.Proofs.YtigmbblgfnkpbaaGreat.stA w ⟨nb,0,none⟩ ⟨l⟩ K:=by
 refine h.stA (o:=0) (by show 0+l.length≤c.length; omega) hs fun w' h=>hk w' ?_
 have e:c.take 0 ++ (⟨l⟩:Array Value).toList ++ c.drop (0+(⟨l⟩:Array Value).size)=l:=by
  rw [List.take_zero,List.nil_append,List.drop_eq_nil_of_le (by show c.length≤0+l.length; omega),List.append_nil]
 rwa [e] at h
theorem St.ld20 {nb n:Nat} {l:List Value} {K:Array Value→Prop} (h:St F0 w0 w (qnb nb l :: ps)) (hl:l.length=n) (hk:K ⟨l⟩):ldA w ⟨nb,0,none⟩ n K :=
 h.blk.ldA (cs:=⟨l⟩) hl (fun j hj=>by rw [qug,Nat.zero_add]) hk
theorem qwh.c {s:Sl} {xs:List Int} {K:Ending→World→Prop} (h:St F0 w0 w ps) (hr:∀ w' p q,St F0 w0 w' (p :: q :: ps)→Rd w' 1 s (u8s xs)) (hx:qje xs) (hL:xs.length≤34359738368)
 (hk:∀ w',St F0 w0 w' ps→K (.returned (.agg ⟨u8s (qxe xs)⟩)) w'):Calls Tryz.prog 38 ⟨[.slice s.a s.len s.cap]⟩ w K:=by
 refine qec (qwh.ok _ _ _ ?_)
 unfold qwh
 refine h.new fun nb w h=>?_
 have hz:(zc Tryz.prog 24).toList.length=20:=by rw [Array.length_toList]; exact qsn
 generalize (zc Tryz.prog 24).toList=c at h hz
 refine qvk.c h fun hb w h=>⟨_,rfl,?_⟩
 refine qfc.c h (fun w' p h=>hr w' p _ h) hx (by simp; omega) fun w h=>⟨rfl,?_⟩
 rw [List.nil_append] at h
 refine qkb.c h hL fun w h=>⟨_,rfl,?_⟩
 refine ⟨qog xs,?_⟩
 refine h.drop.st20 hz (qog xs) quf fun w h=>?_
 refine h.ld20 (qog xs) ?_
 exact hk w h.drop
end
end Go.Proofs.YtigmbblgfnkpbaaGreat
namespace Go.Proofs.YtigmbblgfnkpbaaGreat
open Go Go.Proofs
set_option linter.unusedVariables false
set_option linter.unusedSimpArgs false
attribute [local irreducible] apK cpK mkK hs qxe rounds qkf
theorem or32 {a b t m:Nat} (hm:m=2 ^ t) (ha:a < m) (hs:a+b * m < 4294967296):orV .u32 ((b * m:Nat):Int) (a:Int)=((a+b * m:Nat):Int):=by
 subst hm
 have h:=orV_uadd (k:=.u32) (a:=a) (b:=b) (t:=t) rfl ha hs
 rw [qdm]
 have e:((b * 2 ^ t:Nat):Int)=(b:Int) * 2 ^ t:=by simp
 rw [e,h,Int.natCast_add,e]
theorem shl32 {a t m:Nat} (hm:m=2 ^ t) (ht:t≤32) (hs:a * m < 4294967296):qpf .u32 (a:Int) (t:Int)=((a * m:Nat):Int):=by
 subst hm
 rw [shlV_u (k:=.u32) rfl ht hs]
 simp
theorem word_of {a b c d:Int} (ha:0≤a∧a < 256) (hb:0≤b∧b < 256) (hc:0≤c∧c < 256) (hd:0≤d∧d < 256) :
 orV .u32 (orV .u32 (orV .u32 (qpf .u32 a 24) (qpf .u32 b 16)) (qpf .u32 c 8)) d=be [a,b,c,d]:=by
 obtain ⟨a,rfl⟩:∃ n:Nat,a=n:=⟨a.toNat,by omega⟩
 obtain ⟨b,rfl⟩:∃ n:Nat,b=n:=⟨b.toNat,by omega⟩
 obtain ⟨c,rfl⟩:∃ n:Nat,c=n:=⟨c.toNat,by omega⟩
 obtain ⟨d,rfl⟩:∃ n:Nat,d=n:=⟨d.toNat,by omega⟩
 have h1:qpf .u32 (a:Int) 24=((a * 16777216:Nat):Int):=shl32 (t:=24) (by decide) (by decide) (by omega)
 have h2:qpf .u32 (b:Int) 16=((b * 65536:Nat):Int):=shl32 (t:=16) (by decide) (by decide) (by omega)
 have h3:qpf .u32 (c:Int) 8=((c * 256:Nat):Int):=shl32 (t:=8) (by decide) (by decide) (by omega)
 have u1:=or32 (a:=b * 65536) (b:=a) (t:=24) (m:=16777216) (by decide) (by omega) (by omega)
 have u2:=or32 (a:=c * 256) (b:=b+a * 256) (t:=16) (m:=65536) (by decide) (by omega) (by omega)
 have u3:=or32 (a:=d) (b:=c+(b+a * 256) * 256) (t:=8) (m:=256) (by decide) (by omega) (by omega)
 rw [show (b+a * 256) * 65536=b * 65536+a * 16777216 by omega] at u2
 rw [show (c+(b+a * 256) * 256) * 256=c * 256+(b * 65536+a * 16777216) by omega] at u3
 rw [h1,h2,h3,u1,u2,u3]
 simp only [be,List.foldl_cons,List.foldl_nil]
 omega
section
variable {F0:List Nat} {w0 w:World} {ps:List As}
theorem qwe.c {s:Sl} {xs:List Int} {K:Ending→World→Prop} (hr:Rd w 1 s (u8s xs)) (hx:qje xs) (hl:4≤xs.length) (hk:∀ w',Mod [] w w'→K (.returned (.int .u32 (be (xs.take 4)))) w'):Calls Tryz.prog 106 ⟨[.slice s.a s.len s.cap]⟩ w K:=by
 have hs:=hr.1
 rw [qmb] at hs
 refine qec (qwe.ok _ _ _ ?_)
 unfold qwe
 refine qed ?_
 have hr:=hr.keep (Mod.drew w) (by simp)
 match xs,hl,hx,hr,hk with
 | a :: b :: c :: d :: r,_,hx,hr,hk =>
   have ha:=hx a (by simp)
   have hb:=hx b (by simp)
   have hc:=hx c (by simp)
   have hd:=hx d (by simp)
   refine hr.ix (by decide) (by decide) (by omega) fun p hp=>?_
   refine hr.ldI (i:=0) (n:=a) hp rfl ?_
   refine qy (show IntKind.u32.wrap a=a by rw [qdj]; omega) ?_
   refine ⟨by decide,qed ?_⟩
   refine hr.ix (by decide) (by decide) (by omega) fun p hp=>?_
   refine hr.ldI (i:=1) (n:=b) hp rfl ?_
   refine qy (show IntKind.u32.wrap b=b by rw [qdj]; omega) ?_
   refine ⟨by decide,qed (qed ?_)⟩
   refine hr.ix (by decide) (by decide) (by omega) fun p hp=>?_
   refine hr.ldI (i:=2) (n:=c) hp rfl ?_
   refine qy (show IntKind.u32.wrap c=c by rw [qdj]; omega) ?_
   refine ⟨by decide,qed (qed ?_)⟩
   refine hr.ix (by decide) (by decide) (by omega) fun p hp=>?_
   refine hr.ldI (i:=3) (n:=d) hp rfl ?_
   refine qy (show IntKind.u32.wrap d=d by rw [qdj]; omega) ?_
   refine qy (word_of ha hb hc hd) ?_
   exact hk _ (Mod.drew w)
end
end Go.Proofs.YtigmbblgfnkpbaaGreat
namespace Go.Proofs.YtigmbblgfnkpbaaGreat
open Go Go.Proofs
set_option linter.unusedVariables false
set_option linter.unusedSimpArgs false
attribute [local irreducible] apK cpK mkK hs qxe rounds qkf
theorem zc_u32:zc Tryz.prog 125=#[.int .u32 0]:=by kernel_rfl
theorem zc_w5:zc Tryz.prog 126=⟨qpe [0,0,0,0,0]⟩:=by kernel_rfl
theorem info_u32:Tryz.prog.info? 125=some Tryz.t125:=by kernel_rfl
theorem bytes_u32:Tryz.prog.bytesOf 125≤16:=by
 rw [Program.bytesOf,info_u32]
 decide
section
variable {F0:List Nat} {w0 w:World} {ps:List As}
theorem St.ldo32 {s:Sl} {l:List Int} {i:Int} {j:Nat} {K:Int→Prop} (h:St F0 w0 w (qjb 1 s (qpe l) :: ps)) (hi:i=j) (hj:j < l.length) (hk:K (l.getD j 0)):ixS s.a s.len i 1 fun a=>ldI .u32 w a K:=by
 subst hi
 have hr:=h.ord
 have hl:=hr.1
 rw [qqc] at hl
 refine hr.ix (by decide) (by omega) (by omega) fun a ha=>?_
 rw [show ((j:Int)).toNat * 1=j by omega]
 exact hr.ldI ha (qej hj) hk
theorem St.sto32 {s:Sl} {l:List Int} {i v:Int} {j:Nat} {K:World→Prop} (h:St F0 w0 w (qjb 1 s (qpe l) :: ps)) (hi:i=j) (hj:j < l.length) (hk:∀ w',St F0 w0 w' (qjb 1 s (qpe (l.set j v)) :: ps)→K w'):ixS s.a s.len i 1 fun a=>Go.Proofs.YtigmbblgfnkpbaaGreat.st w a (.int .u32 v) K:=by
 subst hi
 have hr:=h.ord
 have hl:=hr.1
 rw [qqc] at hl
 refine hr.ix (by decide) (by omega) (by omega) fun a ha=>?_
 rw [show ((j:Int)).toNat * 1=j by omega]
 refine h.setO ha (by rw [qqc]; exact hj) trivial fun w h=>hk w ?_
 rw [u32s_set] at h
 exact h
theorem St.ldx {nb n:Nat} {l:List Int} {i:Int} {j:Nat} {K:Int→Prop} (h:St F0 w0 w (qnb nb (qpe l) :: ps)) (hi:i=j) (hn:l.length=n) (hj:j < n) (hk:K (l.getD j 0)):ixA ⟨nb,0,none⟩ n i 1 fun a=>ldI .u32 w a K:=by
 subst hi
 refine qbi (by omega) (by omega) ?_
 exact h.ldu32' (i:=j) (by omega) (by omega) hk
theorem St.stx {nb n:Nat} {l:List Int} {i v:Int} {j:Nat} {K:World→Prop} (h:St F0 w0 w (qnb nb (qpe l) :: ps)) (hi:i=j) (hn:l.length=n) (hj:j < n) (hk:∀ w',St F0 w0 w' (qnb nb (qpe (l.set j v)) :: ps)→K w'):ixA ⟨nb,0,none⟩ n i 1 fun a=>Go.Proofs.YtigmbblgfnkpbaaGreat.st w a (.int .u32 v) K:=by
 subst hi
 refine qbi (by omega) (by omega) ?_
 exact h.stu32 (i:=j) (by omega) (by omega) hk
theorem St.st5 {nb:Nat} {c l:List Value} {n:Nat} {K:World→Prop} (h:St F0 w0 w (qnb nb c :: ps)) (hc:c.length=n) (hl:l.length=n) (hs:∀ v ∈ (⟨l⟩:Array Value),storable v)
 (hk:∀ w',St F0 w0 w' (qnb nb l :: ps)→K w'):Go.Proofs.YtigmbblgfnkpbaaGreat.stA w ⟨nb,0,none⟩ ⟨l⟩ K:=by
 refine h.stA (o:=0) (by show 0+l.length≤c.length; omega) hs fun w' h=>hk w' ?_
 have e:c.take 0 ++ (⟨l⟩:Array Value).toList ++ c.drop (0+(⟨l⟩:Array Value).size)=l:=by
  rw [List.take_zero,List.nil_append,List.drop_eq_nil_of_le (by show c.length≤0+l.length; omega),List.append_nil]
 rwa [e] at h
theorem qyg {l:List Int}:∀ v ∈ (⟨qpe l⟩:Array Value),storable v:=by
 intro v hv
 have hv:v ∈ qpe l:=by simpa using hv
 obtain ⟨n,_,rfl⟩:=List.mem_map.1 hv
 trivial
theorem qg.add {n2 n4 n8:Nat} {s x:W5} {c:List Value} (hc:c.length=5) {Q:VWP} (h:St F0 w0 w (qnb n2 (qpe s.l) :: qnb n8 (qpe x.l) :: qnb n4 c :: ps))
 (hk:∀ w',St F0 w0 w' ps→Q (.agg ⟨qpe (addW s x).l⟩) w'):qg.j5 ⟨n2,0,none⟩ ⟨n4,0,none⟩ ⟨n8,0,none⟩ Q w:=by
 unfold qg.j5 qg.j7
 refine qud (fun (i:Nat) (i':Int) w=>i'=i∧i≤5∧St F0 w0 w (qnb n2 (qpe (someW s x i)) :: qnb n8 (qpe x.l) :: qnb n4 c :: ps)) (fun i=>5 - i) 0 ⟨rfl,by omega,h⟩ ?_
 clear h
 rintro i i' w I μ ⟨rfl,hi,h⟩ hin
 unfold qg.b1
 refine qmc (fun h1=>?_) (fun h1=>?_)
 · have hi5:i < 5:=by omega
   refine h.drewK fun w h=>?_
   refine h.ldx (j:=i) rfl rfl hi5 ?_
   refine h.at1.ldx (j:=i) rfl rfl hi5 ?_
   refine qed ?_
   refine h.stx (j:=i) rfl rfl hi5 fun w h=>?_
   refine qy (qm (by omega) (by omega)) ?_
   refine ⟨⟨rfl,rfl,rfl⟩,hin (i+1) _ _ ⟨by simp,by omega,?_⟩ (by omega)⟩
   have hc:i=0 ∨ i=1 ∨ i=2 ∨ i=3 ∨ i=4:=by omega
   rcases hc with rfl | rfl | rfl | rfl | rfl <;> exact h
 · have:i=5:=by omega
   subst this
   unfold qg.j6
   have h:St F0 w0 w (qnb n2 (qpe (addW s x).l) :: qnb n8 (qpe x.l) :: qnb n4 c :: ps):=h
   refine h.ld20 rfl ?_
   refine ⟨rfl,?_⟩
   refine h.at2.st5 hc rfl qyg fun w h=>?_
   refine h.ld20 rfl ?_
   exact hk w h.drop.drop.drop
end
end Go.Proofs.YtigmbblgfnkpbaaGreat
namespace Go.Proofs.YtigmbblgfnkpbaaGreat
open Go Go.Proofs
set_option linter.unusedVariables false
set_option linter.unusedSimpArgs false
attribute [local irreducible] apK cpK mkK hs qxe rounds qkf
section
variable {F0:List Nat} {w0 w:World} {ps:List As}
theorem qg.last {n8:Nat} {x:W5} {t:Nat} {v:Int} {t2 t4:Addr} {t5:Sl} {Q:VWP} {nx:Addr→Addr→Sl→Addr→Int→World→Prop} (ht:t < 80) (h:St F0 w0 w (qnb n8 (qpe x.l) :: ps))
 (hk:∀ w',St F0 w0 w' (qnb n8 (qpe [v,x.a,lf x.b 30,x.c,x.d]) :: ps)→nx t2 t4 t5 ⟨n8,0,none⟩ ((t:Int)+1) w'):qg.j13 t2 t4 t5 ⟨n8,0,none⟩ t v Q nx w:=by
 unfold qg.j13
 refine h.ldx (j:=3) rfl rfl (by decide) ?_
 refine h.stx (j:=4) rfl rfl (by decide) fun w h=>?_
 refine h.ldx (j:=2) rfl rfl (by decide) ?_
 refine h.stx (j:=3) rfl rfl (by decide) fun w h=>?_
 refine h.ldx (j:=1) rfl rfl (by decide) ?_
 refine qvc.c (by decide) ⟨_,rfl,?_⟩
 refine h.stx (j:=2) rfl rfl (by decide) fun w h=>?_
 refine h.ldx (j:=0) rfl rfl (by decide) ?_
 refine h.stx (j:=1) rfl rfl (by decide) fun w h=>?_
 refine h.stx (j:=0) rfl rfl (by decide) fun w h=>?_
 unfold qg.j10
 refine qy (qm (by omega) (by omega)) ?_
 exact hk w h
theorem qg.mid {n8:Nat} {x:W5} {l:List Int} {t:Nat} {f k:Int} {t2 t4:Addr} {t5:Sl} {Q:VWP} {nx:Addr→Addr→Sl→Addr→Int→World→Prop} (ht:t < 80) (hl:l.length=80) (hf:(mixF t x.b x.c x.d)=(f,k))
 (h:St F0 w0 w (qnb n8 (qpe x.l) :: qjb 1 t5 (qpe l) :: ps))
 (hk:∀ w',St F0 w0 w' (qnb n8 (qpe (stepF t (l.getD t 0) x).l) :: qjb 1 t5 (qpe l) :: ps)→nx t2 t4 t5 ⟨n8,0,none⟩ ((t:Int)+1) w'):qg.j12 t2 t4 t5 ⟨n8,0,none⟩ t f k Q nx w:=by
 have e:(stepF t (l.getD t 0) x).l=[IntKind.u32.wrap (IntKind.u32.wrap (IntKind.u32.wrap (IntKind.u32.wrap (lf x.a 5+f)+x.e)+k)+l.getD t 0),x.a,lf x.b 30,x.c,x.d]:=by
  unfold stepF
  rw [hf]
  rfl
 rw [e] at hk
 unfold qg.j12
 refine h.drewK fun w h=>?_
 have hr:=h.at1.ord
 have hlen:=hr.1
 rw [qqc] at hlen
 refine h.ldx (j:=0) rfl rfl (by decide) ?_
 refine qbi (by decide) (by decide) ?_
 refine hr.ix (by decide) (by omega) (by omega) fun a ha=>?_
 rw [show ((t:Int)).toNat * 1=t by omega]
 have l4:∀ {K:Int→Prop},K x.e→ldI .u32 w ⟨n8,0+(4:Int).toNat * 1,none⟩ K:=fun hK=>h.ldu32' (i:=4) rfl (by show 4 < 5; decide) hK
 have lw:∀ {K:Int→Prop},K (l.getD t 0)→ldI .u32 w (a.add t) K:=fun hK=>hr.ldI ha (qej (by omega)) hK
 refine ⟨?_,?_,?_⟩
 · refine qvc.c (by decide) ⟨_,rfl,qed ⟨?_,?_⟩⟩
   · exact l4 (qed (qed (lw (qed (qg.last ht h hk)))))
   · exact lw (l4 (qed (qed (qed (qg.last ht h hk)))))
 · refine l4 ⟨?_,?_⟩
   · exact qvc.c (by decide) ⟨_,rfl,qed (qed (qed (lw (qed (qg.last ht h hk)))))⟩
   · exact lw (qvc.c (by decide) ⟨_,rfl,qed (qed (qed (qed (qg.last ht h hk))))⟩)
 · refine lw ⟨?_,?_⟩
   · exact qvc.c (by decide) ⟨_,rfl,qed (l4 (qed (qed (qed (qg.last ht h hk)))))⟩
   · exact l4 (qvc.c (by decide) ⟨_,rfl,qed (qed (qed (qed (qg.last ht h hk))))⟩)
theorem qg.loop {n2 n4 n8:Nat} {s:W5} {l:List Int} {c:List Value} {t5:Sl} (hl:l.length=80) (hc:c.length=5) {Q:VWP}
 (h:St F0 w0 w (qnb n8 (qpe s.l) :: qjb 1 t5 (qpe l) :: qnb n2 (qpe s.l) :: qnb n4 c :: ps))
 (hk:∀ w',St F0 w0 w' ps→Q (.agg ⟨qpe (addW s (rounds l 80 s)).l⟩) w'):qg.j4 ⟨n2,0,none⟩ ⟨n4,0,none⟩ t5 ⟨n8,0,none⟩ Q w:=by
 unfold qg.j4 qg.j8
 refine qud (fun (t:Nat) (t':Int) w=>t'=t∧t≤80∧St F0 w0 w (qnb n8 (qpe (rounds l t s).l) :: qjb 1 t5 (qpe l) :: qnb n2 (qpe s.l) :: qnb n4 c :: ps)) (fun t=>80 - t) 0 ⟨rfl,by omega,by rw [rounds]; exact h⟩ ?_
 clear h
 rintro t t' w I μ ⟨rfl,ht,h⟩ hin
 have hr:rounds l (t+1) s=stepF t (l.getD t 0) (rounds l t s):=by rw [rounds]
 generalize hx:rounds l t s=x at h hr
 unfold qg.b2
 refine qmc (fun h1=>?_) (fun h1=>?_)
 · have ht80:t < 80:=by omega
   have fin:∀ w',St F0 w0 w' (qnb n8 (qpe (stepF t (l.getD t 0) x).l) :: qjb 1 t5 (qpe l) :: qnb n2 (qpe s.l) :: qnb n4 c :: ps) →
    ((⟨n2,0,none⟩:Addr)=⟨n2,0,none⟩∧(⟨n4,0,none⟩:Addr)=⟨n4,0,none⟩∧t5=t5∧(⟨n8,0,none⟩:Addr)=⟨n8,0,none⟩)∧I ((t:Int)+1) w'∧μ ((t:Int)+1) w' < μ (t:Int) w:=by
    intro w' h
    rw [← hr] at h
    exact ⟨⟨rfl,rfl,rfl,rfl⟩,hin (t+1) _ _ ⟨by simp,by omega,h⟩ (by omega)⟩
   unfold qg.j9 qg.j11
   have x1:∀ {K:Int→Prop},K x.b→ixA ⟨n8,0,none⟩ 5 1 1 fun a=>ldI .u32 w a K:=fun hK=>h.ldx (j:=1) rfl rfl (by decide) hK
   have x2:∀ {K:Int→Prop},K x.c→ixA ⟨n8,0,none⟩ 5 2 1 fun a=>ldI .u32 w a K:=fun hK=>h.ldx (j:=2) rfl rfl (by decide) hK
   have x3:∀ {K:Int→Prop},K x.d→ixA ⟨n8,0,none⟩ 5 3 1 fun a=>ldI .u32 w a K:=fun hK=>h.ldx (j:=3) rfl rfl (by decide) hK
   refine qmc (fun h2=>?_) (fun h2=>?_)
   · refine x1 (x2 (qed (x1 (qed (x3 (qed (qed ?_)))))))
     exact qg.mid ht80 hl (by unfold mixF; rw [if_pos (by omega)]; rfl) h fin
   refine qmc (fun h3=>?_) (fun h3=>?_)
   · refine x1 (x2 (qed (x3 (qed ?_))))
     exact qg.mid ht80 hl (by unfold mixF; rw [if_neg (by omega),if_pos (by omega)]) h fin
   refine qmc (fun h4=>?_) (fun h4=>?_)
   · refine x1 (x2 (qed (x1 (x3 (qed (qed (x2 (x3 (qed (qed ?_))))))))))
     exact qg.mid ht80 hl (by unfold mixF; rw [if_neg (by omega),if_neg (by omega),if_pos (by omega)]) h fin
   · refine x1 (x2 (qed (x3 (qed ?_))))
     exact qg.mid ht80 hl (by unfold mixF; rw [if_neg (by omega),if_neg (by omega),if_neg (by omega)]) h fin
 · have:t=80:=by omega
   subst this
   refine qg.add (x:=x) hc (h.at2.tail fun _ _ _ h=>h.tail1) ?_
   rw [← hx]
   exact hk
end
end Go.Proofs.YtigmbblgfnkpbaaGreat
namespace Go.Proofs.YtigmbblgfnkpbaaGreat
open Go Go.Proofs
set_option linter.unusedVariables false
set_option linter.unusedSimpArgs false
attribute [local irreducible] apK cpK mkK hs qxe rounds qkf
section
variable {F0:List Nat} {w0 w:World} {ps:List As}
theorem rep_u32 (n:Nat):List.replicate n (Value.int .u32 0)=qpe (List.replicate n 0):=by
 unfold qpe
 rw [List.map_replicate]
theorem base_take {p:List Int} {t:Nat} (ht:t < 16):(qyd p).take (t+1)=(qyd p).take t ++ [be ((p.drop (4 * t)).take 4)]:=by
 have hl:(qyd p).length=16:=by simp [qyd]
 rw [List.take_succ_eq_append_getElem (by omega)]
 congr 1
 simp [qyd]
theorem set_next {l:List Int} {k:Nat} {v:Int} (hk:0 < k):(l ++ List.replicate k 0).set l.length v=(l ++ [v]) ++ List.replicate (k - 1) 0:=by
 rw [List.set_append_right _ _ (Nat.le_refl _),Nat.sub_self]
 cases k with
 | zero=>omega
 | succ k =>
   rw [List.replicate_succ,List.set_cons_zero,List.append_assoc]
   rfl
theorem qg.c {sl:Sl} {s:W5} {p:List Int} {K:Ending→World→Prop} (hp:p.length=64) (hpb:qje p) (hcap:sl.len≤sl.cap) (h:St F0 w0 w ps) (hr:∀ w' qs,St F0 w0 w' (qs ++ ps)→Rd w' 1 sl (u8s p))
 (hk:∀ w',St F0 w0 w' ps→K (.returned (.agg ⟨qpe (blkF s p).l⟩)) w'):Calls Tryz.prog 79 ⟨[.agg ⟨qpe s.l⟩,.slice sl.a sl.len sl.cap]⟩ w K:=by
 unfold blkF at hk
 have hsl:=(hr w [] h).1
 rw [qmb] at hsl
 refine qec (qg.ok _ _ _ _ ?_)
 unfold qg
 refine h.new fun n2 w h=>?_
 refine h.new fun n4 w h=>?_
 rw [zc_w5] at h
 refine h.make1 (n:=80) zc_u32 rfl rfl (by decide) bytes_u32 fun t5 w hl5 hc5 h=>?_
 rw [rep_u32] at h
 unfold qg.j1 qg.j15
 have hb16:(qyd p).length=16:=by simp [qyd]
 refine qud (fun (t:Nat) (t':Int) w=>t'=t∧t≤16∧St F0 w0 w (qjb 1 t5 (qpe ((qyd p).take t ++ List.replicate (80 - t) 0)) :: qnb n4 (qpe [0,0,0,0,0]) :: qnb n2 (qpe s.l) :: ps)) (fun t=>16 - t) 0 ⟨rfl,by omega,h⟩ ?_
 clear h
 rintro t t' w I μ ⟨rfl,ht,h⟩ hin
 unfold qg.b4
 refine qmc (fun h1=>?_) (fun h1=>?_)
 · refine qy (qm (by omega) (by omega)) ?_
   refine ⟨⟨by omega,by omega⟩,qed ?_⟩
   have hrd:=hr w [_,_,_] h
   have e4:(4 * (t:Int)).toNat=4 * t:=by omega
   rw [e4]
   have hcut:=hrd.cut (n:=4 * t) (m:=sl.len) (by decide) (Nat.le_refl _) (by omega) hcap (sl.cap - 4 * t)
   have ec:((u8s p).drop (4 * t * 1)).take ((sl.len - 4 * t) * 1)=u8s (p.drop (4 * t)):=by
    rw [Nat.mul_one,Nat.mul_one,List.take_of_length_le (by rw [List.length_drop,qmb]; omega)]
    unfold u8s
    rw [List.map_drop]
   rw [ec] at hcut
   refine qwe.c hcut (fun x hx=>hpb x (List.mem_of_mem_drop hx)) (by rw [List.length_drop]; omega) fun w1 hm=>⟨_,rfl,?_⟩
   have h:=h.skip hm
   have hlt:((qyd p).take t).length=t:=by rw [List.length_take]; omega
   refine h.sto32 (j:=t) rfl (by rw [List.length_append,hlt,List.length_replicate]; omega) fun w h=>?_
   refine qy (qm (by omega) (by omega)) ?_
   refine ⟨⟨rfl,rfl,rfl,rfl⟩,hin (t+1) _ _ ⟨by simp,by omega,?_⟩ (by omega)⟩
   have es:=set_next (l:=(qyd p).take t) (k:=80 - t) (v:=be ((p.drop (4 * t)).take 4)) (by omega)
   rw [hlt] at es
   rw [es,show 80 - t - 1=80 - (t+1) by omega,← base_take (by omega)] at h
   exact h
 have:t=16:=by omega
 subst this
 rw [List.take_of_length_le (by omega)] at h
 clear hin ht h1
 unfold qg.j2 qg.j14
 refine qud (fun (t:Nat) (t':Int) w=>t'=(t:Int)+16∧t≤64∧St F0 w0 w (qjb 1 t5 (qpe (qkf t (qyd p) ++ List.replicate (64 - t) 0)) :: qnb n4 (qpe [0,0,0,0,0]) :: qnb n2 (qpe s.l) :: ps)) (fun t=>64 - t) 0 ⟨rfl,by omega,by rw [qkf]; exact h⟩ ?_
 clear h
 rintro t t' w I μ ⟨rfl,ht,h⟩ hin
 have hgl:(qkf t (qyd p)).length=t+16:=by rw [qrl,hb16]; omega
 unfold qg.b3
 refine qmc (fun h1=>?_) (fun h1=>?_)
 · refine h.drewK fun w h=>?_
   have hlen:(qkf t (qyd p) ++ List.replicate (64 - t) (0:Int)).length=80:=by rw [List.length_append,hgl,List.length_replicate]; omega
   refine qy (qm (by omega) (by omega)) ?_
   refine h.ldo32 (j:=t+13) (by omega) (by omega) ?_
   refine qy (qm (by omega) (by omega)) ?_
   refine h.ldo32 (j:=t+8) (by omega) (by omega) ?_
   refine qed ?_
   refine qy (qm (by omega) (by omega)) ?_
   refine h.ldo32 (j:=t+2) (by omega) (by omega) ?_
   refine qed ?_
   refine qy (qm (by omega) (by omega)) ?_
   refine h.ldo32 (j:=t) (by omega) (by omega) ?_
   refine qed ?_
   refine qvc.c (by decide) ⟨_,rfl,?_⟩
   refine h.sto32 (j:=t+16) (by omega) (by omega) fun w h=>?_
   refine qy (qm (by omega) (by omega)) ?_
   refine ⟨⟨rfl,rfl,rfl⟩,hin (t+1) _ _ ⟨by omega,by omega,?_⟩ (by omega)⟩
   rw [qdf (by omega),qdf (by omega),qdf (by omega),qdf (by omega)] at h
   have es:=set_next (l:=qkf t (qyd p)) (k:=64 - t) (v:=nextW (qkf t (qyd p))) (by omega)
   rw [hgl,← qbo,show 64 - t - 1=64 - (t+1) by omega] at es
   rw [← es]
   unfold nextW
   rw [hgl]
   exact h
 have:t=64:=by omega
 subst this
 clear hin ht h1
 rw [Nat.sub_self,List.replicate_zero,List.append_nil] at h
 unfold qg.j3
 refine h.at2.ld20 rfl ?_
 refine h.new fun n8 w h=>?_
 rw [zc_w5] at h
 refine ⟨rfl,?_⟩
 refine h.st5 rfl rfl qyg fun w h=>?_
 exact qg.loop (by rw [hgl]) rfl (h.tail fun _ _ _ h=>h.tail fun _ _ _ h=>h.at1) hk
end
end Go.Proofs.YtigmbblgfnkpbaaGreat
namespace Go.Proofs.YtigmbblgfnkpbaaGreat
open Go Go.Proofs
set_option linter.unusedVariables false
set_option linter.unusedSimpArgs false
attribute [local irreducible] apK cpK mkK hs qxe rounds qkf
theorem zc_20:zc Tryz.prog 23=⟨u8s (List.replicate 20 0)⟩:=by kernel_rfl
theorem sum_byte (s:W5) (i:Nat) (hi:i < 20):(s.l.flatMap word4).getD i 0=(s.l.getD (i / 4) 0) / 2 ^ (24 - 8 * (i % 4)) % 256:=by
 have:i=0 ∨ i=1 ∨ i=2 ∨ i=3 ∨ i=4 ∨ i=5 ∨ i=6 ∨ i=7 ∨ i=8 ∨ i=9 ∨ i=10 ∨ i=11 ∨ i=12 ∨ i=13 ∨ i=14 ∨ i=15 ∨ i=16 ∨ i=17 ∨ i=18 ∨ i=19:=by omega
 rcases this with rfl | rfl | rfl | rfl | rfl | rfl | rfl | rfl | rfl | rfl | rfl | rfl | rfl | rfl | rfl | rfl | rfl | rfl | rfl | rfl
 all_goals first
  | rfl
  | (show _ % 256=_ / 2 ^ 0 % 256; rw [Int.pow_zero,Int.ediv_one]; rfl)
section
variable {F0:List Nat} {w0 w:World} {ps:List As}
theorem St.dropN {qs:List As} (h:St F0 w0 w (qs ++ ps)):St F0 w0 w ps:=by
 induction qs with
 | nil=>exact h
 | cons q qs ih=>exact ih h.drop
theorem St.stu8 {b o:Nat} {l:List Int} {i:Nat} {v:Int} {K:World→Prop} (h:St F0 w0 w (qnb b (u8s l) :: ps)) (ho:o=i) (hi:i < l.length) (hk:∀ w',St F0 w0 w' (qnb b (u8s (l.set i v)) :: ps)→K w'):Go.Proofs.YtigmbblgfnkpbaaGreat.st w ⟨b,o,none⟩ (.int .u8 v) K:=by
 subst ho
 refine h.st (by rw [qmb]; exact hi) trivial fun w' h=>hk w' ?_
 rw [u8s_set] at h
 exact h
theorem qq.out {n2 n6:Nat} {s:W5} {c:List Value} (hc:c.length=20) (hs:okW s) {Q:VWP} (h:St F0 w0 w (qnb n6 (qpe s.l) :: qnb n2 c :: ps))
 (hk:∀ w',St F0 w0 w' ps→Q (.agg ⟨u8s (s.l.flatMap word4)⟩) w'):qq.j7 ⟨n2,0,none⟩ ⟨n6,0,none⟩ Q w:=by
 unfold qq.j7
 refine h.new fun n8 w h=>?_
 rw [zc_20] at h
 unfold qq.j8 qq.j10
 have hfl:(s.l.flatMap word4).length=20:=rfl
 refine qud (fun (i:Nat) (i':Int) w=>i'=i∧i≤20∧St F0 w0 w (qnb n8 (u8s ((s.l.flatMap word4).take i ++ List.replicate (20 - i) 0)) :: qnb n6 (qpe s.l) :: qnb n2 c :: ps)) (fun i=>20 - i) 0 ⟨rfl,by omega,h⟩ ?_
 clear h
 rintro i i' w I μ ⟨rfl,hi,h⟩ hin
 unfold qq.b1
 refine qmc (fun h1=>?_) (fun h1=>?_)
 · have hi20:i < 20:=by omega
   refine ⟨by decide,?_⟩
   rw [tdiv_nn (by omega)]
   refine qy (qm (by omega) (by omega)) ?_
   refine h.at1.ldx (j:=i / 4) (by omega) rfl (by omega) ?_
   refine ⟨by decide,?_⟩
   refine qy (qrk (by omega)) ?_
   have em:(i:Int) % 4=(i % 4:Nat):=by omega
   rw [em]
   refine qy (show IntKind.u64.wrap ((i % 4:Nat):Int)=(i % 4:Nat) by rw [qee]; omega) ?_
   refine qy (show IntKind.u64.wrap (8 * ((i % 4:Nat):Int))=(8 * (i % 4):Nat) by rw [qee]; omega) ?_
   refine qy (show IntKind.u64.wrap (24 - ((8 * (i % 4):Nat):Int))=(24 - 8 * (i % 4):Nat) by rw [qee]; omega) ?_
   refine ⟨by omega,?_⟩
   refine qy (qdh .u32 _ (show 24 - 8 * (i % 4)≤32 by omega)) ?_
   refine qy (quh _) ?_
   rw [← sum_byte s i hi20]
   have hlt:((s.l.flatMap word4).take i).length=i:=by rw [List.length_take]; omega
   refine qbi (by omega) (by omega) ?_
   refine h.stu8 (i:=i) (by omega) (by rw [List.length_append,hlt,List.length_replicate]; omega) fun w h=>?_
   refine qy (qm (by omega) (by omega)) ?_
   refine ⟨⟨rfl,rfl,rfl⟩,hin (i+1) _ _ ⟨by simp,by omega,?_⟩ (by omega)⟩
   have es:=set_next (l:=(s.l.flatMap word4).take i) (k:=20 - i) (v:=(s.l.flatMap word4).getD i 0) (by omega)
   rw [hlt] at es
   have et:(s.l.flatMap word4).take (i+1)=(s.l.flatMap word4).take i ++ [(s.l.flatMap word4).getD i 0]:=by
    rw [List.take_succ_eq_append_getElem (by omega)]
    congr 2
    simp [List.getD,List.getElem?_eq_getElem (show i < (s.l.flatMap word4).length by omega)]
   rw [es,show 20 - i - 1=20 - (i+1) by omega,← et] at h
   exact h
 · have:i=20:=by omega
   subst this
   have h:St F0 w0 w (qnb n8 (u8s (s.l.flatMap word4)) :: qnb n6 (qpe s.l) :: qnb n2 c :: ps):=by
    rw [List.take_of_length_le (by omega),Nat.sub_self,List.replicate_zero,List.append_nil] at h
    exact h
   unfold qq.j9
   have hl20:(u8s (s.l.flatMap word4)).length=20:=by rw [qmb]; exact hfl
   refine h.ld20 hl20 ?_
   refine ⟨hl20,?_⟩
   refine h.at2.st20 hc hl20 quf fun w h=>?_
   refine h.ld20 hl20 ?_
   exact hk w h.drop.drop.drop
theorem qq.blocks {n2:Nat} {t3:Sl} {xs:List Int} {c:List Value} (hc:c.length=20) (hxb:qje xs) (hm:xs.length % 64=0) (hL:xs.length≤1099511627776) {Q:VWP} (h:St F0 w0 w (qjb 1 t3 (u8s xs) :: qnb n2 c :: ps))
 (hk:∀ w',St F0 w0 w' ps→Q (.agg ⟨u8s ((Go.Proofs.YtigmbblgfnkpbaaGreat.hs xs (xs.length / 64)).l.flatMap word4)⟩) w'):qq.j5 ⟨n2,0,none⟩ t3 Q w:=by
 unfold qq.j5
 refine h.new fun n6 w h=>?_
 rw [zc_w5] at h
 refine ⟨rfl,?_⟩
 have e0:(⟨[.int .u32 1732584193,.int .u32 4023233417,.int .u32 2562383102,.int .u32 271733878,.int .u32 3285377520]⟩:Array Value)=⟨qpe (Go.Proofs.YtigmbblgfnkpbaaGreat.hs xs 0).l⟩:=by rw [Go.Proofs.YtigmbblgfnkpbaaGreat.hs]; rfl
 rw [e0]
 refine h.st5 (n:=5) rfl rfl qyg fun w h=>?_
 unfold qq.j6 qq.j11
 have hlen:=h.at1.len
 rw [qmb] at hlen
 have hcap:=h.at1.cap (by decide)
 refine qud (fun (k:Nat) (i':Int) w=>i'=((64 * k:Nat):Int)∧64 * k≤xs.length∧St F0 w0 w (qnb n6 (qpe (Go.Proofs.YtigmbblgfnkpbaaGreat.hs xs k).l) :: qjb 1 t3 (u8s xs) :: qnb n2 c :: ps)) (fun k=>xs.length - 64 * k) 0 ⟨rfl,by omega,h⟩ ?_
 clear h
 rintro k i' w I μ ⟨rfl,hi,h⟩ hin
 unfold qq.b2
 refine qmc (fun h1=>?_) (fun h1=>?_)
 · have h64:64 * k+64≤xs.length:=by omega
   refine h.drewK fun w h=>?_
   refine h.ld20 (n:=5) rfl ?_
   refine qy (qm (by omega) (by omega)) ?_
   refine ⟨⟨by omega,by omega⟩,⟨by omega,by omega⟩,qed ?_⟩
   have en:(((64 * k:Nat):Int)+64).toNat=64 * k+64:=by omega
   have em:(((64 * k:Nat):Int)).toNat=64 * k:=by omega
   rw [en,em]
   have hlenb:((xs.drop (64 * k)).take 64).length=64:=by rw [List.length_take,List.length_drop]; omega
   refine qg.c (p:=(xs.drop (64 * k)).take 64) hlenb (fun x hx=>hxb x (List.mem_of_mem_drop (List.mem_of_mem_take hx))) (by show 64 * k+64 - 64 * k≤t3.cap - 64 * k; omega) h (fun w' qs h=>?_) fun w h=>⟨_,rfl,?_⟩
   · have hrd:=h.dropN.at1.ord
     have hcut:=hrd.cut (n:=64 * k) (m:=64 * k+64) (by decide) (by omega) (by omega) hcap (t3.cap - 64 * k)
     have ec:((u8s xs).drop (64 * k * 1)).take ((64 * k+64 - 64 * k) * 1)=u8s ((xs.drop (64 * k)).take 64):=by
      rw [Nat.mul_one,Nat.mul_one,show 64 * k+64 - 64 * k=64 by omega]
      unfold u8s
      rw [List.map_take,List.map_drop]
     rw [ec] at hcut
     exact hcut
   refine ⟨rfl,?_⟩
   refine h.st5 (n:=5) rfl rfl qyg fun w h=>?_
   refine qy (qm (by omega) (by omega)) ?_
   refine ⟨⟨rfl,rfl,rfl⟩,hin (k+1) _ _ ⟨by omega,by omega,?_⟩ (by omega)⟩
   rw [Go.Proofs.YtigmbblgfnkpbaaGreat.hs]
   exact h
 · have:k=xs.length / 64:=by omega
   subst this
   exact qq.out hc (okW_hs _ _) (h.tail fun _ _ _ h=>h.drop) hk
end
end Go.Proofs.YtigmbblgfnkpbaaGreat
namespace Go.Proofs.YtigmbblgfnkpbaaGreat
open Go Go.Proofs
set_option linter.unusedVariables false
set_option linter.unusedSimpArgs false
attribute [local irreducible] apK cpK mkK hs qxe rounds qkf
section
variable {F0:List Nat} {w0 w:World} {ps:List As}
theorem be8_take (v:Int) {i:Nat} (hi:i < 8):(be8 v).take (i+1)=(be8 v).take i ++ [v / 2 ^ (8 * (7 - i)) % 256]:=by
 have hl:(be8 v).length=8:=by simp [be8]
 rw [List.take_succ_eq_append_getElem (by omega)]
 congr 2
 simp [be8]
theorem qq.c {s:Sl} {xs:List Int} {K:Ending→World→Prop} (h:St F0 w0 w ps) [Rdb F0 w0 s ps 1 (u8s xs)] (hx:qje xs) (hL:xs.length≤34359738368)
 (hk:∀ w',St F0 w0 w' ps→K (.returned (.agg ⟨u8s (qxe xs)⟩)) w'):Calls Tryz.prog 41 ⟨[.slice s.a s.len s.cap]⟩ w K:=by
 have hsl:=(h.rdb s).1
 rw [qmb] at hsl
 refine qec (qq.ok _ _ _ ?_)
 unfold qq
 refine h.new fun n2 w h=>?_
 have hz:(zc Tryz.prog 23).toList.length=20:=by rw [Array.length_toList,zc_20]; rfl
 generalize (zc Tryz.prog 23).toList=c at h hz
 unfold qq.j1
 refine h.clone (k:=.u8) (s2:=s) (by omega) fun s1 w h=>?_
 refine h.pushI (by omega) fun s2 w h=>?_
 unfold qq.j2
 refine qud (fun (j:Nat) (o:Sl) w=>j≤(119 - xs.length % 64) % 64∧St F0 w0 w (qjb 1 o (u8s (xs ++ [128] ++ List.replicate j 0)) :: qnb n2 c :: ps)) (fun j=>64 - j) 0 ⟨by omega,by simpa using h⟩ ?_
 clear h
 rintro j o w I μ ⟨hj,h⟩ hin
 have hyl:(xs ++ [128] ++ List.replicate j 0).length=xs.length+1+j:=by simp; omega
 have hol:=h.len
 rw [qmb,hyl] at hol
 unfold qq.b4
 refine ⟨by decide,?_⟩
 refine qy (qrk (by omega)) ?_
 refine qnc (fun h1=>?_) (fun h1=>?_)
 · have h1:¬ ((o.len:Nat):Int) % 64=56:=by simpa using h1
   refine h.pushI (by rw [hyl]; omega) fun s2 w h=>?_
   refine ⟨⟨rfl,rfl⟩,hin (j+1) _ _ ⟨by omega,?_⟩ (by omega)⟩
   rw [List.replicate_succ',← List.append_assoc]
   exact h
 have h1:((o.len:Nat):Int) % 64=56:=by simpa using h1
 have hjz:j=(119 - xs.length % 64) % 64:=by omega
 clear hin
 unfold qq.j3
 refine qy (show IntKind.u64.wrap ((s.len:Nat):Int)=xs.length by rw [qee]; omega) ?_
 refine qy (show IntKind.u64.wrap ((xs.length:Int) * 8)=8 * (xs.length:Int) by rw [qee]; omega) ?_
 unfold qq.j4 qq.j12
 have h0:xs ++ [128] ++ List.replicate j 0=xs ++ [128] ++ zeros xs.length:=by rw [zeros,hjz]
 rw [h0] at h
 have hzl:(xs ++ [128] ++ zeros xs.length).length≤34359739000:=by rw [← h0,hyl]; omega
 have hbl:(be8 (8 * (xs.length:Int))).length=8:=by simp [be8]
 refine qbf (fun (i:Nat) (o:Sl) (i':Int) w=>i'=7 - (i:Int)∧i≤8∧St F0 w0 w (qjb 1 o (u8s (xs ++ [128] ++ zeros xs.length ++ (be8 (8 * (xs.length:Int))).take i)) :: qnb n2 c :: ps)) (fun i=>8 - i) 0 ⟨rfl,by omega,by rw [List.take_zero,List.append_nil]; exact h⟩ ?_
 clear h
 rintro i o i' w I μ ⟨rfl,hi,h⟩ hin
 unfold qq.b3
 refine qmc (fun h1=>?_) (fun h1=>?_)
 · have hi8:i < 8:=by omega
   refine qy (show IntKind.u64.wrap (7 - (i:Int))=((7 - i:Nat):Int) by rw [qee]; omega) ?_
   refine qy (show IntKind.u64.wrap (8 * ((7 - i:Nat):Int))=((8 * (7 - i):Nat):Int) by rw [qee]; omega) ?_
   refine ⟨by omega,?_⟩
   refine qy (qdh .u64 _ (show 8 * (7 - i)≤64 by omega)) ?_
   refine qy (quh _) ?_
   refine h.pushI (by rw [List.length_append,List.length_take,hbl]; omega) fun s2 w h=>?_
   refine qy (qm (by omega) (by omega)) ?_
   refine ⟨⟨rfl,rfl⟩,hin (i+1) _ _ _ ⟨by omega,by omega,?_⟩ (by omega)⟩
   rw [be8_take _ hi8,← List.append_assoc]
   exact h
 · have:i=8:=by omega
   subst this
   rw [List.take_of_length_le (by omega)] at h
   have e:xs ++ [128] ++ zeros xs.length ++ be8 (8 * xs.length)=padded xs:=rfl
   rw [e] at h
   have hpb:qje (padded xs):=by
    rw [← e]
    intro x hx'
    rcases List.mem_append.1 hx' with hx' | hx'
    rcases List.mem_append.1 hx' with hx' | hx'
    rcases List.mem_append.1 hx' with hx' | hx'
    · exact hx x hx'
    · rw [List.mem_singleton.1 hx']; decide
    · rw [List.eq_of_mem_replicate hx']; decide
    · exact qii 8 8 _ x hx'
   have hpl:(padded xs).length≤1099511627776:=by rw [← e,List.length_append,hbl]; omega
   refine qq.blocks hz hpb (padded_length xs) hpl h fun w h=>?_
   have:=hk w h
   unfold qxe sumW at this
   exact this
end
end Go.Proofs.YtigmbblgfnkpbaaGreat
namespace Go.Proofs.YtigmbblgfnkpbaaGreat
open Go Go.Proofs
set_option linter.unusedVariables false
set_option linter.unusedSimpArgs false
attribute [local irreducible] apK cpK mkK hs qxe rounds qkf
section
variable {F0:List Nat} {w0 w:World} {ps rest:List As}
theorem qwh.d {s:Sl} {xs:List Int} {K:Ending→World→Prop} (h:St F0 w0 w ps) [Rdb F0 w0 s ps 1 (u8s xs)] (hx:qje xs) (hL:xs.length≤34359738368)
 (hk:∀ w',St F0 w0 w' ps→K (.returned (.agg ⟨u8s (qxe xs)⟩)) w'):Calls Tryz.prog 38 ⟨[.slice s.a s.len s.cap]⟩ w K :=
 qwh.c h (fun w' p q h=>h.drop.drop.rdb s) hx hL hk
end
end Go.Proofs.YtigmbblgfnkpbaaGreat
namespace Go.Proofs.YtigmbblgfnkpbaaGreat
open Go Go.Proofs
set_option linter.unusedVariables false
set_option maxRecDepth 100000
def qzi (b_0:Sl) (Q:VWP) (w:World):Prop :=
 qtc 100 [sV b_0] w fun r3 w2 =>
 nw w2 (⟨[sV r3,.int .i64 0,.int .i64 0]⟩:Array Value) 152 fun a4 w5 =>
 Q (.pointer (some a4)) w5
theorem qzi.ok (b_0:Sl) (Q:VWP) (w:World) (h:qzi b_0 Q w):Calls Tryz.prog 73 ⟨[sV b_0]⟩ w (Ret Q) :=
 qgc [.tmp 2] qjd Tryz.func73 rfl rfl rfl rfl .lf (by kernel_rfl) h
def qle (r_0:OAd) (Q:VWP) (w:World):Prop :=
 nz r_0 fun a1 =>
 ldI .i64 w (Addr.add a1 2) fun x2 =>
 Q (.int .i64 x2) w
theorem qle.ok (r_0:OAd) (Q:VWP) (w:World) (h:qle r_0 Q w):Calls Tryz.prog 78 ⟨[.pointer r_0]⟩ w (Ret Q) :=
 qgc [.tmp 2] qjd Tryz.func78 rfl rfl rfl rfl .lf (by kernel_rfl) h
def qoe (r_0:OAd) (Q:VWP) (w:World):Prop :=
 nz r_0 fun a1 =>
 ldI .i64 w (Addr.add a1 2) fun x2 =>
 br (x2 != 0) (
 Q (.int .i64 0) w) (
 lt (World.drew w) fun w3 =>
 nz r_0 fun a4 =>
 ldL w3 (Addr.add a4 0) fun x5 =>
 nz r_0 fun a6 =>
 ldI .i64 w3 (Addr.add a6 1) fun x7 =>
 lt (IntKind.i64.wrap ((x5.len:Int) - x7)) fun x8 =>
 Q (.int .i64 x8) w3)
theorem qoe.ok (r_0:OAd) (Q:VWP) (w:World) (h:qoe r_0 Q w):Calls Tryz.prog 116 ⟨[.pointer r_0]⟩ w (Ret Q) :=
 qgc [.tmp 2] qjd Tryz.func116 rfl rfl rfl rfl .lf (by kernel_rfl) h
def qjc.j1 (r_0:OAd) (n_1:Int) (Q:VWP) (w:World):Prop :=
 nz r_0 fun a1 =>
 ldI .i64 w (Addr.add a1 2) fun x2 =>
 br (x2 != 0) (
 Q (.slice none 0 0) w) (
 nz r_0 fun a3 =>
 ldI .i64 w (Addr.add a3 1) fun x4 =>
 lt (IntKind.i64.wrap (x4+n_1)) fun x5 =>
 nz r_0 fun a6 =>
 st w (Addr.add a6 1) (.int .i64 x5) fun w7 =>
 lt (World.drew w7) fun w8 =>
 nz r_0 fun a9 =>
 ldL w8 (Addr.add a9 0) fun x10 =>
 nz r_0 fun a11 =>
 ldI .i64 w8 (Addr.add a11 1) fun x12 =>
 lt (IntKind.i64.wrap (x12 - n_1)) fun x13 =>
 nz r_0 fun a14 =>
 ldI .i64 w8 (Addr.add a14 1) fun x15 =>
 bd x15 x10.cap fun n16 =>
 bd x13 n16 fun n17 =>
 lt (⟨qwd x10.a x10.cap n17 1,n16 - n17,x10.cap - n17⟩:Sl) fun s18 =>
 Q (sV s18) w8)
def qjc (r_0:OAd) (n_1:Int) (Q:VWP) (w:World):Prop :=
 nz r_0 fun a19 =>
 ldI .i64 w (Addr.add a19 2) fun x20 =>
 br (x20 == 0) (
 br (decide (n_1 < 0)) (
 nz r_0 fun a21 =>
 st w (Addr.add a21 2) (.int .i64 3) fun w22 =>
 qjc.j1 r_0 n_1 Q w22) (
 qnf 116 [.pointer r_0] w fun r25 w24 =>
 br (decide (n_1 > r25)) (
 nz r_0 fun a26 =>
 st w24 (Addr.add a26 2) (.int .i64 3) fun w27 =>
 qjc.j1 r_0 n_1 Q w27) (
 qjc.j1 r_0 n_1 Q w24))) (
 qjc.j1 r_0 n_1 Q w)
theorem qjc.ok (r_0:OAd) (n_1:Int) (Q:VWP) (w:World) (h:qjc r_0 n_1 Q w):Calls Tryz.prog 105 ⟨[.pointer r_0,.int .i64 n_1]⟩ w (Ret Q) :=
 qgc [.tmp 4] qjd Tryz.func105 rfl rfl rfl rfl (.pr 1 [sP 0,sI 1] (fun a b w=>qjc.j1 a b Q w) .lf) (by kernel_rfl) h
def qlb.j2 (v_5:Int) (Q:VWP) (w:World):Prop :=
 Q (.int .i64 v_5) w
def qlb.b1 (t10:Sl) (t11:Int) (v_5 t12:Int) (Q:VWP) (nx1:Sl→Int→Int→Int→WP) (w:World):Prop :=
 br (decide (t12 < t11)) (
 ixS t10.a t10.len t12 1 fun a1 =>
 ldI .u8 w a1 fun x2 =>
 (0:Int)≤8 ∧
 lt (qpf .i64 v_5 8) fun x3 =>
 lt (IntKind.i64.wrap x2) fun x4 =>
 lt (orV .i64 x3 x4) fun x5 =>
 lt (IntKind.i64.wrap (t12+1)) fun x6 =>
 nx1 t10 t11 x5 x6 w) (
 qlb.j2 v_5 Q w)
def qlb.l1 (t10:Sl) (t11:Int) (v_5 t12:Int) (Q:VWP) (w:World):Prop :=
 ∃ (I:Int→Int→WP) (μ:Int→Int→World→Nat),I v_5 t12 w∧∀ v_5:Int,∀ t12:Int,∀ w:World,I v_5 t12 w→qlb.b1 t10 t11 v_5 t12 Q (fun t10' t11' v_5' t12' w'=>(t10'=t10∧t11'=t11)∧I v_5' t12' w'∧μ v_5' t12' w' < μ v_5 t12 w) w
def qlb.j3 (v_5:Int) (t10:Sl) (t11 t12:Int) (Q:VWP) (w:World):Prop :=
 qlb.l1 t10 t11 v_5 t12 Q w
def qlb.j1 (r_0:OAd) (n_1:Int) (v_5:Int) (Q:VWP) (w:World):Prop :=
 qtc 105 [.pointer r_0,.int .i64 n_1] w fun r9 w8 =>
 qlb.j3 v_5 r9 (r9.len:Int) 0 Q w8
def qlb (r_0:OAd) (n_1:Int) (Q:VWP) (w:World):Prop :=
 qlb.j1 r_0 n_1 0 Q w
theorem qlb.ok (r_0:OAd) (n_1:Int) (Q:VWP) (w:World) (h:qlb r_0 n_1 Q w):Calls Tryz.prog 104 ⟨[.pointer r_0,.int .i64 n_1]⟩ w (Ret Q) :=
 qgc [.tmp 4] qjd Tryz.func104 rfl rfl rfl rfl (.pr 1 [sP 0,sI 1,sI 5] (fun a b c w=>qlb.j1 a b c Q w) (.sq [sI 5] (fun a w=>qlb.j2 a Q w) (.sq [sI 5,sL 10,sI 11,sI 12] (fun a b c d w=>qlb.j3 a b c d Q w) .lf (.bk (.lo [sL 10,sI 11] [sI 5,sI 12] (fun a b c d w=>qlb.l1 a b c d Q w) (fun nx1 a b c d w=>qlb.b1 a b c d Q nx1 w) fun nx1=>.lf))) .lf)) (by kernel_rfl) h
def qmd (r_0:OAd) (Q:VWP) (w:World):Prop :=
 qnf 104 [.pointer r_0,.int .i64 4] w fun r3 w2 =>
 Q (.int .i64 r3) w2
theorem qmd.ok (r_0:OAd) (Q:VWP) (w:World) (h:qmd r_0 Q w):Calls Tryz.prog 74 ⟨[.pointer r_0]⟩ w (Ret Q) :=
 qgc [.tmp 2] qjd Tryz.func74 rfl rfl rfl rfl .lf (by kernel_rfl) h
def qye (r_0:OAd) (Q:VWP) (w:World):Prop :=
 qnf 104 [.pointer r_0,.int .i64 8] w fun r3 w2 =>
 br (decide (r3 < 0)) (
 nz r_0 fun a4 =>
 ldI .i64 w2 (Addr.add a4 1) fun x5 =>
 lt (IntKind.i64.wrap (x5 - 8)) fun x6 =>
 nz r_0 fun a7 =>
 st w2 (Addr.add a7 1) (.int .i64 x6) fun w8 =>
 nz r_0 fun a9 =>
 st w8 (Addr.add a9 2) (.int .i64 5) fun w10 =>
 Q (.int .i64 0) w10) (
 Q (.int .i64 r3) w2)
theorem qye.ok (r_0:OAd) (Q:VWP) (w:World) (h:qye r_0 Q w):Calls Tryz.prog 76 ⟨[.pointer r_0]⟩ w (Ret Q) :=
 qgc [.tmp 2] qjd Tryz.func76 rfl rfl rfl rfl .lf (by kernel_rfl) h
def qqd (r_0:OAd) (n_1:Int) (Q:VWP) (w:World):Prop :=
 qtc 105 [.pointer r_0,.int .i64 n_1] w fun r3 w2 =>
 qtc 100 [sV r3] w2 fun r6 w5 =>
 qtc 66 [sV r6] w5 fun r9 w8 =>
 Q (sV r9) w8
theorem qqd.ok (r_0:OAd) (n_1:Int) (Q:VWP) (w:World) (h:qqd r_0 n_1 Q w):Calls Tryz.prog 75 ⟨[.pointer r_0,.int .i64 n_1]⟩ w (Ret Q) :=
 qgc [.tmp 4] qjd Tryz.func75 rfl rfl rfl rfl .lf (by kernel_rfl) h
end Go.Proofs.YtigmbblgfnkpbaaGreat
namespace Go.Proofs.YtigmbblgfnkpbaaGreat
open Go Go.Proofs
set_option linter.unusedVariables false
set_option maxRecDepth 100000
def qac.j2 (b_0:Sl) (Q:VWP) (w:World):Prop :=
 Q (sV b_0) w
def qac.b1 (u_7:Int) (b_0:Sl) (i_8:Int) (Q:VWP) (nx1:Int→Sl→Int→WP) (w:World):Prop :=
 br (decide (i_8 ≥ 0)) (
 lt (IntKind.u64.wrap i_8) fun x1 =>
 lt (IntKind.u64.wrap (8 * x1)) fun x2 =>
 (0:Int)≤x2 ∧
 lt (shrV .u64 u_7 x2) fun x3 =>
 lt (IntKind.u8.wrap x3) fun x4 =>
 nw w ⟨[.int .u8 x4]⟩ 5 fun a5 w6 =>
 rdO w6 (some a5) (1 * 1) fun c7 =>
 apK Tryz.prog 5 w6 b_0.a b_0.len b_0.cap 1 c7 fun s8 w9 =>
 lt (IntKind.i64.wrap (i_8 - 1)) fun x10 =>
 nx1 u_7 s8 x10 w9) (
 qac.j2 b_0 Q w)
def qac.l1 (u_7:Int) (b_0:Sl) (i_8:Int) (Q:VWP) (w:World):Prop :=
 ∃ (I:Sl→Int→WP) (μ:Sl→Int→World→Nat),I b_0 i_8 w∧∀ b_0:Sl,∀ i_8:Int,∀ w:World,I b_0 i_8 w→qac.b1 u_7 b_0 i_8 Q (fun u_7' b_0' i_8' w'=>(u_7'=u_7)∧I b_0' i_8' w'∧μ b_0' i_8' w' < μ b_0 i_8 w) w
def qac.j3 (b_0:Sl) (u_7:Int) (i_8:Int) (Q:VWP) (w:World):Prop :=
 qac.l1 u_7 b_0 i_8 Q w
def qac.j1 (b_0:Sl) (n_2:Int) (u_7:Int) (Q:VWP) (w:World):Prop :=
 lt (IntKind.i64.wrap (n_2 - 1)) fun x11 =>
 qac.j3 b_0 u_7 x11 Q w
def qac (b_0:Sl) (v_1:Int) (n_2:Int) (Q:VWP) (w:World):Prop :=
 lt (IntKind.u64.wrap v_1) fun x12 =>
 qac.j1 b_0 n_2 x12 Q w
theorem qac.ok (b_0:Sl) (v_1:Int) (n_2:Int) (Q:VWP) (w:World) (h:qac b_0 v_1 n_2 Q w):Calls Tryz.prog 67 ⟨[sV b_0,.int .i64 v_1,.int .i64 n_2]⟩ w (Ret Q) :=
 qgc [.tmp 6] qjd Tryz.func67 rfl rfl rfl rfl (.pr 1 [sL 0,sI 2,(7,.I .u64)] (fun a b c w=>qac.j1 a b c Q w) (.sq [sL 0] (fun a w=>qac.j2 a Q w) (.sq [sL 0,(7,.I .u64),sI 8] (fun a b c w=>qac.j3 a b c Q w) .lf (.bk (.lo [(7,.I .u64)] [sL 0,sI 8] (fun a b c w=>qac.l1 a b c Q w) (fun nx1 a b c w=>qac.b1 a b c Q nx1 w) fun nx1=>.lf))) .lf)) (by kernel_rfl) h
def qdd (r_0:OAd) (n_1:Int) (Q:VWP) (w:World):Prop :=
 nz r_0 fun a1 =>
 ldI .i64 w (Addr.add a1 2) fun x2 =>
 br (x2 != 0) (
 Q (.slice none 0 0) w) (
 lt (World.drew w) fun w3 =>
 br (decide (n_1 < 0)) (
 nz r_0 fun a4 =>
 st w3 (Addr.add a4 2) (.int .i64 3) fun w5 =>
 Q (.slice none 0 0) w5) (
 nz r_0 fun a6 =>
 ldL w3 (Addr.add a6 0) fun x7 =>
 nz r_0 fun a8 =>
 ldI .i64 w3 (Addr.add a8 1) fun x9 =>
 lt (IntKind.i64.wrap ((x7.len:Int) - x9)) fun x10 =>
 br (decide (n_1 > x10)) (
 nz r_0 fun a11 =>
 st w3 (Addr.add a11 2) (.int .i64 3) fun w12 =>
 Q (.slice none 0 0) w12) (
 lt (World.drew w3) fun w13 =>
 nz r_0 fun a14 =>
 ldL w13 (Addr.add a14 0) fun x15 =>
 nz r_0 fun a16 =>
 ldI .i64 w13 (Addr.add a16 1) fun x17 =>
 nz r_0 fun a18 =>
 ldI .i64 w13 (Addr.add a18 1) fun x19 =>
 lt (IntKind.i64.wrap (x19+n_1)) fun x20 =>
 bd x20 x15.cap fun n21 =>
 bd x17 n21 fun n22 =>
 lt (⟨qwd x15.a x15.cap n22 1,n21 - n22,x15.cap - n22⟩:Sl) fun s23 =>
 nw w13 ⟨[]⟩ 5 fun a24 w25 =>
 rdO w25 s23.a (s23.len * 1) fun c26 =>
 apK Tryz.prog 5 w25 (some a24) 0 0 s23.len c26 fun s27 w28 =>
 nz r_0 fun a29 =>
 ldI .i64 w28 (Addr.add a29 1) fun x30 =>
 lt (IntKind.i64.wrap (x30+n_1)) fun x31 =>
 nz r_0 fun a32 =>
 st w28 (Addr.add a32 1) (.int .i64 x31) fun w33 =>
 Q (sV s27) w33)))
theorem qdd.ok (r_0:OAd) (n_1:Int) (Q:VWP) (w:World) (h:qdd r_0 n_1 Q w):Calls Tryz.prog 108 ⟨[.pointer r_0,.int .i64 n_1]⟩ w (Ret Q) :=
 qgc [.tmp 4] qjd Tryz.func108 rfl rfl rfl rfl .lf (by kernel_rfl) h
def qeb.j3 (r_0:OAd) (was_5:Int) (u_7:Int) (Q:VWP) (w:World):Prop :=
 br (decide (u_7 > 9223372036854775807)) (
 nz r_0 fun a1 =>
 st w (Addr.add a1 1) (.int .i64 was_5) fun w2 =>
 nz r_0 fun a3 =>
 st w2 (Addr.add a3 2) (.int .i64 5) fun w4 =>
 Q (.int .i64 0) w4) (
 lt (IntKind.i64.wrap u_7) fun x5 =>
 Q (.int .i64 x5) w)
def qeb.b1 (r_0:OAd) (was_5:Int) (x_6:Sl) (u_7:Int) (i_8:Int) (Q:VWP) (nx1:OAd→Int→Sl→Int→Int→WP) (w:World):Prop :=
 br (decide (i_8 < (x_6.len:Int))) (
 (0:Int)≤8 ∧
 lt (qpf .u64 u_7 8) fun x6 =>
 ixS x_6.a x_6.len i_8 1 fun a7 =>
 ldI .u8 w a7 fun x8 =>
 lt (IntKind.u64.wrap x8) fun x9 =>
 lt (orV .u64 x6 x9) fun x10 =>
 lt (IntKind.i64.wrap (i_8+1)) fun x11 =>
 nx1 r_0 was_5 x_6 x10 x11 w) (
 qeb.j3 r_0 was_5 u_7 Q w)
def qeb.l1 (r_0:OAd) (was_5:Int) (x_6:Sl) (u_7:Int) (i_8:Int) (Q:VWP) (w:World):Prop :=
 ∃ (I:Int→Int→WP) (μ:Int→Int→World→Nat),I u_7 i_8 w∧∀ u_7:Int,∀ i_8:Int,∀ w:World,I u_7 i_8 w→qeb.b1 r_0 was_5 x_6 u_7 i_8 Q (fun r_0' was_5' x_6' u_7' i_8' w'=>(r_0'=r_0∧was_5'=was_5∧x_6'=x_6)∧I u_7' i_8' w'∧μ u_7' i_8' w' < μ u_7 i_8 w) w
def qeb.j4 (r_0:OAd) (was_5:Int) (x_6:Sl) (u_7:Int) (i_8:Int) (Q:VWP) (w:World):Prop :=
 qeb.l1 r_0 was_5 x_6 u_7 i_8 Q w
def qeb.j2 (r_0:OAd) (was_5:Int) (x_6:Sl) (u_7:Int) (Q:VWP) (w:World):Prop :=
 qeb.j4 r_0 was_5 x_6 u_7 0 Q w
def qeb.j1 (r_0:OAd) (n_1:Int) (was_5:Int) (Q:VWP) (w:World):Prop :=
 qtc 108 [.pointer r_0,.int .i64 n_1] w fun r14 w13 =>
 qeb.j2 r_0 was_5 r14 0 Q w13
def qeb (r_0:OAd) (n_1:Int) (Q:VWP) (w:World):Prop :=
 nz r_0 fun a15 =>
 ldI .i64 w (Addr.add a15 1) fun x16 =>
 qeb.j1 r_0 n_1 x16 Q w
theorem qeb.ok (r_0:OAd) (n_1:Int) (Q:VWP) (w:World) (h:qeb r_0 n_1 Q w):Calls Tryz.prog 80 ⟨[.pointer r_0,.int .i64 n_1]⟩ w (Ret Q) :=
 qgc [.tmp 4] qjd Tryz.func80 rfl rfl rfl rfl (.pr 1 [sP 0,sI 1,sI 5] (fun a b c w=>qeb.j1 a b c Q w) (.pr 1 [sP 0,sI 5,sL 6,(7,.I .u64)] (fun a b c d w=>qeb.j2 a b c d Q w) (.sq [sP 0,sI 5,(7,.I .u64)] (fun a b c w=>qeb.j3 a b c Q w) (.sq [sP 0,sI 5,sL 6,(7,.I .u64),sI 8] (fun a b c d e w=>qeb.j4 a b c d e Q w) .lf (.bk (.lo [sP 0,sI 5,sL 6] [(7,.I .u64),sI 8] (fun a b c d e w=>qeb.l1 a b c d e Q w) (fun nx1 a b c d e w=>qeb.b1 a b c d e Q nx1 w) fun nx1=>.lf))) .lf))) (by kernel_rfl) h
end Go.Proofs.YtigmbblgfnkpbaaGreat
namespace Go.Proofs.YtigmbblgfnkpbaaGreat
open Go Go.Proofs
set_option linter.unusedVariables false
set_option linter.unusedSimpArgs false
attribute [local irreducible] apK cpK mkK
theorem qun (k:IntKind) {x y:Int} (h:x % 2 ^ k.bits=y % 2 ^ k.bits):k.wrap x=k.wrap y:=by simp only [IntKind.wrap,h]
theorem wrap_mod (k:IntKind) (x:Int):k.wrap x % 2 ^ k.bits=x % 2 ^ k.bits:=by
 simp only [IntKind.wrap]
 split
 · rw [Int.sub_emod_right,Int.emod_emod]
 · rw [Int.emod_emod]
theorem or_byte64 {k:IntKind} (hb:k.bits=64) {v c:Int} (hc:0≤c∧c < 256):orV k (qpf k v 8) c=k.wrap (v * 256+c):=by
 obtain ⟨n,rfl⟩:∃ n:Nat,c=n:=⟨c.toNat,by omega⟩
 unfold orV qpf
 have h8:min (8:Int).toNat k.bits=8:=by rw [hb]; rfl
 rw [h8]
 have e1:=qxj k.bits (k.wrap (v * 2 ^ 8))
 rw [wrap_mod] at e1
 have e2:(BitVec.ofInt k.bits (n:Int)).toNat=n:=qvf _ _ (by rw [hb]; omega)
 rw [BitVec.toNat_or,e2]
 generalize (BitVec.ofInt k.bits (k.wrap (v * 2 ^ 8))).toNat=A at e1
 have h28:(2:Int) ^ 8=256:=by decide
 have h64:(2:Int) ^ k.bits=18446744073709551616:=by rw [hb]; decide
 rw [h28,h64] at e1
 obtain ⟨q,rfl⟩:∃ q,A=2 ^ 8 * q:=⟨A / 256,by omega⟩
 have:=Nat.two_pow_add_eq_or_of_lt (i:=8) (b:=n) (by omega) q
 rw [← this]
 apply qun
 rw [h64]
 have h28n:(2:Nat) ^ 8=256:=by decide
 rw [h28n] at e1 ⊢
 omega
theorem be_fold (k:IntKind) (hb:k.bits=64) (a:Int) (l:List Int) (c:Int) (hc:0≤c∧c < 256):orV k (qpf k (k.wrap (be l)) 8) c=k.wrap (be (l ++ [c])):=by
 rw [or_byte64 hb hc,be_snoc]
 apply qun
 have h64:(2:Int) ^ k.bits=18446744073709551616:=by rw [hb]; decide
 have:=wrap_mod k (be l)
 rw [h64] at this ⊢
 omega
theorem be_beJ (n:Nat) (v:Int):∀ j,j≤n→be (beJ n j v)=v / 2 ^ (8 * (n - j)) % 2 ^ (8 * j):=by
 intro j
 induction j with
 | zero=>intro _; simp [beJ,be,Int.emod_one]
 | succ j ih =>
   intro hj
   rw [qjm,be_snoc,ih (by omega),show n - 1 - j=n - (j+1) by omega]
   have e1:v / 2 ^ (8 * (n - j))=v / 2 ^ (8 * (n - (j+1))) / 256:=by
    rw [show 8 * (n - j)=8 * (n - (j+1))+8 by omega,Int.pow_add,show (2:Int) ^ 8=256 by decide,Int.ediv_ediv_of_nonneg (Int.le_of_lt (Int.pow_pos (by decide)))]
   have e2:(2:Int) ^ (8 * (j+1))=256 * 2 ^ (8 * j):=by rw [show 8 * (j+1)=8+8 * j by omega,Int.pow_add]; rfl
   rw [e1,e2]
   generalize v / 2 ^ (8 * (n - (j+1)))=x
   have hp:(0:Int) < 2 ^ (8 * j):=Int.pow_pos (by decide)
   generalize (2:Int) ^ (8 * j)=m at hp
   have h1:=Int.mul_ediv_add_emod (x / 256) m
   have h2:=Int.mul_ediv_add_emod x 256
   have h3:=Int.emod_lt_of_pos (x / 256) hp
   have h4:=Int.emod_nonneg (x / 256) (show m ≠ 0 by omega)
   have h5:x=(x / 256 % m * 256+x % 256)+(x / 256 / m) * (256 * m):=by
    have e:(x / 256 / m) * (256 * m)=256 * (m * (x / 256 / m)):=by rw [← Int.mul_assoc,Int.mul_comm (x / 256 / m) 256,Int.mul_assoc,Int.mul_comm (x / 256 / m) m]
    rw [e]; omega
   have h6:=Int.add_mul_emod_self_right (x / 256 % m * 256+x % 256) (x / 256 / m) (256 * m)
   rw [← h5] at h6
   have h7:(x / 256 % m * 256+x % 256) % (256 * m)=x / 256 % m * 256+x % 256:=Int.emod_eq_of_lt (by omega) (by omega)
   rw [h6,h7]
theorem be_beJ' (n:Nat) (v:Int):be (beJ n n v)=v % 2 ^ (8 * n):=by
 rw [be_beJ n v n (Nat.le_refl _),Nat.sub_self,Nat.mul_zero,Int.pow_zero,Int.ediv_one]
theorem be_lt8 {l:List Int} (h:qje l) {n:Nat} (hn:l.length≤n):0≤be l∧be l < 2 ^ (8 * n):=by
 have:=be_lt l h
 refine ⟨this.1,Int.lt_of_lt_of_le this.2 ?_⟩
 have e:(256:Int) ^ l.length=2 ^ (8 * l.length):=by rw [show (256:Int)=2 ^ 8 by decide,← Int.pow_mul]
 rw [e]
 exact_mod_cast Nat.pow_le_pow_right (by decide) (show 8 * l.length≤8 * n by omega)
def tkS (xs:List Int) (at':Nat) (err n:Int):List Int × Nat × Int :=
 if err=0∧0≤n∧n≤xs.length - at' then ((xs.drop at').take n.toNat,at'+n.toNat,0) else ([],at',if err=0 then 3 else err)
def nuS (xs:List Int) (at':Nat) (err:Int) (n:Nat):Int × Nat × Int :=
 if 9223372036854775807 < be (tkS xs at' err n).1 then (0,at',5) else (be (tkS xs at' err n).1,(tkS xs at' err n).2)
def brA (rb:Nat) (x:List Int × Nat × Int):As:=exA fun s:Sl=>ifA (x.2.1≤x.1.length∧s.len≤s.cap∧qje x.1∧x.1.length≤1099511627776) <| andA (qnb rb [.slice s.a s.len s.cap,.int .i64 (x.2.1:Int),.int .i64 x.2.2]) (qjb 1 s (u8s x.1))
section
variable {F0:List Nat} {w0 w:World} {ps rest:List As} {rb at':Nat} {xs:List Int} {err:Int}
theorem brA_o (h:St F0 w0 w ps) [PkF brA rb ps (xs,at',err) rest]:∃ s:Sl,at'≤xs.length∧s.len≤s.cap∧s.len=xs.length∧qje xs∧xs.length≤1099511627776∧St F0 w0 w (qnb rb [.slice s.a s.len s.cap,.int .i64 (at':Int),.int .i64 err] :: qjb 1 s (u8s xs) :: rest):=by
 obtain ⟨s,h⟩:=(h.toF brA rb).exE
 obtain ⟨⟨h1,h2,h3,h4⟩,h⟩:=h.ifE
 have h:=h.split
 have hl:=h.at1.len
 rw [qw] at hl
 exact ⟨s,h1,h2,by simp only at hl; omega,h3,h4,h⟩
theorem brA_i {s:Sl} (h1:at'≤xs.length) (h2:s.len≤s.cap) (h3:qje xs) (h4:xs.length≤1099511627776) (h:St F0 w0 w (qnb rb [.slice s.a s.len s.cap,.int .i64 (at':Int),.int .i64 err] :: qjb 1 s (u8s xs) :: rest)):St F0 w0 w (brA rb (xs,at',err) :: rest) :=
 (h.join.ifI (c:=at'≤xs.length∧s.len≤s.cap∧qje xs∧xs.length≤1099511627776) ⟨h1,h2,h3,h4⟩).exI (p:=fun s:Sl=>ifA (at'≤xs.length∧s.len≤s.cap∧qje xs∧xs.length≤1099511627776) <| andA (qnb rb [.slice s.a s.len s.cap,.int .i64 (at':Int),.int .i64 err]) (qjb 1 s (u8s xs))) s
theorem qzi.c {s:Sl} {K:Ending→World→Prop} (h:St F0 w0 w ps) [Rdb F0 w0 s ps 1 (u8s xs)] (hx:qje xs) (hL:xs.length≤1099511627776)
 (hk:∀ nb w',St F0 w0 w' (brA nb (xs,0,0) :: ps)→K (.returned (.pointer (some ⟨nb,0,none⟩))) w'):Calls Tryz.prog 73 ⟨[.slice s.a s.len s.cap]⟩ w K:=by
 refine qec (qzi.ok _ _ _ ?_)
 unfold qzi
 refine qsc.c h (h.rdb s) (by omega) fun s1 w h=>⟨s1,rfl,?_⟩
 have hc:=h.cap (by decide)
 refine h.new fun nb w h=>?_
 exact hk nb w (brA_i (Nat.zero_le _) hc hx hL h)
theorem qle.c {K:Ending→World→Prop} (h:St F0 w0 w ps) [PkF brA rb ps (xs,at',err) rest] (hk:K (.returned (.int .i64 err)) w):Calls Tryz.prog 78 ⟨[.pointer (some ⟨rb,0,none⟩)]⟩ w K:=by
 refine qec (qle.ok _ _ _ ?_)
 unfold qle
 obtain ⟨s,h1,h2,h3,h4,h5,h⟩:=brA_o (rb:=rb) h
 exact qde (h.fI hk)
theorem qoe.r {s:Sl} {K:Ending→World→Prop} (h:St F0 w0 w (qnb rb [.slice s.a s.len s.cap,.int .i64 (at':Int),.int .i64 err] :: rest)) (hl:at'≤s.len) (hL:s.len≤1099511627776)
 (hk:∀ w',St F0 w0 w' (qnb rb [.slice s.a s.len s.cap,.int .i64 (at':Int),.int .i64 err] :: rest)→K (.returned (.int .i64 (if err=0 then (s.len:Int) - at' else 0))) w'):Calls Tryz.prog 116 ⟨[.pointer (some ⟨rb,0,none⟩)]⟩ w K:=by
 refine qec (qoe.ok _ _ _ ?_)
 unfold qoe
 refine qde (h.fI (qnc (fun g=>?_) (fun g=>?_)))
 · rw [if_neg (by simpa using g)] at hk
   exact hk w h
 · rw [if_pos (by simpa using g)] at hk
   refine h.drewK fun w h=>?_
   refine qde (h.fL (qde (h.fI ?_)))
   refine qy (qm (by simp only; omega) (by simp only; omega)) ?_
   exact hk w h
theorem qjc.r {s:Sl} {n:Int} {K:Ending→World→Prop} (h:St F0 w0 w (qnb rb [.slice s.a s.len s.cap,.int .i64 (at':Int),.int .i64 err] :: rest)) (hl:at'≤s.len) (hc:s.len≤s.cap) (hL:s.len≤1099511627776)
 (hk:∀ (m:Nat) w',err=0→n=m→m≤s.len - at'→St F0 w0 w' (qnb rb [.slice s.a s.len s.cap,.int .i64 ((at'+m:Nat):Int),.int .i64 0] :: rest)→K (.returned (.slice (qwd s.a s.cap at' 1) (at'+m - at') (s.cap - at'))) w')
 (hk2:∀ w',¬(err=0∧0≤n∧n≤(s.len:Int) - at')→St F0 w0 w' (qnb rb [.slice s.a s.len s.cap,.int .i64 (at':Int),.int .i64 (if err=0 then 3 else err)] :: rest)→K (.returned (.slice none 0 0)) w') :
 Calls Tryz.prog 105 ⟨[.pointer (some ⟨rb,0,none⟩),.int .i64 n]⟩ w K:=by
 refine qec (qjc.ok _ _ _ _ ?_)
 unfold qjc
 have bad:∀ (e:Int) w',e ≠ 0→e=(if err=0 then 3 else err)→¬(err=0∧0≤n∧n≤(s.len:Int) - at')→St F0 w0 w' (qnb rb [.slice s.a s.len s.cap,.int .i64 (at':Int),.int .i64 e] :: rest)→qjc.j1 (some ⟨rb,0,none⟩) n (fun v w'=>K (.returned v) w') w':=by
  intro e w he e1 hn h
  unfold qjc.j1
  refine qde (h.fI (br_is (by simpa using he) ?_))
  subst e1
  exact hk2 w hn h
 refine qde (h.fI (qnc (fun g=>?_) (fun g=>?_)))
 · have g:err=0:=by simpa using g
   subst g
   refine qmc (fun g=>?_) (fun g=>?_)
   · refine qde (h.fst trivial fun w h=>?_)
     exact bad 3 w (by decide) rfl (by omega) h
   · refine qoe.r h hl hL fun w h=>⟨_,rfl,?_⟩
     rw [if_pos rfl]
     refine qmc (fun g2=>?_) (fun g2=>?_)
     · refine qde (h.fst trivial fun w h=>?_)
       exact bad 3 w (by decide) rfl (by omega) h
     · obtain ⟨m,rfl⟩:∃ m:Nat,n=m:=⟨n.toNat,by omega⟩
       unfold qjc.j1
       refine qde (h.fI (br_no (by simp) ?_))
       refine qde (h.fI ?_)
       refine qy (qm (by omega) (by omega)) ?_
       refine qde (h.fst trivial fun w h=>?_)
       refine h.drewK fun w h=>?_
       refine qde (h.fL (qde (h.fI ?_)))
       refine qy (qm (by omega) (by omega)) ?_
       refine qde (h.fI ?_)
       refine qbk (n:=at'+m) (by omega) (by simp only; omega) ?_
       refine qbk (n:=at') (by omega) (by omega) (qed ?_)
       exact hk m w rfl rfl (by omega) (by rw [Int.natCast_add]; exact h)
 · have g:err ≠ 0:=by simpa using g
   exact bad err w g (by rw [if_neg g]) (fun e=>g e.1) h
end
end Go.Proofs.YtigmbblgfnkpbaaGreat
namespace Go.Proofs.YtigmbblgfnkpbaaGreat
open Go Go.Proofs
set_option linter.unusedVariables false
set_option linter.unusedSimpArgs false
attribute [local irreducible] apK cpK mkK
theorem tkS_ok {xs:List Int} (hx:qje xs) (at':Nat) (err n:Int):qje (tkS xs at' err n).1∧(tkS xs at' err n).1.length≤n.toNat∧(tkS xs at' err n).1.length≤xs.length∧(at'≤xs.length→(tkS xs at' err n).2.1≤xs.length):=by
 unfold tkS
 split
 · refine ⟨fun x h=>hx x (List.mem_of_mem_drop (List.mem_of_mem_take h)),by simp; omega,by simp; omega,fun _=>by simp only; omega⟩
 · exact ⟨fun x h=>by simp at h,by simp,by simp,fun h=>h⟩
theorem take_snoc {xs:List Int} {i:Nat} (h:i < xs.length):xs.take (i+1)=xs.take i ++ [xs.getD i 0]:=by
 rw [List.take_succ_eq_append_getElem h]
 simp [List.getD,List.getElem?_eq_getElem h]
theorem allB_getD {xs:List Int} (hx:qje xs) {i:Nat} (h:i < xs.length):0≤xs.getD i 0∧xs.getD i 0 < 256:=by
 have:xs.getD i 0=xs[i]:=by simp [List.getD,List.getElem?_eq_getElem h]
 rw [this]; exact hx _ (List.getElem_mem h)
section
variable {F0:List Nat} {w0 w:World} {ps rest:List As} {rb at':Nat} {xs:List Int} {err:Int}
theorem qlb.loop {t:Sl} {ys:List Int} {Q:VWP} (h:St F0 w0 w ps) [Rdb F0 w0 t ps 1 (u8s ys)] (hy:qje ys) (hL:ys.length≤1099511627776)
 (hk:∀ w',St F0 w0 w' ps→Q (.int .i64 (IntKind.i64.wrap (be ys))) w'):qlb.j3 0 t ((t.len:Nat):Int) 0 Q w:=by
 unfold qlb.j3
 have hl:=(h.rdb t).1
 rw [qw] at hl
 refine qbf (fun (i:Nat) (v i':Int) w'=>i'=i∧i≤ys.length∧v=IntKind.i64.wrap (be (ys.take i))∧St F0 w0 w' ps) (fun i=>ys.length - i) 0 ⟨rfl,by omega,rfl,h⟩ ?_
 clear h
 rintro i v i' w I μ ⟨rfl,hi,rfl,h⟩ hin
 unfold qlb.b1
 refine qmc (fun g=>?_) (fun g=>?_)
 · have hiy:i < ys.length:=by omega
   have hc:=allB_getD hy hiy
   refine h.lx i rfl hiy ⟨by decide,qed ?_⟩
   refine qy (qm (by omega) (by omega)) ?_
   refine qy (be_fold .i64 rfl 0 _ _ hc) ?_
   rw [← take_snoc hiy]
   refine qy (qm (by omega) (by omega)) ?_
   exact ⟨⟨rfl,rfl⟩,hin (i+1) _ _ _ ⟨by omega,by omega,rfl,h⟩ (by omega)⟩
 · have:i=ys.length:=by omega
   subst this
   rw [List.take_length]
   exact hk w h
theorem qlb.c {n:Nat} {K:Ending→World→Prop} (h:St F0 w0 w ps) [PkF brA rb ps (xs,at',err) rest]
 (hk:∀ w',St F0 w0 w' (brA rb (xs,(tkS xs at' err n).2) :: rest)→K (.returned (.int .i64 (IntKind.i64.wrap (be (tkS xs at' err n).1)))) w'):Calls Tryz.prog 104 ⟨[.pointer (some ⟨rb,0,none⟩),.int .i64 (n:Int)]⟩ w K:=by
 refine qec (qlb.ok _ _ _ _ ?_)
 unfold qlb qlb.j1
 obtain ⟨s,h1,h2,h3,h4,h5,h⟩:=brA_o (rb:=rb) h
 refine qjc.r h (by omega) h2 (by omega) (fun m w e1 e2 e3 g=>⟨⟨_,_,_⟩,rfl,?_⟩) (fun w hn h=>⟨⟨none,0,0⟩,rfl,?_⟩)
 · have e2:n=m:=by omega
   subst e2 e1
   have h:=g
   have et:tkS xs at' 0 n=((xs.drop at').take n,at'+n,0):=by unfold tkS; rw [if_pos ⟨rfl,by omega,by omega⟩,Int.toNat_natCast]
   rw [et] at hk
   haveI:=h.cutR s at' (at'+n) (s.cap - at') (ys:=(xs.drop at').take n) (by omega) (by omega) h2 (by rw [show at'+n - at'=n by omega])
   refine qlb.loop (t:=⟨qwd s.a s.cap at' 1,at'+n - at',s.cap - at'⟩) (ys:=(xs.drop at').take n) h (fun x hx=>h4 x (List.mem_of_mem_drop (List.mem_of_mem_take hx))) (by simp; omega) fun w h=>?_
   exact hk w (brA_i (by omega) h2 h4 h5 h)
 · have et:tkS xs at' err n=([],at',if err=0 then 3 else err):=by unfold tkS; rw [if_neg (by omega)]
   rw [et] at hk
   haveI:=Rdb.nil (F0:=F0) (w0:=w0) (ps:=qnb rb [.slice s.a s.len s.cap,.int .i64 (at':Int),.int .i64 (if err=0 then 3 else err)] :: qjb 1 s (u8s xs) :: rest) 0
   refine qlb.loop (t:=⟨none,0,0⟩) (ys:=[]) h (fun x hx=>by cases hx) (by simp) fun w h=>?_
   exact hk w (brA_i h1 h2 h4 h5 h)
theorem nuS_small {n:Nat} (hx:qje xs) (hn:n≤4):IntKind.i64.wrap (be (tkS xs at' err n).1)=(nuS xs at' err n).1∧(nuS xs at' err n).2=(tkS xs at' err n).2:=by
 have h:=tkS_ok hx at' err n
 have h2:=be_lt8 h.1 (n:=4) (by omega)
 have h3:(2:Int) ^ (8 * 4)=4294967296:=by decide
 rw [h3] at h2
 unfold nuS
 rw [if_neg (by omega),qm (by omega) (by omega)]
 exact ⟨rfl,rfl⟩
theorem qmd.c {K:Ending→World→Prop} (h:St F0 w0 w ps) [PkF brA rb ps (xs,at',err) rest] (hx:qje xs)
 (hk:∀ w',St F0 w0 w' (brA rb (xs,(nuS xs at' err 4).2) :: rest)→K (.returned (.int .i64 (nuS xs at' err 4).1)) w'):Calls Tryz.prog 74 ⟨[.pointer (some ⟨rb,0,none⟩)]⟩ w K:=by
 refine qec (qmd.ok _ _ _ ?_)
 unfold qmd
 obtain ⟨e1,e2⟩:=nuS_small (at':=at') (err:=err) hx (show 4≤4 by decide)
 refine qlb.c (n:=4) h fun w h=>⟨_,rfl,?_⟩
 rw [← e2] at h
 rw [e1]
 exact hk w h
theorem qye.c {K:Ending→World→Prop} (h:St F0 w0 w ps) [PkF brA rb ps (xs,at',err) rest] (hx:qje xs)
 (hk:∀ w',St F0 w0 w' (brA rb (xs,(nuS xs at' err 8).2) :: rest)→K (.returned (.int .i64 (nuS xs at' err 8).1)) w'):Calls Tryz.prog 76 ⟨[.pointer (some ⟨rb,0,none⟩)]⟩ w K:=by
 refine qec (qye.ok _ _ _ ?_)
 unfold qye
 have hl0:at'≤xs.length:=by obtain ⟨s,h1,_⟩:=brA_o (rb:=rb) h; exact h1
 refine qlb.c (n:=8) h fun w h=>⟨_,rfl,?_⟩
 have hd:((8:Nat):Int)=8:=rfl
 rw [hd] at h ⊢
 have hok:=tkS_ok hx at' err 8
 have h2:=be_lt8 hok.1 (n:=8) (by omega)
 have h3:(2:Int) ^ (8 * 8)=18446744073709551616:=by decide
 rw [h3] at h2
 have hw:=wrap_i64_eq (be (tkS xs at' err 8).1)
 unfold nuS at hk
 rw [hd] at hk
 refine qmc (fun g=>?_) (fun g=>?_)
 · rw [if_pos (by omega)] at hk
   have hat:(tkS xs at' err 8).2=(at'+8,0):=by
    unfold tkS at g ⊢
    split
    · rfl
    · rename_i hn
      rw [if_neg hn] at g
      exact absurd g (by show ¬ IntKind.i64.wrap (be []) < 0; decide)
   rw [hat] at h
   obtain ⟨s,h1,h2,h3,h4,h5,h⟩:=brA_o (rb:=rb) h
   refine qde (h.fI ?_)
   refine qy (qm (by omega) (by omega)) ?_
   refine qde (h.fst trivial fun w h=>?_)
   refine qde (h.fst trivial fun w h=>?_)
   rw [show ((at'+8:Nat):Int) - 8=(at':Int) by omega] at h
   exact hk w (brA_i hl0 h2 h4 h5 h)
 · rw [if_neg (by omega)] at hk
   rw [qm (by omega) (by omega)]
   exact hk w h
theorem qqd.c {n:Int} {K:Ending→World→Prop} (h:St F0 w0 w ps) [PkF brA rb ps (xs,at',err) rest]
 (hk:∀ s' w',St F0 w0 w' (rdA 1 s' (u8s (tkS xs at' err n).1) :: brA rb (xs,(tkS xs at' err n).2) :: rest)→K (.returned (.slice s'.a s'.len s'.cap)) w'):Calls Tryz.prog 75 ⟨[.pointer (some ⟨rb,0,none⟩),.int .i64 n]⟩ w K:=by
 refine qec (qqd.ok _ _ _ _ ?_)
 unfold qqd
 obtain ⟨s,h1,h2,h3,h4,h5,h⟩:=brA_o (rb:=rb) h
 refine qjc.r h (by omega) h2 (by omega) (fun m w e1 e2 e3 g=>⟨⟨_,_,_⟩,rfl,?_⟩) (fun w hn h=>⟨⟨none,0,0⟩,rfl,?_⟩)
 · subst e2 e1
   have h:=g
   have et:tkS xs at' 0 m=((xs.drop at').take m,at'+m,0):=by unfold tkS; rw [if_pos ⟨rfl,by omega,by omega⟩,Int.toNat_natCast]
   rw [et] at hk
   have hr:=(h.cutR s at' (at'+m) (s.cap - at') (ys:=(xs.drop at').take m) (by omega) (by omega) h2 (by rw [show at'+m - at'=m by omega])).rd h
   refine qsc.c h hr (by simp; omega) fun s1 w h=>⟨s1,rfl,?_⟩
   refine qkc.c h.ro (h.cap (by decide)) fun s2 _ _ h=>⟨s2,rfl,?_⟩
   exact hk s2 w (h.tail fun _ _ _ h=>brA_i (by omega) h2 h4 h5 h)
 · have et:tkS xs at' err n=([],at',if err=0 then 3 else err):=by unfold tkS; rw [if_neg (by omega)]
   rw [et] at hk
   refine qsc.c (s:=⟨none,0,0⟩) (xs:=[]) h ((Rdb.nil 0).rd h) (by simp) fun s1 w h=>⟨s1,rfl,?_⟩
   refine qkc.c h.ro (h.cap (by decide)) fun s2 _ _ h=>⟨s2,rfl,?_⟩
   exact hk s2 w (h.tail fun _ _ _ h=>brA_i h1 h2 h4 h5 h)
def brR (rb:Nat) (x:Sl × Nat × Int):As:=qnb rb [.slice x.1.a x.1.len x.1.cap,.int .i64 (x.2.1:Int),.int .i64 x.2.2]
theorem brR_o {s:Sl} (h:St F0 w0 w ps) [PkF brR rb ps (s,at',err) rest]:St F0 w0 w (qnb rb [.slice s.a s.len s.cap,.int .i64 (at':Int),.int .i64 err] :: rest):=h.toF brR rb
theorem qdd.c {s:Sl} {n:Int} {K:Ending→World→Prop} (h:St F0 w0 w ps) [PkF brR rb ps (s,at',err) rest] [Rdb F0 w0 s rest 1 (u8s xs)] (ha:at'≤xs.length) (hL:xs.length≤1099511627776) (hc:s.len≤s.cap)
 (hk:∀ s' w',St F0 w0 w' (qjb 1 s' (u8s (tkS xs at' err n).1) :: brR rb (s,(tkS xs at' err n).2) :: rest)→K (.returned (.slice s'.a s'.len s'.cap)) w'):Calls Tryz.prog 108 ⟨[.pointer (some ⟨rb,0,none⟩),.int .i64 n]⟩ w K:=by
 refine qec (qdd.ok _ _ _ _ ?_)
 unfold qdd
 have h:=brR_o (rb:=rb) h
 have hl:=(h.rdb s).1
 rw [qw] at hl
 have bad:∀ (e:Int) w',e=(if err=0 then 3 else err)→¬(err=0∧0≤n∧n≤(xs.length:Int) - at')→St F0 w0 w' (qnb rb [.slice s.a s.len s.cap,.int .i64 (at':Int),.int .i64 e] :: rest)→K (.returned (.slice none 0 0)) w':=by
  intro e w e1 hn h
  subst e1
  have et:tkS xs at' err n=([],at',if err=0 then 3 else err):=by unfold tkS; rw [if_neg (by omega)]
  rw [et] at hk
  exact hk ⟨none,0,0⟩ w (h.nil 1)
 refine qde (h.fI (qnc (fun g=>?_) (fun g=>?_)))
 · have g:err ≠ 0:=by simpa using g
   exact bad err w (by rw [if_neg g]) (fun e=>g e.1) h
 · have g:err=0:=by simpa using g
   subst g
   refine h.drewK fun w h=>?_
   refine qmc (fun g=>?_) (fun g=>?_)
   · refine qde (h.fst trivial fun w h=>?_)
     exact bad 3 w rfl (by omega) h
   refine qde (h.fL (qde (h.fI ?_)))
   refine qy (qm (by simp only; omega) (by simp only; omega)) ?_
   refine qmc (fun g2=>?_) (fun g2=>?_)
   · simp only at g2
     refine qde (h.fst trivial fun w h=>?_)
     exact bad 3 w rfl (by omega) h
   · simp only at g2
     obtain ⟨m,rfl⟩:∃ m:Nat,n=m:=⟨n.toNat,by omega⟩
     refine h.drewK fun w h=>?_
     refine qde (h.fL (qde (h.fI (qde (h.fI ?_)))))
     refine qy (qm (by omega) (by omega)) ?_
     refine qbk (n:=at'+m) (by omega) (by simp only; omega) ?_
     refine qbk (n:=at') (by omega) (by omega) (qed ?_)
     have et:tkS xs at' 0 m=((xs.drop at').take m,at'+m,0):=by unfold tkS; rw [if_pos ⟨rfl,by omega,by omega⟩,Int.toNat_natCast]
     rw [et] at hk
     haveI:=h.cutR s at' (at'+m) (s.cap - at') (ys:=(xs.drop at').take m) (by omega) (by omega) hc (by rw [show at'+m - at'=m by omega])
     refine h.clone (k:=.u8) (s2:=⟨qwd s.a s.cap at' 1,at'+m - at',s.cap - at'⟩) (ys:=(xs.drop at').take m) (by simp; omega) fun s1 w h=>?_
     refine qde (h.fI ?_)
     refine qy (qm (by omega) (by omega)) ?_
     refine qde (h.fst trivial fun w h=>?_)
     have h:=h.at1
     rw [← Int.natCast_add] at h
     exact hk s1 w h
theorem qeb.c {s:Sl} {n:Nat} {K:Ending→World→Prop} (hx:qje xs) (hn:n≤8) (h:St F0 w0 w ps) [PkF brR rb ps (s,at',err) rest] [Rdb F0 w0 s rest 1 (u8s xs)] (ha:at'≤xs.length) (hL:xs.length≤1099511627776) (hc:s.len≤s.cap)
 (hk:∀ w',St F0 w0 w' (brR rb (s,(nuS xs at' err n).2) :: rest)→K (.returned (.int .i64 (nuS xs at' err n).1)) w'):Calls Tryz.prog 80 ⟨[.pointer (some ⟨rb,0,none⟩),.int .i64 (n:Int)]⟩ w K:=by
 refine qec (qeb.ok _ _ _ _ ?_)
 unfold qeb qeb.j1
 have h:=brR_o (rb:=rb) h
 have h:St F0 w0 w (brR rb (s,at',err) :: rest):=h
 have hh:St F0 w0 w (qnb rb [.slice s.a s.len s.cap,.int .i64 (at':Int),.int .i64 err] :: rest):=h
 refine qde (hh.fI ?_)
 refine qdd.c (xs:=xs) (n:=n) h ha hL hc fun s1 w h=>⟨s1,rfl,?_⟩
 have hok:=tkS_ok hx at' err n
 have hb:=be_lt8 hok.1 (n:=8) (by omega)
 have h3:(2:Int) ^ (8 * 8)=18446744073709551616:=by decide
 rw [h3] at hb
 unfold nuS at hk
 generalize tkS xs at' err n=t at h hok hb hk
 obtain ⟨ys,at2,err2⟩:=t
 simp only at h hok hb hk
 unfold qeb.j2 qeb.j4
 have hl:=h.len
 rw [qw] at hl
 refine qbf (fun (i:Nat) (v i':Int) w'=>i'=i∧i≤ys.length∧v=IntKind.u64.wrap (be (ys.take i))∧St F0 w0 w' (qjb 1 s1 (u8s ys) :: brR rb (s,at2,err2) :: rest)) (fun i=>ys.length - i) 0 ⟨rfl,by omega,rfl,h⟩ ?_
 clear h
 rintro i v i' w I μ ⟨rfl,hi,rfl,h⟩ hin
 unfold qeb.b1
 refine qmc (fun g=>?_) (fun g=>?_)
 · have hiy:i < ys.length:=by omega
   have hcc:=allB_getD hok.1 hiy
   refine ⟨by decide,qed ?_⟩
   refine h.lx i rfl hiy ?_
   refine qy (show IntKind.u64.wrap (ys.getD i 0)=ys.getD i 0 by rw [qee]; omega) ?_
   refine qy (be_fold .u64 rfl 0 _ _ hcc) ?_
   rw [← take_snoc hiy]
   refine qy (qm (by omega) (by omega)) ?_
   exact ⟨⟨rfl,rfl,rfl⟩,hin (i+1) _ _ _ ⟨by omega,by omega,rfl,h⟩ (by omega)⟩
 · have:i=ys.length:=by omega
   subst this
   rw [List.take_length]
   have ew:IntKind.u64.wrap (be ys)=be ys:=by rw [qee]; omega
   rw [ew]
   unfold qeb.j3
   have h:St F0 w0 w (qnb rb [.slice s.a s.len s.cap,.int .i64 (at2:Int),.int .i64 err2] :: rest):=h.drop
   refine qmc (fun g=>?_) (fun g=>?_)
   · rw [if_pos (by omega)] at hk
     refine qde (h.fst trivial fun w h=>?_)
     refine qde (h.fst trivial fun w h=>?_)
     exact hk w h
   · rw [if_neg (by omega)] at hk
     refine qy (qm (by omega) (by omega)) ?_
     exact hk w h
end
end Go.Proofs.YtigmbblgfnkpbaaGreat
namespace Go.Proofs.YtigmbblgfnkpbaaGreat
open Go Go.Proofs
set_option linter.unusedVariables false
set_option linter.unusedSimpArgs false
attribute [local irreducible] apK cpK mkK
section
variable {F0:List Nat} {w0 w:World} {ps rest:List As} {xs:List Int}
theorem qkc.d {s:Sl} {ys:List Int} {K:Ending→World→Prop} (h:St F0 w0 w (qjb 1 s (u8s ys) :: ps))
 (hk:∀ s':Sl,s'.len=ys.length→s'.cap=s'.len→St F0 w0 w (rdA 1 s' (u8s ys) :: ps)→K (.returned (.slice s'.a s'.len s'.cap)) w):Calls Tryz.prog 66 ⟨[.slice s.a s.len s.cap]⟩ w K:=by
 have hl:=h.len
 rw [qw] at hl
 exact qkc.c h.ro (h.cap (by decide)) fun s' h1 h2 h=>hk s' (by omega) (by omega) h
end
end Go.Proofs.YtigmbblgfnkpbaaGreat
namespace Go.Proofs.YtigmbblgfnkpbaaGreat
open Go Go.Proofs Go.ChangeShapes Go.WideShapes Go.Deep
set_option linter.unusedVariables false
set_option linter.unusedSimpArgs false
section
variable {H:Type} {enc:TypeId × Value→H} {P:Program} {w:World} {base:Nat} {spare:Nat→Bool} {held:Bool}
instance:Inhabited Sl:=⟨⟨none,0,0⟩⟩
end
end Go.Proofs.YtigmbblgfnkpbaaGreat
namespace Go.Proofs.YtigmbblgfnkpbaaGreat
open Go Go.Proofs
set_option linter.unusedVariables false
set_option linter.unusedSimpArgs false
attribute [local irreducible] apK cpK mkK
section
variable {F0:List Nat} {w0 w:World} {ps rest:List As} {xs:List Int}
theorem qrd.d {s:Sl} {v:Int} {K:Ending→World→Prop} (h:St F0 w0 w ps) [Rdb F0 w0 s ps 1 (u8s xs)] (hL:xs.length≤1099511627776)
 (hk:∀ s' w',s'.len=xs.length+4→s'.cap=s'.len→St F0 w0 w' (rdA 1 s' (u8s (xs ++ beJ 4 4 v)) :: ps)→K (.returned (.slice s'.a s'.len s'.cap)) w'):Calls Tryz.prog 30 ⟨[.slice s.a s.len s.cap,.int .i64 v]⟩ w K:=by
 refine qec (qrd.ok _ _ _ _ ?_)
 unfold qrd
 exact qfd.c (n:=4) h (h.rdb s) hL (by decide) fun s' w h1 h2 h=>⟨s',rfl,hk s' w h1 h2 h⟩
theorem qve.d {s:Sl} {v:Int} {K:Ending→World→Prop} (h:St F0 w0 w ps) [Rdb F0 w0 s ps 1 (u8s xs)] (hL:xs.length≤1099511627776)
 (hk:∀ s' w',s'.len=xs.length+8→s'.cap=s'.len→St F0 w0 w' (rdA 1 s' (u8s (xs ++ beJ 8 8 v)) :: ps)→K (.returned (.slice s'.a s'.len s'.cap)) w'):Calls Tryz.prog 32 ⟨[.slice s.a s.len s.cap,.int .i64 v]⟩ w K:=by
 refine qec (qve.ok _ _ _ _ ?_)
 unfold qve
 exact qfd.c (n:=8) h (h.rdb s) hL (by decide) fun s' w h1 h2 h=>⟨s',rfl,hk s' w h1 h2 h⟩
end
end Go.Proofs.YtigmbblgfnkpbaaGreat
namespace Go.Proofs.YtigmbblgfnkpbaaGreat
open Go Go.Proofs
set_option linter.unusedVariables false
set_option linter.unusedSimpArgs false
def nmA (A P:List Nm):List Int:=P.map fun p=>(qgh A p:Int)
theorem qnd (A P:List Nm):(nmA A P).length=P.length:=by simp [nmA]
def numA (q:List Int):Int:=if 0 < q.length then q.getD 0 0 else 1879048192
def numB (e:Nat) (q:List Int):Int:=if q.length=2 then q.getD 1 0 else if 2 < q.length then 2147483648+(e:Int) else 1879048192
def edw (q:List Int):List Int:=if 2 < q.length then (q.drop 1).dropLast ++ [q.getD (q.length - 1) 0+2147483648] else []
def wB (ws:List Int):List Int:=ws.flatMap (beJ 4 4)
theorem qtf (ws:List Int):(wB ws).length=4 * ws.length:=by
 induction ws with
 | nil=>rfl
 | cons v ws ih =>
   show (beJ 4 4 v ++ wB ws).length=_
   rw [List.length_append,ih,qic,List.length_cons]
   omega
theorem qtj (a b:List Int):wB (a ++ b)=wB a ++ wB b:=by simp [wB]
theorem qnl (v:Int):wB [v]=beJ 4 4 v:=by simp [wB]
theorem be4 (v:Int):beJ 4 4 v=[v / 16777216 % 256,v / 65536 % 256,v / 256 % 256,v % 256]:=by
 simp [beJ,List.range,List.range.loop]
theorem mark_last {E D:List Int} {v:Int} (h0:0≤v) (h1:v < 2147483648):(E ++ wB (D ++ [v])).set ((E ++ wB (D ++ [v])).length - 4) (v / 16777216 % 256+128)=E ++ wB (D ++ [v+2147483648]):=by
 rw [qtj,qtj,qnl,qnl,← List.append_assoc,← List.append_assoc]
 generalize E ++ wB D=X
 rw [List.length_append,qic,List.set_append_right _ _ (by omega),show X.length+4 - 4 - X.length=0 by omega,be4,be4,List.set_cons_zero]
 congr 1
 rw [List.cons.injEq,List.cons.injEq,List.cons.injEq,List.cons.injEq]
 refine ⟨by omega,by omega,by omega,by omega,rfl⟩
theorem edw_nil {q:List Int} (h:¬ 2 < q.length):edw q=[]:=by unfold edw; rw [if_neg h]
theorem drop1_last {q:List Int} (h:2 < q.length):q.drop 1=(q.drop 1).dropLast ++ [q.getD (q.length - 1) 0]:=by
 have hne:q.drop 1 ≠ []:=fun e=>by
  have:=congrArg List.length e
  rw [List.length_drop,List.length_nil] at this
  omega
 conv=>lhs; rw [← List.dropLast_concat_getLast hne]
 congr 2
 rw [List.getLast_eq_getElem,List.getElem_drop]
 have hl:1+((q.drop 1).length - 1)=q.length - 1:=by rw [List.length_drop]; omega
 simp only [hl]
 rw [List.getD_eq_getElem?_getD,List.getElem?_eq_getElem (by omega)]
 rfl
theorem qil (q:List Int):(edw q).length=if 2 < q.length then q.length - 1 else 0:=by
 unfold edw
 split
 · simp; omega
 · rfl
def qC (A:List Nm) (c:Cm):List Int:=nmA A c.par
def eG (A:List Nm) (S:List Cm):List Int:=S.flatMap fun c=>edw (qC A c)
theorem eG_snoc (A:List Nm) (S:List Cm) (c:Cm):eG A (S ++ [c])=eG A S ++ edw (qC A c):=by simp [eG]
theorem eG_take {A:List Nm} {S:List Cm} {i:Nat} (h:i < S.length):eG A (S.take (i+1))=eG A (S.take i) ++ edw (qC A S[i]):=by
 rw [List.take_succ_eq_append_getElem h,eG_snoc]
theorem eG_le (A:List Nm) (S:List Cm) (i:Nat):(eG A (S.take i)).length≤(eG A S).length:=by
 have:eG A S=eG A (S.take i) ++ eG A (S.drop i):=by
  unfold eG
  rw [← List.flatMap_append,List.take_append_drop]
 rw [this,List.length_append]
 omega
def drow (qaf q:List Int) (e:Nat) (gd:Int):List Int:=qaf ++ (beJ 4 4 (numA q) ++ (beJ 4 4 (numB e q) ++ beJ 8 8 gd))
def drw (A:List Nm) (g:Nm→Int) (S:List Cm) (j:Nat):List Int:=drow (S.getD j default).qaf.1 (qC A (S.getD j default)) (eG A (S.take j)).length (g (S.getD j default).id * 17179869184+(S.getD j default).date)
theorem drw_len (A:List Nm) (g:Nm→Int) (S:List Cm) (j:Nat):(drw A g S j).length=36:=by
 unfold drw drow
 rw [List.length_append,List.length_append,List.length_append,qic,qic,qic,(S.getD j default).qaf.2.1]
def dG (A:List Nm) (g:Nm→Int) (S:List Cm) (i:Nat):List Int:=(List.range i).flatMap (drw A g S)
theorem qen (A:List Nm) (g:Nm→Int) (S:List Cm) (i:Nat):dG A g S (i+1)=dG A g S i ++ drw A g S i:=by
 unfold dG
 rw [List.range_succ,List.flatMap_append]
 simp
theorem qnk (A:List Nm) (g:Nm→Int) (S:List Cm) (i:Nat):(dG A g S i).length=36 * i:=by
 induction i with
 | zero=>rfl
 | succ i ih=>rw [qen,List.length_append,ih,drw_len]; omega
def fB (A:List Nm):List Int:=wB (fanL A)
theorem qhh (A:List Nm):(fanL A).length=256:=by unfold fanL; rw [qid]
theorem qvl (A:List Nm):(fB A).length=1024:=by unfold fB; rw [qtf,qhh]
def nB (A:List Nm):List Int:=A.flatMap (·.1)
theorem qpl (A:List Nm):(nB A).length=20 * A.length:=by
 induction A with
 | nil=>rfl
 | cons a A ih =>
   show (a.1 ++ nB A).length=_
   rw [List.length_append,ih,a.2.1,List.length_cons]
   omega
theorem nB_snoc (A:List Nm) (a:Nm):nB (A ++ [a])=nB A ++ a.1:=by simp [nB]
def wrdB:List (List Int):=[[79,73,68,70],[79,73,68,76],[67,68,65,84],[69,68,71,69]]
def ofs (l:List (List Int)) (i:Nat):Nat:=8+(l.length+1) * 12+(l.take i).flatten.length
def tb (l:List (List Int)) (i:Nat):List Int:=(List.range i).flatMap fun j=>wrdB.getD j [] ++ beJ 8 8 (ofs l j)
theorem qsk (l:List (List Int)) (i:Nat):tb l (i+1)=tb l i ++ (wrdB.getD i [] ++ beJ 8 8 (ofs l i)):=by
 unfold tb
 rw [List.range_succ,List.flatMap_append]
 simp
theorem ofs_succ {l:List (List Int)} {i:Nat} (h:i < l.length):ofs l (i+1)=ofs l i+l[i].length:=by
 unfold ofs
 rw [List.take_succ_eq_append_getElem h,List.flatten_append,List.length_append]
 simp
 omega
theorem tb_len (l:List (List Int)) {i:Nat} (hi:i≤4):(tb l i).length=12 * i:=by
 induction i with
 | zero=>rfl
 | succ i ih =>
   have hw:(wrdB.getD i []).length=4:=by
    have:i=0 ∨ i=1 ∨ i=2 ∨ i=3:=by omega
    rcases this with rfl | rfl | rfl | rfl <;> rfl
   rw [qsk,List.length_append,List.length_append,ih (by omega),qic,hw]
   omega
def hdB (n:Int):List Int:=[67,71,80,72] ++ [1,1,n,0]
def qth (l:List (List Int)):List Int:=hdB l.length ++ tb l l.length ++ [0,0,0,0] ++ beJ 8 8 (ofs l l.length) ++ l.flatten
def chkB (l:List (List Int)):List Int:=qth l ++ qxe (qth l)
def qxd (A:List Nm) (g:Nm→Int) (S:List Cm):List (List Int):=[fB A,nB A,dG A g S S.length] ++ if (eG A S).length=0 then [] else [wB (eG A S)]
def gB (S:List Cm) (g:Nm→Int):List Int:=chkB (qxd (S.map (·.id)) g S)
theorem quc {a b:List Int}:qje (a ++ b) ↔ qje a∧qje b:=by
 unfold qje
 constructor
 · exact fun h=>⟨fun x hx=>h x (by simp [hx]),fun x hx=>h x (by simp [hx])⟩
 · rintro ⟨h1,h2⟩ x hx
   rcases List.mem_append.1 hx with hx | hx
   · exact h1 x hx
   · exact h2 x hx
theorem qbj {α:Type} {f:α→List Int} {l:List α} (h:∀ x ∈ l,qje (f x)):qje (l.flatMap f):=by
 intro y hy
 obtain ⟨x,hx,hy⟩:=List.mem_flatMap.1 hy
 exact h x hx y hy
theorem wB_ok (ws:List Int):qje (wB ws):=qbj fun v _=>qii 4 4 v
theorem nm_ok (a:Nm):qje a.1:=a.2.2
theorem drow_ok {qaf q:List Int} {e:Nat} {gd:Int} (ht:qje qaf):qje (drow qaf q e gd):=by
 unfold drow
 rw [quc,quc,quc]
 exact ⟨ht,qii 4 4 _,qii 4 4 _,qii 8 8 _⟩
theorem dG_ok (A:List Nm) (g:Nm→Int) (S:List Cm) (i:Nat):qje (dG A g S i):=qbj fun j _=>drow_ok (nm_ok _)
theorem nB_ok (A:List Nm):qje (nB A):=qbj fun a _=>nm_ok a
end Go.Proofs.YtigmbblgfnkpbaaGreat
namespace Go.Proofs.YtigmbblgfnkpbaaGreat
open Go Go.Proofs
set_option linter.unusedVariables false
set_option linter.unusedSimpArgs false
attribute [local irreducible] apK cpK mkK br
def clA (sz:Nat) (s:Sl) (cs:List Value):As where
 hd w F:=(s.a=none∧s.len=0∧cs=[]∧F=[]) ∨ ∃ ob rest,s.a=some ⟨ob,0,none⟩∧Blk w ob (cs ++ rest)∧cs.length=s.len * sz∧F=[ob]
 keep:=by
  rintro w w' F G (h | ⟨ob,rest,h1,hb,h2,rfl⟩) m hd
  · exact Or.inl h
  · exact Or.inr ⟨ob,rest,h1,hb.keep m (hd ob (by simp)),h2,rfl⟩
 lt:=by
  rintro w F (⟨_,_,_,rfl⟩ | ⟨ob,rest,h1,hb,h2,rfl⟩) x hx
  · cases hx
  · have:x=ob:=by simpa using hx
    subst this; exact hb.lt
section
variable {F0:List Nat} {w0 w:World} {ps rest:List As} {s:Sl} {sz:Nat} {cs:List Value} {xs:List Int}
theorem St.ocl (h:St F0 w0 w (qjb sz s cs :: ps)):St F0 w0 w (clA sz s cs :: ps):=h.mp (by
 rintro F (⟨rfl,rfl,rfl⟩ | ⟨ob,rs,h1,hb,h2,h3,rfl⟩)
 · exact Or.inl ⟨rfl,rfl,rfl,rfl⟩
 · exact Or.inr ⟨ob,rs,h1,hb,h2,rfl⟩)
theorem St.recapC {s':Sl} (h:St F0 w0 w (clA sz s cs :: ps)) (ha:s'.a=s.a) (hl:s'.len=s.len):St F0 w0 w (clA sz s' cs :: ps):=h.mp (by
 rintro F (⟨h1,h2,h3,rfl⟩ | ⟨ob,rs,h1,hb,h2,rfl⟩)
 · exact Or.inl ⟨by rw [ha]; exact h1,by rw [hl]; exact h2,h3,rfl⟩
 · exact Or.inr ⟨ob,rs,by rw [ha]; exact h1,hb,by rw [hl]; exact h2,rfl⟩)
theorem St.clrd (h:St F0 w0 w (clA sz s cs :: ps)):Rd w sz s cs:=by
 obtain ⟨F,⟨h1,h2,rfl,_⟩ | ⟨ob,rs,h1,hb,h2,_⟩⟩:=h.get
 · exact ⟨by simp [h2],fun i hi=>by simp at hi⟩
 · refine ⟨h2,fun i hi=>⟨_,h1,?_⟩⟩
   rw [qld,Nat.zero_add,hb.cell,List.getElem?_append_left hi]
instance Rdb.cl:Rdb F0 w0 s (clA sz s cs :: ps) sz cs:=⟨fun h=>h.clrd⟩
theorem St.clx {k:IntKind} {zs:List Int} {i v:Int} {K:World→Prop} (h:St F0 w0 w (clA 1 s (ivs k zs) :: ps)) (j:Nat) (hi:i=j) (hj:j < zs.length) (hk:∀ w',St F0 w0 w' (clA 1 s (ivs k (zs.set j v)) :: ps)→K w'):ixS s.a s.len i 1 fun a=>Go.Proofs.YtigmbblgfnkpbaaGreat.st w a (.int k v) K:=by
 subst hi
 obtain ⟨F,ho,hst⟩:=h.step
 rcases ho with ⟨h1,h2,h3,_⟩ | ⟨ob,rs,h1,hb,h2,rfl⟩
 · have:(ivs k zs).length=0:=by rw [h3]; rfl
   rw [qw] at this
   omega
 · rw [qw,Nat.mul_one] at h2
   unfold ixS
   rw [h1]
   refine ⟨⟨by omega,by omega⟩,?_⟩
   rw [qld,Int.toNat_natCast]
   refine hb.st (by rw [List.length_append,qw]; omega) trivial fun w' hm hb'=>hk w' (hst w' [ob] (clA 1 s (ivs k (zs.set j v))) hm (Gr.refl _ _) (Or.inr ⟨ob,rs,h1,?_,?_,rfl⟩))
   · rw [show 0+j * 1=j by omega,List.set_append_left _ _ (by rw [qw]; exact hj),ivs_set] at hb'
     exact hb'
   · rw [qw,List.length_set]; omega
theorem qfd.cl {v:Int} {n:Nat} {K:Ending→World→Prop} (h:St F0 w0 w ps) (hr:Rd w 1 s (u8s xs)) (hL:xs.length≤1099511627776) (hn:n≤8)
 (hk:∀ s' w',s'.len=xs.length+n→s'.cap=s'.len→St F0 w0 w' (clA 1 s' (u8s (xs ++ beJ n n v)) :: ps)→K (.returned (.slice s'.a s'.len s'.cap)) w'):Calls Tryz.prog 64 ⟨[.slice s.a s.len s.cap,.int .i64 v,.int .i64 ((8 * n:Nat):Int)]⟩ w K:=by
 refine qec (qfd.ok _ _ _ _ _ ?_)
 unfold qfd
 refine qsc.c h hr (by omega) fun s1 w h=>⟨s1,rfl,?_⟩
 unfold qfd.j1
 refine qbf (fun (j:Nat) (b':Int) (o':Sl) w=>b'=((8 * (n - j):Nat):Int)∧j≤n∧St F0 w0 w (qjb 1 o' (u8s (xs ++ beJ n j v)) :: ps)) (fun j=>n - j) 0 ⟨rfl,by omega,by simpa [beJ] using h⟩ ?_
 clear h
 rintro j b' o w I μ ⟨rfl,hj,h⟩ hin
 unfold qfd.b1
 refine qmc (fun h1=>?_) (fun h1=>?_)
 · refine qy (qm (by omega) (by omega)) ?_
   have e:((8 * (n - j):Nat):Int) - 8=((8 * (n - 1 - j):Nat):Int):=by omega
   rw [e]
   refine ⟨by omega,?_⟩
   refine qy (qdh .i64 _ (show 8 * (n - 1 - j)≤64 by omega)) ?_
   refine qy (quh _) ?_
   refine h.new fun nb w h=>?_
   refine h.rdB rfl ?_
   refine h.drop.append_u8 (by rw [List.length_append,qic]; omega) rfl fun s2 w h=>?_
   refine ⟨rfl,hin (j+1) _ _ _ ⟨?_,by omega,?_⟩ (by omega)⟩
   · rw [show n - 1 - j=n - (j+1) by omega]
   · rw [qjm,← List.append_assoc]
     exact h
 · have:j=n:=by omega
   subst this
   have hcap:=h.cap (by decide)
   have hlen:=h.len
   rw [qmb,List.length_append,qic] at hlen
   unfold qfd.j2
   refine qec (qkc.ok _ _ _ ?_)
   unfold qkc
   refine qbk rfl hcap (qbk rfl (Nat.le_refl _) (qed ⟨_,rfl,?_⟩))
   refine hk _ w ?_ rfl (h.ocl.recapC ?_ ?_)
   · show o.len - 0=_
     omega
   · show qwd o.a o.len 0 1=o.a
     unfold qwd
     split
     · rfl
     · rw [Nat.zero_mul]
       cases o.a with
       | none=>rfl
       | some a=>simp [Addr.add]
   · show o.len - 0=o.len
     omega
theorem qrd.cl {v:Int} {K:Ending→World→Prop} (h:St F0 w0 w ps) [Rdb F0 w0 s ps 1 (u8s xs)] (hL:xs.length≤1099511627776)
 (hk:∀ s' w',s'.len=xs.length+4→s'.cap=s'.len→St F0 w0 w' (clA 1 s' (u8s (xs ++ beJ 4 4 v)) :: ps)→K (.returned (.slice s'.a s'.len s'.cap)) w'):Calls Tryz.prog 30 ⟨[.slice s.a s.len s.cap,.int .i64 v]⟩ w K:=by
 refine qec (qrd.ok _ _ _ _ ?_)
 unfold qrd
 exact qfd.cl (n:=4) h (h.rdb s) hL (by decide) fun s' w h1 h2 h=>⟨s',rfl,hk s' w h1 h2 h⟩
end
end Go.Proofs.YtigmbblgfnkpbaaGreat
namespace Go.Proofs.YtigmbblgfnkpbaaGreat
open Go Go.Proofs
set_option linter.unusedVariables false
set_option linter.unusedSimpArgs false
attribute [local irreducible] apK cpK mkK br
def slB (L:List (Sl × List Int)):List Value:=L.map fun x=>.slice x.1.a x.1.len x.1.cap
section
variable {F0:List Nat} {w0 w:World} {ps rest:List As} {s:Sl}
theorem St.frontB {sz:Nat} {cs:List Value} (h:St F0 w0 w (qjb sz s cs :: ps)) (m:Nat) (hm:m≤s.len):St F0 w0 w (qjb sz ⟨qwd s.a s.cap 0 sz,m - 0,s.cap - 0⟩ (cs.take (m * sz)) :: ps):=by
 refine h.mp ?_
 rintro F (⟨rfl,rfl,rfl⟩ | ⟨ob,rs,h1,hb,h2,h3,rfl⟩)
 · have:m=0:=by simpa using hm
   subst this
   exact Or.inl ⟨rfl,by simp,rfl⟩
 · refine Or.inr ⟨ob,cs.drop (m * sz) ++ rs,?_,?_,?_,?_,rfl⟩
   · show qwd s.a s.cap 0 sz=_
     unfold qwd
     rw [h1]
     split
     · rfl
     · rw [Option.map_some,qld,Nat.zero_mul]
   · rw [← List.append_assoc,List.take_append_drop]; exact hb
   · rw [List.length_take,h2]
     exact Nat.min_eq_left (Nat.mul_le_mul_right _ hm)
   · rw [← List.append_assoc,List.take_append_drop]; exact h3
theorem qce.c {n:Nat} {K:Ending→World→Prop} (h:St F0 w0 w ps) (hn:n≤1000000)
 (hk:∀ t w',t.len=0→St F0 w0 w' (qjb 1 t (ivs .u8 []) :: ps)→K (.returned (.slice t.a t.len t.cap)) w'):Calls Tryz.prog 101 ⟨[.slice none 0 0,.int .i64 n]⟩ w K:=by
 refine qec (qce.ok ⟨none,0,0⟩ _ _ _ ?_)
 unfold qce
 dsimp only
 refine qmc (fun g=>by omega) (fun _=>?_)
 refine qy (qm (by omega) (by omega)) ?_
 refine qy (qm (by omega) (by omega)) ?_
 have e:(n:Int) - (((0:Nat):Int) - ((0:Nat):Int))=n:=by simp
 rw [e]
 have h:=h.nil 1
 refine qmc (fun g=>?_) (fun g=>hk ⟨none,0,0⟩ w rfl h)
 refine qbk (n:=0) rfl (Nat.le_refl _) (qed ?_)
 have he:Elt Tryz.prog 5 (.int .u8 0):=elt_u8
 dsimp only
 refine ⟨⟨by omega,by omega,?_,by omega⟩,?_⟩
 · have hb:=(Elt.bytes (P:=Tryz.prog) (e:=5) (z:=.int .u8 0))
   have h3:(n:Int) * (Tryz.prog.bytesOf 5:Int)≤1000000 * 16:=Int.mul_le_mul (by omega) (by omega) (by omega) (by omega)
   exact Int.le_trans h3 (by decide)
 rw [Int.toNat_natCast,he.zc,repL_one]
 refine St.app (s:=⟨none,0,0⟩) (cs2:=List.replicate n (.int .u8 0)) (z:=.int .u8 0) h rfl (by simp) (by rw [List.length_nil]; omega) (fun v hv=>?_) fun s6 w h=>?_
 · have hv:v ∈ List.replicate n (Value.int .u8 0):=by simpa using hv
   rw [(List.mem_replicate.1 hv).2]
   trivial
 refine qbk (n:=0) rfl (Nat.zero_le _) (qed ?_)
 refine hk ⟨qwd s6.a s6.cap 0 1,0 - 0,s6.cap - 0⟩ w rfl ?_
 have h:=h.frontB 0 (Nat.zero_le _)
 rw [Nat.zero_mul,List.take_zero] at h
 exact h
theorem Rd.lslB {L:List (Sl × List Int)} {i:Int} {K:Sl→Prop} (h:Rd w 1 s (slB L)) (j:Nat) (hi:i=j) (hj:j < L.length) (hk:K L[j].1):ixS s.a s.len i 1 fun a=>ldL w a K:=by
 subst hi
 have hl:=h.1
 rw [show (slB L).length=L.length by simp [slB]] at hl
 refine h.ix (by decide) (by omega) (by omega) fun a ha=>?_
 rw [show ((j:Int)).toNat * 1=j by omega]
 exact ldL_c (by rw [h.cell ha (by simp [slB]; omega)]; simp [slB,hj]) hk
def catB (L:List (Sl × List Int)):List Int:=L.flatMap (·.2)
theorem catB_snoc (L:List (Sl × List Int)) {i:Nat} (h:i < L.length):catB (L.take (i+1))=catB (L.take i) ++ L[i].2:=by
 unfold catB
 rw [List.take_succ_eq_append_getElem h,List.flatMap_append]
 simp
theorem catB_le (L:List (Sl × List Int)) (i:Nat):(catB (L.take i)).length≤(catB L).length:=by
 have:catB L=catB (L.take i) ++ catB (L.drop i):=by
  unfold catB
  rw [← List.flatMap_append,List.take_append_drop]
 rw [this,List.length_append]
 omega
theorem qab.c {L:List (Sl × List Int)} {K:Ending→World→Prop} (h:St F0 w0 w ps) [Rdb F0 w0 s ps 1 (slB L)] (hL:∀ y ∈ L,∀ w,St F0 w0 w ps→Rd w 1 y.1 (ivs .u8 y.2)) (hn:L.length≤1000) (hlen:(catB L).length≤1000000)
 (hk:∀ t w',t.len=(catB L).length→St F0 w0 w' (qjb 1 t (ivs .u8 (catB L)) :: ps)→K (.returned (.slice t.a t.len t.cap)) w'):Calls Tryz.prog 65 ⟨[.slice s.a s.len s.cap]⟩ w K:=by
 have hl:=(h.rdb s).1
 rw [show (slB L).length=L.length by simp [slB]] at hl
 refine qec (qab.ok _ _ _ ?_)
 unfold qab qab.j1 qab.j6
 refine qbf (fun (i:Nat) (z:Int) (i':Int) w'=>i'=i∧i≤L.length∧z=(catB (L.take i)).length∧St F0 w0 w' ps) (fun i=>L.length - i) 0 ⟨rfl,by omega,by simp [catB],h⟩ ?_
 clear h
 rintro i z i' wL I μ ⟨rfl,hi,rfl,h⟩ hin
 have hle:=catB_le L i
 unfold qab.b2
 refine qmc (fun g=>?_) (fun g=>?_)
 · have hix:i < L.length:=by omega
   have hsn:=catB_snoc L hix
   have hle2:=catB_le L (i+1)
   refine (h.rdb s).lslB i rfl hix ?_
   have hy:=(hL L[i] (List.getElem_mem hix) _ h).1
   rw [qw] at hy
   rw [hsn,List.length_append] at hle2
   refine qy (qm (by omega) (by omega)) ?_
   refine qmc (fun g=>by omega) (fun _=>?_)
   refine qy (qm (by omega) (by omega)) ?_
   refine ⟨⟨rfl,rfl,rfl⟩,hin (i+1) _ _ _ ⟨by omega,by omega,?_,h⟩ (by omega)⟩
   rw [hsn,List.length_append]
   omega
 · have:i=L.length:=by omega
   subst this
   rw [List.take_length]
   unfold qab.j2
   refine qce.c h hlen fun t w ht h=>⟨t,rfl,?_⟩
   unfold qab.j3 qab.j5
   refine qbf (fun (i:Nat) (o:Sl) (i':Int) w'=>i'=i∧i≤L.length∧St F0 w0 w' (qjb 1 o (ivs .u8 (catB (L.take i))) :: ps)) (fun i=>L.length - i) 0 ⟨rfl,by omega,by simpa [catB] using h⟩ ?_
   clear h
   rintro i o i' wL I μ ⟨rfl,hi,h⟩ hin
   have hle:=catB_le L i
   unfold qab.b1
   refine qmc (fun g=>?_) (fun g=>?_)
   · have hix:i < L.length:=by omega
     have hsn:=catB_snoc L hix
     have hle2:=catB_le L (i+1)
     rw [hsn,List.length_append] at hle2
     refine (h.rdb s).lslB i rfl hix ?_
     haveI:Rdb F0 w0 L[i].1 ps 1 (ivs .u8 L[i].2):=⟨fun h=>hL L[i] (List.getElem_mem hix) _ h⟩
     refine h.appI (s:=o) (s2:=L[i].1) (k:=.u8) (by omega) fun o2 w h=>?_
     refine qy (qm (by omega) (by omega)) ?_
     refine ⟨⟨rfl,rfl⟩,hin (i+1) _ _ _ ⟨by omega,by omega,?_⟩ (by omega)⟩
     rw [hsn]
     exact h
   · have:i=L.length:=by omega
     subst this
     rw [List.take_length] at h
     unfold qab.j4
     have:=h.len
     rw [qw] at this
     exact hk o wL (by omega) h
theorem qyi {nb n:Nat} {l:List Value} [PkB nb ps l rest] (hn:l.length=n):Rdb F0 w0 ⟨some ⟨nb,0,none⟩,n,n⟩ ps 1 l:=⟨fun h=>by
 have hb:=(h.toB nb).blk
 refine ⟨by rw [Nat.mul_one]; exact hn,fun i hi=>⟨_,rfl,?_⟩⟩
 rw [qld,Nat.zero_add,hb.cell]⟩
end
end Go.Proofs.YtigmbblgfnkpbaaGreat
namespace Go.Proofs.YtigmbblgfnkpbaaGreat
open Go Go.Proofs
set_option linter.unusedVariables false
set_option linter.unusedSimpArgs false
attribute [local irreducible] apK cpK mkK br qxe
def apA (s:Sl) (cs:List Value):As:=exA fun b:Bool=>ifA (b=true ∨ s.cap=s.len) (if b then qjb 1 s cs else rdA 1 s cs)
section
variable {F0:List Nat} {w0 w:World} {ps rest:List As} {s t:Sl} {xs ys zs:List Int} {cs:List Value}
theorem St.apO (h:St F0 w0 w (qjb 1 s cs :: ps)):St F0 w0 w (apA s cs :: ps):=St.exI true (St.ifI (Or.inl rfl) h)
theorem St.apR (h:St F0 w0 w (rdA 1 s cs :: ps)) (hc:s.cap=s.len):St F0 w0 w (apA s cs :: ps):=St.exI false (St.ifI (Or.inr hc) h)
theorem St.ap0 (h:St F0 w0 w ps):St F0 w0 w (apA ⟨none,0,0⟩ (u8s []) :: ps):=St.apO (h.nil 1)
theorem St.apE (h:St F0 w0 w (apA s cs :: ps)):St F0 w0 w (qjb 1 s cs :: ps) ∨ (s.cap=s.len∧St F0 w0 w (rdA 1 s cs :: ps)):=by
 obtain ⟨b,h⟩:=h.exE
 obtain ⟨hc,h⟩:=h.ifE
 cases b with
 | true=>exact Or.inl h
 | false=>exact Or.inr ⟨hc.resolve_left (by decide),h⟩
instance Rdb.ap:Rdb F0 w0 s (apA s cs :: ps) 1 cs:=⟨fun h=>by
 rcases h.apE with h | ⟨_,h⟩
 · exact h.rdb s
 · exact h.rdb s⟩
theorem St.appFc {P:Program} {e:TypeId} {z:Value} {k:IntKind} {c:Array Value} {n:Nat} {K:Sl→World→Prop} [he:Elt P e z] (h:St F0 w0 w ps) [Rdb F0 w0 s ps 1 (ivs k zs)] (hcv:c=⟨ivs k ys⟩) (hn:ys.length=n) (hc:s.cap=s.len) (hy:0 < n) (hlen:zs.length+n≤1099511627776)
 (hk:∀ s' w',St F0 w0 w' (qjb 1 s' (ivs k (zs ++ ys)) :: ps)→K s' w'):apK P e w s.a s.len s.cap n c K:=by
 subst hcv
 have hr:=h.rdb s
 have hl:=hr.1
 rw [qw] at hl
 obtain ⟨i,h1,h2,h3,h4⟩:=he.info
 have hbo:P.bytesOf e=i.bytes:=by simp [Program.bytesOf,h1]
 unfold apK withSz
 simp only [h1,h2]
 rw [if_neg (by omega)]
 refine ⟨⟨?_,by rw [hbo]; exact h3⟩,?_⟩
 · rw [hbo]
   have:=next_le (s.len+n) s.cap (by omega) (by omega)
   refine Nat.le_trans (Nat.mul_le_mul this h4) ?_
   rw [show (2:Nat) ^ 48=281474976710656 from rfl]
   omega
 · refine hr.rdO (by rw [qw]; omega) fun c hcc=>?_
   have hbl:=Blk.new w.drew (ivs k zs ++ ivs k ys ++ qke (c - (s.len+n)) (zc P e).toList) e
   have e1:((⟨ivs k zs⟩:Array Value) ++ (⟨ivs k ys⟩:Array Value) ++ ⟨qke (c - (s.len+n)) (zc P e).toList⟩)=⟨ivs k zs ++ ivs k ys ++ qke (c - (s.len+n)) (zc P e).toList⟩:=by
    apply Array.ext'
    simp
   rw [e1]
   refine hk _ _ (h.add (f':=[w.heap.size]) (((Mod.drew w).trans (Mod.alloc w.drew _) (fun _ hx=>by cases hx)).mono (fun _ hx=>by cases hx)) ?_ ?_)
   · rw [← qym]
     refine Or.inr ⟨w.heap.size,_,rfl,hbl,?_,?_,rfl⟩
     · show _=(s.len+n) * 1
       rw [List.length_append,qw,qw]; omega
     · show _=c * 1
       rw [List.length_append,List.length_append,qw,qw,qre,he.zc]
       show _+(c - (s.len+n)) * 1=_
       omega
   · intro x hx
     have:x=w.heap.size:=by simpa using hx
     exact Or.inr (by omega)
theorem St.apx {P:Program} {e:TypeId} {z:Value} {c:Array Value} {n:Nat} {K:Sl→World→Prop} [he:Elt P e z] (h:St F0 w0 w (apA s (u8s xs) :: ps)) (hcv:c=⟨u8s ys⟩) (hn:ys.length=n) (hy:0 < n) (hlen:xs.length+n≤1099511627776)
 (hk:∀ s' w',St F0 w0 w' (qjb 1 s' (u8s (xs ++ ys)) :: ps)→K s' w'):apK P e w s.a s.len s.cap n c K:=by
 rcases h.apE with h | ⟨hc,h⟩
 · exact h.app (cs:=u8s xs) (cs2:=u8s ys) hcv (by rw [qw]; exact hn) (by rw [qw]; exact hlen) qwf fun s' w h=>hk s' w (by show St F0 w0 w (qjb 1 s' (ivs .u8 (xs ++ ys)) :: ps); rw [← qym]; exact h)
 · exact h.appFc (zs:=xs) (ys:=ys) (k:=.u8) hcv hn hc hy hlen fun s' w h=>hk s' w (h.tail fun _ _ _ h=>h.drop)
theorem St.apxR {P:Program} {e:TypeId} {z:Value} {K:Sl→World→Prop} [he:Elt P e z] (h:St F0 w0 w (apA s (u8s xs) :: ps)) [hr:Rdb F0 w0 t (apA s (u8s xs) :: ps) 1 (u8s ys)] (hy:0 < ys.length) (hlen:xs.length+ys.length≤1099511627776)
 (hk:∀ s' w',St F0 w0 w' (qjb 1 s' (u8s (xs ++ ys)) :: ps)→K s' w'):rdO w t.a (t.len * 1) fun c=>apK P e w s.a s.len s.cap t.len c K:=by
 have hr:=h.rdb t
 have hl:=hr.1
 rw [qw] at hl
 refine hr.rdO (by rw [qw]; omega) ?_
 exact h.apx rfl (by omega) (by omega) (by omega) hk
theorem cutP_b (b o:Nat):cutP ⟨b,o,none⟩ 20 0 1=some ⟨b,o,none⟩:=by
 unfold cutP
 rw [if_neg (by decide),qld,Nat.zero_mul,Nat.add_zero]
theorem ixS_blk {b n:Nat} {i:Int} {X:Addr→Prop} (j:Nat) (hi:i=j) (hj:j < n) (hk:X ⟨b,j,none⟩):ixS (some ⟨b,0,none⟩) n i 1 X:=by
 subst hi
 unfold ixS
 refine ⟨⟨by omega,by omega⟩,?_⟩
 rw [qld]
 simpa using hk
def wrdS:List ByteArray:=[⟨#[79,73,68,70]⟩,⟨#[79,73,68,76]⟩,⟨#[67,68,65,84]⟩,⟨#[69,68,71,69]⟩]
theorem qtn:∀ j < 4,∃ h:j < wrdS.length,strCells wrdS[j] (ByteArray.size wrdS[j])=⟨u8s (wrdB.getD j [])⟩∧ByteArray.size wrdS[j]=4:=by
 intro j hj
 have:j=0 ∨ j=1 ∨ j=2 ∨ j=3:=by omega
 rcases this with rfl | rfl | rfl | rfl <;> exact ⟨by decide,by kernel_rfl,by kernel_rfl⟩
theorem qbm {j:Nat} (hj:j < 4):(wrdB.getD j []).length=4:=by
 have:j=0 ∨ j=1 ∨ j=2 ∨ j=3:=by omega
 rcases this with rfl | rfl | rfl | rfl <;> rfl
theorem St.sealed {b:Nat} {K:Sl→World→Prop} {P:Program} {e:TypeId} {z:Value} [he:Elt P e z] (h:St F0 w0 w (qnb b (u8s ys) :: apA s (u8s xs) :: ps)) (hy:ys.length=20) (hlen:xs.length≤1000000000)
 (hk:∀ s' w',St F0 w0 w' (qjb 1 s' (u8s (xs ++ ys)) :: ps)→K s' w') :
 lt (⟨cutP ⟨b,0,none⟩ 20 0 1,20 - 0,20 - 0⟩:Sl) fun s21=>rdO w s21.a (s21.len * 1) fun c=>apK P e w s.a s.len s.cap s21.len c K:=by
 rw [cutP_b]
 refine qed ?_
 have h2:St F0 w0 w (apA s (u8s xs) :: qnb b (u8s ys) :: ps):=h.at1
 haveI:Rdb F0 w0 ⟨some ⟨b,0,none⟩,20,20⟩ (apA s (u8s xs) :: qnb b (u8s ys) :: ps) 1 (u8s ys):=qyi (by rw [qmb,hy])
 exact h2.apxR (t:=⟨some ⟨b,0,none⟩,20,20⟩) (by omega) (by omega) fun s' w h=>hk s' w (h.tail fun _ _ _ h=>h.drop)
theorem qpb.go {L:List (Sl × List Int)} {Q:VWP} {b:Nat} {K:Ending→World→Prop} (h:St F0 w0 w (qnb b (wrdS.map Value.string) :: ps)) [Rdb F0 w0 s ps 1 (slB L)] (h4:L.length≤4) (h3:0 < (catB L).length)
 (hL:∀ y ∈ L,∀ w,St F0 w0 w ps→Rd w 1 y.1 (ivs .u8 y.2)) (hB:∀ y ∈ L,qje y.2) (hlen:(catB L).length≤1000000)
 (hk:∀ t w',(t.len=(chkB (L.map Prod.snd)).length∧t.cap=t.len)→St F0 w0 w' (rdA 1 t (u8s (chkB (L.map Prod.snd))) :: ps)→Q (sV t) w') :
 qpb.j2 s ⟨some ⟨b,0,none⟩,4,4⟩ Q w:=by
 have hl:=(h.drop.rdb s).1
 rw [show (slB L).length=L.length by simp [slB],Nat.mul_one] at hl
 have hcf:(L.map Prod.snd).flatten=catB L:=by simp [catB,List.flatMap_def]
 have ho:∀ i,ofs (L.map Prod.snd) i≤2000000:=fun i=>by
  unfold ofs
  have:(L.map Prod.snd).flatten=((L.map Prod.snd).take i).flatten ++ ((L.map Prod.snd).drop i).flatten:=by rw [← List.flatten_append,List.take_append_drop]
  have h2:=congrArg List.length this
  rw [List.length_append,hcf] at h2
  rw [List.length_map]
  omega
 unfold qpb.j2
 refine h.new fun cb w h=>?_
 have h:St F0 w0 w (qnb cb (u8s [67,71,80,72]) :: qnb b (wrdS.map Value.string) :: ps):=h
 refine h.str (n:=4) rfl fun w h=>?_
 refine qy (e':=(L.length:Int)) (by rw [quh]; omega) ?_
 refine h.new fun nb w h=>?_
 have h:St F0 w0 w (qnb nb (u8s [1,1,(L.length:Int),0]) :: rdA 1 ⟨some ⟨cb,0,none⟩,4,4⟩ (u8s [67,71,80,72]) :: qnb b (wrdS.map Value.string) :: ps):=h
 haveI:Rdb F0 w0 ⟨some ⟨nb,0,none⟩,4,4⟩ (qnb nb (u8s [1,1,(L.length:Int),0]) :: rdA 1 ⟨some ⟨cb,0,none⟩,4,4⟩ (u8s [67,71,80,72]) :: qnb b (wrdS.map Value.string) :: ps) 1 (u8s [1,1,(L.length:Int),0]):=qyi rfl
 refine St.appF (s:=⟨some ⟨cb,0,none⟩,4,4⟩) (s2:=⟨some ⟨nb,0,none⟩,4,4⟩) (zs:=[67,71,80,72]) (ys:=[1,1,(L.length:Int),0]) (k:=.u8) h rfl (by show 0 < 4; decide) (by show 4+4≤_; decide) fun o w h=>?_
 have h:St F0 w0 w (qjb 1 o (u8s (hdB L.length)) :: _):=h
 have h:St F0 w0 w (apA o (u8s (hdB L.length ++ tb (L.map Prod.snd) 0)) :: qnb b (wrdS.map Value.string) :: ps):=by
  have e:hdB L.length ++ tb (L.map Prod.snd) 0=hdB L.length:=by simp [tb]
  rw [e]
  exact (h.apO).tail fun _ _ _ h=>h.drop.drop
 have hol:=(h.rdb o).1
 rw [qmb,Nat.mul_one,show (hdB L.length ++ tb (L.map Prod.snd) 0).length=8 by simp [tb,hdB]] at hol
 refine qy (e':=(L.length:Int)+1) (by rw [qm (by omega) (by omega)]; omega) ?_
 refine qy (qm (by omega) (by omega)) ?_
 refine qy (e':=(ofs (L.map Prod.snd) 0:Int)) (by rw [qm (by omega) (by omega)]; unfold ofs; simp; omega) ?_
 unfold qpb.j3 qpb.j5
 refine loop3 (fun (i:Nat) (o:Sl) (a i':Int) w'=>i'=(i:Int)∧i≤L.length∧a=(ofs (L.map Prod.snd) i:Int)∧St F0 w0 w' (apA o (u8s (hdB L.length ++ tb (L.map Prod.snd) i)) :: qnb b (wrdS.map Value.string) :: ps)) (fun i=>L.length - i) 0 ⟨rfl,Nat.zero_le _,rfl,h⟩ ?_
 clear h hol
 rintro i o _ _ wL I μ ⟨rfl,hi,rfl,h⟩ hin
 have htl:=tb_len (L.map Prod.snd) (i:=i) (by omega)
 have hxl:(hdB (L.length:Int) ++ tb (L.map Prod.snd) i).length≤100:=by rw [List.length_append,htl]; show 8+_≤_; omega
 have hoi:=ho i
 unfold qpb.b1
 refine qmc (fun g=>?_) (fun g=>?_)
 · have hix:i < L.length:=by omega
   refine (h.rdb s).lslB i rfl hix ?_
   obtain ⟨hw,hc,hs⟩:=qtn i (by omega)
   refine ixS_blk i rfl (show i < 4 by omega) ?_
   refine (h.toB b).blk.ldS (n:=wrdS[i]) ?_ ⟨rfl,?_⟩
   · rw [List.getElem?_map,List.getElem?_eq_getElem hw]; rfl
   rw [hc,hs]
   refine qed ?_
   refine h.apx (ys:=wrdB.getD i []) rfl (qbm (by omega)) (by decide) (by omega) fun o2 w h=>?_
   refine qve.d (s:=o2) (xs:=hdB L.length ++ tb (L.map Prod.snd) i ++ wrdB.getD i []) h (by rw [List.length_append,qbm (by omega)]; omega) fun o3 w h1 h2 h=>⟨o3,rfl,?_⟩
   have hoi2:=ho (i+1)
   have hos:=ofs_succ (l:=L.map Prod.snd) (i:=i) (by rw [List.length_map]; exact hix)
   have hyl:L[i].1.len=L[i].2.length:=by
    have:=(hL L[i] (List.getElem_mem hix) w h.drop.drop.drop).1
    rw [qw,Nat.mul_one] at this
    exact this.symm
   rw [List.getElem_map] at hos
   refine qy (e':=(ofs (L.map Prod.snd) (i+1):Int)) (by rw [qm (by omega) (by omega)]; omega) ?_
   refine qy (e':=((i+1:Nat):Int)) (by rw [qm (by omega) (by omega)]; rfl) ?_
   refine ⟨⟨rfl,rfl,rfl,rfl⟩,hin (i+1) _ _ _ _ ⟨rfl,by omega,rfl,?_⟩ (by omega)⟩
   rw [qsk,← List.append_assoc,← List.append_assoc]
   exact (h.apR h2).tail fun _ _ _ h=>h.drop
 · have:i=L.length:=by omega
   subst this
   unfold qpb.j4
   refine h.new fun zb w h=>?_
   have h:St F0 w0 w (qnb zb (u8s [0,0,0,0]) :: apA o (u8s (hdB L.length ++ tb (L.map Prod.snd) L.length)) :: qnb b (wrdS.map Value.string) :: ps):=h
   haveI:Rdb F0 w0 ⟨some ⟨zb,0,none⟩,4,4⟩ (apA o (u8s (hdB L.length ++ tb (L.map Prod.snd) L.length)) :: qnb zb (u8s [0,0,0,0]) :: qnb b (wrdS.map Value.string) :: ps) 1 (u8s [0,0,0,0]):=qyi rfl
   refine St.apxR (t:=⟨some ⟨zb,0,none⟩,4,4⟩) (ys:=[0,0,0,0]) h.at1 (by show 0 < 4; decide) (by show _+4≤_; omega) fun o2 w h=>?_
   refine qve.d (s:=o2) h (by rw [List.length_append]; show _+4≤_; omega) fun o3 w h1 h2 h=>⟨o3,rfl,?_⟩
   have hX:(hdB (L.length:Int) ++ tb (L.map Prod.snd) L.length ++ [0,0,0,0] ++ beJ 8 8 (ofs (L.map Prod.snd) L.length)).length≤200:=by
    rw [List.length_append,List.length_append,qic]
    show _+4+8≤_
    omega
   have h:St F0 w0 w (rdA 1 o3 (u8s (hdB L.length ++ tb (L.map Prod.snd) L.length ++ [0,0,0,0] ++ beJ 8 8 (ofs (L.map Prod.snd) L.length))) :: ps):=h.tail fun _ _ _ h=>h.drop.drop.drop
   refine qab.c (s:=s) (L:=L) h (fun y hy w h=>hL y hy w h.drop) (by omega) hlen fun o4 w ht h=>⟨o4,rfl,?_⟩
   have h2:St F0 w0 w (apA o3 (u8s (hdB L.length ++ tb (L.map Prod.snd) L.length ++ [0,0,0,0] ++ beJ 8 8 (ofs (L.map Prod.snd) L.length))) :: qjb 1 o4 (ivs .u8 (catB L)) :: ps):=h.at1.apR h2
   refine h2.apxR (t:=o4) h3 (by omega) fun o5 w h=>?_
   have hpre:hdB (L.length:Int) ++ tb (L.map Prod.snd) L.length ++ [0,0,0,0] ++ beJ 8 8 (ofs (L.map Prod.snd) L.length) ++ catB L=qth (L.map Prod.snd):=by
    unfold qth
    rw [hcf,List.length_map]
   rw [hpre] at h
   have hpl:(qth (L.map Prod.snd)).length≤1000200:=by
    rw [← hpre,List.length_append]; omega
   have hpb:qje (qth (L.map Prod.snd)):=by
    have htb:∀ i≤4,qje (tb (L.map Prod.snd) i):=by
     intro i
     induction i with
     | zero=>intro _ x hx; simp [tb] at hx
     | succ i ih =>
       intro hi
       rw [qsk,quc,quc]
       refine ⟨ih (by omega),?_,qii 8 8 _⟩
       have:i=0 ∨ i=1 ∨ i=2 ∨ i=3:=by omega
       rcases this with rfl | rfl | rfl | rfl <;> (intro x hx; simp [wrdB] at hx; omega)
    unfold qth
    rw [quc,quc,quc,quc]
    refine ⟨⟨⟨⟨?_,htb _ (by rw [List.length_map]; exact h4)⟩,by intro x hx; simp at hx; omega⟩,qii 8 8 _⟩,?_⟩
    · intro x hx
      simp [hdB] at hx
      omega
    · rw [hcf]
      exact qbj fun y hy=>hB y hy
   refine qwh.d (s:=o5) (xs:=qth (L.map Prod.snd)) h hpb (by omega) fun w h=>⟨_,rfl,?_⟩
   have hzc:zc Tryz.prog 24=⟨ivs .u8 z20⟩:=zc_id
   rw [hzc]
   refine h.new fun kb w h=>?_
   have h:St F0 w0 w (qnb kb (u8s z20) :: qjb 1 o5 (u8s (qth (L.map Prod.snd))) :: qjb 1 o4 (ivs .u8 (catB L)) :: ps):=h
   refine ⟨qog _,?_⟩
   refine St.sA (b:=kb) (l':=u8s (qxe (qth (L.map Prod.snd)))) h rfl (qog _) quf fun w h=>?_
   refine St.sealed (s:=o5) (xs:=qth (L.map Prod.snd)) (ys:=qxe (qth (L.map Prod.snd))) (h.tail fun _ _ _ h=>h.apO) (qfg _) (by omega) fun o6 w h=>?_
   refine qkc.d h fun o7 h1 h2 h=>⟨o7,rfl,?_⟩
   refine hk o7 w ?_ (h.tail fun _ _ _ h=>h.drop)
   have:=(h.rdb o7).1
   rw [qmb,Nat.mul_one] at this
   exact ⟨this.symm,by omega⟩
theorem qpb.c {s1 s2 s3 s4:Sl} {x1 x2 x3 x4:List Int} {K:Ending→World→Prop} (h:St F0 w0 w ps) [Rdb F0 w0 s ps 1 (slB [(s1,x1),(s2,x2),(s3,x3),(s4,x4)])] (hc:s.len≤s.cap) (h3:0 < x1.length)
 [Rdb F0 w0 s1 ps 1 (u8s x1)] [Rdb F0 w0 s2 ps 1 (u8s x2)] [Rdb F0 w0 s3 ps 1 (u8s x3)] [Rdb F0 w0 s4 ps 1 (u8s x4)] (b1:qje x1) (b2:qje x2) (b3:qje x3) (b4:qje x4) (hlen:x1.length+x2.length+x3.length+x4.length≤1000000)
 (hk:∀ t w',(t.len=(chkB ([x1,x2,x3] ++ if x4.length=0 then [] else [x4])).length∧t.cap=t.len)→St F0 w0 w' (rdA 1 t (u8s (chkB ([x1,x2,x3] ++ if x4.length=0 then [] else [x4]))) :: ps)→K (.returned (sV t)) w') :
 Calls Tryz.prog 33 ⟨[sV s]⟩ w K:=by
 have hl:=(h.rdb s).1
 have hl:4=s.len * 1:=hl
 have hx4:=(h.rdb s4).1
 rw [qmb,Nat.mul_one] at hx4
 refine qec (qpb.ok _ _ _ ?_)
 unfold qpb qpb.j1
 refine h.new fun b w h=>?_
 have h:St F0 w0 w (qnb b (wrdS.map Value.string) :: ps):=h
 refine (h.rdb s).lslB (L:=[(s1,x1),(s2,x2),(s3,x3),(s4,x4)]) 3 rfl (by simp) ?_
 show br (((s4.len:Nat):Int) == 0) _ _
 refine qnc (fun g=>?_) (fun g=>?_)
 · have g:x4.length=0:=by
    have:((s4.len:Nat):Int)=0:=by simpa using g
    omega
   rw [if_pos g,List.append_nil] at hk
   refine qbk (n:=3) rfl (by omega) (qed ?_)
   haveI:Rdb F0 w0 ⟨qwd s.a s.cap 0 1,3 - 0,s.cap - 0⟩ ps 1 (slB [(s1,x1),(s2,x2),(s3,x3)]):=⟨fun h=>by
    have:=(h.rdb s).cut (n:=0) (m:=3) (by decide) (by omega) (by omega) hc (s.cap - 0)
    exact this⟩
   refine qpb.go (K:=K) (s:=⟨qwd s.a s.cap 0 1,3 - 0,s.cap - 0⟩) (L:=[(s1,x1),(s2,x2),(s3,x3)]) h (by simp) (by simp [catB]; omega) ?_ ?_ (by simp [catB]; omega) hk
   · intro y hy w h
     rcases List.mem_cons.1 hy with rfl | hy
     · exact h.rdb s1
     rcases List.mem_cons.1 hy with rfl | hy
     · exact h.rdb s2
     rcases List.mem_cons.1 hy with rfl | hy
     · exact h.rdb s3
     cases hy
   · intro y hy
     rcases List.mem_cons.1 hy with rfl | hy
     · exact b1
     rcases List.mem_cons.1 hy with rfl | hy
     · exact b2
     rcases List.mem_cons.1 hy with rfl | hy
     · exact b3
     cases hy
 · have g:¬ x4.length=0:=by
    have:¬ ((s4.len:Nat):Int)=0:=by simpa using g
    omega
   rw [if_neg g] at hk
   refine qpb.go (K:=K) (s:=s) (L:=[(s1,x1),(s2,x2),(s3,x3),(s4,x4)]) h (by simp) (by simp [catB]; omega) ?_ ?_ (by simp [catB]; omega) hk
   · intro y hy w h
     rcases List.mem_cons.1 hy with rfl | hy
     · exact h.rdb s1
     rcases List.mem_cons.1 hy with rfl | hy
     · exact h.rdb s2
     rcases List.mem_cons.1 hy with rfl | hy
     · exact h.rdb s3
     rcases List.mem_cons.1 hy with rfl | hy
     · exact h.rdb s4
     cases hy
   · intro y hy
     rcases List.mem_cons.1 hy with rfl | hy
     · exact b1
     rcases List.mem_cons.1 hy with rfl | hy
     · exact b2
     rcases List.mem_cons.1 hy with rfl | hy
     · exact b3
     rcases List.mem_cons.1 hy with rfl | hy
     · exact b4
     cases hy
end
end Go.Proofs.YtigmbblgfnkpbaaGreat
namespace Go.Proofs.YtigmbblgfnkpbaaGreat
open Go Go.Proofs
set_option linter.unusedVariables false
set_option linter.unusedSimpArgs false
attribute [local irreducible] apK cpK mkK br qxe
theorem or_date {g d:Int} (hg:0≤g∧g≤1000000) (hd:0≤d∧d < 17179869184):orV .i64 (g * 17179869184) d=g * 17179869184+d:=by
 obtain ⟨a,rfl⟩:∃ a:Nat,g=a:=⟨g.toNat,by omega⟩
 obtain ⟨b,rfl⟩:∃ b:Nat,d=b:=⟨d.toNat,by omega⟩
 have:=orV_add' .i64 (a:=b) (b:=a) (t:=34) (by show b < 17179869184; omega) (by show b+a * 17179869184 < 9223372036854775808; omega)
 have e:((2:Int) ^ 34)=17179869184:=by decide
 rw [e] at this
 rw [this]; omega
theorem shl_gen {g:Int} (hg:0≤g∧g≤1000000):qpf .i64 g 34=g * 17179869184:=by
 have:=shlV_lit .i64 (x:=g) (y:=34) (t:=34) rfl (by decide) hg.1 (by show g * 17179869184 < 9223372036854775808; omega)
 exact this
theorem or_high {x:Nat} (h:x < 2147483648):orV .i64 2147483648 (x:Int)=2147483648+(x:Int):=by
 have:=orV_add' .i64 (a:=x) (b:=1) (t:=31) (by show x < 2147483648; exact h) (by show x+1 * 2147483648 < 9223372036854775808; omega)
 have e:(((1:Nat):Int) * (2:Int) ^ 31)=2147483648:=by decide
 rw [e] at this
 rw [this]; omega
section
variable {F0:List Nat} {w0 w:World} {ps rest:List As} {s t:Sl} {xs ys zs:List Int} {n:Nd} {G:Rws Int} {gb xb:Nat}
 {t6 t7 t8 t9 t10 t48:Sl} {t49 t50:Int} {Q:VWP} {nx1:(Option Nat)→Sl→Sl→Sl→Int→Sl→Sl→Sl→Int→World→Prop}
theorem Build_14 {a b:Int} (h:St F0 w0 w (qjb 1 t9 (u8s xs) :: ps)) [PkB xb ps (ndC n) rest] [MpR Int inV gb ps G] (hx:xs.length≤1000000) (hg:0≤gD G n.nm∧gD G n.nm≤1000000) (hd:0≤n.date∧n.date < 17179869184)
 (hk:∀ r w',r.cap=r.len→St F0 w0 w' (rdA 1 r (u8s (xs ++ (beJ 4 4 a ++ (beJ 4 4 b ++ beJ 8 8 (gD G n.nm * 17179869184+n.date))))) :: ps)→qj.j10 (some gb) t6 t7 t8 r t10 t48 t49 t50 Q nx1 w') :
 qj.j14 (some gb) t6 t7 t8 t9 t10 ⟨xb,0,none⟩ a b t48 t49 t50 Q nx1 w:=by
 have hb:St F0 w0 w ps:=h.drop
 unfold qj.j14
 refine (hb.toB xb).blk.ldIdN ⟨_,qtg hb gb n.nm,?_⟩
 refine qmc (fun g=>by exfalso; omega) (fun _=>?_)
 have hw:Mod [] w w.drew:=Mod.drew w
 refine h.drewK fun w h=>?_
 have hb:St F0 w0 w ps:=h.drop
 have hA:∀ {w':World} {Z:Array Value→Prop},St F0 w0 w' ps→Z ⟨nmC n.nm⟩→ldA w' (Addr.add ⟨xb,0,none⟩ 0) 20 Z:=fun h hz=>(h.toB xb).blk.ldIdN hz
 have hD:∀ {w':World} {Z:Int→Prop},St F0 w0 w' ps→Z n.date→ldI .i64 w' (Addr.add ⟨xb,0,none⟩ 41) Z:=fun h hz=>(h.toB xb).blk.ldDate hz
 have hK:∀ {w':World} {Z:Int→Prop},St F0 w0 w' ps→Z (gD G n.nm)→∃ r:Int,lkR Tryz.prog 53 (.map (some gb)) (.agg ⟨nmC n.nm⟩) false w' (.int .i64 r)∧Z r:=fun h hz=>⟨_,qtg h gb n.nm,hz⟩
 have hP1:∀ {w':World} {Z:Sl→World→Prop},St F0 w0 w' (qjb 1 t9 (u8s xs) :: ps)→(∀ r w'',St F0 w0 w'' (rdA 1 r (u8s (xs ++ beJ 4 4 a)) :: ps)→St F0 w0 w'' ps→Z r w'')→qtc 30 [sV t9,.int .i64 a] w' Z:=fun h hz =>
  qrd.d (s:=t9) (xs:=xs) h (by omega) fun r w' _ _ h=>⟨r,rfl,hz r w' (h.tail fun _ _ _ h=>h.drop) h.drop.drop⟩
 have hP2:∀ {w':World} {r0:Sl} {Z:Sl→World→Prop},St F0 w0 w' (rdA 1 r0 (u8s (xs ++ beJ 4 4 a)) :: ps)→(∀ r w'',St F0 w0 w'' (rdA 1 r (u8s (xs ++ beJ 4 4 a ++ beJ 4 4 b)) :: ps)→St F0 w0 w'' ps→Z r w'')→qtc 30 [sV r0,.int .i64 b] w' Z:=fun h hz =>
  qrd.d (s:=_) (xs:=xs ++ beJ 4 4 a) h (by rw [List.length_append,qic]; omega) fun r w' _ _ h=>⟨r,rfl,hz r w' (h.tail fun _ _ _ h=>h.drop) h.drop.drop⟩
 have e1:qpf .i64 (gD G n.nm) 34=gD G n.nm * 17179869184:=shl_gen hg
 have e2:orV .i64 (gD G n.nm * 17179869184) n.date=gD G n.nm * 17179869184+n.date:=or_date hg hd
 have hP3:∀ {w':World} {r0:Sl},St F0 w0 w' (rdA 1 r0 (u8s (xs ++ beJ 4 4 a ++ beJ 4 4 b)) :: ps)→qtc 32 [sV r0,.int .i64 (gD G n.nm * 17179869184+n.date)] w' fun r w''=>qj.j10 (some gb) t6 t7 t8 r t10 t48 t49 t50 Q nx1 w'':=fun h =>
  qve.d (s:=_) (xs:=xs ++ beJ 4 4 a ++ beJ 4 4 b) h (by rw [List.length_append,List.length_append,qic,qic]; omega) fun r w' _ hc h=>⟨r,rfl,hk r w' hc (by
   rw [List.append_assoc,List.append_assoc] at h
   exact h.tail fun _ _ _ h=>h.drop)⟩
 repeat' first
  | with_reducible refine qy e1 ?_
  | with_reducible refine qy e2 ?_
  | with_reducible refine hA (by assumption) ?_
  | with_reducible refine hD (by assumption) ?_
  | with_reducible exact hP3 (by assumption)
  | with_reducible refine hP1 (by assumption) fun r w' h1 h2=>?_
  | with_reducible refine hP2 (by assumption) fun r w' h1 h2=>?_
  | with_reducible refine hK (by assumption) ?_
  | with_reducible refine And.intro (show (0:Int)≤34 by decide) ?_
  | with_reducible refine And.intro ?_ ?_
end
end Go.Proofs.YtigmbblgfnkpbaaGreat
namespace Go.Proofs.YtigmbblgfnkpbaaGreat
open Go Go.Proofs
set_option linter.unusedVariables false
set_option linter.unusedSimpArgs false
attribute [local irreducible] apK cpK mkK br qxe
theorem or_mark {x:Int} (h:0≤x∧x < 128):orV .u8 x 128=x+128:=by
 obtain ⟨a,rfl⟩:∃ a:Nat,x=a:=⟨x.toNat,by omega⟩
 have:=orV_uadd (k:=.u8) rfl (a:=a) (b:=1) (t:=7) (by show a < 128; omega) (by show a+1 * 128 < 256; omega)
 have e:(((1:Nat):Int) * (2:Int) ^ 7)=128:=by decide
 rw [e] at this
 exact this
theorem last_word {E D:List Int} {v:Int}:(E ++ wB (D ++ [v])).getD ((E ++ wB (D ++ [v])).length - 4) 0=v / 16777216 % 256:=by
 rw [qtj,qnl,← List.append_assoc]
 generalize E ++ wB D=X
 rw [List.length_append,qic,List.getD_eq_getElem?_getD,List.getElem?_append_right (by omega),show X.length+4 - 4 - X.length=0 by omega,be4]
 rfl
section
variable {F0:List Nat} {w0 w:World} {ps rest:List As} {s t u:Sl} {E q:List Int} {n:Nd} {gb:Nat} {t14:Addr}
 {t6 t7 t8 t9 t10 t48:Sl} {t49 t50:Int} {Q:VWP} {nx1:(Option Nat)→Sl→Sl→Sl→Int→Sl→Sl→Sl→Int→World→Prop}
theorem Build_17 {a b:Int} (h:St F0 w0 w (clA 1 t10 (u8s E) :: ps)) [Rdb F0 w0 u ps 1 (ivs .i64 q)] (hc:u.len≤u.cap) (hq:2 < q.length) (hq2:q.length≤1000000) (hE:E.length≤10000000) (hv:∀ v ∈ q,0≤v∧v < 2147483648)
 (hk:∀ t' w',St F0 w0 w' (clA 1 t' (u8s (E ++ wB (edw q))) :: ps)→qj.j14 (some gb) t6 t7 t8 t9 t' t14 a b t48 t49 t50 Q nx1 w') :
 qj.j17 (some gb) t6 t7 t8 t9 t10 t14 u a b t48 t49 t50 Q nx1 w:=by
 have hul:=(h.rdb u).1
 rw [qw,Nat.mul_one] at hul
 have hdl:(q.drop 1).length=q.length - 1:=List.length_drop ..
 have hlast:=drop1_last hq
 have hvl:0≤q.getD (q.length - 1) 0∧q.getD (q.length - 1) 0 < 2147483648:=hv _ (qzf (by omega))
 unfold qj.j17
 refine qbk (n:=1) rfl (by omega) (qed ?_)
 haveI:Rdb F0 w0 ⟨qwd u.a u.cap 1 1,u.len - 1,u.cap - 1⟩ ps 1 (ivs .i64 (q.drop 1)):=h.drop.cutR u 1 u.len _ (Nat.le_refl _) (by omega) hc (List.take_of_length_le (by omega))
 unfold qj.j19
 refine qbf (fun (k:Nat) (t':Sl) (k':Int) w'=>k'=(k:Int)∧k≤(q.drop 1).length∧St F0 w0 w' (clA 1 t' (u8s (E ++ wB ((q.drop 1).take k))) :: ps)) (fun k=>(q.drop 1).length - k) 0 ⟨rfl,Nat.zero_le _,by simpa [wB] using h⟩ ?_
 clear h
 rintro k t' _ wL I μ ⟨rfl,hk',h⟩ hin
 unfold qj.b2
 refine qmc (fun g=>?_) (fun g=>?_)
 · have g:(k:Int) < ((u.len - 1:Nat):Int):=g
   have hkx:k < (q.drop 1).length:=by omega
   refine h.lx (s:=⟨qwd u.a u.cap 1 1,u.len - 1,u.cap - 1⟩) k rfl hkx ?_
   refine qrd.cl (s:=t') (xs:=E ++ wB ((q.drop 1).take k)) h (by rw [List.length_append,qtf,List.length_take]; omega) fun t2 w _ _ h=>⟨t2,rfl,?_⟩
   refine qy (e':=((k+1:Nat):Int)) (by rw [qm (by omega) (by omega)]; rfl) ?_
   refine ⟨⟨rfl,rfl,rfl,rfl,rfl,rfl,rfl,rfl,rfl,rfl,rfl,rfl,rfl⟩,hin (k+1) _ _ _ ⟨rfl,by omega,?_⟩ (by omega)⟩
   rw [qrg hkx,qtj,qnl,← List.append_assoc]
   exact h.tail fun _ _ _ h=>h.drop
 · have g:¬ (k:Int) < ((u.len - 1:Nat):Int):=g
   have:k=(q.drop 1).length:=by omega
   subst this
   rw [List.take_length,hlast] at h
   have hl:=h.clrd.1
   rw [qmb,Nat.mul_one] at hl
   have hge:4≤(E ++ wB ((q.drop 1).dropLast ++ [q.getD (q.length - 1) 0])).length:=by
    rw [List.length_append,qtf,List.length_append,List.length_singleton]; omega
   have hle:(E ++ wB ((q.drop 1).dropLast ++ [q.getD (q.length - 1) 0])).length≤100000000:=by
    rw [List.length_append,qtf,List.length_append,List.length_singleton,List.length_dropLast]; omega
   unfold qj.j18
   refine qy (e':=(((E ++ wB ((q.drop 1).dropLast ++ [q.getD (q.length - 1) 0])).length - 4:Nat):Int)) (by rw [qm (by omega) (by omega)]; omega) ?_
   refine h.lx (s:=t') (zs:=E ++ wB ((q.drop 1).dropLast ++ [q.getD (q.length - 1) 0])) _ rfl (by omega) ?_
   rw [last_word]
   refine qy (or_mark (by omega)) ?_
   refine h.clx _ rfl (by omega) fun w h=>?_
   rw [mark_last hvl.1 hvl.2] at h
   refine hk t' w ?_
   have:edw q=(q.drop 1).dropLast ++ [q.getD (q.length - 1) 0+2147483648]:=by unfold edw; rw [if_pos hq]
   rw [this]
   exact h
theorem Build_12 (h:St F0 w0 w (clA 1 t10 (u8s E) :: ps)) [Rdb F0 w0 u ps 1 (ivs .i64 q)] (hc:u.len≤u.cap) (hq2:q.length≤1000000) {e:Nat} (hEe:E.length=4 * e) (hE:e≤1000000) (hv:∀ v ∈ q,0≤v∧v < 2147483648)
 (hk:∀ t' w',St F0 w0 w' (clA 1 t' (u8s (E ++ wB (edw q))) :: ps)→qj.j14 (some gb) t6 t7 t8 t9 t' t14 (numA q) (numB e q) t48 t49 t50 Q nx1 w') :
 qj.j12 (some gb) t6 t7 t8 t9 t10 t14 u t48 t49 t50 Q nx1 w:=by
 have hul:=(h.rdb u).1
 rw [qw,Nat.mul_one] at hul
 have h10:=h.clrd.1
 rw [qmb,Nat.mul_one] at h10
 have j13:qj.j13 (some gb) t6 t7 t8 t9 t10 t14 u (numA q) 1879048192 t48 t49 t50 Q nx1 w:=by
  unfold qj.j13 qj.j15
  refine qnc (fun g=>?_) (fun g=>?_)
  · have g:q.length=2:=by
     have:(u.len:Int)=2:=by simpa using g
     omega
    refine h.lx (s:=u) (zs:=q) 1 rfl (by omega) ?_
    have:=hk t10 w (by
     rw [edw_nil (by omega)]
     simpa [wB] using h)
    unfold numB at this
    rw [if_pos g] at this
    exact this
  · have g:¬ q.length=2:=by
     have:¬ (u.len:Int)=2:=by simpa using g
     omega
    unfold qj.j16
    refine qmc (fun g2=>?_) (fun g2=>?_)
    · refine ⟨by decide,?_⟩
      have e1:Int.tdiv (t10.len:Int) 4=(e:Int):=by
       rw [Int.tdiv_eq_ediv_of_nonneg (by omega)]
       omega
      refine qy (e':=(e:Int)) (by rw [e1,qm (by omega) (by omega)]) ?_
      refine qy (or_high (by omega)) ?_
      refine Build_17 (u:=u) h hc (by omega) hq2 (by omega) hv fun t' w' h=>?_
      have:=hk t' w' h
      unfold numB at this
      rw [if_neg g,if_pos (by omega)] at this
      exact this
    · have:=hk t10 w (by
       rw [edw_nil (by omega)]
       simpa [wB] using h)
      unfold numB at this
      rw [if_neg g,if_neg (by omega)] at this
      exact this
 unfold qj.j12
 refine qmc (fun g=>?_) (fun g=>?_)
 · refine h.lx (s:=u) (zs:=q) 0 rfl (by omega) ?_
   unfold numA at j13
   rw [if_pos (by omega)] at j13
   exact j13
 · unfold numA at j13
   rw [if_neg (by omega)] at j13
   exact j13
end
end Go.Proofs.YtigmbblgfnkpbaaGreat
