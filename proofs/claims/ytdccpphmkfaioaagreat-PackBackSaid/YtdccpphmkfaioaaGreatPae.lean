/- Own texts as one, only what is reached (shake2.py). -/
import Derived.Test.YtdccpphmkfaioaaGreatPad
import Derived.Test.YtdccpphmkfaioaaGreatProg
set_option linter.unusedSectionVars false
set_option linter.unusedVariables false
set_option linter.unusedSimpArgs false
namespace Go.Proofs.YtdccpphmkfaioaaGreat
open Go Go.Proofs
open Int (tmod toNat_natCast)
open Go.IntKind (i64 u32)
open List (drop_zero getD length_append length_drop length_replicate length_take mem_append nil_append replicate take_of_length_le)
open Nat (le_refl zero_le)
open Go.Proofs.Tryz (prog)
section
attribute [local irreducible] apK cpK mkK br
section
variable {F0:List Nat}{w0 w:World}{ps rest rest2:List As}{sb rb V N:Nat}{most:Int}{z:Z}
theorem qwrb:zc prog 236=⟨ivs .i64 (replicate 19 0)⟩:=by kernel_rfl
theorem qnj.c{K:Ending->World->Prop}(h:St F0 w0 w ps)(hk:∀w',St F0 w0 w' ps->K (.returned (.agg ⟨ivs .i64 qxi⟩)) w'):Calls prog 171 ⟨[]⟩ w K:=by
 refine qec (qnj.ok _ _ ?_);unfold qnj;refine h.new λnb w h=>⟨rfl,?_⟩;rw[qwrb]at h;have h:St F0 w0 w (qqb nb (ivs .i64 (replicate 19 0))::ps):=h;refine St.sA (n:=19) (l':=ivs .i64 qxi) h (by rfl) (by rfl) qse λw h=>?_;refine h.lA (b:=nb) rfl ?_;exact hk w h.drop
theorem qyf.c{s:Sl}{sym:Int}{l:List Int}{K:Ending->World->Prop}(h:St F0 w0 w (ztA sb rb V N most z::ps))[Rdb F0 w0 s ps 1 (ivs .i64 l)](hN:N<=137438953472)(hp:z.1<=8*N)(hl:l.length<=1000000)
 (hk:∀w',(qcg (qm V (8*N)) sym l z).2.1<=8*N->St F0 w0 w' (ztA sb rb V N most (qcg (qm V (8*N)) sym l z).2::ps)->K (.returned (.tuple ⟨[.int .i64 (qcg (qm V (8*N)) sym l z).1.1,.int .i64 (qcg (qm V (8*N)) sym l z).1.2]⟩)) w'):
 Calls prog 172 ⟨[.pointer (some ⟨sb,0,none⟩),.int .i64 sym,.slice s.a s.len s.cap]⟩ w K:=by
 have hls:=(h.rdb s).1
 rw[qj]at hls
 have hp':=(qox (B:=qm V (8*N)) (z:=z) sym l (by rw[qq];exact hp)).2
 rw[qq]at hp'
 have hk:=λw'=>hk w' hp'
 clear hp'
 refine qec (qyf.ok _ _ _ _ _ ?_)
 unfold qyf
 unfold qcg at hk
 have b2:=qwf (B:=qm V (8*N)) (z:=z) 2 (by decide)
 have b3:=qwf (B:=qm V (8*N)) (z:=z) 3 (by decide)
 have b7:=qwf (B:=qm V (8*N)) (z:=z) 7 (by decide)
 refine qbf (λg=>?_) (λg=>?_)
 ·have g:sym=16:=by simpa using g
  rw[if_pos g]at hk
  refine qbf (λg2=>?_) (λg2=>?_)
  ·have g2:(s.len:Int)=0:=by simpa using g2
   rw[if_pos (by omega)]at hk
   exact qsc.c h λw h=>⟨rfl,hk w h⟩
  ·have g2:(s.len:Int)≠0:=by simpa using g2
   rw[if_neg (by omega)]at hk
   refine h.drewK λw h=>?_
   refine ql (qd (by omega) (by omega)) ?_
   have hr:=h.rdb s
   refine hr.ix (by decide) (by omega) (by omega) λa ha=>?_
   have ei:((s.len:Int)-1).toNat*1=l.length-1:=by omega
   rw[ei]
   refine⟨?_,?_⟩
   ·refine hr.ldI ha (qml (by omega)) ?_
    refine qbd.c h hN hp λw _ h=>⟨_,rfl,?_⟩
    exact ql (qd (by omega) (by omega)) (hk w h)
   ·refine qbd.c h hN hp λw _ h=>⟨_,rfl,?_⟩
    refine ql (qd (by omega) (by omega)) ?_
    exact(h.rdb s).ldI ha (qml (by omega)) (hk w h)
 have g:sym≠16:=by simpa using g
 rw[if_neg g]at hk
 refine qbf (λg=>?_) (λg=>?_)
 ·have g:sym=17:=by simpa using g
  rw[if_pos g]at hk
  refine qbd.c h hN hp λw _ h=>⟨_,rfl,?_⟩
  exact ql (qd (by omega) (by omega)) (hk w h)
 have g:sym≠17:=by simpa using g
 rw[if_neg g]at hk
 refine qbf (λg=>?_) (λg=>?_)
 ·have g:sym=18:=by simpa using g
  rw[if_pos g]at hk
  refine qbd.c h hN hp λw _ h=>⟨_,rfl,?_⟩
  exact ql (qd (by omega) (by omega)) (hk w h)
 have g:sym≠18:=by simpa using g
 rw[if_neg g]at hk
 exact hk w h
theorem qh.loop{cb:Option Addr}{cl:List Int}{nl nd:Nat}{K:Ending->World->Prop}(h:St F0 w0 w (ztA sb rb V N most z::ps))(hc:z.2.2=0->∃b,cb=some ⟨b,0,none⟩/\∃rest,PkF hcA b ps cl rest)(hN:N<=137438953472)(hp:z.1<=8*N)(hn:nl+nd<=200000)
 (hk0:∀(t11:Sl) w',(zll cl (qm V (8*N)) (nl+nd) (nl+nd+1) [] z).2.2.2=0->t11.len=nl+nd->t11.len<=t11.cap->St F0 w0 w' (ztA sb rb V N most (zll cl (qm V (8*N)) (nl+nd) (nl+nd+1) [] z).2::rdA 1 t11 (ivs .i64 (zll cl (qm V (8*N)) (nl+nd) (nl+nd+1) [] z).1)::ps)->K (.returned (.tuple ⟨[.slice (qpf t11.a t11.cap 0 1) (nl-0) (t11.cap-0),.slice (qpf t11.a t11.cap nl 1) (t11.len-nl) (t11.cap-nl)]⟩)) w')
 (hk1:∀w',(zll cl (qm V (8*N)) (nl+nd) (nl+nd+1) [] z).2.2.2≠0->St F0 w0 w' (ztA sb rb V N most (zll cl (qm V (8*N)) (nl+nd) (nl+nd+1) [] z).2::ps)->K (.returned (.tuple ⟨[.slice none 0 0,.slice none 0 0]⟩)) w'):
 qh.j6 (some ⟨sb,0,none⟩) (nl:Int) (nd:Int) cb ⟨none,0,0⟩ (λv w'=>K (.returned v) w') w:=by
 have hBl:(qm (V:Int) (8*N)).length=8*N:=qq _ _
 generalize hR:zll cl (qm V (8*N)) (nl+nd) (nl+nd+1) [] z=R at hk0 hk1
 have hRl:=qwt (cl:=cl) (B:=qm V (8*N)) (N:=nl+nd) (nl+nd+1) [] z (by simp) (by simp)
 rw[hR]at hRl
 unfold qh.j6
 refine qof (λ(a:Nat×List Int×Z) (t11:Sl) w'=>zll cl (qm V (8*N)) (nl+nd) a.1 a.2.1 a.2.2=R/\a.2.2.1<=8*N/\a.2.1.length<=nl+nd/\(a.2.2.2.2=0->z.2.2=0/\nl+nd<a.1+a.2.1.length)/\St F0 w0 w' (ztA sb rb V N most a.2.2::qyb 1 t11 (ivs .i64 a.2.1)::ps)) (λa=>a.1) (nl+nd+1,[],z) ⟨hR,hp,by simp,λe=>⟨e,by simp⟩,(h.nil 1).at1⟩ ?_
 clear h hp hR
 rintro⟨f,l,y⟩ t11 wL I μ ⟨hR,hp,hl,hf,h⟩ hin
 simp only at hR hp hl hf h hin|-
 have hol:=h.drop.len
 rw[qj]at hol
 have h0:=h
 unfold qh.b1
 obtain⟨o,h⟩:=qdw h
 refine qsd (h.fI ?_)
 have stop:(y.2.2≠0\/nl+nd<=l.length)->qh.j7 (some ⟨sb,0,none⟩) (nl:Int) t11 (λv w'=>K (.returned v) w') wL:=by
  intro hc;have e:R=(l,y):=by
   rw[<-hR];cases f with
   |zero=>rfl
   |succ f=>rw[zll,if_pos hc]
  rw[e]at hk0 hk1 hRl;simp only at hk0 hk1 hRl;unfold qh.j7;refine qsd (h.fI ?_);refine qbf (λg=>?_) (λg=>?_)
  ·have g:y.2.2≠0:=by simpa using g
   exact hk1 wL g (h0.tail λ_ _ _ h=>h.drop)
  ·have g:y.2.2=0:=by simpa using g
   have hll:=hRl g;have hcap:=h0.drop.cap (by decide);refine h0.drewK λw h0=>?_;refine qfn (n:=nl) rfl (by omega) (qxd ?_);refine qfn (n:=nl) rfl (by omega) (qxd ?_);exact hk0 t11 w g (by omega) hcap (h0.tail λ_ _ _ h=>h.ro)
 refine qbf (λg=>?_) (λg=>stop (Or.inl (by simpa using g)))
 have g:y.2.2=0:=by simpa using g
 refine ql (qd (by omega) (by omega)) ?_
 refine qrc (λg1=>?_) (λg1=>stop (Or.inr (by omega)))
 obtain⟨hz0,hfl⟩:=hf g
 obtain⟨b,rfl,rest,ipk⟩:=hc hz0
 obtain⟨f,rfl⟩:∃f',f=f'+1:=⟨f-1,by omega⟩
 rw[zll,if_neg (λe=>by rcases e with e|e;exact e g;omega)]at hR
 unfold zllS at hR
 simp only at hR
 unfold qh.j8
 refine qjf.c (cb:=b) (ls:=cl) h0 hN hp λw hle h=>⟨_,rfl,?_⟩
 generalize qkm cl (qm V (8*N)) y=s at h hR hle|-
 refine qyf.c (s:=t11) (l:=l) h hN hle (by omega) λw hle2 h=>⟨_,_,rfl,?_⟩
 have hna:=qpx (B:=qm V (8*N)) (z:=s.2) s.1 l
 generalize qcg (qm V (8*N)) s.1 l s.2=a at h hR hle2 hna|-
 refine ql (qd (by omega) (by omega)) ?_
 refine ql (qd (by omega) (by omega)) ?_
 have main:∀(z3:Z) w,z3=(if((nl+nd:Nat):Int)-l.length<a.1.2 then qce 2 a.2 else a.2)->z3.1<=8*N->St F0 w0 w (ztA sb rb V N most z3::qyb 1 t11 (ivs .i64 l)::ps)->
  qh.j9 (some ⟨sb,0,none⟩) (nl:Int) (nd:Int) (some ⟨b,0,none⟩) t11 a.1.1 a.1.2 (λv w'=>K (.returned v) w') (λd_0' t4' t5' t10' t11' w'=>(d_0'=some ⟨sb,0,none⟩/\t4'=(nl:Int)/\t5'=(nd:Int)/\t10'=some ⟨b,0,none⟩)/\I t11' w'/\μ t11' w'<μ t11 wL) w:=by
  intro z3 w e hz3 h
  rw[<-e]at hR
  have h0:=h
  unfold qh.j9
  obtain⟨o,h⟩:=qdw h
  refine qsd (h.fI ?_)
  refine qbf (λg2=>?_) (λg2=>?_)
  ·have g2:z3.2.2=0:=by simpa using g2
   have hle3:a.1.2<=((nl+nd:Nat):Int)-l.length/\a.2.2.2=0:=by
    by_cases hc:((nl+nd:Nat):Int)-l.length<a.1.2
    ·rw[if_pos hc]at e;rw[e]at g2;exact absurd g2 (qfi (by decide))
    ·rw[if_neg hc]at e;exact⟨by omega,by rw[<-e];exact g2⟩
   have hn1:=hna.2.2 hle3.2
   rw[if_pos g2]at hR
   have h:=h0
   refine h.new λnb w h=>?_
   have h:St F0 w0 w (qqb nb (ivs .i64 [a.1.1])::ztA sb rb V N most z3::qyb 1 t11 (ivs .i64 l)::ps):=h
   have h:=h.ownB (n:=1) rfl
   have en:a.1.2=((a.1.2.toNat:Nat):Int):=by omega
   rw[en]
   refine qtb.c (s:=⟨some ⟨nb,0,none⟩,1,1⟩) (x:=a.1.1) h (by omega) λt w ht h=>⟨t,rfl,?_⟩
   refine h.appI (s:=t11) (s2:=t) (by rw[length_replicate];omega) λt2 w h=>?_
   refine⟨⟨rfl,rfl,rfl,rfl⟩,hin (f,l++replicate a.1.2.toNat a.1.1,z3) _ _ ⟨hR,hz3,by simp only[length_append,length_replicate];omega,λ_=>⟨hz0,by simp only[length_append,length_replicate];omega⟩,?_⟩ (by simp only;omega)⟩
   exact h.sub
  ·have g2:z3.2.2≠0:=by simpa using g2
   rw[if_neg g2]at hR
   exact⟨⟨rfl,rfl,rfl,rfl⟩,hin (f,l,z3) _ _ ⟨hR,hz3,by simp only;omega,λe=>absurd e g2,h0⟩ (by simp only;omega)⟩
 refine qrc (λg2=>?_) (λg2=>?_)
 ·refine qsc.c h λw h=>⟨rfl,?_⟩
  exact main (qce 2 a.2) w (by rw[if_pos (by omega)]) hle2 h
 ·exact main a.2 w (by rw[if_neg (by omega)]) hle2 h
theorem qlx:∀k,k<19->0<=qxi.getD k 0/\qxi.getD k 0<19:=by decide
theorem qhbb(b c:Nat)(hc:c≠0):cutP ⟨b,0,none⟩ c 0 1=some ⟨b,0,none⟩:=by
 unfold cutP;rw[if_neg hc,qug]
theorem qcgb{nb n c:Nat}{k:IntKind}{l:List Int}[PkB nb ps (ivs k l) rest](hn:n<=l.length):Rdb F0 w0 ⟨some ⟨nb,0,none⟩,n,c⟩ ps 1 (ivs k (l.take n)):=⟨λh=>by
 have hb:=(h.toB nb).blk;refine⟨by rw[qj,length_take,Nat.mul_one];exact Nat.min_eq_left hn,λi hi=>⟨_,rfl,?_⟩⟩;rw[qj,length_take]at hi;rw[qug,Nat.zero_add,hb.cell,<-qor,List.getElem?_take,if_pos (by omega)]⟩
theorem qsp{l:List Int}{n k:Nat}(h:k<n):(l.take n).getD k 0=l.getD k 0:=by simp[getD,List.getElem?_take,h]
theorem qh.c{K:Ending->World->Prop}(h:St F0 w0 w (ztA sb rb V N most z::ps))(hN:N<=137438953472)(hp:z.1<=8*N)
 (hk0:∀(t11:Sl) (l:List Int) (nl:Nat) w',(qbk (qm V (8*N)) z).2.2.2=0->t11.len=l.length->nl<=t11.len->t11.len<=t11.cap->(qbk (qm V (8*N)) z).1=(l.take nl,l.drop nl)->St F0 w0 w' (ztA sb rb V N most (qbk (qm V (8*N)) z).2::rdA 1 t11 (ivs .i64 l)::ps)->K (.returned (.tuple ⟨[.slice (qpf t11.a t11.cap 0 1) (nl-0) (t11.cap-0),.slice (qpf t11.a t11.cap nl 1) (t11.len-nl) (t11.cap-nl)]⟩)) w')
 (hk1:∀w',(qbk (qm V (8*N)) z).2.2.2≠0->St F0 w0 w' (ztA sb rb V N most (qbk (qm V (8*N)) z).2::ps)->K (.returned (.tuple ⟨[.slice none 0 0,.slice none 0 0]⟩)) w'):
 Calls prog 159 ⟨[.pointer (some ⟨sb,0,none⟩)]⟩ w K:=by
 have hBl:(qm (V:Int) (8*N)).length=8*N:=qq _ _
 refine qec (qh.ok _ _ _ ?_)
 unfold qh qh.j1
 generalize hZ:qbk (qm V (8*N)) z=Zr at hk0 hk1
 unfold qbk at hZ
 simp only at hZ
 refine qbd.c h hN hp λw hp1 h=>⟨_,rfl,?_⟩
 have hg1:=qwf (B:=qm V (8*N)) (z:=z) 5 (by decide)
 generalize qnf (qm V (8*N)) 5 z=g1 at h hZ hp1 hg1|-
 refine ql (qd (by omega) (by omega)) ?_
 have j2:∀(y1:Z) w,y1=(if 286<g1.1+257 then qce 2 g1.2 else g1.2)->y1.1<=8*N->St F0 w0 w (ztA sb rb V N most y1::ps)->qh.j2 (some ⟨sb,0,none⟩) (g1.1+257) (λv w'=>K (.returned v) w') w:=by
  intro y1 w e hp1 h;rw[<-e]at hZ;unfold qh.j2;refine qbd.c h hN hp1 λw hp2 h=>⟨_,rfl,?_⟩;have hg2:=qwf (B:=qm V (8*N)) (z:=y1) 5 (by decide);generalize qnf (qm V (8*N)) 5 y1=g2 at h hZ hp2 hg2|-
  refine ql (qd (by omega) (by omega)) ?_;have j3:∀(y2:Z) w,y2=(if 30<g2.1+1 then qce 2 g2.2 else g2.2)->y2.1<=8*N->St F0 w0 w (ztA sb rb V N most y2::ps)->qh.j3 (some ⟨sb,0,none⟩) (g1.1+257) (g2.1+1) (λv w'=>K (.returned v) w') w:=by
   intro y2 w e hp2 h;rw[<-e]at hZ;unfold qh.j3;refine h.new λcb w h=>?_;rw[qwrb]at h;refine qnj.c h λw h=>⟨_,rfl,?_⟩;refine h.new λob w h=>⟨rfl,?_⟩;rw[qwrb]at h;have h:St F0 w0 w (qqb ob (ivs .i64 (replicate 19 0))::qqb cb (ivs .i64 (replicate 19 0))::ztA sb rb V N most y2::ps):=h;refine St.sA (n:=19) (l':=ivs .i64 qxi) h (by rfl) (by rfl) qse λw h=>?_;have h:St F0 w0 w (ztA sb rb V N most y2::qqb cb (ivs .i64 (replicate 19 0))::qqb ob (ivs .i64 qxi)::ps):=h.sub;unfold qh.j4;refine qbd.c h hN hp2 λw hp3 h=>⟨_,rfl,?_⟩;have hg3:=qkl (B:=qm V (8*N)) (z:=y2) 4;rw[show((2:Int)^(4:Int).toNat)=16 by decide]at hg3;generalize qnf (qm V (8*N)) 4 y2=g3 at h hZ hp3 hg3|-
   refine ql (qd (by omega) (by omega)) ?_;refine qfn (n:=(g3.1+4).toNat) (by omega) (by omega) (qxd ?_);rw[qhbb _ _ (by decide)];unfold qh.j10;refine qof (λ(k:Nat) (k':Int) w'=>k'=k/\k<=(g3.1+4).toNat/\(qpl (qm V (8*N)) g3.2 k).2.1<=8*N/\St F0 w0 w' (ztA sb rb V N most (qpl (qm V (8*N)) g3.2 k).2::qqb cb (ivs .i64 (qpl (qm V (8*N)) g3.2 k).1)::qqb ob (ivs .i64 qxi)::ps)) (λk=>(g3.1+4).toNat-k) 0 ⟨rfl,by omega,hp3,h⟩ ?_;clear h;rintro k k' wL I μ ⟨rfl,hkn,hpk,h⟩ hin;unfold qh.b2;refine qrc (λg=>?_) (λg=>?_)
   ·have g:(k:Int)<(((g3.1+4).toNat-0:Nat):Int):=g;have hk19:k<19:=by omega
    have hz:=qlx k hk19;have hcl:=qnx (B:=qm V (8*N)) (z:=g3.2) k;haveI:Rdb F0 w0 ⟨some ⟨ob,0,none⟩,(g3.1+4).toNat-0,19-0⟩ (ztA sb rb V N most (qpl (qm V (8*N)) g3.2 k).2::qqb cb (ivs .i64 (qpl (qm V (8*N)) g3.2 k).1)::qqb ob (ivs .i64 qxi)::ps) 1 (ivs .i64 (qxi.take ((g3.1+4).toNat-0))):=qcgb (show _<=19 by omega);refine h.lx (s:=⟨some ⟨ob,0,none⟩,(g3.1+4).toNat-0,19-0⟩) k rfl (by rw[length_take];show k<min _ 19;omega) ?_;rw[qsp (by omega)];refine qbd.c h hN hpk λw hpk2 h=>⟨_,rfl,?_⟩;refine St.sa (b:=cb) (zs:=(qpl (qm V (8*N)) g3.2 k).1) h (qxi.getD k 0).toNat (by omega) hcl (by omega) λw h=>?_;refine ql (qd (by omega) (by omega)) ?_;refine⟨⟨rfl,rfl,rfl,rfl,rfl,rfl⟩,hin (k+1) _ _ ⟨by omega,by omega,?_,?_⟩ (by omega)⟩
    ·rw[qpl];exact hpk2
    ·rw[qpl];exact h.sub
   ·have:k=(g3.1+4).toNat:=by
     have g:¬(k:Int)<(((g3.1+4).toNat-0:Nat):Int):=g;omega
    subst this
    clear hin;have hcl:=qnx (B:=qm V (8*N)) (z:=g3.2) (g3.1+4).toNat;generalize qpl (qm V (8*N)) g3.2 (g3.1+4).toNat=c at h hZ hpk hcl|-
    unfold qh.j5;rw[qhbb _ _ (by decide)];refine qxd ?_;haveI:Rdb F0 w0 ⟨some ⟨cb,0,none⟩,19-0,19-0⟩ (qqb cb (ivs .i64 c.1)::qqb ob (ivs .i64 qxi)::ps) 1 (ivs .i64 c.1):=by
     have:=qcgb (F0:=F0) (w0:=w0) (nb:=cb) (n:=19-0) (c:=19-0) (k:= .i64) (l:=c.1) (ps:=qqb cb (ivs .i64 c.1)::qqb ob (ivs .i64 qxi)::ps) (by omega);rwa[take_of_length_le (by omega)]at this
    obtain⟨n1,hn1⟩:∃n1:Nat,g1.1+257=n1:=⟨(g1.1+257).toNat,by omega⟩;obtain⟨n2,hn2⟩:∃n2:Nat,g2.1+1=n2:=⟨(g2.1+1).toNat,by omega⟩;rw[hn1,hn2]at hZ;rw[hn1,hn2];have e12:((n1:Int)+(n2:Int)).toNat=n1+n2:=by omega
    rw[e12,toNat_natCast]at hZ;have fin:∀(y4:Z) (cbo:Option Addr) (qs:List As) w,y4=quj c.1 false c.2->y4.1<=8*N->(y4.2.2=0->∃b,cbo=some ⟨b,0,none⟩/\∃rest,PkF hcA b qs c.1 rest)->(∀(F0:List Nat) (w0 w:World),St F0 w0 w qs->St F0 w0 w ps)->St F0 w0 w (ztA sb rb V N most y4::qs)->qh.j6 (some ⟨sb,0,none⟩) (n1:Int) (n2:Int) cbo ⟨none,0,0⟩ (λv w'=>K (.returned v) w') w:=by
     intro y4 cbo qs w e hp4 hcb hq h;rw[<-e]at hZ;refine qh.loop (nl:=n1) (nd:=n2) (cl:=c.1) h hcb hN hp4 (by omega) (λt11 w g ht hc h=>?_) (λw g h=>?_)
     ·rw[if_neg (λe=>e g)]at hZ;have hzl:=qwt (cl:=c.1) (B:=qm V (8*N)) (N:=n1+n2) (n1+n2+1) [] y4 (by simp) (by simp) g;subst hZ;refine hk0 t11 _ n1 w g (by omega) (by omega) hc rfl (h.tail λ_ _ _ h=>h.tail λ_ _ _ h=>hq _ _ _ h)
     ·rw[if_pos g]at hZ;subst hZ;exact hk1 w g (h.tail λ_ _ _ h=>hq _ _ _ h)
    refine qzd.c (s:=⟨some ⟨cb,0,none⟩,19-0,19-0⟩) (half:=false) h (λhb w g0 gn h=>⟨_,rfl,?_⟩) (λw g0 gn h=>⟨_,rfl,?_⟩) (λg=>⟨_,rfl,?_⟩)
    ·refine fin c.2 _ (hcA hb c.1::qqb cb (ivs .i64 c.1)::qqb ob (ivs .i64 qxi)::ps) w (by unfold quj;rw[if_neg (λe=>e.2 gn)]) hpk (λ_=>⟨hb,rfl,_,PkF.hd⟩) (λ_ _ _ h=>h.drop.drop.drop) h
    ·refine fin (qce 2 c.2) _ (qqb cb (ivs .i64 c.1)::qqb ob (ivs .i64 qxi)::ps) w (by unfold quj;rw[if_pos ⟨g0,gn⟩]) hpk (λe=>absurd e (qfi (by decide))) (λ_ _ _ h=>h.drop.drop) h
    ·refine fin c.2 _ (qqb cb (ivs .i64 c.1)::qqb ob (ivs .i64 qxi)::ps) _ (by unfold quj;rw[if_neg (λe=>g e.1)]) hpk (λe=>absurd e g) (λ_ _ _ h=>h.drop.drop) h
  refine qrc (λg=>?_) (λg=>?_)
  ·refine qsc.c h λw h=>⟨rfl,?_⟩;exact j3 (qce 2 g2.2) w (by rw[if_pos (by omega)]) hp2 h
  ·exact j3 g2.2 w (by rw[if_neg (by omega)]) hp2 h
 refine qrc (λg=>?_) (λg=>?_)
 ·refine qsc.c h λw h=>⟨rfl,?_⟩
  exact j2 (qce 2 g1.2) w (by rw[if_pos (by omega)]) hp1 h
 ·exact j2 g1.2 w (by rw[if_neg (by omega)]) hp1 h
end
end
section
attribute [local irreducible] apK cpK mkK br
section
variable {B:List Bool}{most:Int}{z:Z}
theorem zst_p:∀(n:Nat) (z:Z),z.1<=B.length->z.1<=(zst B most n z).1/\(zst B most n z).1<=B.length:=by
 intro n;induction n with
 |zero=>intro z h;exact⟨le_refl _,h⟩
 |succ n ih=>
  intro z h;have h1:=qmo (B:=B) (z:=z) 8 h;have:=ih (zput most (qnf B 8 z).1 (qnf B 8 z).2) (by rw[qso];exact h1.2);rw[qso]at this
  rw[zst];omega
theorem qfib{N:Nat}(hB:B.length=8*N)(h:z.1<=B.length):z.1<=(qpk B most z).1/\(qpk B most z).1<=B.length:=by
 unfold qpk;simp only
 have h1:=qmo (B:=B) (z:=(8*((z.1+7)/8),z.2.1,z.2.2)) 16 (by simp only;omega);generalize qnf B 16 (8*((z.1+7)/8),z.2.1,z.2.2)=g at h1|-
 simp only at h1;have h2:=qmo (B:=B) (z:=g.2) 16 h1.2;generalize qnf B 16 g.2=g2 at h2|-
 split
 ·omega
 ·split
  ·rw[qxt];omega
  ·split
   ·rw[qxt];omega
   ·have:=zst_p (B:=B) (most:=most) g.1.toNat g2.2 h2.2;omega
theorem qfnb{ll dl:List Int}:∀(f:Nat) (z:Z),z.1<=B.length->z.1<=(qlg ll dl B most f z).1/\(qlg ll dl B most f z).1<=B.length:=by
 intro f;induction f with
 |zero=>intro z h;exact⟨le_refl _,h⟩
 |succ f ih=>
  intro z h;rw[qlg];split
  ·exact⟨le_refl _,h⟩
  ·simp only
   have h1:=qkx (B:=B) ll (z:=z) h;generalize qkm ll B z=s at h1|-
   unfold zfwd at h1;split
   ·exact h1
   ·split
    ·have:=ih (zput most s.1 s.2) (by rw[qso];exact h1.2);rw[qso]at this
     omega
    ·have h2:=qqq (B:=B) (most:=most) dl s.1 (z:=s.2) h1.2;unfold zfwd at h2;have:=ih (qyi dl B most s.1 s.2) h2.2;omega
theorem qpib{ll dl:List Int}(h:z.1<=B.length):z.1<=(zblk ll dl B most z).1/\(zblk ll dl B most z).1<=B.length:=by
 unfold zblk;simp only
 have e1:(qgi dl (qgi ll (if z.2.2=0/\ll.getD 256 0=0 then qce 2 z else z))).1=z.1:=by
  rw[qlib,qlib];split<;>rfl
 generalize qgi dl (qgi ll (if z.2.2=0/\ll.getD 256 0=0 then qce 2 z else z))=z3 at e1|-
 split
 ·omega
 ·have:=qfnb (B:=B) (most:=most) (ll:=ll) (dl:=dl) (B.length+1) z3 (by omega);omega
theorem qrrb{n:Int}(h:(qnf B n z).2.2.2=0):(qnf B n z).2.1=z.1+n.toNat/\z.2.2=0:=by
 have h0:=qmx h;refine⟨?_,h0⟩;unfold qnf at h|-
 rw[if_neg (λe=>e h0)]at h|-
 split at h
 ·rename_i hc;rw[if_pos hc]
 ·simp at h
theorem qto{N:Nat}(hB:B.length=8*N)(h:z.1<=B.length):z.1<=(qie B most z).2.1/\(qie B most z).2.1<=B.length/\((qie B most z).2.2.2=0->z.1<(qie B most z).2.1):=by
 unfold qie;simp only
 have h1:=qmo (B:=B) (z:=z) 1 h;generalize qnf B 1 z=a at h1|-
 have h2:=qmo (B:=B) (z:=a.2) 2 h1.2;have h3:=qrrb (B:=B) (z:=a.2) (n:=2);generalize qnf B 2 a.2=k at h2 h3|-
 split
 ·rename_i hk;exact⟨by simp only;omega,by simp only;omega,λe=>absurd e hk⟩
 ·rename_i hk;have h3:=(h3 (Classical.byContradiction hk)).1;have e2:(2:Int).toNat=2:=rfl;rw[e2]at h3;split
  ·have:=qfib (B:=B) (most:=most) (z:=k.2) hB h2.2;simp only;omega
  ·split
   ·have:=qpib (B:=B) (most:=most) (ll:=qqo) (dl:=qfk) (z:=k.2) h2.2;simp only;omega
   ·split
    ·have h4:=qzbb (B:=B) (z:=k.2) h2.2;generalize qbk B k.2=q at h4|-
     split
     ·simp only;omega
     ·have:=qpib (B:=B) (most:=most) (ll:=q.1.1) (dl:=q.1.2) (z:=q.2) h4.2;simp only;omega
    ·rw[qxt];simp only;omega
theorem qcm(hm:most<=1000000)(h:z.2.1.length<=1000000):(qie B most z).2.2.1.length<=1000000:=by
 have hst:∀n (z:Z),z.2.1.length<=1000000->(zst B most n z).2.1.length<=1000000:=λn z=>qprb hm n z;unfold qie;simp only
 have h1:(qnf B 1 z).2.2.1.length<=1000000:=by rw[qae];exact h
 generalize qnf B 1 z=a at h1|-
 have h2:(qnf B 2 a.2).2.2.1.length<=1000000:=by rw[qae];exact h1
 generalize qnf B 2 a.2=k at h2|-
 split
 ·exact h2
 ·split
  ·unfold qpk;simp only
   have h3:(qnf B 16 (8*((k.2.1+7)/8),k.2.2.1,k.2.2.2)).2.2.1.length<=1000000:=by rw[qae];exact h2
   generalize qnf B 16 (8*((k.2.1+7)/8),k.2.2.1,k.2.2.2)=g at h3|-
   have h4:(qnf B 16 g.2).2.2.1.length<=1000000:=by rw[qae];exact h3
   generalize qnf B 16 g.2=g2 at h4|-
   split
   ·exact h4
   ·split
    ·exact h4
    ·split
     ·exact h4
     ·exact hst _ _ h4
  ·split
   ·exact qzz hm h2
   ·split
    ·have h5:(qbk B k.2).2.2.1.length<=1000000:=by rw[qcr];exact h2
     generalize qbk B k.2=q at h5|-
     split
     ·exact h5
     ·exact qzz hm h5
    ·exact h2
theorem ZAll.out{n:Nat}{z z':Z}(h:ZAll B most n z z')(hm:most<=1000000)(hL:z.2.1.length<=1000000):z'.2.1.length<=1000000:=by
 induction h with
 |bad he=>exact qcm hm hL
 |last he hl=>exact qcm hm hL
 |next he hl hr ih=>exact ih (qcm hm hL)
end
section
variable {F0:List Nat}{w0 w:World}{ps rest rest2:List As}{sb rb V N:Nat}{most:Int}{z:Z}
theorem qr.bad{K:Ending->World->Prop}(h:St F0 w0 w (ztA sb rb V N most z::ps))(hz:z.2.2≠0)
 (hk:∀w',St F0 w0 w' (ztA sb rb V N most z::ps)->K (.returned (.tuple ⟨[]⟩)) w'):
 Calls prog 158 ⟨[.pointer (some ⟨sb,0,none⟩),.slice none 0 0,.slice none 0 0]⟩ w K:=by
 refine qec (qr.ok _ ⟨none,0,0⟩ ⟨none,0,0⟩ _ _ ?_)
 unfold qr
 have h0:=h
 obtain⟨o,h⟩:=qdw h
 refine qsd (h.fI ?_)
 refine qoe (by simpa using hz) ?_
 unfold qr.j1
 haveI:Rdb F0 w0 ⟨none,0,0⟩ ps 1 (ivs .i64 []):=Rdb.nil 0
 refine qzd.c (s:=⟨none,0,0⟩) (ls:=[]) (half:=true) h0 (λcb w e1 e3 h=>absurd e1 hz) (λw e1 e3 h=>absurd e1 hz) (λ_=>⟨_,rfl,?_⟩)
 refine qzd.c (s:=⟨none,0,0⟩) (ls:=[]) (half:=true) h0 (λcb w e1 e3 h=>absurd e1 hz) (λw e1 e3 h=>absurd e1 hz) (λ_=>⟨_,rfl,?_⟩)
 refine qsd (h.fI ?_)
 exact qbg (by simpa using hz) (hk w h0)
theorem qxf.a{K:Ending->World->Prop}(h:St F0 w0 w (ztA sb rb V N most z::ps))(hN:N<=137438953472)(hp:z.1<=8*N)(hm:most<=1000000)(hm0:0<=most)(hL:z.2.1.length<=1000000)
 (hk:∀w',St F0 w0 w' (ztA sb rb V N most (qie (qm V (8*N)) most z).2::ps)->K (.returned (.bool (qie (qm V (8*N)) most z).1)) w'):
 Calls prog 143 ⟨[.pointer (some ⟨sb,0,none⟩)]⟩ w K:=by
 have hBl:(qm (V:Int) (8*N)).length=8*N:=qq _ _
 refine qec (qxf.ok _ _ _ ?_)
 unfold qxf
 unfold qie at hk
 simp only at hk
 refine qbd.c h hN hp λw hg h=>⟨_,rfl,?_⟩
 have go:=qae (B:=qm V (8*N)) (z:=z) 1
 generalize qnf (qm V (8*N)) 1 z=a at h hk hg go|-
 refine qbd.c h hN hg λw hg2 h=>⟨_,rfl,?_⟩
 have go2:=qae (B:=qm V (8*N)) (z:=a.2) 2
 generalize qnf (qm V (8*N)) 2 a.2=k at h hk hg2 go2|-
 have hkL:k.2.2.1.length<=1000000:=by rw[go2,go];exact hL
 have h0:=h
 obtain⟨o,h⟩:=qdw h
 refine qsd (h.fI ?_)
 refine qbf (λg=>?_) (λg=>?_)
 ·have g:k.2.2.2≠0:=by simpa using g
  rw[if_pos g]at hk
  exact hk w h0
 have g:k.2.2.2=0:=by simpa using g
 rw[if_neg (by simpa using g)]at hk
 refine qbf (λg1=>?_) (λg1=>?_)
 ·have g1:k.1=0:=by simpa using g1
  rw[if_pos g1]at hk
  exact qfc.c h0 hN hg2 hm hm0 hkL λw hle h=>⟨rfl,hk w h⟩
 have g1:¬k.1=0:=by simpa using g1
 rw[if_neg g1]at hk
 refine qbf (λg3=>?_) (λg3=>?_)
 ·have g3:k.1=1:=by simpa using g3
  rw[if_pos g3]at hk
  refine qy.c h0 λs t w hs ht h=>⟨s,t,rfl,?_⟩
  have h:St F0 w0 w (ztA sb rb V N most k.2::rdA 1 s (ivs .i64 qqo)::rdA 1 t (ivs .i64 qfk)::ps):=h.at2
  refine qr.c (s:=s) (t:=t) (ll:=qqo) (dl:=qfk) h (by rw[qhj];decide) hN hg2 hm hkL λw h=>⟨rfl,?_⟩
  exact hk w (h.tail λ_ _ _ h=>h.drop.drop)
 have g3:¬k.1=1:=by simpa using g3
 rw[if_neg g3]at hk
 refine qbf (λg4=>?_) (λg4=>?_)
 ·have g4:k.1=2:=by simpa using g4
  rw[if_pos g4]at hk
  have hlp:=qzbb (B:=qm V (8*N)) (z:=k.2) (by rw[hBl];exact hg2)
  have hlo:=qcr (B:=qm V (8*N)) (z:=k.2)
  have hll:=qwz (B:=qm V (8*N)) (z:=k.2)
  rw[hBl]at hlp
  refine qh.c h0 hN hg2 (λt11 l nl w e0 ht hnl hcap el h=>⟨⟨qpf t11.a t11.cap 0 1,nl-0,t11.cap-0⟩,⟨qpf t11.a t11.cap nl 1,t11.len-nl,t11.cap-nl⟩,rfl,?_⟩) (λw e0 h=>⟨⟨none,0,0⟩,⟨none,0,0⟩,rfl,?_⟩)
  ·have hll:=hll e0
   rw[if_neg (λe=>e e0)]at hk
   rw[el]at hk hll
   simp only at hk hll
   haveI:=h.drop.cutR t11 0 nl (t11.cap-0) (ys:=l.take nl) hnl (by omega) hcap (by rw[drop_zero,Nat.sub_zero])
   haveI:=h.drop.cutR t11 nl t11.len (t11.cap-nl) (ys:=l.drop nl) (by omega) hnl hcap (by rw[take_of_length_le (by rw[length_drop];omega)])
   refine qr.c (s:=⟨qpf t11.a t11.cap 0 1,nl-0,t11.cap-0⟩) (t:=⟨qpf t11.a t11.cap nl 1,t11.len-nl,t11.cap-nl⟩) (ll:=l.take nl) (dl:=l.drop nl) h (by omega) hN hlp.2 hm (by rw[hlo];exact hkL) λw h=>⟨rfl,?_⟩
   exact hk w (h.tail λ_ _ _ h=>h.drop)
  ·rw[if_pos e0]at hk
   refine qr.bad h e0 λw h=>⟨rfl,?_⟩
   exact hk w h
 have g4:¬k.1=2:=by simpa using g4
 rw[if_neg g4]at hk
 exact qsc.c h0 λw h=>⟨rfl,hk w h⟩
def zinf(V N:Nat)(most:Int)(z':Z):Prop:=∃n,ZAll (qm V (8*N)) most n (0,[],0) z'
theorem qbc.a{s:Sl}{K:Ending->World->Prop}{z':Z}(h:St F0 w0 w ps)[Rdb F0 w0 s ps 1 (u8s (byt V N))](hN:N<=137438953472)(hm:most<=262144)(hm0:0<=most)(hr:zinf V N most z')
 (hk:∀t w',z'.2.2=0->t.len=z'.2.1.length->St F0 w0 w' (rdA 1 t (u8s z'.2.1)::ps)->K (.returned (.tuple ⟨[.slice t.a t.len t.cap,.int .i64 (((z'.1+7)/8:Nat):Int),.int .i64 0]⟩)) w')
 (hk2:∀w',z'.2.2≠0->St F0 w0 w' ps->K (.returned (.tuple ⟨[.slice none 0 0,.int .i64 0,.int .i64 z'.2.2]⟩)) w'):
 Calls prog 115 ⟨[.slice s.a s.len s.cap,.int .i64 most]⟩ w K:=by
 have hBl:(qm (V:Int) (8*N)).length=8*N:=qq _ _
 obtain⟨n,hr⟩:=hr
 refine qec (qbc.ok _ _ _ _ ?_)
 unfold qbc qbc.j1
 refine qrc (λg=>by omega) λ_=>?_
 refine qrc (λg=>by omega) λ_=>?_
 refine qvi.c (V:=V) (N:=N) (s:=s) h (h.rdb s) hN λrb w h=>⟨_,rfl,?_⟩
 refine h.new λsb w h=>?_
 have h:=(h.nil 1).at2.at2
 have h:St F0 w0 w (ztA sb rb V N most (0,[],0)::ps):=qhgb (o:=⟨none,0,0⟩) (p:=0) (out:=[]) (err:=0) h
 unfold qbc.j2 qbc.j4
 refine qof (λ(a:Nat×Z×Bool) (b:Bool) w'=>b=a.2.2/\a.2.1.1<=8*N/\a.2.1.2.1.length<=1000000/\a.2.1.2.2=0/\(a.2.2=false->∃n,n<a.1/\ZAll (qm V (8*N)) most n a.2.1 z')/\(a.2.2=true->a.2.1=z')/\St F0 w0 w' (ztA sb rb V N most a.2.1::ps)) (λa=>a.1) (n+1,(0,[],0),false) ⟨rfl,zero_le _,by simp,rfl,λ_=>⟨n,by simp,hr⟩,λe=>by simp at e,h⟩ ?_
 clear h hr
 rintro⟨m,z,b⟩ b' wL I μ ⟨rfl,hp,hL,he0,hr,hd,h⟩ hin
 simp only at hp hL he0 hr hd h hin|-
 unfold qbc.b1
 cases b' with
 |false=>
  refine qqp ?_
  obtain⟨n,hn,hr⟩:=hr rfl
  refine qxf.a h hN hp (by omega) hm0 hL λw h=>⟨_,rfl,?_⟩
  have hL2:=qcm (B:=qm V (8*N)) (most:=most) (by omega) hL
  have hle:=(qto (most:=most) hBl (by rw[hBl];exact hp)).2.1
  rw[hBl]at hle
  have h0:=h
  obtain⟨o,h⟩:=qdw h
  refine qsd (h.fI ?_)
  refine qbf (λg=>?_) (λg=>?_)
  ·have g:(qie (qm V (8*N)) most z).2.2.2≠0:=by simpa using g
   refine h.drewK λw h=>?_
   refine qsd (h.fI ?_)
   cases hr with
   |bad he=>exact hk2 w g h.drop.drop.drop
   |last he _=>exact absurd he g
   |next he _ _=>exact absurd he g
  ·have g:(qie (qm V (8*N)) most z).2.2.2=0:=by simpa using g
   cases hr with
   |bad he=>exact absurd g he
   |last he hl=>
    refine⟨rfl,hin (0,(qie (qm V (8*N)) most z).2,true) _ _ ⟨hl,hle,hL2,g,λe=>by simp at e,λ_=>rfl,h0⟩ (by simp only;omega)⟩
   |next he hl hr=>
    rename_i n2
    refine⟨rfl,hin (n2+1,(qie (qm V (8*N)) most z).2,false) _ _ ⟨hl,hle,hL2,g,λ_=>⟨n2,by simp,hr⟩,λe=>by simp at e,h0⟩ (by simp only;omega)⟩
 |true=>
  refine qlq ?_
  have hd:=hd rfl
  subst hd
  unfold qbc.j3
  refine h.drewK λw h=>?_
  obtain⟨o,h⟩:=qdw h
  have hcap:=h.at2.cap (by decide)
  have hol:=h.at2.len
  rw[qj]at hol
  refine qsd (h.fL (qsd ⟨?_,?_⟩))
  ·refine qhd.c h.at2.ro hcap λt h1 h2 h=>⟨t,rfl,?_⟩
   refine h.at1.fP ?_
   refine qrf.c (rb:=rb) (V:=V) (N:=N) (at':=z.1) h.at2 (by omega) λh=>⟨_,rfl,?_⟩
   have h1:t.len=o.len:=h1
   exact hk t w he0 (by omega) (h.at1.tail λ_ _ _ h=>h.drop.drop)
  ·refine h.fP ?_
   refine qhd.c h.at2.ro hcap λt h1 h2 h=>⟨t,rfl,?_⟩
   refine qrf.c (rb:=rb) (V:=V) (N:=N) (at':=z.1) h.at2 (by omega) λh=>⟨_,rfl,?_⟩
   have h1:t.len=o.len:=h1
   exact hk t w he0 (by omega) (h.at1.tail λ_ _ _ h=>h.drop.drop)
end
end
section
set_option maxRecDepth 100000
def quh(s_0:OAd)(e_1:Int)(Q:VWP)(w:World):Prop:=nz s_0 λa1=>ldI .i64 w (Addr.add a1 3) λx2=>br (x2==0) (nz s_0 λa3=>st w (Addr.add a3 3) (.int .i64 e_1) λw4=>Q (.tuple ⟨[]⟩) w4) (Q (.tuple ⟨[]⟩) w)
theorem quh.ok(s_0:OAd)(e_1:Int)(Q:VWP)(w:World)(h:quh s_0 e_1 Q w):Calls prog 113 ⟨[.pointer s_0,.int .i64 e_1]⟩ w (Ret Q):=
 qhc [] qhe Tryz.func113 rfl rfl rfl rfl .lf (by kernel_rfl) h
def qki(s_0:OAd)(n_1:Int)(Q:VWP)(w:World):Prop:=nz s_0 λa1=>ldI .i64 w (Addr.add a1 3) λx2=>br (x2 !=0) (Q (.int .i64 0) w) (nz s_0 λa3=>ldP w (Addr.add a3 0) λx4=>qrpb 135 [.pointer x4,.int .i64 n_1] w λr7 r8 w6=>br (!r8) (ct_ 113 [.pointer s_0,.int .i64 3] w6 λw10=>Q (.int .i64 r7) w10) (Q (.int .i64 r7) w6))
theorem qki.ok(s_0:OAd)(n_1:Int)(Q:VWP)(w:World)(h:qki s_0 n_1 Q w):Calls prog 108 ⟨[.pointer s_0,.int .i64 n_1]⟩ w (Ret Q):=
 qhc [.tmp 4] qhe Tryz.func108 rfl rfl rfl rfl .lf (by kernel_rfl) h
def qii(s_0 c_1:OAd)(Q:VWP)(w:World):Prop:=nz s_0 λa1=>ldI .i64 w (Addr.add a1 3) λx2=>br (x2 !=0) (Q (.int .i64 0) w) (nz s_0 λa3=>ldP w (Addr.add a3 0) λx4=>qcmb 155 [.pointer c_1,.pointer x4] w λr7 r8 w6=>br (r8 !=0) (ct_ 113 [.pointer s_0,.int .i64 r8] w6 λw10=>Q (.int .i64 r7) w10) (Q (.int .i64 r7) w6))
theorem qii.ok(s_0:OAd)(c_1:OAd)(Q:VWP)(w:World)(h:qii s_0 c_1 Q w):Calls prog 139 ⟨[.pointer s_0,.pointer c_1]⟩ w (Ret Q):=
 qhc [.tmp 4] qhe Tryz.func139 rfl rfl rfl rfl .lf (by kernel_rfl) h
def qji(s_0:OAd)(b_1:Int)(Q:VWP)(w:World):Prop:=nz s_0 λa1=>ldI .i64 w (Addr.add a1 3) λx2=>br (x2 !=0) (Q (.tuple ⟨[]⟩) w) (lt (World.drew w) λw3=>nz s_0 λa4=>ldL w3 (Addr.add a4 1) λx5=>nz s_0 λa6=>ldI .i64 w3 (Addr.add a6 2) λx7=>br (decide ((x5.len:Int)>=x7)) (ct_ 113 [.pointer s_0,.int .i64 5] w3 λw9=>Q (.tuple ⟨[]⟩) w9) (nz s_0 λa10=>ldL w3 (Addr.add a10 1) λx11=>nw w3 ⟨[.int .u8 b_1]⟩ 5 λa12 w13=>rdO w13 (some a12) (1*1) λc14=>apK prog 5 w13 x11.a x11.len x11.cap 1 c14 λs15 w16=>nz s_0 λa17=>st w16 (Addr.add a17 1) (sV s15) λw18=>Q (.tuple ⟨[]⟩) w18))
theorem qji.ok(s_0:OAd)(b_1:Int)(Q:VWP)(w:World)(h:qji s_0 b_1 Q w):Calls prog 137 ⟨[.pointer s_0,.int .u8 b_1]⟩ w (Ret Q):=
 qhc [] qhe Tryz.func137 rfl rfl rfl rfl .lf (by kernel_rfl) h
def qgb.b1(s_0:OAd)(n_2:Int)(i_4:Int)(Q:VWP)(nx1:OAd->Int->Int->WP)(w:World):Prop:=br (decide (i_4<n_2)) (qok 108 [.pointer s_0,.int .i64 8] w λr3 w2=>lt (IntKind.u8.wrap r3) λx4=>ct_ 137 [.pointer s_0,.int .u8 x4] w2 λw6=>lt (i64.wrap (i_4+1)) λx7=>nx1 s_0 n_2 x7 w6) (Q (.tuple ⟨[]⟩) w)
def qgb.l1(s_0:OAd)(n_2:Int)(i_4:Int)(Q:VWP)(w:World):Prop:=∃(I:Int->WP) (μ:Int->World->Nat),I i_4 w/\∀i_4:Int,∀w:World,I i_4 w->qgb.b1 s_0 n_2 i_4 Q (λs_0' n_2' i_4' w'=>(s_0'=s_0/\n_2'=n_2)/\I i_4' w'/\μ i_4' w'<μ i_4 w) w
def qgb.j4(s_0:OAd)(n_2:Int)(i_4:Int)(Q:VWP)(w:World):Prop:=qgb.l1 s_0 n_2 i_4 Q w
def qgb.j3(s_0:OAd)(n_2:Int)(Q:VWP)(w:World):Prop:=lt (World.drew w) λw8=>nz s_0 λa9=>ldI .i64 w8 (Addr.add a9 2) λx10=>nz s_0 λa11=>ldL w8 (Addr.add a11 1) λx12=>lt (i64.wrap (x10-(x12.len:Int))) λx13=>br (decide (n_2>x13)) (ct_ 113 [.pointer s_0,.int .i64 5] w8 λw15=>Q (.tuple ⟨[]⟩) w15) (qgb.j4 s_0 n_2 0 Q w8)
def qgb.j2(s_0:OAd)(n_2:Int)(m_3:Int)(Q:VWP)(w:World):Prop:=nz s_0 λa16=>ldI .i64 w (Addr.add a16 3) λx17=>br (x17 !=0) (Q (.tuple ⟨[]⟩) w) (lt (qwk .i64 n_2 m_3) λx18=>br (x18 !=65535) (ct_ 113 [.pointer s_0,.int .i64 2] w λw20=>Q (.tuple ⟨[]⟩) w20) (qgb.j3 s_0 n_2 Q w))
def qgb.j1(s_0:OAd)(Q:VWP)(w:World):Prop:=qok 108 [.pointer s_0,.int .i64 16] w λr23 w22=>qok 108 [.pointer s_0,.int .i64 16] w22 λr26 w25=>qgb.j2 s_0 r23 r26 Q w25
def qgb(s_0:OAd)(Q:VWP)(w:World):Prop:=nz s_0 λa27=>ldP w (Addr.add a27 0) λx28=>ct_ 136 [.pointer x28] w λw30=>qgb.j1 s_0 Q w30
theorem qgb.ok(s_0:OAd)(Q:VWP)(w:World)(h:qgb s_0 Q w):Calls prog 109 ⟨[.pointer s_0]⟩ w (Ret Q):=
 qhc [] qhe Tryz.func109 rfl rfl rfl rfl (.sq [sP 0] (λa w=>qgb.j1 a Q w) .lf (.pr 1 [sP 0,sI 2,sI 3] (λa b c w=>qgb.j2 a b c Q w) (.pr 1 [sP 0,sI 2] (λa b w=>qgb.j3 a b Q w) (.pr 1 [sP 0,sI 2,sI 4] (λa b c w=>qgb.j4 a b c Q w) (.bk (.lo [sP 0,sI 2] [sI 4] (λa b c w=>qgb.l1 a b c Q w) (λnx1 a b c w=>qgb.b1 a b c Q nx1 w) λnx1=> .lf)))))) (by kernel_rfl) h
def qb.j9(s_0:OAd)(nl_4:Int)(l_12:Sl)(Q:VWP)(w:World):Prop:=nz s_0 λa1=>ldI .i64 w (Addr.add a1 3) λx2=>br (x2 !=0) (Q (.tuple ⟨[.slice none 0 0,.slice none 0 0]⟩) w) (lt (World.drew w) λw3=>bd nl_4 l_12.cap λn4=>lt (⟨qpf l_12.a l_12.cap 0 1,n4-0,l_12.cap-0⟩:Sl) λs5=>bd nl_4 l_12.len λn6=>lt (⟨qpf l_12.a l_12.cap n6 1,l_12.len-n6,l_12.cap-n6⟩:Sl) λs7=>Q (.tuple ⟨[sV s5,sV s7]⟩) w3)
def qb.b2(s_0:OAd)(nl_4:Int)(nd_5:Int)(c_10:OAd)(n_14 x_15:Int)(l_12:Sl)(i_16:Int)(Q:VWP)(nx1:OAd->Int->Int->OAd->Sl->WP)(nx2:OAd->Int->Int->OAd->Int->Int->Sl->Int->WP)(w:World):Prop:=br (decide (i_16<n_14)) (nw w ⟨[.int .i64 x_15]⟩ 3 λa8 w9=>rdO w9 (some a8) (1*1) λc10=>apK prog 3 w9 l_12.a l_12.len l_12.cap 1 c10 λs11 w12=>lt (i64.wrap (i_16+1)) λx13=>nx2 s_0 nl_4 nd_5 c_10 n_14 x_15 s11 x13 w12) (nx1 s_0 nl_4 nd_5 c_10 l_12 w)
def qb.l2(s_0:OAd)(nl_4:Int)(nd_5:Int)(c_10:OAd)(n_14 x_15:Int)(l_12:Sl)(i_16:Int)(Q:VWP)(nx1:OAd->Int->Int->OAd->Sl->WP)(w:World):Prop:=∃(I:Sl->Int->WP) (μ:Sl->Int->World->Nat),I l_12 i_16 w/\∀l_12:Sl,∀i_16:Int,∀w:World,I l_12 i_16 w->qb.b2 s_0 nl_4 nd_5 c_10 n_14 x_15 l_12 i_16 Q nx1 (λs_0' nl_4' nd_5' c_10' n_14' x_15' l_12' i_16' w'=>(s_0'=s_0/\nl_4'=nl_4/\nd_5'=nd_5/\c_10'=c_10/\n_14'=n_14/\x_15'=x_15)/\I l_12' i_16' w'/\μ l_12' i_16' w'<μ l_12 i_16 w) w
def qb.j14(s_0:OAd)(nl_4:Int)(nd_5:Int)(c_10:OAd)(l_12:Sl)(n_14:Int)(x_15 i_16:Int)(Q:VWP)(nx1:OAd->Int->Int->OAd->Sl->WP)(w:World):Prop:=qb.l2 s_0 nl_4 nd_5 c_10 n_14 x_15 l_12 i_16 Q nx1 w
def qb.j13(s_0:OAd)(nl_4:Int)(nd_5:Int)(c_10:OAd)(l_12:Sl)(n_14:Int)(x_15:Int)(Q:VWP)(nx1:OAd->Int->Int->OAd->Sl->WP)(w:World):Prop:=lt (i64.wrap (nl_4+nd_5)) λx14=>lt (i64.wrap (x14-(l_12.len:Int))) λx15=>br (decide (n_14>x15)) (ct_ 113 [.pointer s_0,.int .i64 2] w λw17=>Q (.tuple ⟨[.slice none 0 0,.slice none 0 0]⟩) w17) (qb.j14 s_0 nl_4 nd_5 c_10 l_12 n_14 x_15 0 Q nx1 w)
def qb.j12(s_0:OAd)(nl_4:Int)(nd_5:Int)(c_10:OAd)(l_12:Sl)(n_14:Int)(x_15:Int)(Q:VWP)(nx1:OAd->Int->Int->OAd->Sl->WP)(w:World):Prop:=nz s_0 λa18=>ldI .i64 w (Addr.add a18 3) λx19=>br (x19 !=0) (Q (.tuple ⟨[.slice none 0 0,.slice none 0 0]⟩) w) (qb.j13 s_0 nl_4 nd_5 c_10 l_12 n_14 x_15 Q nx1 w)
def qb.j11(s_0:OAd)(nl_4:Int)(nd_5:Int)(c_10:OAd)(l_12:Sl)(v_13:Int)(n_14:Int)(Q:VWP)(nx1:OAd->Int->Int->OAd->Sl->WP)(w:World):Prop:=br (v_13==16) (br ((l_12.len:Int)==0) (ct_ 113 [.pointer s_0,.int .i64 2] w λw21=>Q (.tuple ⟨[.slice none 0 0,.slice none 0 0]⟩) w21) (lt (i64.wrap ((l_12.len:Int)-1)) λx22=>ixS l_12.a l_12.len x22 1 λa23=>ldI .i64 w a23 λx24=>qok 108 [.pointer s_0,.int .i64 2] w λr27 w26=>lt (i64.wrap (3+r27)) λx28=>qb.j12 s_0 nl_4 nd_5 c_10 l_12 x28 x24 Q nx1 w26)) (br (v_13==17) (qok 108 [.pointer s_0,.int .i64 3] w λr31 w30=>lt (i64.wrap (3+r31)) λx32=>qb.j12 s_0 nl_4 nd_5 c_10 l_12 x32 0 Q nx1 w30) (br (v_13==18) (qok 108 [.pointer s_0,.int .i64 7] w λr35 w34=>lt (i64.wrap (11+r35)) λx36=>qb.j12 s_0 nl_4 nd_5 c_10 l_12 x36 0 Q nx1 w34) (qb.j12 s_0 nl_4 nd_5 c_10 l_12 n_14 v_13 Q nx1 w)))
def qb.j10(s_0:OAd)(nl_4:Int)(nd_5:Int)(c_10:OAd)(l_12:Sl)(Q:VWP)(nx1:OAd->Int->Int->OAd->Sl->WP)(w:World):Prop:=qok 139 [.pointer s_0,.pointer c_10] w λr39 w38=>qb.j11 s_0 nl_4 nd_5 c_10 l_12 r39 1 Q nx1 w38
def qb.b1(s_0:OAd)(nl_4:Int)(nd_5:Int)(c_10:OAd)(l_12:Sl)(Q:VWP)(nx1:OAd->Int->Int->OAd->Sl->WP)(w:World):Prop:=lt (i64.wrap (nl_4+nd_5)) λx40=>br (decide ((l_12.len:Int)<x40)) (nz s_0 λa41=>ldI .i64 w (Addr.add a41 3) λx42=>br (x42==0) (qb.j10 s_0 nl_4 nd_5 c_10 l_12 Q nx1 w) (qb.j9 s_0 nl_4 l_12 Q w)) (qb.j9 s_0 nl_4 l_12 Q w)
def qb.l1(s_0:OAd)(nl_4:Int)(nd_5:Int)(c_10:OAd)(l_12:Sl)(Q:VWP)(w:World):Prop:=∃(I:Sl->WP) (μ:Sl->World->Nat),I l_12 w/\∀l_12:Sl,∀w:World,I l_12 w->qb.b1 s_0 nl_4 nd_5 c_10 l_12 Q (λs_0' nl_4' nd_5' c_10' l_12' w'=>(s_0'=s_0/\nl_4'=nl_4/\nd_5'=nd_5/\c_10'=c_10)/\I l_12' w'/\μ l_12' w'<μ l_12 w) w
def qb.j8(s_0:OAd)(nl_4:Int)(nd_5:Int)(c_10:OAd)(l_12:Sl)(Q:VWP)(w:World):Prop:=qb.l1 s_0 nl_4 nd_5 c_10 l_12 Q w
def qb.j7(s_0:OAd)(nl_4:Int)(nd_5:Int)(c_10:OAd)(e_11:Int)(Q:VWP)(w:World):Prop:=br (e_11 !=0) (ct_ 113 [.pointer s_0,.int .i64 2] w λw44=>Q (.tuple ⟨[.slice none 0 0,.slice none 0 0]⟩) w44) (qb.j8 s_0 nl_4 nd_5 c_10 ⟨none,0,0⟩ Q w)
def qb.j6(s_0:OAd)(nl_4:Int)(nd_5:Int)(cl_8:Sl)(Q:VWP)(w:World):Prop:=nz s_0 λa45=>ldI .i64 w (Addr.add a45 3) λx46=>br (x46 !=0) (Q (.tuple ⟨[.slice none 0 0,.slice none 0 0]⟩) w) (qlz 138 [sV cl_8,.bool false] w λr49 r50 w48=>qb.j7 s_0 nl_4 nd_5 r49 r50 Q w48)
def qb.b3(s_0:OAd)(nl_4:Int)(nd_5 nc_6:Int)(order_7:Sl)(cl_8:Sl)(i_9:Int)(Q:VWP)(nx3:OAd->Int->Int->Int->Sl->Sl->Int->WP)(w:World):Prop:=br (decide (i_9<nc_6)) (nz s_0 λa51=>ldI .i64 w (Addr.add a51 3) λx52=>br (x52==0) (lt (World.drew w) λw53=>ixS order_7.a order_7.len i_9 1 λa54=>(ldI .i64 w53 a54 λx55=>qok 108 [.pointer s_0,.int .i64 3] w53 λr58 w57=>ixS cl_8.a cl_8.len x55 1 λa59=>st w57 a59 (.int .i64 r58) λw60=>lt (i64.wrap (i_9+1)) λx61=>nx3 s_0 nl_4 nd_5 nc_6 order_7 cl_8 x61 w60)/\(qok 108 [.pointer s_0,.int .i64 3] w53 λr64 w63=>ldI .i64 w63 a54 λx65=>ixS cl_8.a cl_8.len x65 1 λa66=>st w63 a66 (.int .i64 r64) λw67=>lt (i64.wrap (i_9+1)) λx68=>nx3 s_0 nl_4 nd_5 nc_6 order_7 cl_8 x68 w67)) (qb.j6 s_0 nl_4 nd_5 cl_8 Q w)) (qb.j6 s_0 nl_4 nd_5 cl_8 Q w)
def qb.l3(s_0:OAd)(nl_4:Int)(nd_5 nc_6:Int)(order_7:Sl)(cl_8:Sl)(i_9:Int)(Q:VWP)(w:World):Prop:=∃(I:Int->WP) (μ:Int->World->Nat),I i_9 w/\∀i_9:Int,∀w:World,I i_9 w->qb.b3 s_0 nl_4 nd_5 nc_6 order_7 cl_8 i_9 Q (λs_0' nl_4' nd_5' nc_6' order_7' cl_8' i_9' w'=>(s_0'=s_0/\nl_4'=nl_4/\nd_5'=nd_5/\nc_6'=nc_6/\order_7'=order_7/\cl_8'=cl_8)/\I i_9' w'/\μ i_9' w'<μ i_9 w) w
def qb.j15(s_0:OAd)(nl_4:Int)(nd_5 nc_6:Int)(order_7:Sl)(cl_8:Sl)(i_9:Int)(Q:VWP)(w:World):Prop:=qb.l3 s_0 nl_4 nd_5 nc_6 order_7 cl_8 i_9 Q w
def qb.j5(s_0:OAd)(nl_4:Int)(nd_5 nc_6:Int)(order_7:Sl)(cl_8:Sl)(Q:VWP)(w:World):Prop:=qb.j15 s_0 nl_4 nd_5 nc_6 order_7 cl_8 0 Q w
def qb.j4(s_0:OAd)(nl_4:Int)(nd_5 nc_6:Int)(Q:VWP)(w:World):Prop:=nw w ⟨[.int .i64 16,.int .i64 17,.int .i64 18,.int .i64 0,.int .i64 8,.int .i64 7,.int .i64 9,.int .i64 6,.int .i64 10,.int .i64 5,.int .i64 11,.int .i64 4,.int .i64 12,.int .i64 3,.int .i64 13,.int .i64 2,.int .i64 14,.int .i64 1,.int .i64 15]⟩ 3 λa69 w70=>mkK prog 3 w70 19 19 λs71 w72=>qb.j5 s_0 nl_4 nd_5 nc_6 ⟨(some a69),19,19⟩ s71 Q w72
def qb.j3(s_0:OAd)(nl_4:Int)(nd_5:Int)(Q:VWP)(w:World):Prop:=qok 108 [.pointer s_0,.int .i64 4] w λr75 w74=>lt (i64.wrap (r75+4)) λx76=>qb.j4 s_0 nl_4 nd_5 x76 Q w74
def qb.j2(s_0:OAd)(nl_4:Int)(Q:VWP)(w:World):Prop:=qok 108 [.pointer s_0,.int .i64 5] w λr79 w78=>lt (i64.wrap (r79+1)) λx80=>br (decide (x80>30)) (ct_ 113 [.pointer s_0,.int .i64 2] w78 λw82=>qb.j3 s_0 nl_4 x80 Q w82) (qb.j3 s_0 nl_4 x80 Q w78)
def qb.j1(s_0:OAd)(Q:VWP)(w:World):Prop:=qok 108 [.pointer s_0,.int .i64 5] w λr85 w84=>lt (i64.wrap (r85+257)) λx86=>br (decide (x86>286)) (ct_ 113 [.pointer s_0,.int .i64 2] w84 λw88=>qb.j2 s_0 x86 Q w88) (qb.j2 s_0 x86 Q w84)
def qb(s_0:OAd)(Q:VWP)(w:World):Prop:=qb.j1 s_0 Q w
theorem qb.ok(s_0:OAd)(Q:VWP)(w:World)(h:qb s_0 Q w):Calls prog 112 ⟨[.pointer s_0]⟩ w (Ret Q):=
 qhc [.tmp 2,.tmp 3] qhe Tryz.func112 rfl rfl rfl rfl (.sq [sP 0] (λa w=>qb.j1 a Q w) .lf (.pr 1 [sP 0,sI 4] (λa b w=>qb.j2 a b Q w) (.pr 1 [sP 0,sI 4,sI 5] (λa b c w=>qb.j3 a b c Q w) (.sq [sP 0,sI 4,sI 5,sI 6] (λa b c d w=>qb.j4 a b c d Q w) .lf (.pr 1 [sP 0,sI 4,sI 5,sI 6,sL 7,sL 8] (λa b c d e f w=>qb.j5 a b c d e f Q w) (.sq [sP 0,sI 4,sI 5,sL 8] (λa b c d w=>qb.j6 a b c d Q w) (.sq [sP 0,sI 4,sI 5,sI 6,sL 7,sL 8,sI 9] (λa b c d e f g w=>qb.j15 a b c d e f g Q w) .lf (.bk (.lo [sP 0,sI 4,sI 5,sI 6,sL 7,sL 8] [sI 9] (λa b c d e f g w=>qb.l3 a b c d e f g Q w) (λnx3 a b c d e f g w=>qb.b3 a b c d e f g Q nx3 w) λnx3=> .lf))) (.pr 1 [sP 0,sI 4,sI 5,sP 10,sI 11] (λa b c d e w=>qb.j7 a b c d e Q w) (.pr 1 [sP 0,sI 4,sI 5,sP 10,sL 12] (λa b c d e w=>qb.j8 a b c d e Q w) (.sq [sP 0,sI 4,sL 12] (λa b c w=>qb.j9 a b c Q w) (.bk (.lo [sP 0,sI 4,sI 5,sP 10] [sL 12] (λa b c d e w=>qb.l1 a b c d e Q w) (λnx1 a b c d e w=>qb.b1 a b c d e Q nx1 w) λnx1=>(.sq [sP 0,sI 4,sI 5,sP 10,sL 12] (λa b c d e w=>qb.j10 a b c d e Q nx1 w) .lf (.bk (.pr 1 [sP 0,sI 4,sI 5,sP 10,sL 12,sI 13,sI 14] (λa b c d e f g w=>qb.j11 a b c d e f g Q nx1 w) (.pr 1 [sP 0,sI 4,sI 5,sP 10,sL 12,sI 14,sI 15] (λa b c d e f g w=>qb.j12 a b c d e f g Q nx1 w) (.sq [sP 0,sI 4,sI 5,sP 10,sL 12,sI 14,sI 15] (λa b c d e f g w=>qb.j13 a b c d e f g Q nx1 w) .lf (.pr 1 [sP 0,sI 4,sI 5,sP 10,sL 12,sI 14,sI 15,sI 16] (λa b c d e f g h w=>qb.j14 a b c d e f g h Q nx1 w) (.bk (.lo [sP 0,sI 4,sI 5,sP 10,sI 14,sI 15] [sL 12,sI 16] (λa b c d e f g h w=>qb.l2 a b c d e f g h Q nx1 w) (λnx2 a b c d e f g h w=>qb.b2 a b c d e f g h Q nx1 nx2 w) λnx2=> .lf)))))))))) .lf))))))))) (by kernel_rfl) h
def qg.b2(s_0 a_6 b_8:OAd)(n_11:Int)(d_14 i_17:Int)(Q:VWP)(nx1:OAd->OAd->OAd->WP)(nx2:OAd->OAd->OAd->Int->Int->Int->WP)(w:World):Prop:=br (decide (i_17<n_11)) (nz s_0 λa1=>ldI .i64 w (Addr.add a1 3) λx2=>br (x2==0) (lt (World.drew w) λw3=>nz s_0 λa4=>ldL w3 (Addr.add a4 1) λx5=>nz s_0 λa6=>ldL w3 (Addr.add a6 1) λx7=>lt (i64.wrap ((x7.len:Int)-d_14)) λx8=>ixS x5.a x5.len x8 1 λa9=>ldI .u8 w3 a9 λx10=>ct_ 137 [.pointer s_0,.int .u8 x10] w3 λw12=>lt (i64.wrap (i_17+1)) λx13=>nx2 s_0 a_6 b_8 n_11 d_14 x13 w12) (nx1 s_0 a_6 b_8 w)) (nx1 s_0 a_6 b_8 w)
def qg.l2(s_0 a_6 b_8:OAd)(n_11:Int)(d_14 i_17:Int)(Q:VWP)(nx1:OAd->OAd->OAd->WP)(w:World):Prop:=∃(I:Int->WP) (μ:Int->World->Nat),I i_17 w/\∀i_17:Int,∀w:World,I i_17 w->qg.b2 s_0 a_6 b_8 n_11 d_14 i_17 Q nx1 (λs_0' a_6' b_8' n_11' d_14' i_17' w'=>(s_0'=s_0/\a_6'=a_6/\b_8'=b_8/\n_11'=n_11/\d_14'=d_14)/\I i_17' w'/\μ i_17' w'<μ i_17 w) w
def qg.j12(s_0 a_6 b_8:OAd)(n_11:Int)(d_14 i_17:Int)(Q:VWP)(nx1:OAd->OAd->OAd->WP)(w:World):Prop:=qg.l2 s_0 a_6 b_8 n_11 d_14 i_17 Q nx1 w
def qg.j11(s_0 a_6 b_8:OAd)(n_11:Int)(d_14:Int)(Q:VWP)(nx1:OAd->OAd->OAd->WP)(w:World):Prop:=qg.j12 s_0 a_6 b_8 n_11 d_14 0 Q nx1 w
def qg.j10(s_0 a_6 b_8:OAd)(n_11:Int)(d_14 y_15:Int)(Q:VWP)(nx1:OAd->OAd->OAd->WP)(w:World):Prop:=qok 108 [.pointer s_0,.int .i64 y_15] w λr16 w15=>lt (i64.wrap (d_14+r16)) λx17=>nz s_0 λa18=>ldI .i64 w15 (Addr.add a18 3) λx19=>br (x19==0) (nz s_0 λa20=>ldL w15 (Addr.add a20 1) λx21=>br (decide (x17>(x21.len:Int))) (ct_ 113 [.pointer s_0,.int .i64 2] w15 λw23=>qg.j11 s_0 a_6 b_8 n_11 x17 Q nx1 w23) (qg.j11 s_0 a_6 b_8 n_11 x17 Q nx1 w15)) (qg.j11 s_0 a_6 b_8 n_11 x17 Q nx1 w15)
def qg.j9(s_0 a_6 b_8:OAd)(n_11:Int)(d_14 y_15:Int)(Q:VWP)(nx1:OAd->OAd->OAd->WP)(w:World):Prop:=nz s_0 λa24=>ldI .i64 w (Addr.add a24 3) λx25=>br (x25 !=0) (Q (.tuple ⟨[]⟩) w) (qg.j10 s_0 a_6 b_8 n_11 d_14 y_15 Q nx1 w)
def qg.j8(s_0 a_6 b_8:OAd)(n_11:Int)(Q:VWP)(nx1:OAd->OAd->OAd->WP)(w:World):Prop:=qok 139 [.pointer s_0,.pointer b_8] w λr28 w27=>qbx 141 [.int .i64 r28] w27 λr31 r32 r33 w30=>nz s_0 λa34=>ldI .i64 w30 (Addr.add a34 3) λx35=>br (x35==0) (br (!r33) (ct_ 113 [.pointer s_0,.int .i64 2] w30 λw37=>qg.j9 s_0 a_6 b_8 n_11 r31 r32 Q nx1 w37) (qg.j9 s_0 a_6 b_8 n_11 r31 r32 Q nx1 w30)) (qg.j9 s_0 a_6 b_8 n_11 r31 r32 Q nx1 w30)
def qg.j7(s_0 a_6 b_8:OAd)(n_11:Int)(x_12:Int)(ok_13:Bool)(Q:VWP)(nx1:OAd->OAd->OAd->WP)(w:World):Prop:=br (!ok_13) (ct_ 113 [.pointer s_0,.int .i64 2] w λw39=>Q (.tuple ⟨[]⟩) w39) (qok 108 [.pointer s_0,.int .i64 x_12] w λr42 w41=>lt (i64.wrap (n_11+r42)) λx43=>qg.j8 s_0 a_6 b_8 x43 Q nx1 w41)
def qg.j6(s_0 a_6 b_8:OAd)(v_10:Int)(Q:VWP)(nx1:OAd->OAd->OAd->WP)(w:World):Prop:=br (decide (v_10<256)) (lt (IntKind.u8.wrap v_10) λx44=>ct_ 137 [.pointer s_0,.int .u8 x44] w λw46=>nx1 s_0 a_6 b_8 w46) (qbx 140 [.int .i64 v_10] w λr49 r50 r51 w48=>qg.j7 s_0 a_6 b_8 r49 r50 r51 Q nx1 w48)
def qg.j5(s_0 a_6 b_8:OAd)(v_10:Int)(Q:VWP)(nx1:OAd->OAd->OAd->WP)(w:World):Prop:=nz s_0 λa52=>ldI .i64 w (Addr.add a52 3) λx53=>br (x53 !=0) (Q (.tuple ⟨[]⟩) w) (br (v_10==256) (Q (.tuple ⟨[]⟩) w) (qg.j6 s_0 a_6 b_8 v_10 Q nx1 w))
def qg.j4(s_0 a_6 b_8:OAd)(Q:VWP)(nx1:OAd->OAd->OAd->WP)(w:World):Prop:=qok 139 [.pointer s_0,.pointer a_6] w λr56 w55=>qg.j5 s_0 a_6 b_8 r56 Q nx1 w55
def qg.b1(s_0 a_6 b_8:OAd)(Q:VWP)(nx1:OAd->OAd->OAd->WP)(w:World):Prop:=nz s_0 λa57=>ldI .i64 w (Addr.add a57 3) λx58=>br (x58==0) (qg.j4 s_0 a_6 b_8 Q nx1 w) (Q (.tuple ⟨[]⟩) w)
def qg.l1(s_0 a_6 b_8:OAd)(Q:VWP)(w:World):Prop:=∃(I:WP) (μ:World->Nat),I w/\∀w:World,I w->qg.b1 s_0 a_6 b_8 Q (λs_0' a_6' b_8' w'=>(s_0'=s_0/\a_6'=a_6/\b_8'=b_8)/\I w'/\μ w'<μ w) w
def qg.j3(s_0 a_6 b_8:OAd)(Q:VWP)(w:World):Prop:=qg.l1 s_0 a_6 b_8 Q w
def qg.j2(s_0:OAd)(dist_2:Sl)(a_6:OAd)(e_7:Int)(Q:VWP)(w:World):Prop:=qlz 138 [sV dist_2,.bool true] w λr61 r62 w60=>br (e_7 !=0) (ct_ 113 [.pointer s_0,.int .i64 2] w60 λw64=>Q (.tuple ⟨[]⟩) w64) (br (r62 !=0) (ct_ 113 [.pointer s_0,.int .i64 2] w60 λw66=>Q (.tuple ⟨[]⟩) w66) (qg.j3 s_0 a_6 r61 Q w60))
def qg.j1(s_0:OAd)(lit_1:Sl)(dist_2:Sl)(Q:VWP)(w:World):Prop:=ixS lit_1.a lit_1.len 256 1 λa67=>ldI .i64 w a67 λx68=>br (x68==0) (ct_ 113 [.pointer s_0,.int .i64 2] w λw70=>Q (.tuple ⟨[]⟩) w70) (qlz 138 [sV lit_1,.bool true] w λr73 r74 w72=>qg.j2 s_0 dist_2 r73 r74 Q w72)
def qg(s_0:OAd)(lit_1:Sl)(dist_2:Sl)(Q:VWP)(w:World):Prop:=nz s_0 λa75=>ldI .i64 w (Addr.add a75 3) λx76=>br (x76 !=0) (Q (.tuple ⟨[]⟩) w) (qg.j1 s_0 lit_1 dist_2 Q w)
theorem qg.ok(s_0:OAd)(lit_1:Sl)(dist_2:Sl)(Q:VWP)(w:World)(h:qg s_0 lit_1 dist_2 Q w):Calls prog 111 ⟨[.pointer s_0,sV lit_1,sV dist_2]⟩ w (Ret Q):=
 qhc [] qhe Tryz.func111 rfl rfl rfl rfl (.sq [sP 0,sL 1,sL 2] (λa b c w=>qg.j1 a b c Q w) .lf (.pr 1 [sP 0,sL 2,sP 6,sI 7] (λa b c d w=>qg.j2 a b c d Q w) (.pr 1 [sP 0,sP 6,sP 8] (λa b c w=>qg.j3 a b c Q w) (.bk (.lo [sP 0,sP 6,sP 8] [] (λa b c w=>qg.l1 a b c Q w) (λnx1 a b c w=>qg.b1 a b c Q nx1 w) λnx1=>(.sq [sP 0,sP 6,sP 8] (λa b c w=>qg.j4 a b c Q nx1 w) .lf (.bk (.sq [sP 0,sP 6,sP 8,sI 10] (λa b c d w=>qg.j5 a b c d Q nx1 w) .lf (.pr 1 [sP 0,sP 6,sP 8,sI 10] (λa b c d w=>qg.j6 a b c d Q nx1 w) (.pr 1 [sP 0,sP 6,sP 8,sI 11,sI 12,sB 13] (λa b c d e f w=>qg.j7 a b c d e f Q nx1 w) (.pr 1 [sP 0,sP 6,sP 8,sI 11] (λa b c d w=>qg.j8 a b c d Q nx1 w) (.pr 1 [sP 0,sP 6,sP 8,sI 11,sI 14,sI 15] (λa b c d e f w=>qg.j9 a b c d e f Q nx1 w) (.sq [sP 0,sP 6,sP 8,sI 11,sI 14,sI 15] (λa b c d e f w=>qg.j10 a b c d e f Q nx1 w) .lf (.pr 1 [sP 0,sP 6,sP 8,sI 11,sI 14] (λa b c d e w=>qg.j11 a b c d e Q nx1 w) (.sq [sP 0,sP 6,sP 8,sI 11,sI 14,sI 17] (λa b c d e f w=>qg.j12 a b c d e f Q nx1 w) .lf (.bk (.lo [sP 0,sP 6,sP 8,sI 11,sI 14] [sI 17] (λa b c d e f w=>qg.l2 a b c d e f Q nx1 w) (λnx2 a b c d e f w=>qg.b2 a b c d e f Q nx1 nx2 w) λnx2=> .lf))))))))))))))))) (by kernel_rfl) h
def qcc.j3(s_0:OAd)(last_3:Bool)(Q:VWP)(w:World):Prop:=br last_3 (nz s_0 λa1=>ldI .i64 w (Addr.add a1 3) λx2=>Q (.bool (x2==0)) w) (Q (.bool false) w)
def qcc.j2(s_0:OAd)(last_3:Bool)(k_4:Int)(Q:VWP)(w:World):Prop:=nz s_0 λa3=>ldI .i64 w (Addr.add a3 3) λx4=>br (x4 !=0) (Q (.bool false) w) (br (k_4==0) (ct_ 109 [.pointer s_0] w λw6=>qcc.j3 s_0 last_3 Q w6) (br (k_4==1) (qamb 110 [] w λr9 r10 w8=>ct_ 111 [.pointer s_0,sV r9,sV r10] w8 λw12=>qcc.j3 s_0 last_3 Q w12) (br (k_4==2) (qamb 112 [.pointer s_0] w λr15 r16 w14=>ct_ 111 [.pointer s_0,sV r15,sV r16] w14 λw18=>qcc.j3 s_0 last_3 Q w18) (ct_ 113 [.pointer s_0,.int .i64 2] w λw20=>qcc.j3 s_0 last_3 Q w20))))
def qcc.j1(s_0:OAd)(Q:VWP)(w:World):Prop:=qok 108 [.pointer s_0,.int .i64 1] w λr23 w22=>qok 108 [.pointer s_0,.int .i64 2] w22 λr26 w25=>qcc.j2 s_0 (r23==1) r26 Q w25
def qcc(s_0:OAd)(Q:VWP)(w:World):Prop:=qcc.j1 s_0 Q w
theorem qcc.ok(s_0:OAd)(Q:VWP)(w:World)(h:qcc s_0 Q w):Calls prog 83 ⟨[.pointer s_0]⟩ w (Ret Q):=
 qhc [.tmp 2] qhe Tryz.func83 rfl rfl rfl rfl (.sq [sP 0] (λa w=>qcc.j1 a Q w) .lf (.pr 1 [sP 0,sB 3,sI 4] (λa b c w=>qcc.j2 a b c Q w) (.pr 1 [sP 0,sB 3] (λa b w=>qcc.j3 a b Q w) .lf))) (by kernel_rfl) h
def qwb.j3(s_7:OAd)(Q:VWP)(w:World):Prop:=lt (World.drew w) λw1=>nz s_7 λa2=>nz s_7 λa3=>ldP w1 (Addr.add a3 0) λx4=>(ldL w1 (Addr.add a2 1) λx5=>qok 84 [.pointer x4] w1 λr8 w7=>Q (.tuple ⟨[sV x5,.int .i64 r8,.int .i64 0]⟩) w7)/\(qok 84 [.pointer x4] w1 λr11 w10=>ldL w10 (Addr.add a2 1) λx12=>Q (.tuple ⟨[sV x12,.int .i64 r11,.int .i64 0]⟩) w10)
def qwb.b1(s_7:OAd)(Q:VWP)(nx1:OAd->WP)(w:World):Prop:=qvz 83 [.pointer s_7] w λr15 w14=>br (!r15) (nz s_7 λa16=>ldI .i64 w14 (Addr.add a16 3) λx17=>br (x17 !=0) (lt (World.drew w14) λw18=>nz s_7 λa19=>ldI .i64 w18 (Addr.add a19 3) λx20=>Q (.tuple ⟨[.slice none 0 0,.int .i64 0,.int .i64 x20]⟩) w18) (nx1 s_7 w14)) (qwb.j3 s_7 Q w14)
def qwb.l1(s_7:OAd)(Q:VWP)(w:World):Prop:=∃(I:WP) (μ:World->Nat),I w/\∀w:World,I w->qwb.b1 s_7 Q (λs_7' w'=>(s_7'=s_7)/\I w'/\μ w'<μ w) w
def qwb.j2(s_7:OAd)(Q:VWP)(w:World):Prop:=qwb.l1 s_7 Q w
def qwb.j1(b_0:Sl)(most_1:Int)(Q:VWP)(w:World):Prop:=br (decide (most_1<0)) (Q (.tuple ⟨[.slice none 0 0,.int .i64 0,.int .i64 1]⟩) w) (br (decide (most_1>262144)) (Q (.tuple ⟨[.slice none 0 0,.int .i64 0,.int .i64 1]⟩) w) (nw w (⟨[sV b_0,.int .i64 0]⟩:Array Value) 133 λa21 w22=>nw w22 (⟨[.pointer (some a21),.slice none 0 0,.int .i64 most_1,.int .i64 0]⟩:Array Value) 135 λa23 w24=>qwb.j2 (some a23) Q w24))
def qwb(b_0:Sl)(most_1:Int)(Q:VWP)(w:World):Prop:=qwb.j1 b_0 most_1 Q w
theorem qwb.ok(b_0:Sl)(most_1:Int)(Q:VWP)(w:World)(h:qwb b_0 most_1 Q w):Calls prog 69 ⟨[sV b_0,.int .i64 most_1]⟩ w (Ret Q):=
 qhc [.tmp 4,.tmp 5,.tmp 6] qhe Tryz.func69 rfl rfl rfl rfl (.sq [sL 0,sI 1] (λa b w=>qwb.j1 a b Q w) .lf (.pr 1 [sP 7] (λa w=>qwb.j2 a Q w) (.sq [sP 7] (λa w=>qwb.j3 a Q w) (.bk (.lo [sP 7] [] (λa w=>qwb.l1 a Q w) (λnx1 a w=>qwb.b1 a Q nx1 w) λnx1=> .lf)) .lf))) (by kernel_rfl) h
end
section
attribute [local irreducible] apK cpK mkK br
def dtA(sb rb:Nat)(q:Sl)(most:Int)(z:Z):As:=exA λo:Sl=>andA (qqb sb [.pointer (some ⟨rb,0,none⟩),.slice o.a o.len o.cap,.int .i64 most,.int .i64 z.2.2]) (andA (bitR rb (q,z.1)) (qyb 1 o (u8s z.2.1)))
section
variable {F0:List Nat}{w0 w:World}{ps rest rest2:List As}{sb rb V N:Nat}{q:Sl}{most:Int}{z:Z}
theorem qbw(h:St F0 w0 w (dtA sb rb q most z::ps)):∃o:Sl,St F0 w0 w (qqb sb [.pointer (some ⟨rb,0,none⟩),.slice o.a o.len o.cap,.int .i64 most,.int .i64 z.2.2]::bitR rb (q,z.1)::qyb 1 o (u8s z.2.1)::ps):=by
 unfold dtA at h;obtain⟨o,h⟩:=h.exE;exact⟨o,h.split.tail λ_ _ _ h=>h.split⟩
theorem qeib{o:Sl}{p:Nat}{out:List Int}{err:Int}(h:St F0 w0 w (qqb sb [.pointer (some ⟨rb,0,none⟩),.slice o.a o.len o.cap,.int .i64 most,.int .i64 err]::bitR rb (q,p)::qyb 1 o (u8s out)::ps)):St F0 w0 w (dtA sb rb q most (p,out,err)::ps):=by
 unfold dtA;exact St.exI o (St.join (h.tail λ_ _ _ h=>h.join))
theorem qvf.c{e:Int}{K:Ending->World->Prop}(h:St F0 w0 w (dtA sb rb q most z::ps))
 (hk:∀w',St F0 w0 w' (dtA sb rb q most (qce e z)::ps)->K (.returned (.tuple ⟨[]⟩)) w'):Calls prog 113 ⟨[.pointer (some ⟨sb,0,none⟩),.int .i64 e]⟩ w K:=by
 obtain⟨p,out,err⟩:=z
 refine qec (quh.ok _ _ _ _ ?_)
 unfold quh
 unfold qce at hk
 obtain⟨o,h⟩:=qbw h
 simp only at h hk
 refine qsd (h.fI ?_)
 refine qbf (λg=>?_) (λg=>?_)
 ·rw[if_pos (by simpa using g)]at hk
  refine qsd (h.fst trivial λw h=>?_)
  exact hk w (qeib h)
 ·rw[if_neg (by simpa using g)]at hk
  exact hk w (qeib h)
theorem qni.c{n:Int}{K:Ending->World->Prop}(h:St F0 w0 w (dtA sb rb q most z::ps))[Rdb F0 w0 q ps 1 (u8s (byt V N))](hN:N<=137438953472)(hp:z.1<=8*N)
 (hk:∀w',(qnf (qm V (8*N)) n z).2.1<=8*N->St F0 w0 w' (dtA sb rb q most (qnf (qm V (8*N)) n z).2::ps)->K (.returned (.int .i64 (qnf (qm V (8*N)) n z).1)) w'):Calls prog 108 ⟨[.pointer (some ⟨sb,0,none⟩),.int .i64 n]⟩ w K:=by
 have hf:=(qdr (B:=qm V (8*N)) n (z:=z) (by rw[qq];exact hp)).2
 rw[qq]at hf
 have hk:=λw'=>hk w' hf
 clear hf
 obtain⟨p,out,err⟩:=z
 simp only at hp
 refine qec (qki.ok _ _ _ _ ?_)
 unfold qki
 unfold qnf at hk
 have h0:=h
 obtain⟨o,h⟩:=qbw h
 simp only at h hk
 refine qsd (h.fI ?_)
 refine qbf (λg=>?_) (λg=>?_)
 ·rw[if_pos (by simpa using g)]at hk
  exact hk w h0
 ·have g:err=0:=by simpa using g
  subst g
  rw[if_neg (by simp),qq]at hk
  refine qsd (h.fP ?_)
  have h:St F0 w0 w (rfA rb q p::qqb sb [.pointer (some ⟨rb,0,none⟩),.slice o.a o.len o.cap,.int .i64 most,.int .i64 0]::qyb 1 o (u8s out)::ps):=h.at1
  refine qdb.c (V:=V) (N:=N) (at':=p) (s:=q) h (λw h=>h.rdb q) hN (by omega) (λg w h=>⟨_,_,rfl,?_⟩) (λg w h=>⟨_,_,rfl,?_⟩)
  ·have g:=of_decide_eq_true g
   rw[if_pos ⟨g.1,g.2.1,by omega⟩]at hk
   simp only at hk
   rw[qeeb (by omega)]at hk
   refine qlq ?_
   exact hk w (qeib (q:=q) (p:=p+n.toNat) h.at1)
  ·have g:=of_decide_eq_false g
   rw[if_neg (λe=>g ⟨e.1,e.2.1,by have:=e.2.2;omega⟩)]at hk
   refine qqp ?_
   have h:=qeib (q:=q) (p:=p) (out:=out) (err:=0) h.at1
   refine qvf.c h λw h=>⟨rfl,?_⟩
   exact hk w h
theorem qgy.c{b:Int}{K:Ending->World->Prop}(h:St F0 w0 w (dtA sb rb q most z::ps))(hL:z.2.1.length<=1000000000)
 (hk:∀w',St F0 w0 w' (dtA sb rb q most (zput most b z)::ps)->K (.returned (.tuple ⟨[]⟩)) w'):Calls prog 137 ⟨[.pointer (some ⟨sb,0,none⟩),.int .u8 b]⟩ w K:=by
 obtain⟨p,out,err⟩:=z
 simp only at hL
 refine qec (qji.ok _ _ _ _ ?_)
 unfold qji
 unfold zput at hk
 have h0:=h
 obtain⟨o,h⟩:=qbw h
 simp only at h hk
 have hol:=h.at2.len
 rw[qj]at hol
 refine qsd (h.fI ?_)
 refine qbf (λg=>?_) (λg=>?_)
 ·rw[if_pos (by simpa using g)]at hk
  exact hk w h0
 have g:err=0:=by simpa using g
 subst g
 rw[if_neg (by simp)]at hk
 refine h.drewK λw h=>?_
 refine qsd (h.fL (qsd (h.fI ?_)))
 refine qrc (λg2=>?_) (λg2=>?_)
 ·have g2:((o.len:Nat):Int)>=most:=g2
  rw[if_pos (by omega)]at hk
  exact qvf.c (qeib h) λw h=>⟨rfl,hk w h⟩
 ·have g2:¬((o.len:Nat):Int)>=most:=g2
  rw[if_neg (by omega)]at hk
  refine qsd (h.fL ?_)
  refine h.pushI (s:=o) (by omega) λo2 w h=>?_
  refine qsd (h.fst trivial λw h=>?_)
  exact hk w (qeib (o:=o2) h.sub)
theorem qfy.c{cb:Nat}{ls:List Int}{K:Ending->World->Prop}(h:St F0 w0 w (dtA sb rb q most z::ps))[Rdb F0 w0 q ps 1 (u8s (byt V N))][PkF hrA cb ps ls rest][Rdb F0 w0 q rest 1 (u8s (byt V N))](hN:N<=137438953472)(hp:z.1<=8*N)
 (hk:∀w',(qkm ls (qm V (8*N)) z).2.1<=8*N->St F0 w0 w' (dtA sb rb q most (qkm ls (qm V (8*N)) z).2::ps)->K (.returned (.int .i64 (qkm ls (qm V (8*N)) z).1)) w'):
 Calls prog 139 ⟨[.pointer (some ⟨sb,0,none⟩),.pointer (some ⟨cb,0,none⟩)]⟩ w K:=by
 obtain⟨p,out,err⟩:=z
 simp only at hp
 refine qec (qii.ok _ _ _ _ ?_)
 unfold qii
 unfold qkm at hk
 have h0:=h
 obtain⟨o,h⟩:=qbw h
 simp only at h hk
 refine qsd (h.fI ?_)
 refine qbf (λg=>?_) (λg=>?_)
 ·rw[if_pos (by simpa using g)]at hk
  exact hk w hp h0
 have g:err=0:=by simpa using g
 subst g
 rw[if_neg (by simp)]at hk
 refine qsd (h.fP ?_)
 refine qk.c (ls:=ls) (cb:=cb) (rb:=rb) (V:=V) (N:=N) (p:=p) (s:=q) h.at1 hN hp λw hle h=>⟨_,_,rfl,?_⟩
 refine qbf (λg=>?_) (λg=>?_)
 ·refine qvf.c (qeib h.at1) λw h=>⟨rfl,?_⟩
  refine hk w hle ?_
  unfold qce at h
  simp only at h
  rw[if_pos trivial]at h
  exact h
 ·refine hk w hle ?_
  have g:(hnext ls (qm V (8*N)) p).2.1=0:=by simpa using g
  rw[g]
  exact qeib h.at1
theorem qocb.c{K:Ending->World->Prop}(h:St F0 w0 w (dtA sb rb q most z::ps))[Rdb F0 w0 q ps 1 (u8s (byt V N))](hN:N<=137438953472)(hp:z.1<=8*N)(hm:most<=1000000)(hm0:0<=most)(hL:z.2.1.length<=1000000)
 (hk:∀w',St F0 w0 w' (dtA sb rb q most (qpk (qm V (8*N)) most z)::ps)->K (.returned (.tuple ⟨[]⟩)) w'):
 Calls prog 109 ⟨[.pointer (some ⟨sb,0,none⟩)]⟩ w K:=by
 refine qec (qgb.ok _ _ _ ?_)
 unfold qgb
 unfold qpk at hk
 simp only at hk
 obtain⟨o,h⟩:=qbw h
 refine qsd (h.fP ?_)
 have h:St F0 w0 w (rfA rb q z.1::qqb sb [.pointer (some ⟨rb,0,none⟩),.slice o.a o.len o.cap,.int .i64 most,.int .i64 z.2.2]::qyb 1 o (u8s z.2.1)::ps):=h.at1
 refine qgf.c h (by omega) λw h=>⟨rfl,?_⟩
 have h:=qeib (q:=q) (p:=8*((z.1+7)/8)) (out:=z.2.1) h.at1
 have hz0:(8*((z.1+7)/8),z.2.1,z.2.2).1<=8*N:=by simp only;omega
 have hz0L:((8*((z.1+7)/8),z.2.1,z.2.2):Z).2.1.length<=1000000:=hL
 generalize ((8*((z.1+7)/8),z.2.1,z.2.2):Z)=z0 at h hk hz0 hz0L
 unfold qgb.j1
 refine qni.c h hN hz0 λw hg h=>⟨_,rfl,?_⟩
 have gl:=qkl (B:=qm V (8*N)) (z:=z0) 16
 have go:=qae (B:=qm V (8*N)) (z:=z0) 16
 generalize qnf (qm V (8*N)) 16 z0=g at h hk hg gl go|-
 refine qni.c h hN hg λw hg2 h=>⟨_,rfl,?_⟩
 have go2:=qae (B:=qm V (8*N)) (z:=g.2) 16
 generalize qnf (qm V (8*N)) 16 g.2=g2 at h hk hg2 go2|-
 have hgL:g2.2.2.1.length<=1000000:=by rw[go2,go];exact hz0L
 unfold qgb.j2
 have h0:=h
 obtain⟨o,h⟩:=qbw h
 refine qsd (h.fI ?_)
 refine qbf (λg3=>?_) (λg3=>?_)
 ·have g3:g2.2.2.2≠0:=by simpa using g3
  rw[if_pos g3]at hk
  exact hk w h0
 have g3:g2.2.2.2=0:=by simpa using g3
 rw[if_neg (by simpa using g3)]at hk
 refine qxd ?_
 refine qbf (λg4=>?_) (λg4=>?_)
 ·rw[if_pos (by simpa using g4)]at hk
  exact qvf.c h0 λw h=>⟨rfl,hk w h⟩
 rw[if_neg (by simpa using g4)]at hk
 have hol:=h.at2.len
 rw[qj]at hol
 have pl:(2:Int)^(16:Int).toNat=65536:=by decide
 rw[pl]at gl
 unfold qgb.j3
 refine h.drewK λw h=>?_
 have h0:=qeib (q:=q) (p:=g2.2.1) h
 refine qsd (h.fI (qsd (h.fL ?_)))
 refine ql (qd (by simp only;omega) (by simp only;omega)) ?_
 refine qrc (λg5=>?_) (λg5=>?_)
 ·have g5:g.1>most-((o.len:Nat):Int):=g5
  rw[if_pos (by omega)]at hk
  exact qvf.c h0 λw h=>⟨rfl,hk w h⟩
 have g5:¬g.1>most-((o.len:Nat):Int):=g5
 rw[if_neg (by omega)]at hk
 have h0:St F0 w0 w (dtA sb rb q most g2.2::ps):=h0
 clear h hol g4 g5
 obtain⟨n,hn⟩:∃k:Nat,g.1=k:=⟨g.1.toNat,by omega⟩
 rw[hn]at hk gl|-
 rw[toNat_natCast]at hk
 generalize g2.2=z2 at hk h0 hg2 hgL
 unfold qgb.j4
 refine qof (λ(a:Nat×Z) (i':Int) w'=>i'=a.1/\a.1<=n/\a.2.1<=8*N/\a.2.2.1.length<=1000000/\zst (qm V (8*N)) most (n-a.1) a.2=zst (qm V (8*N)) most n z2/\St F0 w0 w' (dtA sb rb q most a.2::ps)) (λa=>n-a.1) (0,z2) ⟨rfl,by simp,hg2,hgL,rfl,h0⟩ ?_
 clear h0 hg2 hgL
 rintro⟨i,z3⟩ i' wL I μ ⟨rfl,hi,hp3,hL3,hz,h⟩ hin
 simp only at hi hp3 hL3 hz h hin|-
 unfold qgb.b1
 refine qrc (λg1=>?_) (λg1=>?_)
 ·obtain⟨f,hf⟩:∃f,n-i=f+1:=⟨n-i-1,by omega⟩
  rw[hf,zst]at hz
  refine qni.c h hN hp3 λw hg h=>⟨_,rfl,?_⟩
  have gl:=qkl (B:=qm V (8*N)) (z:=z3) 8
  have go:=qae (B:=qm V (8*N)) (z:=z3) 8
  generalize qnf (qm V (8*N)) 8 z3=g at h hz hg gl go|-
  have pl:(2:Int)^(8:Int).toNat=256:=by decide
  rw[pl]at gl
  refine qxd ?_
  rw[qhi,show g.1%256=g.1 by omega]
  refine qgy.c h (by rw[go];omega) λw h=>⟨rfl,?_⟩
  refine ql (qd (by omega) (by omega)) ?_
  refine⟨⟨rfl,rfl⟩,hin (i+1,zput most g.1 g.2) _ _ ⟨by simp,by simp only;omega,by simp only;rw[qso];exact hg,qql _ hm (by rw[go];exact hL3),?_,h⟩ (by simp only;omega)⟩
  simp only
  rw[show n-(i+1)=f by omega]
  exact hz
 ·have:i=n:=by omega
  subst this
  rw[Nat.sub_self,zst]at hz
  rw[<-hz]at hk
  exact hk wL h
end
end
section
attribute [local irreducible] apK cpK mkK br
section
variable {F0:List Nat}{w0 w:World}{ps rest rest2:List As}{sb rb V N:Nat}{q:Sl}{most:Int}{z:Z}
theorem qer{e:Int}(h:z.2.2≠0):qce e z=z:=by
 unfold qce;rw[if_neg h]
theorem qdqb(ok:Bool)(h:z.2.2≠0):zok ok z=z:=by
 unfold zok;split
 ·rfl
 ·exact qer h
theorem qwl.copy{ca cb:Nat}{n d:Int}{nx:Option Addr->Option Addr->Option Addr->World->Prop}(h:St F0 w0 w (dtA sb rb q most z::ps))(hm:most<=1000000)(hL:z.2.1.length<=1000000)(hn:0<=n/\n<=2000)(hd:0<=d/\d<=200000)(hok:z.2.2=0->1<=d/\d<=(z.2.1.length:Int))
 {K:VWP}
 (hk:∀w',St F0 w0 w' (dtA sb rb q most (zcp most d n.toNat z)::ps)->nx (some ⟨sb,0,none⟩) (some ⟨ca,0,none⟩) (some ⟨cb,0,none⟩) w'):
 qg.j11 (some ⟨sb,0,none⟩) (some ⟨ca,0,none⟩) (some ⟨cb,0,none⟩) n d K nx w:=by
 unfold qg.j11 qg.j12
 obtain⟨n,rfl⟩:∃k:Nat,n=k:=⟨n.toNat,by omega⟩
 rw[toNat_natCast]at hk
 refine qof (λ(a:Nat×Z) (i':Int) w'=>i'=a.1/\a.1<=n/\zcp most d (n-a.1) a.2=zcp most d n z/\a.2.2.1.length<=1000000/\(a.2.2.2=0->1<=d/\d<=(a.2.2.1.length:Int))/\St F0 w0 w' (dtA sb rb q most a.2::ps)) (λa=>n-a.1) (0,z) ⟨rfl,by simp,rfl,hL,hok,h⟩ ?_
 clear h hL hok
 rintro⟨i,p,out,err⟩ i' wL I μ ⟨rfl,hi,hz,hl5,hd5,h⟩ hin
 simp only at hi hz hl5 hd5 h hin|-
 unfold qg.b2
 have h0:=h
 obtain⟨o,h⟩:=qbw h
 simp only at h
 have hol:=h.at2.len
 rw[qj]at hol
 refine qrc (λg1=>?_) (λg1=>?_)
 ·obtain⟨f,hf⟩:∃f,n-i=f+1:=⟨n-i-1,by omega⟩
  rw[hf,zcp]at hz
  refine qsd (h.fI ?_)
  refine qbf (λg3=>?_) (λg3=>?_)
  ·have g3:err=0:=by simpa using g3
   subst g3
   have hd5:=hd5 rfl
   rw[if_neg (by simp)]at hz
   simp only at hz
   refine h.drewK λw h=>?_
   refine qsd (h.fL (qsd (h.fL ?_)))
   refine ql (show i64.wrap (((o.len:Nat):Int)-d)=((out.length-d.toNat:Nat):Int)by rw[qd (by omega) (by omega)];omega) ?_
   refine h.lx (s:=o) (out.length-d.toNat) rfl (by omega) ?_
   refine qgy.c (qeib h) (by simp only;omega) λw h=>⟨rfl,?_⟩
   refine ql (qd (by omega) (by omega)) ?_
   refine⟨⟨rfl,rfl,rfl,rfl,rfl⟩,hin (i+1,zput most (out.getD (out.length-d.toNat) 0) (p,out,0)) _ _ ⟨by simp,by simp only;omega,?_,qql _ hm hl5,?_,h⟩ (by simp only;omega)⟩
   ·simp only
    rw[show n-(i+1)=f by omega]
    exact hz
   ·intro e
    refine⟨hd5.1,?_⟩
    simp only at e|-
    unfold zput at e|-
    rw[if_neg (by simp)]at e|-
    split
    ·rename_i hc
     rw[if_pos hc]at e
     simp at e
    ·simp only[length_append,List.length_singleton];omega
  ·have g3:err≠0:=by simpa using g3
   rw[if_pos g3]at hz
   rw[<-hz]at hk
   exact hk wL h0
 ·have:i=n:=by omega
  subst this
  rw[Nat.sub_self,zcp]at hz
  rw[<-hz]at hk
  exact hk wL h0
theorem qwl.loop{ca cb:Nat}{ll dl:List Int}{K:Ending->World->Prop}(h:St F0 w0 w (dtA sb rb q most z::ps))[Rdb F0 w0 q ps 1 (u8s (byt V N))][PkF hrA ca ps ll rest][Rdb F0 w0 q rest 1 (u8s (byt V N))][PkF hrA cb ps dl rest2][Rdb F0 w0 q rest2 1 (u8s (byt V N))](hN:N<=137438953472)(hp:z.1<=8*N)(hm:most<=1000000)(hL:z.2.1.length<=1000000)
 (hk:∀w',St F0 w0 w' (dtA sb rb q most (qlg ll dl (qm V (8*N)) most (8*N+1) z)::ps)->K (.returned (.tuple ⟨[]⟩)) w'):
 qg.j3 (some ⟨sb,0,none⟩) (some ⟨ca,0,none⟩) (some ⟨cb,0,none⟩) (λv w'=>K (.returned v) w') w:=by
 unfold qg.j3
 have hBl:(qm (V:Int) (8*N)).length=8*N:=qq _ _
 refine loop0 (λ(a:Nat×Z) w'=>8*N-a.2.1<a.1/\a.2.1<=8*N/\a.2.2.1.length<=1000000/\qlg ll dl (qm V (8*N)) most a.1 a.2=qlg ll dl (qm V (8*N)) most (8*N+1) z/\St F0 w0 w' (dtA sb rb q most a.2::ps)) (λa=>a.1) (8*N+1,z) ⟨by simp only;omega,hp,hL,rfl,h⟩ ?_
 clear h hp hL
 rintro⟨f,z1⟩ wL I μ ⟨hf,hp,hL,hz,h⟩ hin
 simp only at hf hp hL hz h hin|-
 unfold qg.b1
 obtain⟨f,rfl⟩:∃g,f=g+1:=⟨f-1,by omega⟩
 rw[qlg]at hz
 have h0:=h
 obtain⟨o,h⟩:=qbw h
 refine qsd (h.fI ?_)
 refine qbf (λg1=>?_) (λg1=>?_)
 ·have g1:z1.2.2=0:=by simpa using g1
  rw[if_neg (by simpa using g1)]at hz
  simp only at hz
  unfold qg.j4
  refine qfy.c (ls:=ll) (cb:=ca) h0 hN hp λw hs h=>⟨_,rfl,?_⟩
  have so:=qjj (B:=qm V (8*N)) (z:=z1) ll
  have sp:(qkm ll (qm V (8*N)) z1).2.2.2=0->z1.1<(qkm ll (qm V (8*N)) z1).2.1:=by
   unfold qkm;rw[if_neg (by simpa using g1)];exact(qhdb ll (qm V (8*N)) (qoj ll 15) 1 0 z1.1 (by rw[hBl];exact hp)).2.2
  have sn:=qybb (B:=qm V (8*N)) (z:=z1) ll
  generalize qkm ll (qm V (8*N)) z1=s at h hz hs so sp sn|-
  obtain⟨v,z2⟩:=s
  simp only at h hz hs so sp sn|-
  unfold qg.j5
  have h1:=h
  obtain⟨o,h⟩:=qbw h
  refine qsd (h.fI ?_)
  refine qbf (λg2=>?_) (λg2=>?_)
  ·have g2:z2.2.2≠0:=by simpa using g2
   rw[if_pos (Or.inl g2)]at hz
   rw[<-hz]at hk
   exact hk w h1
  have g2:z2.2.2=0:=by simpa using g2
  have sp:=sp g2
  refine qbf (λg3=>?_) (λg3=>?_)
  ·rw[if_pos (Or.inr (by simpa using g3))]at hz
   rw[<-hz]at hk
   exact hk w h1
  have g3:v≠256:=by simpa using g3
  rw[if_neg (by rintro(e|e);exact e g2;exact g3 e)]at hz
  unfold qg.j6
  refine qrc (λg4=>?_) (λg4=>?_)
  ·rw[if_pos g4]at hz
   refine qxd ?_
   rw[qhi,show v%256=v by omega]
   refine qgy.c h1 (by rw[so];omega) λw h=>⟨rfl,?_⟩
   refine⟨⟨rfl,rfl,rfl⟩,hin (f,zput most v z2) _ ⟨?_,?_,qql _ hm (by rw[so];exact hL),?_,h⟩ (by simp only;omega)⟩
   ·simp only;rw[qso];omega
   ·simp only;rw[qso];exact hs
   ·exact hz
  ·rw[if_neg g4]at hz
   have hfw:=qqq (most:=most) (B:=qm V (8*N)) dl v (z:=z2) (by rw[hBl];exact hs)
   rw[zfwd,hBl]at hfw
   have hbl:=qpq (B:=qm V (8*N)) dl v hm (z:=z2) (by rw[so];exact hL)
   have stop:∀y w,qyi dl (qm V (8*N)) most v z2=y->y.2.2≠0->St F0 w0 w (dtA sb rb q most y::ps)->K (.returned (.tuple ⟨[]⟩)) w:=by
    intro y w e hy h;rw[e]at hz;have:qlg ll dl (qm V (8*N)) most f y=y:=by
     cases f with
     |zero=>rfl
     |succ f=>rw[qlg,if_pos hy]
    rw[this]at hz;rw[<-hz]at hk;exact hk w h
   have next:∀w,St F0 w0 w (dtA sb rb q most (qyi dl (qm V (8*N)) most v z2)::ps)->(some (⟨sb,0,none⟩:Addr)=some ⟨sb,0,none⟩/\some (⟨ca,0,none⟩:Addr)=some ⟨ca,0,none⟩/\some (⟨cb,0,none⟩:Addr)=some ⟨cb,0,none⟩)/\I w/\μ w<μ wL:=by
    intro w h;refine⟨⟨rfl,rfl,rfl⟩,hin (f,qyi dl (qm V (8*N)) most v z2) _ ⟨?_,hfw.2,hbl,hz,h⟩ (by simp only;omega)⟩;simp only;omega
   clear hin hk hz
   have b1:=qceb v
   have hL2:z2.2.1.length<=1000000:=by rw[so];exact hL
   unfold qyi at stop next
   simp only at stop next
   refine qlh.c h1 λw h1=>⟨_,_,_,rfl,?_⟩
   unfold qg.j7
   generalize (qol v).1=l1 at stop next b1|-
   generalize (qol v).2.1=l2 at stop next b1|-
   cases hk2:(qol v).2.2 with
   |false=>
    rw[hk2]at stop
    refine qqp ?_
    refine qvf.c h1 λw h=>⟨rfl,?_⟩
    refine stop (qce 2 z2) w ?_ (qfi (by decide)) h
    have hne:(qce 2 z2).2.2≠0:=qfi (by decide)
    have e1:zok false z2=qce 2 z2:=rfl
    rw[e1,qht hne]
    have e2:∀y:Z,y.2.2≠0->qkm dl (qm V (8*N)) y=(0,y):=λy hy=>by unfold qkm;rw[if_pos hy]
    simp only
    rw[e2 _ hne]
    have e3:∀ok (y:Z),y.2.2≠0->zok ok y=y:=λok y hy=>qdqb ok hy
    simp only
    rw[e3 _ _ hne,qht hne]
    have e4:∀y:Z,y.2.2≠0->qce 2 y=y:=λy hy=>qer hy
    simp only
    have e5:∀(c:Prop) [Decidable c],(if c then qce 2 (qce 2 z2)else qce 2 z2)=qce 2 z2:=by
     intro c _;split
     ·exact e4 _ hne
     ·rfl
    rw[e5]
    exact qacb _ _ hne
   |true=>
    rw[hk2]at stop next
    refine qlq ?_
    have ez:zok true z2=z2:=rfl
    rw[ez]at stop next
    refine qni.c h1 hN hs λw hg h=>⟨_,rfl,?_⟩
    have gl:=qkl (B:=qm V (8*N)) (z:=z2) l2
    have go:=qae (B:=qm V (8*N)) (z:=z2) l2
    generalize qnf (qm V (8*N)) l2 z2=g at h stop next hg gl go|-
    have pl:(2:Int)^l2.toNat<=64:=qru (c:=64) b1.2.2 rfl
    refine ql (qd (by omega) (by omega)) ?_
    unfold qg.j8
    refine qfy.c (ls:=dl) (cb:=cb) h hN hg λw hs2 h=>⟨_,rfl,?_⟩
    have so2:=qjj (B:=qm V (8*N)) (z:=g.2) dl
    generalize qkm dl (qm V (8*N)) g.2=s at h stop next hs2 so2|-
    have b2:=qfeb s.1
    refine qeg.c h λw h=>⟨_,_,_,rfl,?_⟩
    have j9:∀(z4:Z) w,z4=zok (qxk s.1).2.2 s.2->St F0 w0 w (dtA sb rb q most z4::ps)->qg.j9 (some ⟨sb,0,none⟩) (some ⟨ca,0,none⟩) (some ⟨cb,0,none⟩) (l1+g.1) (qxk s.1).1 (qxk s.1).2.1 (λv w'=>K (.returned v) w') (λd_0' t6' t8' w'=>(d_0'=some ⟨sb,0,none⟩/\t6'=some ⟨ca,0,none⟩/\t8'=some ⟨cb,0,none⟩)/\I w'/\μ w'<μ wL) w:=by
     intro z4 w e4 h;have hzp2:z4.1<=8*N:=by rw[e4,qigb];exact hs2
     have ho2:z4.2.1.length<=1000000:=by rw[e4,qwn,so2,go];exact hL2
     have he2:=qhib (ok:=(qxk s.1).2.2) (z:=s.2);rw[<-e4]at stop next he2
     clear e4;have b2':z4.2.2=0->1<=(qxk s.1).1:=λe=>b2.2.2.2 (he2 e).1;generalize (qxk s.1).1=d1 at stop next b2 b2'|-
     generalize (qxk s.1).2.1=d2 at stop next b2|-
     unfold qg.j9;have h0:=h;obtain⟨o,h⟩:=qbw h;refine qsd (h.fI ?_);refine qbf (λg5=>?_) (λg5=>?_)
     ·have g5:z4.2.2≠0:=by simpa using g5
      refine stop z4 w ?_ g5 h0;rw[qht g5];simp only
      have e5:(if(z4.2.1.length:Int)<d1+0 then qce 2 z4 else z4)=z4:=by
       split
       ·exact qer g5
       ·rfl
      rw[e5];exact qacb _ _ g5
     have g5:z4.2.2=0:=by simpa using g5
     have b2':=b2' g5;unfold qg.j10;refine qni.c h0 hN hzp2 λw hg2 h=>⟨_,rfl,?_⟩;have gl2:=qkl (B:=qm V (8*N)) (z:=z4) d2;have go2:=qae (B:=qm V (8*N)) (z:=z4) d2;generalize qnf (qm V (8*N)) d2 z4=g2 at h stop next hg2 gl2 go2|-
     have pl2:(2:Int)^d2.toNat<=16384:=qru (c:=16384) b2.2.2.1 rfl;refine ql (qd (by omega) (by omega)) ?_;have fin:∀(z5:Z) w,z5=(if(g2.2.2.1.length:Int)<d1+g2.1 then qce 2 g2.2 else g2.2)->z5.2.1.length<=1000000->(z5.2.2=0->1<=d1+g2.1/\d1+g2.1<=(z5.2.1.length:Int))->St F0 w0 w (dtA sb rb q most z5::ps)->qg.j11 (some ⟨sb,0,none⟩) (some ⟨ca,0,none⟩) (some ⟨cb,0,none⟩) (l1+g.1) (d1+g2.1) (λv w'=>K (.returned v) w') (λd_0' t6' t8' w'=>(d_0'=some ⟨sb,0,none⟩/\t6'=some ⟨ca,0,none⟩/\t8'=some ⟨cb,0,none⟩)/\I w'/\μ w'<μ wL) w:=by
      intro z5 w e hl5 hd5 h;rw[<-e]at next
      exact qwl.copy (n:=l1+g.1) (d:=d1+g2.1) h hm hl5 (by omega) (by omega) hd5 λw h=>⟨⟨rfl,rfl,rfl⟩,(next w h).2⟩
     have h0:=h;obtain⟨o,h⟩:=qbw h;refine qsd (h.fI ?_);refine qbf (λg6=>?_) (λg6=>?_)
     ·have g6:g2.2.2.2=0:=by simpa using g6
      have hol:=h.at2.len;rw[qj]at hol;refine qsd (h.fL ?_);refine qrc (λg7=>?_) (λg7=>?_)
      ·have g7:d1+g2.1>((o.len:Nat):Int):=g7;refine qvf.c h0 λw h=>⟨rfl,?_⟩;exact fin (qce 2 g2.2) w (by rw[if_pos (by omega)]) (by show g2.2.2.1.length<=_;rw[go2];exact ho2) (λe=>absurd e (qfi (by decide))) h
      ·have g7:¬d1+g2.1>((o.len:Nat):Int):=g7;exact fin g2.2 w (by rw[if_neg (by omega)]) (by rw[go2];exact ho2) (λ_=>by omega) h0
     ·have g6:g2.2.2.2≠0:=by simpa using g6
      refine fin g2.2 w ?_ (by rw[go2];exact ho2) (λe=>absurd e g6) h0;split
      ·exact(qer g6).symm
      ·rfl
    have h0:=h
    obtain⟨o,h⟩:=qbw h
    refine qsd (h.fI ?_)
    refine qbf (λg6=>?_) (λg6=>?_)
    ·refine qbf (λg7=>?_) (λg7=>?_)
     ·have g7:(qxk s.1).2.2=false:=by simpa using g7
      refine qvf.c h0 λw h=>⟨rfl,?_⟩
      exact j9 _ w (by rw[g7];rfl) h
     ·have g7:(qxk s.1).2.2=true:=by simpa using g7
      exact j9 _ w (by rw[g7];rfl) h0
    ·have g6:s.2.2.2≠0:=by simpa using g6
     exact j9 _ w (qdqb _ g6).symm h0
 ·have g1:z1.2.2≠0:=by simpa using g1
  rw[if_pos g1]at hz
  rw[<-hz]at hk
  exact hk wL h0
end
end
section
attribute [local irreducible] apK cpK mkK br
section
variable {F0:List Nat}{w0 w:World}{ps rest rest2:List As}{sb rb V N:Nat}{q:Sl}{most:Int}{z:Z}
theorem qwl.c{s t:Sl}{ll dl:List Int}{K:Ending->World->Prop}(h:St F0 w0 w (dtA sb rb q most z::ps))[Rdb F0 w0 q ps 1 (u8s (byt V N))][Rdb F0 w0 s ps 1 (ivs .i64 ll)][Rdb F0 w0 t ps 1 (ivs .i64 dl)](hll:256<ll.length)(hN:N<=137438953472)(hp:z.1<=8*N)(hm:most<=1000000)(hL:z.2.1.length<=1000000)
 (hk:∀w',St F0 w0 w' (dtA sb rb q most (zblk ll dl (qm V (8*N)) most z)::ps)->K (.returned (.tuple ⟨[]⟩)) w'):
 Calls prog 111 ⟨[.pointer (some ⟨sb,0,none⟩),.slice s.a s.len s.cap,.slice t.a t.len t.cap]⟩ w K:=by
 refine qec (qg.ok _ _ _ _ _ ?_)
 unfold qg
 unfold zblk at hk
 simp only[qq]at hk
 have h0:=h
 obtain⟨o,h⟩:=qbw h
 refine qsd (h.fI ?_)
 refine qbf (λg=>?_) (λg=>?_)
 ·have g:z.2.2≠0:=by simpa using g
  rw[show(if z.2.2=0/\ll.getD 256 0=0 then qce 2 z else z)=z from if_neg (λe=>g e.1),qom ll g,qom dl g,if_pos g]at hk
  exact hk w h0
 have g:z.2.2=0:=by simpa using g
 unfold qg.j1
 refine h.lx (s:=s) 256 rfl hll ?_
 have hne:(qce 2 z).2.2≠0:=qfi (by decide)
 refine qbf (λg2=>?_) (λg2=>?_)
 ·rw[show(if z.2.2=0/\ll.getD 256 0=0 then qce 2 z else z)=qce 2 z from if_pos ⟨g,by simpa using g2⟩,qom ll hne,qom dl hne,if_pos hne]at hk
  exact qvf.c h0 λw h=>⟨rfl,hk w h⟩
 have g2:ll.getD 256 0≠0:=by intro e;rw[e]at g2;simp at g2
 rw[show(if z.2.2=0/\ll.getD 256 0=0 then qce 2 z else z)=z from if_neg (λe=>g2 e.2)]at hk
 refine qnb.c (s:=s) (half:=true) h0 (λca w e1 h=>⟨_,_,rfl,?_⟩) (λw e1 h=>⟨_,_,rfl,?_⟩)
 ·have ec:qgi ll z=z:=by unfold qgi;rw[if_neg (λe=>e.2 e1)]
  rw[ec]at hk
  unfold qg.j2
  refine qnb.c (s:=t) (half:=true) h (λcb w e2 h=>⟨_,_,rfl,?_⟩) (λw e2 h=>⟨_,_,rfl,?_⟩)
  ·have ec2:qgi dl z=z:=by unfold qgi;rw[if_neg (λe=>e.2 e2)]
   rw[ec2,if_neg (λe=>e g)]at hk
   refine qoe rfl (qoe rfl ?_)
   have h:St F0 w0 w (dtA sb rb q most z::hrA cb dl::hrA ca ll::ps):=h.at2
   exact qwl.loop (ca:=ca) (cb:=cb) (ll:=ll) (dl:=dl) h hN hp hm hL λw h=>hk w (h.tail λ_ _ _ h=>h.drop.drop)
  ·have ec2:qgi dl z=qce 2 z:=by unfold qgi;rw[if_pos ⟨g,e2⟩]
   rw[ec2,if_pos hne]at hk
   refine qoe rfl (qbg (by simpa using e2) ?_)
   have h:St F0 w0 w (dtA sb rb q most z::ps):=h.drop
   exact qvf.c h λw h=>⟨rfl,hk w h⟩
 ·have ec:qgi ll z=qce 2 z:=by unfold qgi;rw[if_pos ⟨g,e1⟩]
  rw[ec,qom dl hne,if_pos hne]at hk
  unfold qg.j2
  refine qnb.c (s:=t) (half:=true) h (λcb w e2 h=>⟨_,_,rfl,?_⟩) (λw e2 h=>⟨_,_,rfl,?_⟩)
  ·refine qbg (by simpa using e1) ?_
   exact qvf.c h.drop λw h=>⟨rfl,hk w h⟩
  ·refine qbg (by simpa using e1) ?_
   exact qvf.c h λw h=>⟨rfl,hk w h⟩
theorem qbp.loop{cb:Nat}{cl:List Int}{nl nd:Nat}{K:Ending->World->Prop}(h:St F0 w0 w (dtA sb rb q most z::ps))[Rdb F0 w0 q ps 1 (u8s (byt V N))][PkF hrA cb ps cl rest][Rdb F0 w0 q rest 1 (u8s (byt V N))](hN:N<=137438953472)(hp:z.1<=8*N)(hn:nl+nd<=200000)(hz0:z.2.2=0)
 (hk0:∀(t11:Sl) w',(zll cl (qm V (8*N)) (nl+nd) (nl+nd+1) [] z).2.2.2=0->t11.len=nl+nd->t11.len<=t11.cap->St F0 w0 w' (dtA sb rb q most (zll cl (qm V (8*N)) (nl+nd) (nl+nd+1) [] z).2::rdA 1 t11 (ivs .i64 (zll cl (qm V (8*N)) (nl+nd) (nl+nd+1) [] z).1)::ps)->K (.returned (.tuple ⟨[.slice (qpf t11.a t11.cap 0 1) (nl-0) (t11.cap-0),.slice (qpf t11.a t11.cap nl 1) (t11.len-nl) (t11.cap-nl)]⟩)) w')
 (hk1:∀w',(zll cl (qm V (8*N)) (nl+nd) (nl+nd+1) [] z).2.2.2≠0->St F0 w0 w' (dtA sb rb q most (zll cl (qm V (8*N)) (nl+nd) (nl+nd+1) [] z).2::ps)->K (.returned (.tuple ⟨[.slice none 0 0,.slice none 0 0]⟩)) w'):
 qb.j8 (some ⟨sb,0,none⟩) (nl:Int) (nd:Int) (some ⟨cb,0,none⟩) ⟨none,0,0⟩ (λv w'=>K (.returned v) w') w:=by
 have hBl:(qm (V:Int) (8*N)).length=8*N:=qq _ _
 generalize hR:zll cl (qm V (8*N)) (nl+nd) (nl+nd+1) [] z=R at hk0 hk1
 have hRl:=qwt (cl:=cl) (B:=qm V (8*N)) (N:=nl+nd) (nl+nd+1) [] z (by simp) (by simp)
 rw[hR]at hRl
 unfold qb.j8
 refine qof (λ(a:Nat×List Int×Z) (t11:Sl) w'=>zll cl (qm V (8*N)) (nl+nd) a.1 a.2.1 a.2.2=R/\a.2.2.1<=8*N/\a.2.1.length<=nl+nd/\a.2.2.2.2=0/\nl+nd<a.1+a.2.1.length/\St F0 w0 w' (dtA sb rb q most a.2.2::qyb 1 t11 (ivs .i64 a.2.1)::ps)) (λa=>a.1) (nl+nd+1,[],z) ⟨hR,hp,by simp,hz0,by simp,(h.nil 1).at1⟩ ?_
 clear h hp hR hz0
 rintro⟨f,l,y⟩ t11 wL I μ ⟨hR,hp,hl,hy,hf,h⟩ hin
 simp only at hR hp hl hy hf h hin|-
 have hol:=h.drop.len
 rw[qj]at hol
 have h0:=h
 obtain⟨f,rfl⟩:∃f',f=f'+1:=⟨f-1,by omega⟩
 unfold qb.b1
 obtain⟨o,h⟩:=qbw h
 refine ql (qd (by omega) (by omega)) ?_
 refine qrc (λg1=>?_) (λg1=>?_)
 rotate_left
 ·have e:R=(l,y):=by rw[<-hR,zll,if_pos (Or.inr (by omega))]
  rw[e]at hk0 hk1 hRl
  simp only at hk0 hk1 hRl
  unfold qb.j9
  refine qsd (h.fI ?_)
  refine qoe (by simpa using hy) ?_
  have hll:=hRl hy
  have hcap:=h0.drop.cap (by decide)
  refine h0.drewK λw h0=>?_
  refine qfn (n:=nl) rfl (by omega) (qxd ?_)
  refine qfn (n:=nl) rfl (by omega) (qxd ?_)
  exact hk0 t11 w hy (by omega) hcap (h0.tail λ_ _ _ h=>h.ro)
 refine qsd (h.fI ?_)
 refine qbg (by simpa using hy) ?_
 rw[zll,if_neg (λe=>by rcases e with e|e;exact e hy;omega)]at hR
 have bad:∀z3 w,z3.2.2≠0->(zllS cl (qm V (8*N)) (nl+nd) l y).2=z3->St F0 w0 w (dtA sb rb q most z3::ps)->K (.returned (.tuple ⟨[.slice none 0 0,.slice none 0 0]⟩)) w:=by
  intro z3 w hz3 e h;have:R.2=z3:=by
   rw[<-hR,e];cases f with
   |zero=>rfl
   |succ f=>rw[zll,if_pos (Or.inl hz3)]
  rw[this]at hk1;exact hk1 w hz3 h
 unfold zllS at hR bad
 simp only at hR bad
 unfold qb.j10
 refine qfy.c (cb:=cb) (ls:=cl) h0 hN hp λw hle h=>⟨_,rfl,?_⟩
 generalize qkm cl (qm V (8*N)) y=s at h hR bad hle|-
 have j12:∀(a:(Int×Int)×Z) w,qcg (qm V (8*N)) s.1 l s.2=a->St F0 w0 w (dtA sb rb q most a.2::qyb 1 t11 (ivs .i64 l)::ps)->
  qb.j12 (some ⟨sb,0,none⟩) (nl:Int) (nd:Int) (some ⟨cb,0,none⟩) t11 a.1.2 a.1.1 (λv w'=>K (.returned v) w') (λd_0' t4' t5' t10' t12' w'=>(d_0'=some ⟨sb,0,none⟩/\t4'=(nl:Int)/\t5'=(nd:Int)/\t10'=some ⟨cb,0,none⟩)/\I t12' w'/\μ t12' w'<μ t11 wL) w:=by
  intro a w e h
  have hna:=qpx (B:=qm V (8*N)) (z:=s.2) s.1 l
  have hpa:=(qox (B:=qm V (8*N)) (z:=s.2) s.1 l (by rw[hBl];exact hle)).2
  rw[hBl]at hpa
  rw[e]at hR bad hna hpa
  unfold qb.j12
  have h0:=h
  obtain⟨o,h⟩:=qbw h
  refine qsd (h.fI ?_)
  refine qbf (λg2=>?_) (λg2=>?_)
  ·have g2:a.2.2.2≠0:=by simpa using g2
   refine bad a.2 w g2 ?_ (h0.tail λ_ _ _ h=>h.drop)
   split
   ·exact qer g2
   ·rfl
  have g2:a.2.2.2=0:=by simpa using g2
  unfold qb.j13
  refine ql (qd (by omega) (by omega)) ?_
  refine ql (qd (by omega) (by omega)) ?_
  refine qrc (λg3=>?_) (λg3=>?_)
  ·refine qvf.c h0 λw h=>⟨rfl,?_⟩
   exact bad (qce 2 a.2) w (qfi (by decide)) (by rw[if_pos (by omega)]) (h.tail λ_ _ _ h=>h.drop)
  rw[show(if((nl+nd:Nat):Int)-l.length<a.1.2 then qce 2 a.2 else a.2)=a.2 from if_neg (by omega),if_pos g2]at hR
  obtain⟨n,hn2⟩:∃n:Nat,a.1.2=n:=⟨a.1.2.toNat,by omega⟩
  rw[hn2,toNat_natCast]at hR
  rw[hn2]
  have hn1:=hna.2.2 g2
  unfold qb.j14
  refine qmg (λ(k:Nat) (t:Sl) (k':Int) w'=>k'=k/\k<=n/\St F0 w0 w' (dtA sb rb q most a.2::qyb 1 t (ivs .i64 (l++replicate k a.1.1))::ps)) (λk=>n-k) 0 ⟨rfl,by omega,by simpa using h0⟩ ?_
  clear h h0
  rintro k t k' wM I2 μ2 ⟨rfl,hkn,h⟩ hin2
  unfold qb.b2
  refine qrc (λg4=>?_) (λg4=>?_)
  ·refine h.pushI (s:=t) (by rw[length_append,length_replicate];omega) λt2 w h=>?_
   refine ql (qd (by omega) (by omega)) ?_
   refine⟨⟨rfl,rfl,rfl,rfl,rfl,rfl⟩,hin2 (k+1) _ _ _ ⟨by omega,by omega,?_⟩ (by omega)⟩
   rw[List.append_assoc,<-List.replicate_succ']at h
   exact h.at1
  ·have:k=n:=by omega
   subst this
   refine⟨⟨rfl,rfl,rfl,rfl⟩,hin (f,l++replicate k a.1.1,a.2) _ _ ⟨hR,hpa,by simp only[length_append,length_replicate];omega,g2,by simp only[length_append,length_replicate];omega,h⟩ (by simp only;omega)⟩
 have b2:=qwf (B:=qm V (8*N)) (z:=s.2) 2 (by decide)
 have b3:=qwf (B:=qm V (8*N)) (z:=s.2) 3 (by decide)
 have b7:=qwf (B:=qm V (8*N)) (z:=s.2) 7 (by decide)
 unfold qb.j11
 refine qbf (λg=>?_) (λg=>?_)
 ·have g:s.1=16:=by simpa using g
  refine qbf (λg2=>?_) (λg2=>?_)
  ·have g2:(t11.len:Int)=0:=by simpa using g2
   refine qvf.c h λw h=>⟨rfl,?_⟩
   have e:qcg (qm V (8*N)) s.1 l s.2=((0,0),qce 2 s.2):=by
    unfold qcg;rw[if_pos g,if_pos (by omega)]
   rw[e]at bad
   have hne:(qce 2 s.2).2.2≠0:=qfi (by decide)
   refine bad (qce 2 s.2) w hne ?_ (h.tail λ_ _ _ h=>h.drop)
   simp only
   rw[if_neg (by omega)]
  ·have g2:(t11.len:Int)≠0:=by simpa using g2
   have e:qcg (qm V (8*N)) s.1 l s.2=((l.getD (l.length-1) 0,3+(qnf (qm V (8*N)) 2 s.2).1),(qnf (qm V (8*N)) 2 s.2).2):=by
    unfold qcg;rw[if_pos g,if_neg (by omega)]
   refine ql (qd (by omega) (by omega)) ?_
   refine h.lx (s:=t11) (l.length-1) (by omega) (by omega) ?_
   refine qni.c h hN hle λw _ h=>⟨_,rfl,?_⟩
   exact ql (qd (by omega) (by omega)) (j12 _ w e h)
 have g:s.1≠16:=by simpa using g
 refine qbf (λg3=>?_) (λg3=>?_)
 ·have g3:s.1=17:=by simpa using g3
  have e:qcg (qm V (8*N)) s.1 l s.2=((0,3+(qnf (qm V (8*N)) 3 s.2).1),(qnf (qm V (8*N)) 3 s.2).2):=by
   unfold qcg;rw[if_neg g,if_pos g3]
  refine qni.c h hN hle λw _ h=>⟨_,rfl,?_⟩
  exact ql (qd (by omega) (by omega)) (j12 _ w e h)
 have g3:s.1≠17:=by simpa using g3
 refine qbf (λg4=>?_) (λg4=>?_)
 ·have g4:s.1=18:=by simpa using g4
  have e:qcg (qm V (8*N)) s.1 l s.2=((0,11+(qnf (qm V (8*N)) 7 s.2).1),(qnf (qm V (8*N)) 7 s.2).2):=by
   unfold qcg;rw[if_neg g,if_neg g3,if_pos g4]
  refine qni.c h hN hle λw _ h=>⟨_,rfl,?_⟩
  exact ql (qd (by omega) (by omega)) (j12 _ w e h)
 have g4:s.1≠18:=by simpa using g4
 have e:qcg (qm V (8*N)) s.1 l s.2=((s.1,1),s.2):=by
  unfold qcg;rw[if_neg g,if_neg g3,if_neg g4]
 exact j12 _ w e h
theorem qmib{B:List Bool}{z:Z}{k:Nat}(h:(qpl B z k).2.2.2≠0):∀d,(qpl B z (k+d)).2=(qpl B z k).2:=by
 intro d;induction d with
 |zero=>rfl
 |succ d ih=>
  rw[<-Nat.add_assoc,qpl];simp only
  rw[ih,qht h]
theorem qbp.c{K:Ending->World->Prop}(h:St F0 w0 w (dtA sb rb q most z::ps))[Rdb F0 w0 q ps 1 (u8s (byt V N))](hN:N<=137438953472)(hp:z.1<=8*N)
 (hk0:∀(t11:Sl) (l:List Int) (nl:Nat) w',(qbk (qm V (8*N)) z).2.2.2=0->t11.len=l.length->nl<=t11.len->t11.len<=t11.cap->(qbk (qm V (8*N)) z).1=(l.take nl,l.drop nl)->St F0 w0 w' (dtA sb rb q most (qbk (qm V (8*N)) z).2::rdA 1 t11 (ivs .i64 l)::ps)->K (.returned (.tuple ⟨[.slice (qpf t11.a t11.cap 0 1) (nl-0) (t11.cap-0),.slice (qpf t11.a t11.cap nl 1) (t11.len-nl) (t11.cap-nl)]⟩)) w')
 (hk1:∀w',(qbk (qm V (8*N)) z).2.2.2≠0->St F0 w0 w' (dtA sb rb q most (qbk (qm V (8*N)) z).2::ps)->K (.returned (.tuple ⟨[.slice none 0 0,.slice none 0 0]⟩)) w'):
 Calls prog 112 ⟨[.pointer (some ⟨sb,0,none⟩)]⟩ w K:=by
 have hBl:(qm (V:Int) (8*N)).length=8*N:=qq _ _
 refine qec (qb.ok _ _ _ ?_)
 unfold qb qb.j1
 generalize hZ:qbk (qm V (8*N)) z=Zr at hk0 hk1
 unfold qbk at hZ
 simp only at hZ
 refine qni.c h hN hp λw hp1 h=>⟨_,rfl,?_⟩
 have hg1:=qwf (B:=qm V (8*N)) (z:=z) 5 (by decide)
 generalize qnf (qm V (8*N)) 5 z=g1 at h hZ hp1 hg1|-
 refine ql (qd (by omega) (by omega)) ?_
 have j2:∀(y1:Z) w,y1=(if 286<g1.1+257 then qce 2 g1.2 else g1.2)->y1.1<=8*N->St F0 w0 w (dtA sb rb q most y1::ps)->qb.j2 (some ⟨sb,0,none⟩) (g1.1+257) (λv w'=>K (.returned v) w') w:=by
  intro y1 w e hp1 h;rw[<-e]at hZ;unfold qb.j2;refine qni.c h hN hp1 λw hp2 h=>⟨_,rfl,?_⟩;have hg2:=qwf (B:=qm V (8*N)) (z:=y1) 5 (by decide);generalize qnf (qm V (8*N)) 5 y1=g2 at h hZ hp2 hg2|-
  refine ql (qd (by omega) (by omega)) ?_;have j3:∀(y2:Z) w,y2=(if 30<g2.1+1 then qce 2 g2.2 else g2.2)->y2.1<=8*N->St F0 w0 w (dtA sb rb q most y2::ps)->qb.j3 (some ⟨sb,0,none⟩) (g1.1+257) (g2.1+1) (λv w'=>K (.returned v) w') w:=by
   intro y2 w e hp2 h;rw[<-e]at hZ;unfold qb.j3;refine qni.c h hN hp2 λw hp3 h=>⟨_,rfl,?_⟩;have hg3:=qkl (B:=qm V (8*N)) (z:=y2) 4;rw[show((2:Int)^(4:Int).toNat)=16 by decide]at hg3;generalize qnf (qm V (8*N)) 4 y2=g3 at h hZ hp3 hg3|-
   refine ql (qd (by omega) (by omega)) ?_;obtain⟨nc,hnc⟩:∃nc:Nat,g3.1+4=nc:=⟨(g3.1+4).toNat,by omega⟩;rw[hnc]at hZ|-
   rw[toNat_natCast]at hZ;unfold qb.j4;refine h.new λob w h=>?_;have h:St F0 w0 w (qqb ob (ivs .i64 qxi)::dtA sb rb q most g3.2::ps):=h;have h:=(h.ownB (n:=19) rfl).ro;refine h.makeI (n:=19) rfl rfl (by decide) λcs w hcs hcc h=>?_;have h:St F0 w0 w (dtA sb rb q most g3.2::qyb 1 cs (ivs .i64 (replicate 19 0))::rdA 1 ⟨some ⟨ob,0,none⟩,19,19⟩ (ivs .i64 qxi)::ps):=h.sub;unfold qb.j5 qb.j15;refine qof (λ(k:Nat) (k':Int) w'=>k'=k/\k<=nc/\(qpl (qm V (8*N)) g3.2 k).2.1<=8*N/\St F0 w0 w' (dtA sb rb q most (qpl (qm V (8*N)) g3.2 k).2::qyb 1 cs (ivs .i64 (qpl (qm V (8*N)) g3.2 k).1)::rdA 1 ⟨some ⟨ob,0,none⟩,19,19⟩ (ivs .i64 qxi)::ps)) (λk=>nc-k) 0 ⟨rfl,by omega,hp3,h⟩ ?_;clear h;rintro k k' wL I μ ⟨rfl,hkn,hpk,h⟩ hin;unfold qb.b3;have hcl:=qnx (B:=qm V (8*N)) (z:=g3.2) k;have j6:(k=nc\/(qpl (qm V (8*N)) g3.2 k).2.2.2≠0)->qb.j6 (some ⟨sb,0,none⟩) (g1.1+257) (g2.1+1) cs (λv w'=>K (.returned v) w') wL:=by
    intro hc;clear hin;unfold qb.j6;have h0:=h;obtain⟨o,h⟩:=qbw h;refine qsd (h.fI ?_);refine qbf (λg=>?_) (λg=>?_)
    ·have g:(qpl (qm V (8*N)) g3.2 k).2.2.2≠0:=by simpa using g
     have e1:(qpl (qm V (8*N)) g3.2 nc).2=(qpl (qm V (8*N)) g3.2 k).2:=by
      have:=qmib g (nc-k);rwa[show k+(nc-k)=nc by omega]at this
     have e2:∀cl,quj cl false (qpl (qm V (8*N)) g3.2 k).2=(qpl (qm V (8*N)) g3.2 k).2:=λcl=>by unfold quj;rw[if_neg (λe=>g e.1)]
     have e3:∀cl M f,zll cl (qm V (8*N)) M (f+1) [] (qpl (qm V (8*N)) g3.2 k).2=([],(qpl (qm V (8*N)) g3.2 k).2):=λcl M f=>by rw[zll,if_pos (Or.inl g)]
     rw[e1,e2,e3,if_pos g]at hZ;subst hZ;exact hk1 wL g (h0.tail λ_ _ _ h=>h.drop.drop)
    have g:(qpl (qm V (8*N)) g3.2 k).2.2.2=0:=by simpa using g
    have hkc:k=nc:=hc.resolve_right (λe=>e g);subst hkc;generalize qpl (qm V (8*N)) g3.2 k=c at h0 hZ hpk hcl g;refine qnb.c (s:=cs) (half:=false) h0 (λhb w e1 h=>⟨_,_,rfl,?_⟩) (λw e1 h=>⟨_,_,rfl,?_⟩)
    ·have ec:quj c.1 false c.2=c.2:=by unfold quj;rw[if_neg (λe=>e.2 e1)]
     rw[ec]at hZ;unfold qb.j7;refine qoe rfl ?_;obtain⟨n1,hn1⟩:∃n1:Nat,g1.1+257=n1:=⟨(g1.1+257).toNat,by omega⟩;obtain⟨n2,hn2⟩:∃n2:Nat,g2.1+1=n2:=⟨(g2.1+1).toNat,by omega⟩;rw[hn1,hn2]at hZ;rw[hn1,hn2];have e12:((n1:Int)+(n2:Int)).toNat=n1+n2:=by omega
     rw[e12,toNat_natCast]at hZ;have h:St F0 w0 w (dtA sb rb q most c.2::hrA hb c.1::ps):=h.sub;refine qbp.loop (nl:=n1) (nd:=n2) (cl:=c.1) (cb:=hb) h hN hpk (by omega) g (λt11 w g ht hc h=>?_) (λw g h=>?_)
     ·rw[if_neg (λe=>e g)]at hZ;subst hZ;have hzl:=qwt (cl:=c.1) (B:=qm V (8*N)) (N:=n1+n2) (n1+n2+1) [] c.2 (by simp) (by simp) g;exact hk0 t11 _ n1 w g (by omega) (by omega) hc rfl (h.tail λ_ _ _ h=>h.tail λ_ _ _ h=>h.drop)
     ·rw[if_pos g]at hZ;subst hZ;exact hk1 w g (h.tail λ_ _ _ h=>h.drop)
    ·have ec:quj c.1 false c.2=qce 2 c.2:=by unfold quj;rw[if_pos ⟨g,e1⟩]
     have hne:(qce 2 c.2).2.2≠0:=qfi (by decide);have e3:∀M f,zll c.1 (qm V (8*N)) M (f+1) [] (qce 2 c.2)=([],qce 2 c.2):=λM f=>by rw[zll,if_pos (Or.inl hne)]
     rw[ec,e3,if_pos hne]at hZ;subst hZ;unfold qb.j7;refine qbg (by simpa using e1) ?_;refine qvf.c h λw h=>⟨rfl,?_⟩;exact hk1 w hne (h.tail λ_ _ _ h=>h.drop.drop)
   refine qrc (λg=>?_) (λg=>j6 (Or.inl (by omega)));have h0:=h;obtain⟨o,h⟩:=qbw h;refine qsd (h.fI ?_);refine qbf (λg0=>?_) (λg0=>j6 (Or.inr (by simpa using g0)));clear h;have hk19:k<19:=by omega
   have hz:=qlx k hk19;refine h0.drewK λw h=>?_;have hr:=h.rdb (⟨some ⟨ob,0,none⟩,19,19⟩:Sl);refine hr.ix (by decide) (by omega) (by show(k:Int)<19;omega) λa ha=>?_;have hv:(ivs .i64 qxi)[((k:Int)).toNat*1]?=some (.int .i64 (qxi.getD k 0)):=by
    rw[show((k:Int)).toNat*1=k by omega];exact qml hk19
   have fin:∀w,(qnf (qm V (8*N)) 3 (qpl (qm V (8*N)) g3.2 k).2).2.1<=8*N->St F0 w0 w (dtA sb rb q most (qnf (qm V (8*N)) 3 (qpl (qm V (8*N)) g3.2 k).2).2::qyb 1 cs (ivs .i64 (qpl (qm V (8*N)) g3.2 k).1)::rdA 1 ⟨some ⟨ob,0,none⟩,19,19⟩ (ivs .i64 qxi)::ps)->
    ixS cs.a cs.len (qxi.getD k 0) 1 λa59=>Go.Proofs.YtdccpphmkfaioaaGreat.st w a59 (.int .i64 (qnf (qm V (8*N)) 3 (qpl (qm V (8*N)) g3.2 k).2).1) λw60=>lt (i64.wrap ((k:Int)+1)) λx61=>((some (⟨sb,0,none⟩:Addr)=some ⟨sb,0,none⟩/\g1.1+257=g1.1+257/\g2.1+1=g2.1+1/\(nc:Int)=nc/\(⟨some ⟨ob,0,none⟩,19,19⟩:Sl)=⟨some ⟨ob,0,none⟩,19,19⟩/\cs=cs)/\I x61 w60/\μ x61 w60<μ (k:Int) wL):=by
    intro w hpk2 h
    refine h.sx (s:=cs) (qxi.getD k 0).toNat (by omega) (by omega) λw h=>?_
    refine ql (qd (by omega) (by omega)) ?_
    refine⟨⟨rfl,rfl,rfl,rfl,rfl,rfl⟩,hin (k+1) _ _ ⟨by omega,by omega,?_,?_⟩ (by omega)⟩
    ·rw[qpl];exact hpk2
    ·rw[qpl]
     exact h.sub
   refine⟨?_,?_⟩
   ·refine hr.ldI ha hv ?_;refine qni.c h hN hpk λw hpk2 h=>⟨_,rfl,?_⟩;exact fin w hpk2 h
   ·refine qni.c h hN hpk λw hpk2 h=>⟨_,rfl,?_⟩;refine(h.rdb (⟨some ⟨ob,0,none⟩,19,19⟩:Sl)).ldI ha hv ?_;exact fin w hpk2 h
  refine qrc (λg=>?_) (λg=>?_)
  ·refine qvf.c h λw h=>⟨rfl,?_⟩;exact j3 (qce 2 g2.2) w (by rw[if_pos (by omega)]) hp2 h
  ·exact j3 g2.2 w (by rw[if_neg (by omega)]) hp2 h
 refine qrc (λg=>?_) (λg=>?_)
 ·refine qvf.c h λw h=>⟨rfl,?_⟩
  exact j2 (qce 2 g1.2) w (by rw[if_pos (by omega)]) hp1 h
 ·exact j2 g1.2 w (by rw[if_neg (by omega)]) hp1 h
theorem qugb.c{K:Ending->World->Prop}(h:St F0 w0 w (dtA sb rb q most z::ps))[Rdb F0 w0 q ps 1 (u8s (byt V N))](hN:N<=137438953472)(hp:z.1<=8*N)(hm:most<=1000000)(hm0:0<=most)(hL:z.2.1.length<=1000000)
 (hk:∀w',St F0 w0 w' (dtA sb rb q most (qie (qm V (8*N)) most z).2::ps)->K (.returned (.bool ((qie (qm V (8*N)) most z).1&&(qie (qm V (8*N)) most z).2.2.2==0))) w'):
 Calls prog 83 ⟨[.pointer (some ⟨sb,0,none⟩)]⟩ w K:=by
 have hBl:(qm (V:Int) (8*N)).length=8*N:=qq _ _
 refine qec (qcc.ok _ _ _ ?_)
 unfold qcc qcc.j1
 generalize hZ:qie (qm V (8*N)) most z=Zr at hk
 unfold qie at hZ
 simp only at hZ
 refine qni.c h hN hp λw hg h=>⟨_,rfl,?_⟩
 have go:=qae (B:=qm V (8*N)) (z:=z) 1
 generalize qnf (qm V (8*N)) 1 z=a at h hZ hg go|-
 refine qni.c h hN hg λw hg2 h=>⟨_,rfl,?_⟩
 have go2:=qae (B:=qm V (8*N)) (z:=a.2) 2
 generalize qnf (qm V (8*N)) 2 a.2=k at h hZ hg2 go2|-
 have hkL:k.2.2.1.length<=1000000:=by rw[go2,go];exact hL
 unfold qcc.j2
 have h0:=h
 obtain⟨o,h⟩:=qbw h
 refine qsd (h.fI ?_)
 refine qbf (λg=>?_) (λg=>?_)
 ·have g:k.2.2.2≠0:=by simpa using g
  rw[if_pos g]at hZ
  subst hZ
  exact hk w h0
 have g:k.2.2.2=0:=by simpa using g
 rw[if_neg (λe=>e g)]at hZ
 have j3:∀(y:Z) w,Zr=(a.1==1,y)->St F0 w0 w (dtA sb rb q most y::ps)->qcc.j3 (some ⟨sb,0,none⟩) (a.1==1) (λv w'=>K (.returned v) w') w:=by
  intro y w e h;subst e;simp only at hk;unfold qcc.j3;have h0:=h;obtain⟨o,h⟩:=qbw h;refine qbf (λg=>?_) (λg=>?_)
  ·rw[g]at hk;exact qsd (h.fI (hk w h0))
  ·rw[g]at hk;exact hk w h0
 refine qbf (λg1=>?_) (λg1=>?_)
 ·have g1:k.1=0:=by simpa using g1
  rw[if_pos g1]at hZ
  exact qocb.c h0 hN hg2 hm hm0 hkL λw h=>⟨rfl,j3 _ w hZ.symm h⟩
 have g1:¬k.1=0:=by simpa using g1
 rw[if_neg g1]at hZ
 refine qbf (λg3=>?_) (λg3=>?_)
 ·have g3:k.1=1:=by simpa using g3
  rw[if_pos g3]at hZ
  refine qfb.c h0 λs t w hs ht h=>⟨s,t,rfl,?_⟩
  have h:St F0 w0 w (dtA sb rb q most k.2::qyb 1 t (ivs .i64 qfk)::qyb 1 s (ivs .i64 qqo)::ps):=h.at2
  refine qwl.c (s:=s) (t:=t) (ll:=qqo) (dl:=qfk) h (by rw[qhj];decide) hN hg2 hm hkL λw h=>⟨rfl,?_⟩
  exact j3 _ w hZ.symm (h.tail λ_ _ _ h=>h.drop.drop)
 have g3:¬k.1=1:=by simpa using g3
 rw[if_neg g3]at hZ
 refine qbf (λg4=>?_) (λg4=>?_)
 ·have g4:k.1=2:=by simpa using g4
  rw[if_pos g4]at hZ
  have hlp:=qzbb (B:=qm V (8*N)) (z:=k.2) (by rw[hBl];exact hg2)
  have hlo:=qcr (B:=qm V (8*N)) (z:=k.2)
  have hll:=qwz (B:=qm V (8*N)) (z:=k.2)
  rw[hBl]at hlp
  refine qbp.c h0 hN hg2 (λt11 l nl w e0 ht hnl hcap el h=>⟨⟨qpf t11.a t11.cap 0 1,nl-0,t11.cap-0⟩,⟨qpf t11.a t11.cap nl 1,t11.len-nl,t11.cap-nl⟩,rfl,?_⟩) (λw e0 h=>⟨⟨none,0,0⟩,⟨none,0,0⟩,rfl,?_⟩)
  ·have hll:=hll e0
   rw[if_neg (λe=>e e0)]at hZ
   rw[el]at hZ hll
   simp only at hZ hll
   haveI:=h.drop.cutR t11 0 nl (t11.cap-0) (ys:=l.take nl) hnl (by omega) hcap (by rw[drop_zero,Nat.sub_zero])
   haveI:=h.drop.cutR t11 nl t11.len (t11.cap-nl) (ys:=l.drop nl) (by omega) hnl hcap (by rw[take_of_length_le (by rw[length_drop];omega)])
   refine qwl.c (s:=⟨qpf t11.a t11.cap 0 1,nl-0,t11.cap-0⟩) (t:=⟨qpf t11.a t11.cap nl 1,t11.len-nl,t11.cap-nl⟩) (ll:=l.take nl) (dl:=l.drop nl) h (by omega) hN hlp.2 hm (by rw[hlo];exact hkL) λw h=>⟨rfl,?_⟩
   exact j3 _ w hZ.symm (h.tail λ_ _ _ h=>h.drop)
  ·rw[if_pos e0]at hZ
   refine qec (qg.ok _ ⟨none,0,0⟩ ⟨none,0,0⟩ _ _ ?_)
   unfold qg
   have h0:=h
   obtain⟨o,h⟩:=qbw h
   refine qsd (h.fI (qbg (by simpa using e0) ⟨rfl,?_⟩))
   exact j3 _ w hZ.symm h0
 have g4:¬k.1=2:=by simpa using g4
 rw[if_neg g4]at hZ
 exact qvf.c h0 λw h=>⟨rfl,j3 _ w hZ.symm h⟩
theorem qwb.c{s:Sl}{K:Ending->World->Prop}{z':Z}(h:St F0 w0 w ps)[Rdb F0 w0 s ps 1 (u8s (byt V N))](hN:N<=137438953472)(hm:most<=262144)(hm0:0<=most)(hr:zinf V N most z')
 (hk:∀t w',z'.2.2=0->t.len=z'.2.1.length->t.len<=t.cap->St F0 w0 w' (rdA 1 t (u8s z'.2.1)::ps)->K (.returned (.tuple ⟨[.slice t.a t.len t.cap,.int .i64 (((z'.1+7)/8:Nat):Int),.int .i64 0]⟩)) w')
 (hk2:∀w',z'.2.2≠0->St F0 w0 w' ps->K (.returned (.tuple ⟨[.slice none 0 0,.int .i64 0,.int .i64 z'.2.2]⟩)) w'):
 Calls prog 69 ⟨[.slice s.a s.len s.cap,.int .i64 most]⟩ w K:=by
 have hBl:(qm (V:Int) (8*N)).length=8*N:=qq _ _
 obtain⟨n,hr⟩:=hr
 refine qec (qwb.ok _ _ _ _ ?_)
 unfold qwb qwb.j1
 refine qrc (λg=>by omega) λ_=>?_
 refine qrc (λg=>by omega) λ_=>?_
 refine h.new λrb w h=>?_
 refine h.new λsb w h=>?_
 have h:=(h.nil 1).at2.at2
 have h:St F0 w0 w (qqb sb [.pointer (some ⟨rb,0,none⟩),.slice none 0 0,.int .i64 most,.int .i64 0]::bitR rb (s,0)::qyb 1 ⟨none,0,0⟩ (u8s [])::ps):=h
 have h:St F0 w0 w (dtA sb rb s most (0,[],0)::ps):=qeib (o:=⟨none,0,0⟩) (p:=0) (out:=[]) (err:=0) h
 unfold qwb.j2
 refine loop0 (λ(a:Nat×Z) w'=>a.2.1<=8*N/\a.2.2.1.length<=1000000/\ZAll (qm V (8*N)) most a.1 a.2 z'/\St F0 w0 w' (dtA sb rb s most a.2::ps)) (λa=>a.1) (n,(0,[],0)) ⟨zero_le _,by simp,hr,h⟩ ?_
 clear h hr
 rintro⟨m,z⟩ wL I μ ⟨hp,hL,hr,h⟩ hin
 simp only at hp hL hr h hin|-
 unfold qwb.b1
 refine qugb.c h hN hp (by omega) hm0 hL λw h=>⟨_,rfl,?_⟩
 have hL2:=qcm (B:=qm V (8*N)) (most:=most) (by omega) hL
 have hle:=(qto (most:=most) hBl (by rw[hBl];exact hp)).2.1
 rw[hBl]at hle
 have h0:=h
 obtain⟨o,h⟩:=qbw h
 cases hr with
 |bad he=>
  refine qbg (by simp[he]) ?_
  refine qsd (h.fI (qbg (by simpa using he) ?_))
  refine h.drewK λw h=>?_
  exact qsd (h.fI (hk2 w he h.drop.drop.drop))
 |last he hl=>
  refine qoe (by simp[he,hl]) ?_
  unfold qwb.j3
  refine h.drewK λw h=>?_
  have hcap:=h.at2.cap (by decide)
  have hol:=h.at2.len
  rw[qj]at hol
  refine qsd (qsd (h.fP ?_))
  have h2:St F0 w0 w (rfA rb s (qie (qm V (8*N)) most z).2.1::qqb sb [.pointer (some ⟨rb,0,none⟩),.slice o.a o.len o.cap,.int .i64 most,.int .i64 (qie (qm V (8*N)) most z).2.2.2]::qyb 1 o (u8s (qie (qm V (8*N)) most z).2.2.1)::ps):=h.at1
  have fin:=hk o w he (by omega) hcap (h.at2.ro.tail λ_ _ _ h=>h.drop.drop)
  refine⟨?_,?_⟩
  ·refine h.fL ?_
   exact qxe.c (at':=(qie (qm V (8*N)) most z).2.1) h2 (by omega) ⟨_,rfl,fin⟩
  ·refine qxe.c (at':=(qie (qm V (8*N)) most z).2.1) h2 (by omega) ⟨_,rfl,?_⟩
   exact h.fL fin
 |next he hl hr=>
  rename_i n2
  refine qbg (by simp[hl]) ?_
  refine qsd (h.fI (qoe (by simpa using he) ?_))
  exact⟨rfl,hin (n2,(qie (qm V (8*N)) most z).2) _ ⟨hle,hL2,hr,h0⟩ (by simp only;omega)⟩
end
end
section
attribute [local irreducible] apK cpK mkK
section
variable {F0:List Nat}{w0 w:World}{ps rest:List As}{xs:List Int}
theorem qsi.d{s:Sl}{v:Int}{K:Ending->World->Prop}(h:St F0 w0 w ps)[Rdb F0 w0 s ps 1 (u8s xs)](hL:xs.length<=1099511627776)
 (hk:∀s' w',s'.len=xs.length+4->s'.cap=s'.len->St F0 w0 w' (rdA 1 s' (u8s (xs++beJ 4 4 v))::ps)->K (.returned (.slice s'.a s'.len s'.cap)) w'):Calls prog 16 ⟨[.slice s.a s.len s.cap,.int .i64 v]⟩ w K:=by
 refine qec (qsi.ok _ _ _ _ ?_)
 unfold qsi
 exact qeh.c (n:=4) h (h.rdb s) hL (by decide) λs' w h1 h2 h=>⟨s',rfl,hk s' w h1 h2 h⟩
end
end
section
attribute [local irreducible] apK cpK mkK hs qyk
section
variable {F0:List Nat}{w0 w:World}{ps:List As}
theorem qyx(xs:List Int):(u8s (qyk xs)).length=20:=by rw[qrd];exact qli xs
theorem qws{l:List Int}:∀v∈(⟨u8s l⟩:Array Value),qqe v:=by
 intro v hv;have hv:v∈u8s l:=by simpa using hv
 obtain⟨n,_,rfl⟩:=List.mem_map.1 hv;trivial
theorem St.st20{nb:Nat}{c l:List Value}{K:World->Prop}(h:St F0 w0 w (qqb nb c::ps))(hc:c.length=20)(hl:l.length=20)(hs:∀v∈(⟨l⟩:Array Value),qqe v)
 (hk:∀w',St F0 w0 w' (qqb nb l::ps)->K w'):Go.Proofs.YtdccpphmkfaioaaGreat.stA w ⟨nb,0,none⟩ ⟨l⟩ K:=by
 refine h.stA (o:=0) (by show 0+l.length<=c.length;omega) hs λw' h=>hk w' ?_
 have e:c.take 0++(⟨l⟩:Array Value).toList++c.drop (0+(⟨l⟩:Array Value).size)=l:=by
  rw[List.take_zero,nil_append,List.drop_eq_nil_of_le (by show c.length<=0+l.length;omega),List.append_nil]
 rwa[e]at h
theorem St.ld20{nb n:Nat}{l:List Value}{K:Array Value->Prop}(h:St F0 w0 w (qqb nb l::ps))(hl:l.length=n)(hk:K ⟨l⟩):ldA w ⟨nb,0,none⟩ n K:=
 h.blk.ldA (cs:=⟨l⟩) hl (λj hj=>by rw[qnl,Nat.zero_add]) hk
theorem qds.c{s:Sl}{xs:List Int}{K:Ending->World->Prop}(h:St F0 w0 w ps)(hr:∀w' p q,St F0 w0 w' (p::q::ps)->Rd w' 1 s (u8s xs))(hx:qjm xs)(hL:xs.length<=34359738368)
 (hk:∀w',St F0 w0 w' ps->K (.returned (.agg ⟨u8s (qyk xs)⟩)) w'):Calls prog 56 ⟨[.slice s.a s.len s.cap]⟩ w K:=by
 refine qec (qds.ok _ _ _ ?_)
 unfold qds
 refine h.new λnb w h=>?_
 have hz:(zc prog 43).toList.length=20:=by rw[Array.length_toList];exact qew
 generalize (zc prog 43).toList=c at h hz
 refine qtq.c h λhb w h=>⟨_,rfl,?_⟩
 refine qid.c h (λw' p h=>hr w' p _ h) hx (by simp;omega) λw h=>⟨rfl,?_⟩
 rw[nil_append]at h
 refine qsb.c h hL λw h=>⟨_,rfl,?_⟩
 refine⟨qyx xs,?_⟩
 refine h.drop.st20 hz (qyx xs) qws λw h=>?_
 refine h.ld20 (qyx xs) ?_
 exact hk w h.drop
end
end
section
attribute [local irreducible] apK cpK mkK hs qyk rounds qyj
theorem or32{a b t m:Nat}(hm:m=2^t)(ha:a<m)(hs:a+b*m<4294967296):orV .u32 ((b*m:Nat):Int) (a:Int)=((a+b*m:Nat):Int):=by
 subst hm;have h:=qlt (k:= .u32) (a:=a) (b:=b) (t:=t) rfl ha hs;rw[qqy];have e:((b*2^t:Nat):Int)=(b:Int)*2^t:=by simp
 rw[e,h,Int.natCast_add,e]
theorem shl32{a t m:Nat}(hm:m=2^t)(ht:t<=32)(hs:a*m<4294967296):qij .u32 (a:Int) (t:Int)=((a*m:Nat):Int):=by
 subst hm;rw[qajb (k:= .u32) rfl ht hs];simp
theorem qrib{a b c d:Int}(ha:0<=a/\a<256)(hb:0<=b/\b<256)(hc:0<=c/\c<256)(hd:0<=d/\d<256):
 orV .u32 (orV .u32 (orV .u32 (qij .u32 a 24) (qij .u32 b 16)) (qij .u32 c 8)) d=be [a,b,c,d]:=by
 obtain⟨a,rfl⟩:∃n:Nat,a=n:=⟨a.toNat,by omega⟩
 obtain⟨b,rfl⟩:∃n:Nat,b=n:=⟨b.toNat,by omega⟩
 obtain⟨c,rfl⟩:∃n:Nat,c=n:=⟨c.toNat,by omega⟩
 obtain⟨d,rfl⟩:∃n:Nat,d=n:=⟨d.toNat,by omega⟩
 have h1:qij .u32 (a:Int) 24=((a*16777216:Nat):Int):=shl32 (t:=24) (by decide) (by decide) (by omega)
 have h2:qij .u32 (b:Int) 16=((b*65536:Nat):Int):=shl32 (t:=16) (by decide) (by decide) (by omega)
 have h3:qij .u32 (c:Int) 8=((c*256:Nat):Int):=shl32 (t:=8) (by decide) (by decide) (by omega)
 have u1:=or32 (a:=b*65536) (b:=a) (t:=24) (m:=16777216) (by decide) (by omega) (by omega)
 have u2:=or32 (a:=c*256) (b:=b+a*256) (t:=16) (m:=65536) (by decide) (by omega) (by omega)
 have u3:=or32 (a:=d) (b:=c+(b+a*256)*256) (t:=8) (m:=256) (by decide) (by omega) (by omega)
 rw[show(b+a*256)*65536=b*65536+a*16777216 by omega]at u2
 rw[show(c+(b+a*256)*256)*256=c*256+(b*65536+a*16777216)by omega]at u3
 rw[h1,h2,h3,u1,u2,u3]
 simp only[be,List.foldl_cons,List.foldl_nil]
 omega
section
variable {F0:List Nat}{w0 w:World}{ps:List As}
theorem qti.c{s:Sl}{xs:List Int}{K:Ending->World->Prop}(hr:Rd w 1 s (u8s xs))(hx:qjm xs)(hl:4<=xs.length)(hk:∀w',Mod [] w w'->K (.returned (.int .u32 (be (xs.take 4)))) w'):Calls prog 67 ⟨[.slice s.a s.len s.cap]⟩ w K:=by
 have hs:=hr.1;rw[qrd]at hs;refine qec (qti.ok _ _ _ ?_);unfold qti;refine qxd ?_;have hr:=hr.keep (Mod.drew w) (by simp);match xs,hl,hx,hr,hk with
 |a::b::c::d::r,_,hx,hr,hk=>
  have ha:=hx a (by simp);have hb:=hx b (by simp);have hc:=hx c (by simp);have hd:=hx d (by simp);refine hr.ix (by decide) (by decide) (by omega) λp hp=>?_;refine hr.ldI (i:=0) (n:=a) hp rfl ?_;refine ql (show u32.wrap a=a by rw[qgh];omega) ?_;refine⟨by decide,qxd ?_⟩;refine hr.ix (by decide) (by decide) (by omega) λp hp=>?_;refine hr.ldI (i:=1) (n:=b) hp rfl ?_;refine ql (show u32.wrap b=b by rw[qgh];omega) ?_;refine⟨by decide,qxd (qxd ?_)⟩;refine hr.ix (by decide) (by decide) (by omega) λp hp=>?_;refine hr.ldI (i:=2) (n:=c) hp rfl ?_;refine ql (show u32.wrap c=c by rw[qgh];omega) ?_;refine⟨by decide,qxd (qxd ?_)⟩;refine hr.ix (by decide) (by decide) (by omega) λp hp=>?_;refine hr.ldI (i:=3) (n:=d) hp rfl ?_;refine ql (show u32.wrap d=d by rw[qgh];omega) ?_;refine ql (qrib ha hb hc hd) ?_;exact hk _ (Mod.drew w)
end
end
section
set_option maxRecDepth 100000
def qld.j2(x_5 y_6:Int)(Q:VWP)(w:World):Prop:=(0:Int)<=16/\lt (qij .u32 y_6 16) λx1=>lt (orV .u32 x1 x_5) λx2=>Q (.int .u32 x2) w
def qld.b1(t13:Sl)(t14:Int)(x_5 y_6 t15:Int)(Q:VWP)(nx1:Sl->Int->Int->Int->Int->WP)(w:World):Prop:=br (decide (t15<t14)) (ixS t13.a t13.len t15 1 λa3=>ldI .u8 w a3 λx4=>lt (u32.wrap x4) λx5=>lt (u32.wrap (x_5+x5)) λx6=>(65521:Int)≠0/\lt (tmod x6 65521) λx7=>lt (u32.wrap (y_6+x7)) λx8=>(65521:Int)≠0/\lt (tmod x8 65521) λx9=>lt (i64.wrap (t15+1)) λx10=>nx1 t13 t14 x7 x9 x10 w) (qld.j2 x_5 y_6 Q w)
def qld.l1(t13:Sl)(t14:Int)(x_5 y_6 t15:Int)(Q:VWP)(w:World):Prop:=∃(I:Int->Int->Int->WP) (μ:Int->Int->Int->World->Nat),I x_5 y_6 t15 w/\∀x_5:Int,∀y_6:Int,∀t15:Int,∀w:World,I x_5 y_6 t15 w->qld.b1 t13 t14 x_5 y_6 t15 Q (λt13' t14' x_5' y_6' t15' w'=>(t13'=t13/\t14'=t14)/\I x_5' y_6' t15' w'/\μ x_5' y_6' t15' w'<μ x_5 y_6 t15 w) w
def qld.j3(x_5 y_6:Int)(t13:Sl)(t14 t15:Int)(Q:VWP)(w:World):Prop:=qld.l1 t13 t14 x_5 y_6 t15 Q w
def qld.j1(b_1:Sl)(x_5:Int)(y_6:Int)(Q:VWP)(w:World):Prop:=qld.j3 x_5 y_6 b_1 (b_1.len:Int) 0 Q w
def qld(adler_0:Int)(b_1:Sl)(Q:VWP)(w:World):Prop:=lt (qzi .u32 adler_0 65535) λx11=>(0:Int)<=16/\lt (qnk .u32 adler_0 16) λx12=>qld.j1 b_1 x11 x12 Q w
theorem qld.ok(adler_0:Int)(b_1:Sl)(Q:VWP)(w:World)(h:qld adler_0 b_1 Q w):Calls prog 81 ⟨[.int .u32 adler_0,sV b_1]⟩ w (Ret Q):=
 qhc [.tmp 4] qhe Tryz.func81 rfl rfl rfl rfl (.pr 1 [sL 1,(5,.I .u32),(6,.I .u32)] (λa b c w=>qld.j1 a b c Q w) (.sq [(5,.I .u32),(6,.I .u32)] (λa b w=>qld.j2 a b Q w) (.sq [(5,.I .u32),(6,.I .u32),sL 13,sI 14,sI 15] (λa b c d e w=>qld.j3 a b c d e Q w) .lf (.bk (.lo [sL 13,sI 14] [(5,.I .u32),(6,.I .u32),sI 15] (λa b c d e w=>qld.l1 a b c d e Q w) (λnx1 a b c d e w=>qld.b1 a b c d e Q nx1 w) λnx1=> .lf))) .lf)) (by kernel_rfl) h
def qdm(b_0:Sl)(Q:VWP)(w:World):Prop:=qqj 81 [.int .u32 1,sV b_0] w λr3 w2=>Q (.int .u32 r3) w2
theorem qdm.ok(b_0:Sl)(Q:VWP)(w:World)(h:qdm b_0 Q w):Calls prog 64 ⟨[sV b_0]⟩ w (Ret Q):=
 qhc [.tmp 2] qhe Tryz.func64 rfl rfl rfl rfl .lf (by kernel_rfl) h
def qrb.j3(s1_5 s2_6:Int)(Q:VWP)(w:World):Prop:=(0:Int)<=16/\lt (qij .u32 s2_6 16) λx1=>lt (orV .u32 x1 s1_5) λx2=>Q (.int .u32 x2) w
def qrb.b1(b_1:Sl)(s1_5:Int)(s2_6 i_7:Int)(Q:VWP)(nx1:Sl->Int->Int->Int->WP)(w:World):Prop:=br (decide (i_7<(b_1.len:Int))) (ixS b_1.a b_1.len i_7 1 λa3=>ldI .u8 w a3 λx4=>lt (u32.wrap x4) λx5=>lt (u32.wrap (s1_5+x5)) λx6=>(65521:Int)≠0/\lt (tmod x6 65521) λx7=>lt (u32.wrap (s2_6+x7)) λx8=>(65521:Int)≠0/\lt (tmod x8 65521) λx9=>lt (i64.wrap (i_7+1)) λx10=>nx1 b_1 x7 x9 x10 w) (qrb.j3 s1_5 s2_6 Q w)
def qrb.l1(b_1:Sl)(s1_5:Int)(s2_6 i_7:Int)(Q:VWP)(w:World):Prop:=∃(I:Int->Int->Int->WP) (μ:Int->Int->Int->World->Nat),I s1_5 s2_6 i_7 w/\∀s1_5:Int,∀s2_6:Int,∀i_7:Int,∀w:World,I s1_5 s2_6 i_7 w->qrb.b1 b_1 s1_5 s2_6 i_7 Q (λb_1' s1_5' s2_6' i_7' w'=>(b_1'=b_1)/\I s1_5' s2_6' i_7' w'/\μ s1_5' s2_6' i_7' w'<μ s1_5 s2_6 i_7 w) w
def qrb.j4(b_1:Sl)(s1_5:Int)(s2_6 i_7:Int)(Q:VWP)(w:World):Prop:=qrb.l1 b_1 s1_5 s2_6 i_7 Q w
def qrb.j2(b_1:Sl)(s1_5:Int)(s2_6:Int)(Q:VWP)(w:World):Prop:=qrb.j4 b_1 s1_5 s2_6 0 Q w
def qrb.j1(a_0:Int)(b_1:Sl)(Q:VWP)(w:World):Prop:=lt (qzi .u32 a_0 65535) λx11=>(0:Int)<=16/\lt (qnk .u32 a_0 16) λx12=>qrb.j2 b_1 x11 x12 Q w
def qrb(a_0:Int)(b_1:Sl)(Q:VWP)(w:World):Prop:=qrb.j1 a_0 b_1 Q w
theorem qrb.ok(a_0:Int)(b_1:Sl)(Q:VWP)(w:World)(h:qrb a_0 b_1 Q w):Calls prog 82 ⟨[.int .u32 a_0,sV b_1]⟩ w (Ret Q):=
 qhc [.tmp 4] qhe Tryz.func82 rfl rfl rfl rfl (.sq [(0,.I .u32),sL 1] (λa b w=>qrb.j1 a b Q w) .lf (.pr 1 [sL 1,(5,.I .u32),(6,.I .u32)] (λa b c w=>qrb.j2 a b c Q w) (.sq [(5,.I .u32),(6,.I .u32)] (λa b w=>qrb.j3 a b Q w) (.sq [sL 1,(5,.I .u32),(6,.I .u32),sI 7] (λa b c d w=>qrb.j4 a b c d Q w) .lf (.bk (.lo [sL 1] [(5,.I .u32),(6,.I .u32),sI 7] (λa b c d w=>qrb.l1 a b c d Q w) (λnx1 a b c d w=>qrb.b1 a b c d Q nx1 w) λnx1=> .lf))) .lf))) (by kernel_rfl) h
def qyg(b_0:Sl)(Q:VWP)(w:World):Prop:=qqj 82 [.int .u32 1,sV b_0] w λr3 w2=>Q (.int .u32 r3) w2
theorem qyg.ok(b_0:Sl)(Q:VWP)(w:World)(h:qyg b_0 Q w):Calls prog 66 ⟨[sV b_0]⟩ w (Ret Q):=
 qhc [.tmp 2] qhe Tryz.func66 rfl rfl rfl rfl .lf (by kernel_rfl) h
end
section
set_option maxRecDepth 100000
def qhb.j3(w_3:OAd)(Q:VWP)(w:World):Prop:=qtj 98 [.pointer w_3] w λr3 w2=>Q (sV r3) w2
def qhb.j10(b_0:Sl)(w_3:OAd)(more_4:Bool)(k_5:Int)(Q:VWP)(nx1:OAd->Sl->Bool->WP)(w:World):Prop:=bd k_5 b_0.len λn4=>lt (⟨qpf b_0.a b_0.cap n4 1,b_0.len-n4,b_0.cap-n4⟩:Sl) λs5=>nx1 w_3 s5 more_4 w
def qhb.b2(b_0:Sl)(w_3:OAd)(more_4:Bool)(k_5:Int)(t36:Sl)(t37:Int)(t38:Int)(Q:VWP)(nx1:OAd->Sl->Bool->WP)(nx2:Sl->OAd->Bool->Int->Sl->Int->Int->WP)(w:World):Prop:=br (decide (t38<t37)) (ixS t36.a t36.len t38 1 λa6=>ldI .u8 w a6 λx7=>ct_ 97 [.pointer w_3,.int .u8 x7] w λw9=>lt (i64.wrap (t38+1)) λx10=>nx2 b_0 w_3 more_4 k_5 t36 t37 x10 w9) (qhb.j10 b_0 w_3 more_4 k_5 Q nx1 w)
def qhb.l2(b_0:Sl)(w_3:OAd)(more_4:Bool)(k_5:Int)(t36:Sl)(t37:Int)(t38:Int)(Q:VWP)(nx1:OAd->Sl->Bool->WP)(w:World):Prop:=∃(I:Int->WP) (μ:Int->World->Nat),I t38 w/\∀t38:Int,∀w:World,I t38 w->qhb.b2 b_0 w_3 more_4 k_5 t36 t37 t38 Q nx1 (λb_0' w_3' more_4' k_5' t36' t37' t38' w'=>(b_0'=b_0/\w_3'=w_3/\more_4'=more_4/\k_5'=k_5/\t36'=t36/\t37'=t37)/\I t38' w'/\μ t38' w'<μ t38 w) w
def qhb.j11(b_0:Sl)(w_3:OAd)(more_4:Bool)(k_5:Int)(t36:Sl)(t37:Int)(t38:Int)(Q:VWP)(nx1:OAd->Sl->Bool->WP)(w:World):Prop:=qhb.l2 b_0 w_3 more_4 k_5 t36 t37 t38 Q nx1 w
def qhb.j9(b_0:Sl)(w_3:OAd)(more_4:Bool)(k_5:Int)(Q:VWP)(nx1:OAd->Sl->Bool->WP)(w:World):Prop:=bd k_5 b_0.cap λn11=>lt (⟨qpf b_0.a b_0.cap 0 1,n11-0,b_0.cap-0⟩:Sl) λs12=>qhb.j11 b_0 w_3 more_4 k_5 s12 (s12.len:Int) 0 Q nx1 w
def qhb.j8(b_0:Sl)(w_3:OAd)(more_4:Bool)(k_5:Int)(Q:VWP)(nx1:OAd->Sl->Bool->WP)(w:World):Prop:=
 ct_ 95 [.pointer w_3,.int .i64 k_5,.int .i64 16] w λw14=>
 lt (qwk .i64 (if IntKind.signed .i64 then -1 else IntKind.max .i64) k_5) λx15=>
 ct_ 95 [.pointer w_3,.int .i64 x15,.int .i64 16] w14 λw17=>
 qhb.j9 b_0 w_3 more_4 k_5 Q nx1 w17
def qhb.j7(b_0:Sl)(w_3:OAd)(more_4:Bool)(k_5:Int)(last_6:Int)(Q:VWP)(nx1:OAd->Sl->Bool->WP)(w:World):Prop:=ct_ 95 [.pointer w_3,.int .i64 last_6,.int .i64 3] w λw19=>ct_ 96 [.pointer w_3] w19 λw21=>qhb.j8 b_0 w_3 more_4 k_5 Q nx1 w21
def qhb.j6(b_0:Sl)(w_3:OAd)(more_4:Bool)(k_5:Int)(Q:VWP)(nx1:OAd->Sl->Bool->WP)(w:World):Prop:=br more_4 (qhb.j7 b_0 w_3 more_4 k_5 0 Q nx1 w) (qhb.j7 b_0 w_3 more_4 k_5 1 Q nx1 w)
def qhb.j5(b_0:Sl)(w_3:OAd)(Q:VWP)(nx1:OAd->Sl->Bool->WP)(w:World):Prop:=
 lt (if(65535:Int)<(b_0.len:Int)then 65535 else(b_0.len:Int)) λx22=>
 qhb.j6 b_0 w_3 (decide (x22<(b_0.len:Int))) x22 Q nx1 w
def qhb.b1(w_3:OAd)(b_0:Sl)(more_4:Bool)(Q:VWP)(nx1:OAd->Sl->Bool->WP)(w:World):Prop:=br more_4 (qhb.j5 b_0 w_3 Q nx1 w) (qhb.j3 w_3 Q w)
def qhb.l1(w_3:OAd)(b_0:Sl)(more_4:Bool)(Q:VWP)(w:World):Prop:=∃(I:Sl->Bool->WP) (μ:Sl->Bool->World->Nat),I b_0 more_4 w/\∀b_0:Sl,∀more_4:Bool,∀w:World,I b_0 more_4 w->qhb.b1 w_3 b_0 more_4 Q (λw_3' b_0' more_4' w'=>(w_3'=w_3)/\I b_0' more_4' w'/\μ b_0' more_4' w'<μ b_0 more_4 w) w
def qhb.j4(b_0:Sl)(w_3:OAd)(more_4:Bool)(Q:VWP)(w:World):Prop:=qhb.l1 w_3 b_0 more_4 Q w
def qhb.j2(b_0:Sl)(w_3:OAd)(Q:VWP)(w:World):Prop:=qhb.j4 b_0 w_3 true Q w
def qhb.j1(b_0:Sl)(Q:VWP)(w:World):Prop:=br (decide ((b_0.len:Int)>262144)) (Q (.slice none 0 0) w) (qvhb 94 [] w λr25 w24=>qhb.j2 b_0 r25 Q w24)
def qhb(b_0:Sl)(Q:VWP)(w:World):Prop:=qhb.j1 b_0 Q w
theorem qhb.ok(b_0:Sl)(Q:VWP)(w:World)(h:qhb b_0 Q w):Calls prog 78 ⟨[sV b_0]⟩ w (Ret Q):=
 qhc [.tmp 2] qhe Tryz.func78 rfl rfl rfl rfl (.sq [sL 0] (λa w=>qhb.j1 a Q w) .lf (.pr 1 [sL 0,sP 3] (λa b w=>qhb.j2 a b Q w) (.sq [sP 3] (λa w=>qhb.j3 a Q w) (.sq [sL 0,sP 3,sB 4] (λa b c w=>qhb.j4 a b c Q w) .lf (.bk (.lo [sP 3] [sL 0,sB 4] (λa b c w=>qhb.l1 a b c Q w) (λnx1 a b c w=>qhb.b1 a b c Q nx1 w) λnx1=>(.sq [sL 0,sP 3] (λa b w=>qhb.j5 a b Q nx1 w) .lf (.bk (.pr 1 [sL 0,sP 3,sB 4,sI 5] (λa b c d w=>qhb.j6 a b c d Q nx1 w) (.pr 1 [sL 0,sP 3,sB 4,sI 5,sI 6] (λa b c d e w=>qhb.j7 a b c d e Q nx1 w) (.pr 1 [sL 0,sP 3,sB 4,sI 5] (λa b c d w=>qhb.j8 a b c d Q nx1 w) (.pr 1 [sL 0,sP 3,sB 4,sI 5] (λa b c d w=>qhb.j9 a b c d Q nx1 w) (.sq [sL 0,sP 3,sB 4,sI 5] (λa b c d w=>qhb.j10 a b c d Q nx1 w) (.sq [sL 0,sP 3,sB 4,sI 5,sL 36,sI 37,sI 38] (λa b c d e f g w=>qhb.j11 a b c d e f g Q nx1 w) .lf (.bk (.lo [sL 0,sP 3,sB 4,sI 5,sL 36,sI 37] [sI 38] (λa b c d e f g w=>qhb.l2 a b c d e f g Q nx1 w) (λnx2 a b c d e f g w=>qhb.b2 a b c d e f g Q nx1 nx2 w) λnx2=> .lf))) .lf)))))))))) .lf))) (by kernel_rfl) h
def qtf.b1(v_0:Int)(t6:Addr)(p_7:Addr)(k_8:Int)(Q:VWP)(nx1:Int->Addr->Addr->Int->WP)(w:World):Prop:=qbx 119 [.int .i64 k_8] w λr3 r4 r5 w2=>br (!r5) (ldA w2 p_7 3 λc6=>(c6).size=3/\stA w2 t6 c6 λw7=>ldA w7 t6 3 λc8=>Q (.agg c8) w7) (br (decide (r3>v_0)) (ldA w2 p_7 3 λc9=>(c9).size=3/\stA w2 t6 c9 λw10=>ldA w10 t6 3 λc11=>Q (.agg c11) w10) (lt (i64.wrap (v_0-r3)) λx12=>((⟨[.int .i64 k_8,.int .i64 x12,.int .i64 r4]⟩:Array Value)).size=3/\stA w2 p_7 (⟨[.int .i64 k_8,.int .i64 x12,.int .i64 r4]⟩:Array Value) λw13=>lt (i64.wrap (k_8+1)) λx14=>nx1 v_0 t6 p_7 x14 w13))
def qtf.l1(v_0:Int)(t6:Addr)(p_7:Addr)(k_8:Int)(Q:VWP)(w:World):Prop:=∃(I:Int->WP) (μ:Int->World->Nat),I k_8 w/\∀k_8:Int,∀w:World,I k_8 w->qtf.b1 v_0 t6 p_7 k_8 Q (λv_0' t6' p_7' k_8' w'=>(v_0'=v_0/\t6'=t6/\p_7'=p_7)/\I k_8' w'/\μ k_8' w'<μ k_8 w) w
def qtf.j2(v_0:Int)(t6:Addr)(p_7:Addr)(k_8:Int)(Q:VWP)(w:World):Prop:=qtf.l1 v_0 t6 p_7 k_8 Q w
def qtf.j1(v_0 from_1:Int)(t6:Addr)(Q:VWP)(w:World):Prop:=nw w (zc prog 146) 146 λa15 w16=>((⟨[.int .i64 0,.int .i64 0,.int .i64 0]⟩:Array Value)).size=3/\stA w16 a15 (⟨[.int .i64 0,.int .i64 0,.int .i64 0]⟩:Array Value) λw17=>qtf.j2 v_0 t6 a15 from_1 Q w17
def qtf(v_0 from_1:Int)(Q:VWP)(w:World):Prop:=nw w (zc prog 146) 146 λa18 w19=>qtf.j1 v_0 from_1 a18 Q w19
theorem qtf.ok(v_0:Int)(from_1:Int)(Q:VWP)(w:World)(h:qtf v_0 from_1 Q w):Calls prog 118 ⟨[.int .i64 v_0,.int .i64 from_1,.func (.func 119) ⟨[]⟩ ⟨[]⟩]⟩ w (Ret Q):=
 qhc [.cell 6 146] qhe Tryz.func118 rfl rfl rfl rfl (.sq [sI 0,sI 1,(2,.c0 119),sA 6] (λa b _ c w=>qtf.j1 a b c Q w) .lf (.pr 1 [sI 0,(2,.c0 119),sA 6,sA 7,sI 8] (λa _ b c d w=>qtf.j2 a b c d Q w) (.bk (.lo [sI 0,(2,.c0 119),sA 6,sA 7] [sI 8] (λa _ b c d w=>qtf.l1 a b c d Q w) (λnx1 a _ b c d w=>qtf.b1 a b c d Q (λx0 x6 x7 x8 w=>nx1 x0 () x6 x7 x8 w) w) λnx1=> .lf)))) (by kernel_rfl) h
def quf.b1(v_0:Int)(t6:Addr)(p_7:Addr)(k_8:Int)(Q:VWP)(nx1:Int->Addr->Addr->Int->WP)(w:World):Prop:=qbx 120 [.int .i64 k_8] w λr3 r4 r5 w2=>br (!r5) (ldA w2 p_7 3 λc6=>(c6).size=3/\stA w2 t6 c6 λw7=>ldA w7 t6 3 λc8=>Q (.agg c8) w7) (br (decide (r3>v_0)) (ldA w2 p_7 3 λc9=>(c9).size=3/\stA w2 t6 c9 λw10=>ldA w10 t6 3 λc11=>Q (.agg c11) w10) (lt (i64.wrap (v_0-r3)) λx12=>((⟨[.int .i64 k_8,.int .i64 x12,.int .i64 r4]⟩:Array Value)).size=3/\stA w2 p_7 (⟨[.int .i64 k_8,.int .i64 x12,.int .i64 r4]⟩:Array Value) λw13=>lt (i64.wrap (k_8+1)) λx14=>nx1 v_0 t6 p_7 x14 w13))
def quf.l1(v_0:Int)(t6:Addr)(p_7:Addr)(k_8:Int)(Q:VWP)(w:World):Prop:=∃(I:Int->WP) (μ:Int->World->Nat),I k_8 w/\∀k_8:Int,∀w:World,I k_8 w->quf.b1 v_0 t6 p_7 k_8 Q (λv_0' t6' p_7' k_8' w'=>(v_0'=v_0/\t6'=t6/\p_7'=p_7)/\I k_8' w'/\μ k_8' w'<μ k_8 w) w
def quf.j2(v_0:Int)(t6:Addr)(p_7:Addr)(k_8:Int)(Q:VWP)(w:World):Prop:=quf.l1 v_0 t6 p_7 k_8 Q w
def quf.j1(v_0 from_1:Int)(t6:Addr)(Q:VWP)(w:World):Prop:=nw w (zc prog 146) 146 λa15 w16=>((⟨[.int .i64 0,.int .i64 0,.int .i64 0]⟩:Array Value)).size=3/\stA w16 a15 (⟨[.int .i64 0,.int .i64 0,.int .i64 0]⟩:Array Value) λw17=>quf.j2 v_0 t6 a15 from_1 Q w17
def quf(v_0 from_1:Int)(Q:VWP)(w:World):Prop:=nw w (zc prog 146) 146 λa18 w19=>quf.j1 v_0 from_1 a18 Q w19
theorem quf.ok(v_0:Int)(from_1:Int)(Q:VWP)(w:World)(h:quf v_0 from_1 Q w):Calls prog 118 ⟨[.int .i64 v_0,.int .i64 from_1,.func (.func 120) ⟨[]⟩ ⟨[]⟩]⟩ w (Ret Q):=
 qhc [.cell 6 146] qhe Tryz.func118 rfl rfl rfl rfl (.sq [sI 0,sI 1,(2,.c0 120),sA 6] (λa b _ c w=>quf.j1 a b c Q w) .lf (.pr 1 [sI 0,(2,.c0 120),sA 6,sA 7,sI 8] (λa _ b c d w=>quf.j2 a b c d Q w) (.bk (.lo [sI 0,(2,.c0 120),sA 6,sA 7] [sI 8] (λa _ b c d w=>quf.l1 a b c d Q w) (λnx1 a _ b c d w=>quf.b1 a b c d Q (λx0 x6 x7 x8 w=>nx1 x0 () x6 x7 x8 w) w) λnx1=> .lf)))) (by kernel_rfl) h
def qzk(t_0:(Array Value))(Q:VWP)(w:World):Prop:=nw w t_0 144 λa1 w2=>nw w2 (zc prog 146) 146 λa3 w4=>nw w4 (zc prog 146) 146 λa5 w6=>ldI .i64 w6 (Addr.add a1 1) λx7=>br (x7==0) (ldI .u8 w6 (Addr.add a1 0) λx8=>lt (i64.wrap x8) λx9=>((⟨[.int .i64 x9,.int .i64 0,.int .i64 0]⟩:Array Value)).size=3/\stA w6 a3 (⟨[.int .i64 x9,.int .i64 0,.int .i64 0]⟩:Array Value) λw10=>((⟨[.int .i64 0,.int .i64 0,.int .i64 0]⟩:Array Value)).size=3/\stA w10 a5 (⟨[.int .i64 0,.int .i64 0,.int .i64 0]⟩:Array Value) λw11=>ldA w11 a3 3 λc12=>ldA w11 a5 3 λc13=>Q (.tuple ⟨[.agg c12,.agg c13,.bool false]⟩) w11) (lt (World.drew w6) λw14=>ldI .i64 w14 (Addr.add a1 1) λx15=>(qov 118 [.int .i64 x15,.int .i64 257,.func (.func 119) ⟨[]⟩ ⟨[]⟩] w14 λr18 w17=>ldI .i64 w17 (Addr.add a1 2) λx19=>qov 118 [.int .i64 x19,.int .i64 0,.func (.func 120) ⟨[]⟩ ⟨[]⟩] w17 λr22 w21=>(r18).size=3/\stA w21 a3 r18 λw23=>(r22).size=3/\stA w23 a5 r22 λw24=>ldA w24 a3 3 λc25=>ldA w24 a5 3 λc26=>Q (.tuple ⟨[.agg c25,.agg c26,.bool true]⟩) w24)/\(ldI .i64 w14 (Addr.add a1 2) λx27=>qov 118 [.int .i64 x15,.int .i64 257,.func (.func 119) ⟨[]⟩ ⟨[]⟩] w14 λr30 w29=>qov 118 [.int .i64 x27,.int .i64 0,.func (.func 120) ⟨[]⟩ ⟨[]⟩] w29 λr33 w32=>(r30).size=3/\stA w32 a3 r30 λw34=>(r33).size=3/\stA w34 a5 r33 λw35=>ldA w35 a3 3 λc36=>ldA w35 a5 3 λc37=>Q (.tuple ⟨[.agg c36,.agg c37,.bool true]⟩) w35))
theorem qzk.ok(t_0:(Array Value))(Q:VWP)(w:World)(h:qzk t_0 Q w):Calls prog 90 ⟨[.agg t_0]⟩ w (Ret Q):=
 qhc [.cell 2 146,.cell 3 146,.tmp 4] qhe Tryz.func90 rfl rfl rfl rfl .lf (by kernel_rfl) h
def qbe.j2(k_3:OAd)(Q:VWP)(w:World):Prop:=nz k_3 λa1=>ldL w (Addr.add a1 1) λx2=>ixS x2.a x2.len 256 1 λa3=>ldI .i64 w a3 λx4=>lt (i64.wrap (x4+1)) λx5=>ixS x2.a x2.len 256 1 λa6=>st w a6 (.int .i64 x5) λw7=>Q (.pointer k_3) w7
def qbe.b1(k_3:OAd)(t14:Sl)(t15 t16:Int)(Q:VWP)(nx1:OAd->Sl->Int->Int->WP)(w:World):Prop:=br (decide (t16<t15)) (ixS t14.a t14.len t16 3 λa8=>ldA w a8 3 λc9=>nw w (zc prog 144) 144 λa10 w11=>(c9).size=3/\stA w11 a10 c9 λw12=>ldA w12 a10 3 λc13=>Calls prog 90 ⟨[.agg c13]⟩ w12 λe14 w15=>∃r16:(Array Value),∃r17:(Array Value),∃r18:Bool,e14= .returned (.tuple ⟨[.agg r16,.agg r17,.bool r18]⟩)/\nw w15 (zc prog 146) 146 λa19 w20=>nw w20 (zc prog 146) 146 λa21 w22=>(r16).size=3/\stA w22 a19 r16 λw23=>(r17).size=3/\stA w23 a21 r17 λw24=>lt (World.drew w24) λw25=>nz k_3 λa26=>ldL w25 (Addr.add a26 1) λx27=>ldI .i64 w25 (Addr.add a19 0) λx28=>ixS x27.a x27.len x28 1 λa29=>ldI .i64 w25 a29 λx30=>lt (i64.wrap (x30+1)) λx31=>ixS x27.a x27.len x28 1 λa32=>st w25 a32 (.int .i64 x31) λw33=>br r18 (lt (World.drew w33) λw34=>nz k_3 λa35=>ldL w34 (Addr.add a35 2) λx36=>ldI .i64 w34 (Addr.add a21 0) λx37=>ixS x36.a x36.len x37 1 λa38=>ldI .i64 w34 a38 λx39=>lt (i64.wrap (x39+1)) λx40=>ixS x36.a x36.len x37 1 λa41=>st w34 a41 (.int .i64 x40) λw42=>lt (i64.wrap (t16+1)) λx43=>nx1 k_3 t14 t15 x43 w42) (lt (i64.wrap (t16+1)) λx44=>nx1 k_3 t14 t15 x44 w33)) (qbe.j2 k_3 Q w)
def qbe.l1(k_3:OAd)(t14:Sl)(t15 t16:Int)(Q:VWP)(w:World):Prop:=∃(I:Int->WP) (μ:Int->World->Nat),I t16 w/\∀t16:Int,∀w:World,I t16 w->qbe.b1 k_3 t14 t15 t16 Q (λk_3' t14' t15' t16' w'=>(k_3'=k_3/\t14'=t14/\t15'=t15)/\I t16' w'/\μ t16' w'<μ t16 w) w
def qbe.j3(k_3:OAd)(t14:Sl)(t15 t16:Int)(Q:VWP)(w:World):Prop:=qbe.l1 k_3 t14 t15 t16 Q w
def qbe.j1(l_0:Sl)(k_3:OAd)(Q:VWP)(w:World):Prop:=qbe.j3 k_3 l_0 (l_0.len:Int) 0 Q w
def qbe(l_0:Sl)(Q:VWP)(w:World):Prop:=lt (World.drew w) λw45=>(mkK prog 3 w45 286 286 λs46 w47=>mkK prog 3 w47 30 30 λs48 w49=>nw w49 (⟨[sV l_0,sV s46,sV s48]⟩:Array Value) 142 λa50 w51=>qbe.j1 l_0 (some a50) Q w51)/\(mkK prog 3 w45 30 30 λs52 w53=>mkK prog 3 w53 286 286 λs54 w55=>nw w55 (⟨[sV l_0,sV s54,sV s52]⟩:Array Value) 142 λa56 w57=>qbe.j1 l_0 (some a56) Q w57)
theorem qbe.ok(l_0:Sl)(Q:VWP)(w:World)(h:qbe l_0 Q w):Calls prog 76 ⟨[sV l_0]⟩ w (Ret Q):=
 qhc [.tmp 2] qhe Tryz.func76 rfl rfl rfl rfl (.pr 1 [sL 0,sP 3] (λa b w=>qbe.j1 a b Q w) (.sq [sP 3] (λa w=>qbe.j2 a Q w) (.sq [sP 3,sL 14,sI 15,sI 16] (λa b c d w=>qbe.j3 a b c d Q w) .lf (.bk (.lo [sP 3,sL 14,sI 15] [sI 16] (λa b c d w=>qbe.l1 a b c d Q w) (λnx1 a b c d w=>qbe.b1 a b c d Q nx1 w) λnx1=> .lf))) .lf)) (by kernel_rfl) h
def qyc.j1(w_1 lit_2:OAd)(Q:VWP)(w:World):Prop:=qvz 107 [.pointer lit_2,.pointer w_1,.int .i64 256] w λr3 w2=>Q (.tuple ⟨[]⟩) w2
def qyc.b1(w_1 lit_2 dist_3:OAd)(t16:Sl)(t17 t18:Int)(Q:VWP)(nx1:OAd->OAd->OAd->Sl->Int->Int->WP)(w:World):Prop:=br (decide (t18<t17)) (ixS t16.a t16.len t18 3 λa4=>ldA w a4 3 λc5=>nw w (zc prog 144) 144 λa6 w7=>(c5).size=3/\stA w7 a6 c5 λw8=>ldA w8 a6 3 λc9=>Calls prog 90 ⟨[.agg c9]⟩ w8 λe10 w11=>∃r12:(Array Value),∃r13:(Array Value),∃r14:Bool,e10= .returned (.tuple ⟨[.agg r12,.agg r13,.bool r14]⟩)/\nw w11 (zc prog 146) 146 λa15 w16=>nw w16 (zc prog 146) 146 λa17 w18=>(r12).size=3/\stA w18 a15 r12 λw19=>(r13).size=3/\stA w19 a17 r13 λw20=>ldI .i64 w20 (Addr.add a15 0) λx21=>qvz 107 [.pointer lit_2,.pointer w_1,.int .i64 x21] w20 λr24 w23=>br r14 (ldI .i64 w23 (Addr.add a15 1) λx25=>ldI .i64 w23 (Addr.add a15 2) λx26=>ct_ 95 [.pointer w_1,.int .i64 x25,.int .i64 x26] w23 λw28=>ldI .i64 w28 (Addr.add a17 0) λx29=>qvz 107 [.pointer dist_3,.pointer w_1,.int .i64 x29] w28 λr32 w31=>ldI .i64 w31 (Addr.add a17 1) λx33=>ldI .i64 w31 (Addr.add a17 2) λx34=>ct_ 95 [.pointer w_1,.int .i64 x33,.int .i64 x34] w31 λw36=>lt (i64.wrap (t18+1)) λx37=>nx1 w_1 lit_2 dist_3 t16 t17 x37 w36) (lt (i64.wrap (t18+1)) λx38=>nx1 w_1 lit_2 dist_3 t16 t17 x38 w23)) (qyc.j1 w_1 lit_2 Q w)
def qyc.l1(w_1 lit_2 dist_3:OAd)(t16:Sl)(t17 t18:Int)(Q:VWP)(w:World):Prop:=∃(I:Int->WP) (μ:Int->World->Nat),I t18 w/\∀t18:Int,∀w:World,I t18 w->qyc.b1 w_1 lit_2 dist_3 t16 t17 t18 Q (λw_1' lit_2' dist_3' t16' t17' t18' w'=>(w_1'=w_1/\lit_2'=lit_2/\dist_3'=dist_3/\t16'=t16/\t17'=t17)/\I t18' w'/\μ t18' w'<μ t18 w) w
def qyc.j2(w_1 lit_2 dist_3:OAd)(t16:Sl)(t17 t18:Int)(Q:VWP)(w:World):Prop:=qyc.l1 w_1 lit_2 dist_3 t16 t17 t18 Q w
def qyc(k_0 w_1 lit_2 dist_3:OAd)(Q:VWP)(w:World):Prop:=nz k_0 λa39=>ldL w (Addr.add a39 0) λx40=>qyc.j2 w_1 lit_2 dist_3 x40 (x40.len:Int) 0 Q w
theorem qyc.ok(k_0:OAd)(w_1:OAd)(lit_2:OAd)(dist_3:OAd)(Q:VWP)(w:World)(h:qyc k_0 w_1 lit_2 dist_3 Q w):Calls prog 101 ⟨[.pointer k_0,.pointer w_1,.pointer lit_2,.pointer dist_3]⟩ w (Ret Q):=
 qhc [] qhe Tryz.func101 rfl rfl rfl rfl (.sq [sP 1,sP 2] (λa b w=>qyc.j1 a b Q w) (.sq [sP 1,sP 2,sP 3,sL 16,sI 17,sI 18] (λa b c d e f w=>qyc.j2 a b c d e f Q w) .lf (.bk (.lo [sP 1,sP 2,sP 3,sL 16,sI 17] [sI 18] (λa b c d e f w=>qyc.l1 a b c d e f Q w) (λnx1 a b c d e f w=>qyc.b1 a b c d e f Q nx1 w) λnx1=> .lf))) .lf) (by kernel_rfl) h
def qjh(k_0:OAd)(Q:VWP)(w:World):Prop:=qvhb 94 [] w λr3 w2=>ct_ 95 [.pointer r3,.int .i64 3,.int .i64 3] w2 λw5=>qamb 99 [] w5 λr8 r9 w7=>qlz 100 [sV r8,.bool true] w7 λr12 r13 w11=>qlz 100 [sV r9,.bool true] w11 λr16 r17 w15=>ct_ 101 [.pointer k_0,.pointer r3,.pointer r12,.pointer r16] w15 λw19=>qtj 98 [.pointer r3] w19 λr22 w21=>Q (sV r22) w21
theorem qjh.ok(k_0:OAd)(Q:VWP)(w:World)(h:qjh k_0 Q w):Calls prog 79 ⟨[.pointer k_0]⟩ w (Ret Q):=
 qhc [.tmp 2] qhe Tryz.func79 rfl rfl rfl rfl .lf (by kernel_rfl) h
def qpb.j2(out_3:Sl)(Q:VWP)(w:World):Prop:=Q (sV out_3) w
def qpb.j7(l_0 out_3:Sl)(i_4:Int)(n_5:Int)(Q:VWP)(nx1:Sl->Sl->Int->WP)(w:World):Prop:=lt (i64.wrap (i_4+n_5)) λx1=>nx1 l_0 out_3 x1 w
def qpb.j10(l_0 out_3:Sl)(i_4:Int)(n_5:Int)(t73:Bool)(Q:VWP)(nx1:Sl->Sl->Int->WP)(w:World):Prop:=
 br t73 (
 lt (if(6:Int)<n_5 then 6 else n_5) λx15=>
 lt (i64.wrap (x15-3)) λx16=>
 ((⟨[.int .i64 16,.int .i64 x16,.int .i64 2]⟩:Array Value)).size=3/\
 nw w ⟨(spl [.int .i64 0,.int .i64 0,.int .i64 0] 0 (⟨[.int .i64 16,.int .i64 x16,.int .i64 2]⟩:Array Value))⟩ 146 λa17 w18=>
 rdO w18 (some a17) (1*3) λc19=>
 apK prog 146 w18 out_3.a out_3.len out_3.cap 1 c19 λs20 w21=>
 qpb.j7 l_0 s20 i_4 x15 Q nx1 w21) (
 ixS l_0.a l_0.len i_4 1 λa22=>
 ldI .i64 w a22 λx23=>
 ((⟨[.int .i64 x23,.int .i64 0,.int .i64 0]⟩:Array Value)).size=3/\
 nw w ⟨(spl [.int .i64 0,.int .i64 0,.int .i64 0] 0 (⟨[.int .i64 x23,.int .i64 0,.int .i64 0]⟩:Array Value))⟩ 146 λa24 w25=>
 rdO w25 (some a24) (1*3) λc26=>
 apK prog 146 w25 out_3.a out_3.len out_3.cap 1 c26 λs27 w28=>
 qpb.j7 l_0 s27 i_4 1 Q nx1 w28)
def qpb.j9(l_0 out_3:Sl)(i_4:Int)(n_5:Int)(t57:Bool)(Q:VWP)(nx1:Sl->Sl->Int->WP)(w:World):Prop:=br t57 (lt (i64.wrap (n_5-3)) λx9=>((⟨[.int .i64 17,.int .i64 x9,.int .i64 3]⟩:Array Value)).size=3/\nw w ⟨(spl [.int .i64 0,.int .i64 0,.int .i64 0] 0 (⟨[.int .i64 17,.int .i64 x9,.int .i64 3]⟩:Array Value))⟩ 146 λa10 w11=>rdO w11 (some a10) (1*3) λc12=>apK prog 146 w11 out_3.a out_3.len out_3.cap 1 c12 λs13 w14=>qpb.j7 l_0 s13 i_4 n_5 Q nx1 w14) (lt (World.drew w) λw29=>br (decide (i_4>0)) (ixS l_0.a l_0.len i_4 1 λa30=>ldI .i64 w29 a30 λx31=>lt (i64.wrap (i_4-1)) λx32=>ixS l_0.a l_0.len x32 1 λa33=>ldI .i64 w29 a33 λx34=>br (x31==x34) (qpb.j10 l_0 out_3 i_4 n_5 (decide (n_5>=3)) Q nx1 w29) (qpb.j10 l_0 out_3 i_4 n_5 false Q nx1 w29)) (qpb.j10 l_0 out_3 i_4 n_5 false Q nx1 w29))
def qpb.j8(l_0 out_3:Sl)(i_4:Int)(n_5:Int)(t39:Bool)(Q:VWP)(nx1:Sl->Sl->Int->WP)(w:World):Prop:=
 br t39 (
 lt (if(138:Int)<n_5 then 138 else n_5) λx2=>
 lt (i64.wrap (x2-11)) λx3=>
 ((⟨[.int .i64 18,.int .i64 x3,.int .i64 7]⟩:Array Value)).size=3/\
 nw w ⟨(spl [.int .i64 0,.int .i64 0,.int .i64 0] 0 (⟨[.int .i64 18,.int .i64 x3,.int .i64 7]⟩:Array Value))⟩ 146 λa4 w5=>
 rdO w5 (some a4) (1*3) λc6=>
 apK prog 146 w5 out_3.a out_3.len out_3.cap 1 c6 λs7 w8=>
 qpb.j7 l_0 s7 i_4 x2 Q nx1 w8) (
 ixS l_0.a l_0.len i_4 1 λa35=>
 ldI .i64 w a35 λx36=>
 br (x36==0) (
 qpb.j9 l_0 out_3 i_4 n_5 (decide (n_5>=3)) Q nx1 w) (
 qpb.j9 l_0 out_3 i_4 n_5 false Q nx1 w))
def qpb.j6(l_0 out_3:Sl)(i_4:Int)(n_5:Int)(Q:VWP)(nx1:Sl->Sl->Int->WP)(w:World):Prop:=ixS l_0.a l_0.len i_4 1 λa37=>ldI .i64 w a37 λx38=>br (x38==0) (qpb.j8 l_0 out_3 i_4 n_5 (decide (n_5>=11)) Q nx1 w) (qpb.j8 l_0 out_3 i_4 n_5 false Q nx1 w)
def qpb.b2(l_0 out_3:Sl)(i_4:Int)(n_5:Int)(Q:VWP)(nx1:Sl->Sl->Int->WP)(nx2:Sl->Sl->Int->Int->WP)(w:World):Prop:=lt (World.drew w) λw39=>lt (i64.wrap (i_4+n_5)) λx40=>br (decide (x40<(l_0.len:Int))) (lt (i64.wrap (i_4+n_5)) λx41=>ixS l_0.a l_0.len x41 1 λa42=>ldI .i64 w39 a42 λx43=>ixS l_0.a l_0.len i_4 1 λa44=>ldI .i64 w39 a44 λx45=>br (x43==x45) (lt (i64.wrap (n_5+1)) λx46=>nx2 l_0 out_3 i_4 x46 w39) (qpb.j6 l_0 out_3 i_4 n_5 Q nx1 w39)) (qpb.j6 l_0 out_3 i_4 n_5 Q nx1 w39)
def qpb.l2(l_0 out_3:Sl)(i_4:Int)(n_5:Int)(Q:VWP)(nx1:Sl->Sl->Int->WP)(w:World):Prop:=∃(I:Int->WP) (μ:Int->World->Nat),I n_5 w/\∀n_5:Int,∀w:World,I n_5 w->qpb.b2 l_0 out_3 i_4 n_5 Q nx1 (λl_0' out_3' i_4' n_5' w'=>(l_0'=l_0/\out_3'=out_3/\i_4'=i_4)/\I n_5' w'/\μ n_5' w'<μ n_5 w) w
def qpb.j5(l_0 out_3:Sl)(i_4:Int)(n_5:Int)(Q:VWP)(nx1:Sl->Sl->Int->WP)(w:World):Prop:=qpb.l2 l_0 out_3 i_4 n_5 Q nx1 w
def qpb.j4(l_0 out_3:Sl)(i_4:Int)(Q:VWP)(nx1:Sl->Sl->Int->WP)(w:World):Prop:=qpb.j5 l_0 out_3 i_4 1 Q nx1 w
def qpb.b1(l_0 out_3:Sl)(i_4:Int)(Q:VWP)(nx1:Sl->Sl->Int->WP)(w:World):Prop:=br (decide (i_4<(l_0.len:Int))) (qpb.j4 l_0 out_3 i_4 Q nx1 w) (qpb.j2 out_3 Q w)
def qpb.l1(l_0 out_3:Sl)(i_4:Int)(Q:VWP)(w:World):Prop:=∃(I:Sl->Int->WP) (μ:Sl->Int->World->Nat),I out_3 i_4 w/\∀out_3:Sl,∀i_4:Int,∀w:World,I out_3 i_4 w->qpb.b1 l_0 out_3 i_4 Q (λl_0' out_3' i_4' w'=>(l_0'=l_0)/\I out_3' i_4' w'/\μ out_3' i_4' w'<μ out_3 i_4 w) w
def qpb.j3(l_0 out_3:Sl)(i_4:Int)(Q:VWP)(w:World):Prop:=qpb.l1 l_0 out_3 i_4 Q w
def qpb.j1(l_0 out_3:Sl)(Q:VWP)(w:World):Prop:=qpb.j3 l_0 out_3 0 Q w
def qpb(l_0:Sl)(Q:VWP)(w:World):Prop:=qpb.j1 l_0 ⟨none,0,0⟩ Q w
theorem qpb.ok(l_0:Sl)(Q:VWP)(w:World)(h:qpb l_0 Q w):Calls prog 104 ⟨[sV l_0]⟩ w (Ret Q):=
 qhc [.tmp 2] qhe Tryz.func104 rfl rfl rfl rfl (.pr 1 [sL 0,sL 3] (λa b w=>qpb.j1 a b Q w) (.sq [sL 3] (λa w=>qpb.j2 a Q w) (.sq [sL 0,sL 3,sI 4] (λa b c w=>qpb.j3 a b c Q w) .lf (.bk (.lo [sL 0] [sL 3,sI 4] (λa b c w=>qpb.l1 a b c Q w) (λnx1 a b c w=>qpb.b1 a b c Q nx1 w) λnx1=>(.sq [sL 0,sL 3,sI 4] (λa b c w=>qpb.j4 a b c Q nx1 w) .lf (.bk (.sq [sL 0,sL 3,sI 4,sI 5] (λa b c d w=>qpb.j5 a b c d Q nx1 w) .lf (.sq [sL 0,sL 3,sI 4,sI 5] (λa b c d w=>qpb.j6 a b c d Q nx1 w) (.bk (.lo [sL 0,sL 3,sI 4] [sI 5] (λa b c d w=>qpb.l2 a b c d Q nx1 w) (λnx2 a b c d w=>qpb.b2 a b c d Q nx1 nx2 w) λnx2=> .lf)) (.sq [sL 0,sL 3,sI 4,sI 5] (λa b c d w=>qpb.j7 a b c d Q nx1 w) (.bk (.sq [sL 0,sL 3,sI 4,sI 5,sB 39] (λa b c d e w=>qpb.j8 a b c d e Q nx1 w) .lf (.cd .lf (.sq [sL 0,sL 3,sI 4,sI 5,sB 57] (λa b c d e w=>qpb.j9 a b c d e Q nx1 w) .lf (.cd .lf (.sq [sL 0,sL 3,sI 4,sI 5,sB 73] (λa b c d e w=>qpb.j10 a b c d e Q nx1 w) .lf .lf)))))) .lf)))))))) .lf)) (by kernel_rfl) h
def qte.j2(l_0:Sl)(Q:VWP)(w:World):Prop:=Q (sV l_0) w
def qte.b1(least_1:Int)(l_0:Sl)(Q:VWP)(nx1:Int->Sl->WP)(w:World):Prop:=br (decide ((l_0.len:Int)>least_1)) (lt (i64.wrap ((l_0.len:Int)-1)) λx1=>ixS l_0.a l_0.len x1 1 λa2=>ldI .i64 w a2 λx3=>br (x3==0) (lt (i64.wrap ((l_0.len:Int)-1)) λx4=>bd x4 l_0.cap λn5=>lt (⟨qpf l_0.a l_0.cap 0 1,n5-0,l_0.cap-0⟩:Sl) λs6=>nx1 least_1 s6 w) (qte.j2 l_0 Q w)) (qte.j2 l_0 Q w)
def qte.l1(least_1:Int)(l_0:Sl)(Q:VWP)(w:World):Prop:=∃(I:Sl->WP) (μ:Sl->World->Nat),I l_0 w/\∀l_0:Sl,∀w:World,I l_0 w->qte.b1 least_1 l_0 Q (λleast_1' l_0' w'=>(least_1'=least_1)/\I l_0' w'/\μ l_0' w'<μ l_0 w) w
def qte.j1(l_0:Sl)(least_1:Int)(Q:VWP)(w:World):Prop:=qte.l1 least_1 l_0 Q w
def qte(l_0:Sl)(least_1:Int)(Q:VWP)(w:World):Prop:=qte.j1 l_0 least_1 Q w
theorem qte.ok(l_0:Sl)(least_1:Int)(Q:VWP)(w:World)(h:qte l_0 least_1 Q w):Calls prog 103 ⟨[sV l_0,.int .i64 least_1]⟩ w (Ret Q):=
 qhc [.tmp 4] qhe Tryz.func103 rfl rfl rfl rfl (.sq [sL 0,sI 1] (λa b w=>qte.j1 a b Q w) .lf (.sq [sL 0] (λa w=>qte.j2 a Q w) (.bk (.lo [sI 1] [sL 0] (λa b w=>qte.l1 a b Q w) (λnx1 a b w=>qte.b1 a b Q nx1 w) λnx1=> .lf)) .lf)) (by kernel_rfl) h
def qnc.j3(m_3:Int)(Q:VWP)(w:World):Prop:=Q (.int .i64 m_3) w
def qnc.b1(x_0:Sl)(m_3:Int)(i_4:Int)(Q:VWP)(nx1:Sl->Int->Int->WP)(w:World):Prop:=
 br (decide (i_4<(x_0.len:Int))) (
 ixS x_0.a x_0.len i_4 1 λa1=>
 ldI .i64 w a1 λx2=>
 lt (if(x2:Int)>m_3 then x2 else m_3) λx3=>
 lt (i64.wrap (i_4+1)) λx4=>
 nx1 x_0 x3 x4 w) (
 qnc.j3 m_3 Q w)
def qnc.l1(x_0:Sl)(m_3:Int)(i_4:Int)(Q:VWP)(w:World):Prop:=∃(I:Int->Int->WP) (μ:Int->Int->World->Nat),I m_3 i_4 w/\∀m_3:Int,∀i_4:Int,∀w:World,I m_3 i_4 w->qnc.b1 x_0 m_3 i_4 Q (λx_0' m_3' i_4' w'=>(x_0'=x_0)/\I m_3' i_4' w'/\μ m_3' i_4' w'<μ m_3 i_4 w) w
def qnc.j4(x_0:Sl)(m_3:Int)(i_4:Int)(Q:VWP)(w:World):Prop:=qnc.l1 x_0 m_3 i_4 Q w
def qnc.j2(x_0:Sl)(m_3:Int)(Q:VWP)(w:World):Prop:=qnc.j4 x_0 m_3 1 Q w
def qnc.j1(x_0:Sl)(Q:VWP)(w:World):Prop:=br (decide ((x_0.len:Int)<1)) (False) (ixS x_0.a x_0.len 0 1 λa5=>ldI .i64 w a5 λx6=>qnc.j2 x_0 x6 Q w)
def qnc(x_0:Sl)(Q:VWP)(w:World):Prop:=qnc.j1 x_0 Q w
theorem qnc.ok(x_0:Sl)(Q:VWP)(w:World)(h:qnc x_0 Q w):Calls prog 106 ⟨[sV x_0]⟩ w (Ret Q):=
 qhc [.tmp 2] qhe Tryz.func106 rfl rfl rfl rfl (.sq [sL 0] (λa w=>qnc.j1 a Q w) .lf (.pr 1 [sL 0,sI 3] (λa b w=>qnc.j2 a b Q w) (.sq [sI 3] (λa w=>qnc.j3 a Q w) (.sq [sL 0,sI 3,sI 4] (λa b c w=>qnc.j4 a b c Q w) .lf (.bk (.lo [sL 0] [sI 3,sI 4] (λa b c w=>qnc.l1 a b c Q w) (λnx1 a b c w=>qnc.b1 a b c Q nx1 w) λnx1=> .lf))) .lf))) (by kernel_rfl) h
def qc.j14(k_0 lit_7 dist_9 w_21:OAd)(Q:VWP)(w:World):Prop:=ct_ 101 [.pointer k_0,.pointer w_21,.pointer lit_7,.pointer dist_9] w λw2=>qtj 98 [.pointer w_21] w2 λr5 w4=>Q (sV r5) w4
def qc.b1(k_0 lit_7 dist_9 code_17 w_21:OAd)(t153:Sl)(t154 t155:Int)(Q:VWP)(nx1:OAd->OAd->OAd->OAd->OAd->Sl->Int->Int->WP)(w:World):Prop:=br (decide (t155<t154)) (ixS t153.a t153.len t155 3 λa6=>ldA w a6 3 λc7=>nw w (zc prog 146) 146 λa8 w9=>(c7).size=3/\stA w9 a8 c7 λw10=>ldI .i64 w10 (Addr.add a8 0) λx11=>qvz 107 [.pointer code_17,.pointer w_21,.int .i64 x11] w10 λr14 w13=>ldI .i64 w13 (Addr.add a8 1) λx15=>ldI .i64 w13 (Addr.add a8 2) λx16=>ct_ 95 [.pointer w_21,.int .i64 x15,.int .i64 x16] w13 λw18=>lt (i64.wrap (t155+1)) λx19=>nx1 k_0 lit_7 dist_9 code_17 w_21 t153 t154 x19 w18) (qc.j14 k_0 lit_7 dist_9 w_21 Q w)
def qc.l1(k_0 lit_7 dist_9 code_17 w_21:OAd)(t153:Sl)(t154 t155:Int)(Q:VWP)(w:World):Prop:=∃(I:Int->WP) (μ:Int->World->Nat),I t155 w/\∀t155:Int,∀w:World,I t155 w->qc.b1 k_0 lit_7 dist_9 code_17 w_21 t153 t154 t155 Q (λk_0' lit_7' dist_9' code_17' w_21' t153' t154' t155' w'=>(k_0'=k_0/\lit_7'=lit_7/\dist_9'=dist_9/\code_17'=code_17/\w_21'=w_21/\t153'=t153/\t154'=t154)/\I t155' w'/\μ t155' w'<μ t155 w) w
def qc.j15(k_0 lit_7 dist_9 code_17 w_21:OAd)(t153:Sl)(t154 t155:Int)(Q:VWP)(w:World):Prop:=qc.l1 k_0 lit_7 dist_9 code_17 w_21 t153 t154 t155 Q w
def qc.j13(k_0 lit_7 dist_9:OAd)(l_11:Sl)(code_17 w_21:OAd)(Q:VWP)(w:World):Prop:=qc.j15 k_0 lit_7 dist_9 code_17 w_21 l_11 (l_11.len:Int) 0 Q w
def qc.b2(k_0 lit_7 dist_9:OAd)(l_11:Sl)(cl_15:Sl)(code_17:OAd)(w_21:OAd)(t140:Sl)(t141 t142:Int)(Q:VWP)(nx2:OAd->OAd->OAd->Sl->Sl->OAd->OAd->Sl->Int->Int->WP)(w:World):Prop:=br (decide (t142<t141)) (ixS t140.a t140.len t142 1 λa20=>ldI .i64 w a20 λx21=>ixS cl_15.a cl_15.len x21 1 λa22=>ldI .i64 w a22 λx23=>ct_ 95 [.pointer w_21,.int .i64 x23,.int .i64 3] w λw25=>lt (i64.wrap (t142+1)) λx26=>nx2 k_0 lit_7 dist_9 l_11 cl_15 code_17 w_21 t140 t141 x26 w25) (qc.j13 k_0 lit_7 dist_9 l_11 code_17 w_21 Q w)
def qc.l2(k_0 lit_7 dist_9:OAd)(l_11:Sl)(cl_15:Sl)(code_17:OAd)(w_21:OAd)(t140:Sl)(t141 t142:Int)(Q:VWP)(w:World):Prop:=∃(I:Int->WP) (μ:Int->World->Nat),I t142 w/\∀t142:Int,∀w:World,I t142 w->qc.b2 k_0 lit_7 dist_9 l_11 cl_15 code_17 w_21 t140 t141 t142 Q (λk_0' lit_7' dist_9' l_11' cl_15' code_17' w_21' t140' t141' t142' w'=>(k_0'=k_0/\lit_7'=lit_7/\dist_9'=dist_9/\l_11'=l_11/\cl_15'=cl_15/\code_17'=code_17/\w_21'=w_21/\t140'=t140/\t141'=t141)/\I t142' w'/\μ t142' w'<μ t142 w) w
def qc.j16(k_0 lit_7 dist_9:OAd)(l_11:Sl)(cl_15:Sl)(code_17:OAd)(w_21:OAd)(t140:Sl)(t141 t142:Int)(Q:VWP)(w:World):Prop:=qc.l2 k_0 lit_7 dist_9 l_11 cl_15 code_17 w_21 t140 t141 t142 Q w
def qc.j12(k_0 lit_7 dist_9:OAd)(l_11:Sl)(cl_15:Sl)(code_17:OAd)(order_19:Sl)(n_20:Int)(w_21:OAd)(Q:VWP)(w:World):Prop:=bd n_20 order_19.cap λn27=>lt (⟨qpf order_19.a order_19.cap 0 1,n27-0,order_19.cap-0⟩:Sl) λs28=>qc.j16 k_0 lit_7 dist_9 l_11 cl_15 code_17 w_21 s28 (s28.len:Int) 0 Q w
def qc.j11(k_0:OAd)(b_5:Sl)(lit_7 dist_9:OAd)(l_11:Sl)(cl_15:Sl)(code_17:OAd)(order_19:Sl)(n_20:Int)(w_21:OAd)(Q:VWP)(w:World):Prop:=lt (i64.wrap ((b_5.len:Int)-1)) λx29=>ct_ 95 [.pointer w_21,.int .i64 x29,.int .i64 5] w λw31=>lt (i64.wrap (n_20-4)) λx32=>ct_ 95 [.pointer w_21,.int .i64 x32,.int .i64 4] w31 λw34=>qc.j12 k_0 lit_7 dist_9 l_11 cl_15 code_17 order_19 n_20 w_21 Q w34
def qc.j10(k_0:OAd)(a_3:Sl)(b_5:Sl)(lit_7:OAd)(dist_9:OAd)(l_11:Sl)(cl_15:Sl)(code_17:OAd)(order_19:Sl)(n_20:Int)(w_21:OAd)(Q:VWP)(w:World):Prop:=ct_ 95 [.pointer w_21,.int .i64 5,.int .i64 3] w λw36=>lt (i64.wrap ((a_3.len:Int)-256)) λx37=>lt (i64.wrap (x37-1)) λx38=>ct_ 95 [.pointer w_21,.int .i64 x38,.int .i64 5] w36 λw40=>qc.j11 k_0 b_5 lit_7 dist_9 l_11 cl_15 code_17 order_19 n_20 w_21 Q w40
def qc.j9(k_0:OAd)(a_3:Sl)(b_5:Sl)(lit_7:OAd)(dist_9:OAd)(l_11:Sl)(cl_15:Sl)(code_17:OAd)(order_19:Sl)(n_20:Int)(Q:VWP)(w:World):Prop:=qvhb 94 [] w λr43 w42=>qc.j10 k_0 a_3 b_5 lit_7 dist_9 l_11 cl_15 code_17 order_19 n_20 r43 Q w42
def qc.b3(k_0:OAd)(a_3:Sl)(b_5:Sl)(lit_7:OAd)(dist_9:OAd)(l_11:Sl)(cl_15:Sl)(code_17:OAd)(order_19:Sl)(n_20:Int)(Q:VWP)(nx3:OAd->Sl->Sl->OAd->OAd->Sl->Sl->OAd->Sl->Int->WP)(w:World):Prop:=br (decide (n_20>4)) (lt (i64.wrap (n_20-1)) λx44=>ixS order_19.a order_19.len x44 1 λa45=>ldI .i64 w a45 λx46=>ixS cl_15.a cl_15.len x46 1 λa47=>ldI .i64 w a47 λx48=>br (x48==0) (lt (i64.wrap (n_20-1)) λx49=>nx3 k_0 a_3 b_5 lit_7 dist_9 l_11 cl_15 code_17 order_19 x49 w) (qc.j9 k_0 a_3 b_5 lit_7 dist_9 l_11 cl_15 code_17 order_19 n_20 Q w)) (qc.j9 k_0 a_3 b_5 lit_7 dist_9 l_11 cl_15 code_17 order_19 n_20 Q w)
def qc.l3(k_0:OAd)(a_3:Sl)(b_5:Sl)(lit_7:OAd)(dist_9:OAd)(l_11:Sl)(cl_15:Sl)(code_17:OAd)(order_19:Sl)(n_20:Int)(Q:VWP)(w:World):Prop:=∃(I:Int->WP) (μ:Int->World->Nat),I n_20 w/\∀n_20:Int,∀w:World,I n_20 w->qc.b3 k_0 a_3 b_5 lit_7 dist_9 l_11 cl_15 code_17 order_19 n_20 Q (λk_0' a_3' b_5' lit_7' dist_9' l_11' cl_15' code_17' order_19' n_20' w'=>(k_0'=k_0/\a_3'=a_3/\b_5'=b_5/\lit_7'=lit_7/\dist_9'=dist_9/\l_11'=l_11/\cl_15'=cl_15/\code_17'=code_17/\order_19'=order_19)/\I n_20' w'/\μ n_20' w'<μ n_20 w) w
def qc.j8(k_0:OAd)(a_3:Sl)(b_5:Sl)(lit_7:OAd)(dist_9:OAd)(l_11:Sl)(cl_15:Sl)(code_17:OAd)(order_19:Sl)(n_20:Int)(Q:VWP)(w:World):Prop:=qc.l3 k_0 a_3 b_5 lit_7 dist_9 l_11 cl_15 code_17 order_19 n_20 Q w
def qc.j7(k_0:OAd)(a_3:Sl)(b_5:Sl)(lit_7:OAd)(dist_9:OAd)(l_11:Sl)(cl_15:Sl)(code_17:OAd)(Q:VWP)(w:World):Prop:=nw w ⟨[.int .i64 16,.int .i64 17,.int .i64 18,.int .i64 0,.int .i64 8,.int .i64 7,.int .i64 9,.int .i64 6,.int .i64 10,.int .i64 5,.int .i64 11,.int .i64 4,.int .i64 12,.int .i64 3,.int .i64 13,.int .i64 2,.int .i64 14,.int .i64 1,.int .i64 15]⟩ 3 λa50 w51=>qc.j8 k_0 a_3 b_5 lit_7 dist_9 l_11 cl_15 code_17 ⟨(some a50),19,19⟩ ((19:Nat):Int) Q w51
def qc.j6(k_0:OAd)(a_3:Sl)(b_5:Sl)(lit_7:OAd)(dist_9:OAd)(l_11:Sl)(counts_12:Sl)(Q:VWP)(w:World):Prop:=qqs 102 [sV counts_12,.int .i64 7] w λr54 r55 w53=>qlz 100 [sV r54,.bool false] w53 λr58 r59 w57=>qc.j7 k_0 a_3 b_5 lit_7 dist_9 l_11 r54 r58 Q w57
def qc.j5(k_0:OAd)(a_3:Sl)(b_5:Sl)(lit_7:OAd)(dist_9:OAd)(l_11:Sl)(counts_12:Sl)(Q:VWP)(w:World):Prop:=qok 106 [sV counts_12] w λr62 w61=>br (r62==(l_11.len:Int)) (ixS l_11.a l_11.len 0 3 λa63=>ldI .i64 w61 (Addr.add a63 0) λx64=>lt (i64.wrap (x64+1)) λx65=>(2:Int)≠0/\lt (tmod x65 2) λx66=>ixS counts_12.a counts_12.len x66 1 λa67=>ldI .i64 w61 a67 λx68=>lt (i64.wrap (x68+1)) λx69=>ixS counts_12.a counts_12.len x66 1 λa70=>st w61 a70 (.int .i64 x69) λw71=>qc.j6 k_0 a_3 b_5 lit_7 dist_9 l_11 counts_12 Q w71) (qc.j6 k_0 a_3 b_5 lit_7 dist_9 l_11 counts_12 Q w61)
def qc.b4(k_0:OAd)(a_3:Sl)(b_5:Sl)(lit_7:OAd)(dist_9:OAd)(l_11:Sl)(counts_12 t62:Sl)(t63:Int)(t64:Int)(Q:VWP)(nx4:OAd->Sl->Sl->OAd->OAd->Sl->Sl->Sl->Int->Int->WP)(w:World):Prop:=br (decide (t64<t63)) (ixS t62.a t62.len t64 3 λa72=>ldA w a72 3 λc73=>nw w (zc prog 146) 146 λa74 w75=>(c73).size=3/\stA w75 a74 c73 λw76=>ldI .i64 w76 (Addr.add a74 0) λx77=>ixS counts_12.a counts_12.len x77 1 λa78=>ldI .i64 w76 a78 λx79=>lt (i64.wrap (x79+1)) λx80=>ixS counts_12.a counts_12.len x77 1 λa81=>st w76 a81 (.int .i64 x80) λw82=>lt (i64.wrap (t64+1)) λx83=>nx4 k_0 a_3 b_5 lit_7 dist_9 l_11 counts_12 t62 t63 x83 w82) (qc.j5 k_0 a_3 b_5 lit_7 dist_9 l_11 counts_12 Q w)
def qc.l4(k_0:OAd)(a_3:Sl)(b_5:Sl)(lit_7:OAd)(dist_9:OAd)(l_11:Sl)(counts_12 t62:Sl)(t63:Int)(t64:Int)(Q:VWP)(w:World):Prop:=∃(I:Int->WP) (μ:Int->World->Nat),I t64 w/\∀t64:Int,∀w:World,I t64 w->qc.b4 k_0 a_3 b_5 lit_7 dist_9 l_11 counts_12 t62 t63 t64 Q (λk_0' a_3' b_5' lit_7' dist_9' l_11' counts_12' t62' t63' t64' w'=>(k_0'=k_0/\a_3'=a_3/\b_5'=b_5/\lit_7'=lit_7/\dist_9'=dist_9/\l_11'=l_11/\counts_12'=counts_12/\t62'=t62/\t63'=t63)/\I t64' w'/\μ t64' w'<μ t64 w) w
def qc.j17(k_0:OAd)(a_3:Sl)(b_5:Sl)(lit_7:OAd)(dist_9:OAd)(l_11:Sl)(counts_12 t62:Sl)(t63:Int)(t64:Int)(Q:VWP)(w:World):Prop:=qc.l4 k_0 a_3 b_5 lit_7 dist_9 l_11 counts_12 t62 t63 t64 Q w
def qc.j4(k_0:OAd)(a_3:Sl)(b_5:Sl)(lit_7:OAd)(dist_9:OAd)(l_11:Sl)(counts_12:Sl)(Q:VWP)(w:World):Prop:=qc.j17 k_0 a_3 b_5 lit_7 dist_9 l_11 counts_12 l_11 (l_11.len:Int) 0 Q w
def qc.j3(k_0:OAd)(a_3:Sl)(b_5:Sl)(lit_7:OAd)(dist_9:OAd)(Q:VWP)(w:World):Prop:=nw w ⟨[sV a_3,sV b_5]⟩ 26 λa84 w85=>qtj 105 [.slice (some a84) 2 2] w85 λr88 w87=>qtj 104 [sV r88] w87 λr91 w90=>mkK prog 3 w90 19 19 λs92 w93=>qc.j4 k_0 a_3 b_5 lit_7 dist_9 r91 s92 Q w93
def qc.j2(k_0:OAd)(a_3:Sl)(b_5:Sl)(lit_7:OAd)(Q:VWP)(w:World):Prop:=qlz 100 [sV b_5,.bool true] w λr96 r97 w95=>qtj 103 [sV a_3,.int .i64 257] w95 λr100 w99=>qtj 103 [sV b_5,.int .i64 1] w99 λr103 w102=>qc.j3 k_0 r100 r103 lit_7 r96 Q w102
def qc.j1(k_0:OAd)(a_3:Sl)(Q:VWP)(w:World):Prop:=nz k_0 λa104=>ldL w (Addr.add a104 2) λx105=>qqs 102 [sV x105,.int .i64 15] w λr108 r109 w107=>qlz 100 [sV a_3,.bool true] w107 λr112 r113 w111=>qc.j2 k_0 a_3 r108 r112 Q w111
def qc(k_0:OAd)(Q:VWP)(w:World):Prop:=nz k_0 λa114=>ldL w (Addr.add a114 1) λx115=>qqs 102 [sV x115,.int .i64 15] w λr118 r119 w117=>qc.j1 k_0 r118 Q w117
theorem qc.ok(k_0:OAd)(Q:VWP)(w:World)(h:qc k_0 Q w):Calls prog 80 ⟨[.pointer k_0]⟩ w (Ret Q):=
 qhc [.tmp 2] qhe Tryz.func80 rfl rfl rfl rfl (.pr 1 [sP 0,sL 3] (λa b w=>qc.j1 a b Q w) (.pr 1 [sP 0,sL 3,sL 5,sP 7] (λa b c d w=>qc.j2 a b c d Q w) (.pr 1 [sP 0,sL 3,sL 5,sP 7,sP 9] (λa b c d e w=>qc.j3 a b c d e Q w) (.pr 1 [sP 0,sL 3,sL 5,sP 7,sP 9,sL 11,sL 12] (λa b c d e f g w=>qc.j4 a b c d e f g Q w) (.sq [sP 0,sL 3,sL 5,sP 7,sP 9,sL 11,sL 12] (λa b c d e f g w=>qc.j5 a b c d e f g Q w) (.sq [sP 0,sL 3,sL 5,sP 7,sP 9,sL 11,sL 12,sL 62,sI 63,sI 64] (λa b c d e f g h i j w=>qc.j17 a b c d e f g h i j Q w) .lf (.bk (.lo [sP 0,sL 3,sL 5,sP 7,sP 9,sL 11,sL 12,sL 62,sI 63] [sI 64] (λa b c d e f g h i j w=>qc.l4 a b c d e f g h i j Q w) (λnx4 a b c d e f g h i j w=>qc.b4 a b c d e f g h i j Q nx4 w) λnx4=> .lf))) (.sq [sP 0,sL 3,sL 5,sP 7,sP 9,sL 11,sL 12] (λa b c d e f g w=>qc.j6 a b c d e f g Q w) .lf (.pr 1 [sP 0,sL 3,sL 5,sP 7,sP 9,sL 11,sL 15,sP 17] (λa b c d e f g h w=>qc.j7 a b c d e f g h Q w) (.pr 1 [sP 0,sL 3,sL 5,sP 7,sP 9,sL 11,sL 15,sP 17,sL 19,sI 20] (λa b c d e f g h i j w=>qc.j8 a b c d e f g h i j Q w) (.sq [sP 0,sL 3,sL 5,sP 7,sP 9,sL 11,sL 15,sP 17,sL 19,sI 20] (λa b c d e f g h i j w=>qc.j9 a b c d e f g h i j Q w) (.bk (.lo [sP 0,sL 3,sL 5,sP 7,sP 9,sL 11,sL 15,sP 17,sL 19] [sI 20] (λa b c d e f g h i j w=>qc.l3 a b c d e f g h i j Q w) (λnx3 a b c d e f g h i j w=>qc.b3 a b c d e f g h i j Q nx3 w) λnx3=> .lf)) (.sq [sP 0,sL 3,sL 5,sP 7,sP 9,sL 11,sL 15,sP 17,sL 19,sI 20,sP 21] (λa b c d e f g h i j k w=>qc.j10 a b c d e f g h i j k Q w) .lf (.pr 1 [sP 0,sL 5,sP 7,sP 9,sL 11,sL 15,sP 17,sL 19,sI 20,sP 21] (λa b c d e f g h i j w=>qc.j11 a b c d e f g h i j Q w) (.pr 1 [sP 0,sP 7,sP 9,sL 11,sL 15,sP 17,sL 19,sI 20,sP 21] (λa b c d e f g h i w=>qc.j12 a b c d e f g h i Q w) (.sq [sP 0,sP 7,sP 9,sL 11,sP 17,sP 21] (λa b c d e f w=>qc.j13 a b c d e f Q w) (.sq [sP 0,sP 7,sP 9,sL 11,sL 15,sP 17,sP 21,sL 140,sI 141,sI 142] (λa b c d e f g h i j w=>qc.j16 a b c d e f g h i j Q w) .lf (.bk (.lo [sP 0,sP 7,sP 9,sL 11,sL 15,sP 17,sP 21,sL 140,sI 141] [sI 142] (λa b c d e f g h i j w=>qc.l2 a b c d e f g h i j Q w) (λnx2 a b c d e f g h i j w=>qc.b2 a b c d e f g h i j Q nx2 w) λnx2=> .lf))) (.sq [sP 0,sP 7,sP 9,sP 21] (λa b c d w=>qc.j14 a b c d Q w) (.sq [sP 0,sP 7,sP 9,sP 17,sP 21,sL 153,sI 154,sI 155] (λa b c d e f g h w=>qc.j15 a b c d e f g h Q w) .lf (.bk (.lo [sP 0,sP 7,sP 9,sP 17,sP 21,sL 153,sI 154] [sI 155] (λa b c d e f g h w=>qc.l1 a b c d e f g h Q w) (λnx1 a b c d e f g h w=>qc.b1 a b c d e f g h Q nx1 w) λnx1=> .lf))) .lf)))))))))))))) (by kernel_rfl) h
def qad.j3(out_6:Sl)(Q:VWP)(w:World):Prop:=Q (sV out_6) w
def qad.b1(k_5:OAd)(t19:Sl)(t20:Int)(out_6:Sl)(t21:Int)(Q:VWP)(nx1:OAd->Sl->Int->Sl->Int->WP)(w:World):Prop:=br (decide (t21<t20)) (ixS t19.a t19.len t21 1 λa1=>ldV w a1 λx2=>cvL prog x2 [.pointer k_5] w λr4 w3=>br (decide ((r4.len:Int)<(out_6.len:Int))) (lt (i64.wrap (t21+1)) λx5=>nx1 k_5 t19 t20 r4 x5 w3) (lt (i64.wrap (t21+1)) λx6=>nx1 k_5 t19 t20 out_6 x6 w3)) (qad.j3 out_6 Q w)
def qad.l1(k_5:OAd)(t19:Sl)(t20:Int)(out_6:Sl)(t21:Int)(Q:VWP)(w:World):Prop:=∃(I:Sl->Int->WP) (μ:Sl->Int->World->Nat),I out_6 t21 w/\∀out_6:Sl,∀t21:Int,∀w:World,I out_6 t21 w->qad.b1 k_5 t19 t20 out_6 t21 Q (λk_5' t19' t20' out_6' t21' w'=>(k_5'=k_5/\t19'=t19/\t20'=t20)/\I out_6' t21' w'/\μ out_6' t21' w'<μ out_6 t21 w) w
def qad.j4(k_5:OAd)(out_6:Sl)(t19:Sl)(t20:Int)(t21:Int)(Q:VWP)(w:World):Prop:=qad.l1 k_5 t19 t20 out_6 t21 Q w
def qad.j2(k_5:OAd)(out_6:Sl)(Q:VWP)(w:World):Prop:=nw w ⟨[.func (.func 79) ⟨[]⟩ ⟨[]⟩,.func (.func 80) ⟨[]⟩ ⟨[]⟩]⟩ 127 λa7 w8=>qad.j4 k_5 out_6 ⟨(some a7),2,2⟩ ((2:Nat):Int) 0 Q w8
def qad.j1(b_0:Sl)(effort_1:Int)(Q:VWP)(w:World):Prop:=qtj 77 [sV b_0,.int .i64 effort_1] w λr11 w10=>qvhb 76 [sV r11] w10 λr14 w13=>qtj 78 [sV b_0] w13 λr17 w16=>qad.j2 r14 r17 Q w16
def qad(b_0:Sl)(effort_1:Int)(Q:VWP)(w:World):Prop:=br (decide ((b_0.len:Int)>262144)) (Q (.slice none 0 0) w) (qad.j1 b_0 effort_1 Q w)
theorem qad.ok(b_0:Sl)(effort_1:Int)(Q:VWP)(w:World)(h:qad b_0 effort_1 Q w):Calls prog 63 ⟨[sV b_0,.int .i64 effort_1]⟩ w (Ret Q):=
 qhc [.tmp 4] qhe Tryz.func63 rfl rfl rfl rfl (.pr 1 [sL 0,sI 1] (λa b w=>qad.j1 a b Q w) (.pr 1 [sP 5,sL 6] (λa b w=>qad.j2 a b Q w) (.sq [sL 6] (λa w=>qad.j3 a Q w) (.sq [sP 5,sL 6,sL 19,sI 20,sI 21] (λa b c d e w=>qad.j4 a b c d e Q w) .lf (.bk (.lo [sP 5,sL 19,sI 20] [sL 6,sI 21] (λa b c d e w=>qad.l1 a b c d e Q w) (λnx1 a b c d e w=>qad.b1 a b c d e Q nx1 w) λnx1=> .lf))) .lf))) (by kernel_rfl) h
def qbm(b_0:Sl)(effort_1:Int)(Q:VWP)(w:World):Prop:=br (decide ((b_0.len:Int)>262144)) (Q (.slice none 0 0) w) (nw w ⟨[.int .u8 120,.int .u8 156]⟩ 5 λa1 w2=>qtj 63 [sV b_0,.int .i64 effort_1] w2 λr5 w4=>rdO w4 r5.a (r5.len*1) λc6=>apK prog 5 w4 (some a1) 2 2 r5.len c6 λs7 w8=>qqj 64 [sV b_0] w8 λr11 w10=>lt (i64.wrap r11) λx12=>qtj 16 [sV s7,.int .i64 x12] w10 λr15 w14=>Q (sV r15) w14)
theorem qbm.ok(b_0:Sl)(effort_1:Int)(Q:VWP)(w:World)(h:qbm b_0 effort_1 Q w):Calls prog 41 ⟨[sV b_0,.int .i64 effort_1]⟩ w (Ret Q):=
 qhc [.tmp 4] qhe Tryz.func41 rfl rfl rfl rfl .lf (by kernel_rfl) h
def qal(z_0:Sl)(most_1:Int)(Q:VWP)(w:World):Prop:=br (decide ((z_0.len:Int)<2)) (Q (.tuple ⟨[.slice none 0 0,.int .i64 0,.int .i64 3]⟩) w) (lt (World.drew w) λw1=>ixS z_0.a z_0.len 0 1 λa2=>ldI .u8 w1 a2 λx3=>lt (qzi .u8 x3 15) λx4=>br (x4 !=8) (Q (.tuple ⟨[.slice none 0 0,.int .i64 0,.int .i64 2]⟩) w1) (ixS z_0.a z_0.len 0 1 λa5=>ldI .u8 w1 a5 λx6=>(0:Int)<=4/\lt (qnk .u8 x6 4) λx7=>br (decide (x7>7)) (Q (.tuple ⟨[.slice none 0 0,.int .i64 0,.int .i64 2]⟩) w1) (ixS z_0.a z_0.len 0 1 λa8=>ldI .u8 w1 a8 λx9=>lt (i64.wrap x9) λx10=>(0:Int)<=8/\lt (qij .i64 x10 8) λx11=>ixS z_0.a z_0.len 1 1 λa12=>ldI .u8 w1 a12 λx13=>lt (i64.wrap x13) λx14=>lt (orV .i64 x11 x14) λx15=>(31:Int)≠0/\lt (tmod x15 31) λx16=>br (x16 !=0) (Q (.tuple ⟨[.slice none 0 0,.int .i64 0,.int .i64 2]⟩) w1) (ixS z_0.a z_0.len 1 1 λa17=>ldI .u8 w1 a17 λx18=>lt (qzi .u8 x18 32) λx19=>br (x19 !=0) (Q (.tuple ⟨[.slice none 0 0,.int .i64 0,.int .i64 2]⟩) w1) (bd 2 z_0.len λn20=>lt (⟨qpf z_0.a z_0.cap n20 1,z_0.len-n20,z_0.cap-n20⟩:Sl) λs21=>qibb 115 [sV s21,.int .i64 most_1] w1 λr24 r25 r26 w23=>br (r26 !=0) (Q (.tuple ⟨[.slice none 0 0,.int .i64 0,.int .i64 r26]⟩) w23) (lt (i64.wrap (2+r25)) λx27=>bd x27 z_0.len λn28=>lt (⟨qpf z_0.a z_0.cap n28 1,z_0.len-n28,z_0.cap-n28⟩:Sl) λs29=>qvhb 53 [sV s29] w23 λr32 w31=>qok 55 [.pointer r32] w31 λr35 w34=>qok 116 [.pointer r32] w34 λr38 w37=>br (r38 !=0) (Q (.tuple ⟨[.slice none 0 0,.int .i64 0,.int .i64 3]⟩) w37) (lt (u32.wrap r35) λx39=>qqj 64 [sV r24] w37 λr42 w41=>br (x39 !=r42) (Q (.tuple ⟨[.slice none 0 0,.int .i64 0,.int .i64 4]⟩) w41) (lt (i64.wrap (2+r25)) λx43=>lt (i64.wrap (x43+4)) λx44=>Q (.tuple ⟨[sV r24,.int .i64 x44,.int .i64 0]⟩) w41))))))))
theorem qal.ok(z_0:Sl)(most_1:Int)(Q:VWP)(w:World)(h:qal z_0 most_1 Q w):Calls prog 88 ⟨[sV z_0,.int .i64 most_1]⟩ w (Ret Q):=
 qhc [.tmp 4,.tmp 5,.tmp 6] qhe Tryz.func88 rfl rfl rfl rfl .lf (by kernel_rfl) h
end
section
attribute [local irreducible] apK cpK mkK br
def adS(p:Int×Int)(b:Int):Int×Int:=((p.1+b)%65521,(p.2+(p.1+b)%65521)%65521)
def adP(xs:List Int):Int×Int:=xs.foldl adS (1,0)
def adV(xs:List Int):Int:=(adP xs).2*65536+(adP xs).1
theorem qyr(xs:List Int)(x:Int):adP (xs++[x])=adS (adP xs) x:=by simp[adP]
theorem qcqb:∀xs:List Int,0<=(adP xs).1/\(adP xs).1<65521/\0<=(adP xs).2/\(adP xs).2<65521:=by
 refine qyn ?_ ?_
 ·simp[adP]
 ·intro xs x ih;rw[qyr];unfold adS;simp only
  omega
theorem adV_b(xs:List Int):0<=adV xs/\adV xs<4294967296:=by
 have:=qcqb xs;unfold adV;omega
theorem qnrb(xs:List Int):orV .u32 (qij .u32 (adP xs).2 16) (adP xs).1=adV xs:=by
 have hb:=qcqb xs;unfold adV;obtain⟨x,hx⟩:∃x:Nat,(adP xs).1=x:=⟨(adP xs).1.toNat,by omega⟩;obtain⟨y,hy⟩:∃y:Nat,(adP xs).2=y:=⟨(adP xs).2.toNat,by omega⟩;rw[hx,hy]at hb|-
 have h1:=qajb (k:= .u32) rfl (x:=y) (t:=16) (by decide) (by show y*65536<4294967296;omega);have e16:(2:Int)^16=65536:=by decide
 rw[e16]at h1;rw[show((16:Nat):Int)=16 from rfl]at h1;rw[h1];have h2:=qlt (k:= .u32) rfl (a:=x) (b:=y) (t:=16) (by show x<65536;omega) (by show x+y*65536<4294967296;omega);rw[e16]at h2;have hc:orV .u32 ((y:Int)*65536) (x:Int)=orV .u32 (x:Int) ((y:Int)*65536):=by
  unfold orV;rw[BitVec.or_comm]
 rw[hc,h2];omega
section
variable {F0:List Nat}{w0 w:World}{ps rest:List As}{s:Sl}{xs:List Int}
theorem qdm.c{K:Ending->World->Prop}(h:St F0 w0 w ps)[Rdb F0 w0 s ps 1 (u8s xs)](hx:∀x∈xs,0<=x/\x<256)(hL:xs.length<=1000000000)
 (hk:∀w',St F0 w0 w' ps->K (.returned (.int .u32 (adV xs))) w'):Calls prog 64 ⟨[.slice s.a s.len s.cap]⟩ w K:=by
 have hl:=(h.rdb s).1
 rw[qj]at hl
 refine qec (qdm.ok _ _ _ ?_)
 unfold qdm
 refine qec (qld.ok _ _ _ _ ?_)
 unfold qld
 refine ql (show _=(1:Int)by decide) ⟨by decide,ql (show _=(0:Int)by decide) ?_⟩
 unfold qld.j1 qld.j3
 refine loop3 (λ(i:Nat) (x y i':Int) w'=>i'=i/\i<=xs.length/\x=(adP (xs.take i)).1/\y=(adP (xs.take i)).2/\St F0 w0 w' ps) (λi=>xs.length-i) 0 ⟨rfl,by omega,rfl,rfl,h⟩ ?_
 clear h
 rintro i x y i' wL I μ ⟨rfl,hi,rfl,rfl,h⟩ hin
 have hb:=qcqb (xs.take i)
 unfold qld.b1
 refine qrc (λg=>?_) (λg=>?_)
 ·have hix:i<xs.length:=by omega
  have hxi:=hx _ (qwe hix)
  refine h.lx (s:=s) i rfl hix ?_
  refine ql (show u32.wrap (xs.getD i 0)=xs.getD i 0 by rw[qgh];omega) ?_
  refine ql (show u32.wrap _=(adP (xs.take i)).1+xs.getD i 0 by rw[qgh];omega) ⟨by decide,?_⟩
  refine ql (qll (by omega)) ?_
  refine ql (show u32.wrap _=(adP (xs.take i)).2+((adP (xs.take i)).1+xs.getD i 0)%65521 by rw[qgh];omega) ⟨by decide,?_⟩
  refine ql (qll (by omega)) ?_
  refine ql (qd (by omega) (by omega)) ?_
  refine⟨⟨rfl,rfl⟩,hin (i+1) _ _ _ _ ⟨by omega,by omega,?_,?_,h⟩ (by omega)⟩
  ·rw[qck hix,qyr];rfl
  ·rw[qck hix,qyr];rfl
 ·have:i=xs.length:=by omega
  subst this
  rw[List.take_length]
  unfold qld.j2
  refine⟨by decide,qxd (ql (qnrb xs) ⟨_,rfl,hk wL h⟩)⟩
theorem qyg.c{K:Ending->World->Prop}(h:St F0 w0 w ps)[Rdb F0 w0 s ps 1 (u8s xs)](hx:∀x∈xs,0<=x/\x<256)(hL:xs.length<=1000000000)
 (hk:∀w',St F0 w0 w' ps->K (.returned (.int .u32 (adV xs))) w'):Calls prog 66 ⟨[.slice s.a s.len s.cap]⟩ w K:=by
 have hl:=(h.rdb s).1
 rw[qj]at hl
 refine qec (qyg.ok _ _ _ ?_)
 unfold qyg
 refine qec (qrb.ok _ _ _ _ ?_)
 unfold qrb qrb.j1
 refine ql (show _=(1:Int)by decide) ⟨by decide,ql (show _=(0:Int)by decide) ?_⟩
 unfold qrb.j2 qrb.j4
 refine loop3 (λ(i:Nat) (x y i':Int) w'=>i'=i/\i<=xs.length/\x=(adP (xs.take i)).1/\y=(adP (xs.take i)).2/\St F0 w0 w' ps) (λi=>xs.length-i) 0 ⟨rfl,by omega,rfl,rfl,h⟩ ?_
 clear h
 rintro i x y i' wL I μ ⟨rfl,hi,rfl,rfl,h⟩ hin
 have hb:=qcqb (xs.take i)
 unfold qrb.b1
 refine qrc (λg=>?_) (λg=>?_)
 ·have hix:i<xs.length:=by omega
  have hxi:=hx _ (qwe hix)
  refine h.lx (s:=s) i rfl hix ?_
  refine ql (show u32.wrap (xs.getD i 0)=xs.getD i 0 by rw[qgh];omega) ?_
  refine ql (show u32.wrap _=(adP (xs.take i)).1+xs.getD i 0 by rw[qgh];omega) ⟨by decide,?_⟩
  refine ql (qll (by omega)) ?_
  refine ql (show u32.wrap _=(adP (xs.take i)).2+((adP (xs.take i)).1+xs.getD i 0)%65521 by rw[qgh];omega) ⟨by decide,?_⟩
  refine ql (qll (by omega)) ?_
  refine ql (qd (by omega) (by omega)) ?_
  refine⟨rfl,hin (i+1) _ _ _ _ ⟨by omega,by omega,?_,?_,h⟩ (by omega)⟩
  ·rw[qck hix,qyr];rfl
  ·rw[qck hix,qyr];rfl
 ·have:i=xs.length:=by omega
  subst this
  rw[List.take_length]
  unfold qrb.j3
  refine⟨by decide,qxd (ql (qnrb xs) ⟨_,rfl,hk wL h⟩)⟩
end
def allZ(z:Z):Prop:=∀x∈z.2.1,0<=x/\x<256
section
variable {B:List Bool}{most:Int}{z:Z}
theorem qvt{b:Int}(hb:0<=b/\b<256)(h:allZ z):allZ (zput most b z):=by
 unfold zput;split
 ·exact h
 ·split
  ·exact h
  ·intro x hx;rcases mem_append.1 hx with hx|hx
   ·exact h x hx
   ·rw[List.mem_singleton]at hx;subst hx;exact hb
theorem qdn{z':Z}(e:z'.2.1=z.2.1)(h:allZ z):allZ z':=λx hx=>h x (by rw[<-e];exact hx)
theorem qenb(d:Int):∀(n:Nat) (z:Z),allZ z->allZ (zcp most d n z):=by
 intro n;induction n with
 |zero=>intro z h;exact h
 |succ n ih=>
  intro z h;rw[zcp];split
  ·exact h
  ·refine ih _ (qvt ?_ h);rcases Nat.lt_or_ge (z.2.1.length-d.toNat) z.2.1.length with h1|h1
   ·exact h _ (qwe h1)
   ·rw[getD,List.getElem?_eq_none h1];decide
theorem qcab(dl:List Int)(v:Int)(h:allZ z):allZ (qyi dl B most v z):=by
 unfold qyi;simp only
 refine qenb _ _ _ ?_;have e:(qnf B (qxk (qkm dl B (qnf B (qol v).2.1 (zok (qol v).2.2 z)).2).1).2.1 (zok (qxk (qkm dl B (qnf B (qol v).2.1 (zok (qol v).2.2 z)).2).1).2.2 (qkm dl B (qnf B (qol v).2.1 (zok (qol v).2.2 z)).2).2)).2.2.1=z.2.1:=by
  rw[qae,qwn,qjj,qae,qwn]
 split
 ·exact qdn (z:=z) e h
 ·exact qdn (z:=z) e h
theorem qbcb{ll dl:List Int}:∀(f:Nat) (z:Z),allZ z->allZ (qlg ll dl B most f z):=by
 intro f;induction f with
 |zero=>intro z h;exact h
 |succ f ih=>
  intro z h;rw[qlg];split
  ·exact h
  ·simp only
   have hs:allZ (qkm ll B z).2:=qdn (qjj ll) h;have hn:=qybb (B:=B) (z:=z) ll;generalize qkm ll B z=s at hs hn|-
   split
   ·exact hs
   ·split
    ·rename_i h2;exact ih _ (qvt ⟨hn,h2⟩ hs)
    ·exact ih _ (qcab dl s.1 hs)
theorem qymb:∀(n:Nat) (z:Z),allZ z->allZ (zst B most n z):=by
 intro n;induction n with
 |zero=>intro z h;exact h
 |succ n ih=>
  intro z h;rw[zst];have hl:=qkl (B:=B) (z:=z) 8;rw[show((2:Int)^(8:Int).toNat)=256 by decide]at hl;exact ih _ (qvt hl (qdn (qae 8) h))
theorem qbab{ll dl:List Int}(h:allZ z):allZ (zblk ll dl B most z):=by
 unfold zblk;simp only
 have e1:allZ (qgi dl (qgi ll (if z.2.2=0/\ll.getD 256 0=0 then qce 2 z else z))):=by
  refine qdn (z:=z) ?_ h;rw[qfr,qfr];split<;>rfl
 generalize qgi dl (qgi ll (if z.2.2=0/\ll.getD 256 0=0 then qce 2 z else z))=z3 at e1|-
 split
 ·exact e1
 ·exact qbcb _ _ e1
theorem qvo(h:allZ z):allZ (qie B most z).2:=by
 unfold qie;simp only
 have h1:allZ (qnf B 1 z).2:=qdn (qae 1) h;generalize qnf B 1 z=a at h1|-
 have h2:allZ (qnf B 2 a.2).2:=qdn (qae 2) h1;generalize qnf B 2 a.2=k at h2|-
 split
 ·exact h2
 ·split
  ·unfold qpk;simp only
   have h3:allZ (qnf B 16 (8*((k.2.1+7)/8),k.2.2.1,k.2.2.2)).2:=qdn (z:=k.2) (qae 16) h2;generalize qnf B 16 (8*((k.2.1+7)/8),k.2.2.1,k.2.2.2)=g at h3|-
   have h4:allZ (qnf B 16 g.2).2:=qdn (qae 16) h3;generalize qnf B 16 g.2=g2 at h4|-
   split
   ·exact h4
   ·split
    ·exact h4
    ·split
     ·exact h4
     ·exact qymb _ _ h4
  ·split
   ·exact qbab h2
   ·split
    ·have h5:allZ (qbk B k.2).2:=qdn qcr h2;generalize qbk B k.2=q at h5|-
     split
     ·exact h5
     ·exact qbab h5
    ·exact h2
theorem ZAll.allZ{n:Nat}{z z':Z}(h:ZAll B most n z z')(hz:Go.Proofs.YtdccpphmkfaioaaGreat.allZ z):Go.Proofs.YtdccpphmkfaioaaGreat.allZ z':=by
 induction h with
 |bad he=>exact qvo hz
 |last he hl=>exact qvo hz
 |next he hl hr ih=>exact ih (qvo hz)
end
theorem qxz{V N:Nat}{most:Int}{z':Z}(h:zinf V N most z'):allZ z':=by
 obtain⟨n,h⟩:=h;exact h.allZ (λx hx=>by cases hx)
theorem qdeb{V N:Nat}{most:Int}{z':Z}(h:zinf V N most z')(hm:most<=1000000):z'.2.1.length<=1000000:=by
 obtain⟨n,h⟩:=h;exact h.out hm (by simp)
theorem qfqb{V N:Nat}{most:Int}{z':Z}(h:zinf V N most z'):z'.1<=8*N:=by
 obtain⟨n,h⟩:=h;have hB:(qm (V:Int) (8*N)).length=8*N:=qq _ _;have:∀{n:Nat} {z z':Z},ZAll (qm (V:Int) (8*N)) most n z z'->z.1<=8*N->z'.1<=8*N:=by
  intro n z z' h;induction h with
  |bad he=>intro hz;have:=(qto (most:=most) hB (by rw[hB];exact hz)).2.1;omega
  |last he hl=>intro hz;have:=(qto (most:=most) hB (by rw[hB];exact hz)).2.1;omega
  |next he hl hr ih=>intro hz;have:=(qto (most:=most) hB (by rw[hB];exact hz)).2.1;exact ih (by omega)
 exact this h (zero_le _)
def hdBad(a b:Int):Prop:=qzi .u8 a 15≠8\/7<qnk .u8 a 4\/tmod (orV .i64 (qij .i64 a 8) b) 31≠0\/qzi .u8 b 32≠0
instance (a b:Int):Decidable (hdBad a b):=inferInstanceAs (Decidable (_\/_))
def unpR(xs:List Int)(z':Z):List Int×Int×Int:=
 if z'.2.2≠0 then([],0,z'.2.2)else if xs.length<2+(z'.1+7)/8+4 then([],0,3)
 else if be ((xs.drop (2+(z'.1+7)/8)).take 4)≠adV z'.2.1 then([],0,4)else(z'.2.1,((2+(z'.1+7)/8+4:Nat):Int),0)
def Unp(xs:List Int)(most:Int)(r:List Int×Int×Int):Prop:=
 if xs.length<2 then r=([],0,3)else if hdBad (xs.getD 0 0) (xs.getD 1 0)then r=([],0,2)else if most<0\/262144<most then r=([],0,1)
 else ∃V z',xs.drop 2=byt V (xs.length-2)/\zinf V (xs.length-2) most z'/\r=unpR xs z'
section
variable {F0:List Nat}{w0 w:World}{ps rest:List As}{s:Sl}{xs:List Int}{most:Int}{r:List Int×Int×Int}
theorem qal.c{K:Ending->World->Prop}(h:St F0 w0 w ps)[Rdb F0 w0 s ps 1 (u8s xs)](hx:∀x∈xs,0<=x/\x<256)(hL:xs.length<=1000000)(hc:s.len<=s.cap)(hr:Unp xs most r)
 (hk:∀t w',t.len=r.1.length->(∀x∈r.1,0<=x/\x<256)->St F0 w0 w' (rdA 1 t (u8s r.1)::ps)->K (.returned (.tuple ⟨[.slice t.a t.len t.cap,.int .i64 r.2.1,.int .i64 r.2.2]⟩)) w'):Calls prog 88 ⟨[.slice s.a s.len s.cap,.int .i64 most]⟩ w K:=by
 have hl:=(h.rdb s).1
 rw[qj]at hl
 refine qec (qal.ok _ _ _ _ ?_)
 unfold qal
 have no:∀w (e:Int),St F0 w0 w ps->r=([],0,e)->K (.returned (.tuple ⟨[.slice none 0 0,.int .i64 0,.int .i64 e]⟩)) w:=by
  intro w e h er;subst er;exact hk ⟨none,0,0⟩ w rfl (λx hx=>by cases hx) (h.nil 1).ro
 unfold Unp at hr
 refine qrc (λg=>?_) (λg=>?_)
 ·rw[if_pos (by omega)]at hr
  exact no w 3 h hr
 rw[if_neg (by omega)]at hr
 have b0:=hx _ (qwe (xs:=xs) (i:=0) (by omega))
 have b1:=hx _ (qwe (xs:=xs) (i:=1) (by omega))
 have bad:∀w,St F0 w0 w ps->hdBad (xs.getD 0 0) (xs.getD 1 0)->K (.returned (.tuple ⟨[.slice none 0 0,.int .i64 0,.int .i64 2]⟩)) w:=by
  intro w h hb;rw[if_pos hb]at hr;exact no w 2 h hr
 refine h.drewK λw h=>?_
 refine h.lx (s:=s) 0 rfl (by omega) (qxd ?_)
 refine qbf (λg1=>bad w h (Or.inl (by simpa using g1))) (λg1=>?_)
 refine h.lx (s:=s) 0 rfl (by omega) ⟨by decide,qxd ?_⟩
 refine qrc (λg2=>bad w h (Or.inr (Or.inl g2))) (λg2=>?_)
 refine h.lx (s:=s) 0 rfl (by omega) (ql (qd (by omega) (by omega)) ⟨by decide,qxd ?_⟩)
 refine h.lx (s:=s) 1 rfl (by omega) (ql (qd (by omega) (by omega)) (qxd ⟨by decide,qxd ?_⟩))
 refine qbf (λg3=>bad w h (Or.inr (Or.inr (Or.inl (by simpa using g3))))) (λg3=>?_)
 refine h.lx (s:=s) 1 rfl (by omega) (qxd ?_)
 refine qbf (λg4=>bad w h (Or.inr (Or.inr (Or.inr (by simpa using g4))))) (λg4=>?_)
 rw[if_neg (λe=>by
  rcases e with e|e|e|e
  ·exact e (by simpa using g1)
  ·exact g2 e
  ·exact e (by simpa using g3)
  ·exact e (by simpa using g4))]at hr
 refine qfn (n:=2) rfl (by omega) (qxd ?_)
 have hm:0<=most->¬262144<most->St F0 w0 w ps->True:=λ_ _ _=>trivial
 by_cases hmo:most<0\/262144<most
 ·rw[if_pos hmo]at hr
  refine qec (qbc.ok _ _ _ _ ?_)
  unfold qbc
  refine qrc (λg=>⟨⟨none,0,0⟩,_,_,rfl,qbg rfl (no w 1 h hr)⟩) (λg=>?_)
  refine qrc (λg=>⟨⟨none,0,0⟩,_,_,rfl,qbg rfl (no w 1 h hr)⟩) (λg=>by omega)
 rw[if_neg hmo]at hr
 obtain⟨V,z',hV,hz,hr⟩:=hr
 haveI:=h.cutR s 2 s.len (s.cap-2) (ys:=xs.drop 2) (by omega) (by omega) hc (by rw[take_of_length_le (by rw[length_drop];omega)])
 rw[hV]at this
 have hzp:=qfqb hz
 have hzl:=qdeb hz (by omega)
 have hzb:=qxz hz
 refine qbc.a (s:=⟨qpf s.a s.cap 2 1,s.len-2,s.cap-2⟩) (V:=V) (N:=xs.length-2) h (by omega) (by omega) (by omega) hz (λt w e0 ht h=>⟨t,_,_,rfl,qoe rfl ?_⟩) (λw e0 h=>⟨⟨none,0,0⟩,_,_,rfl,qbg (by simpa using e0) ?_⟩)
 rotate_left
 ·refine no w _ h ?_
  rw[hr]
  unfold unpR
  rw[if_pos e0]
 unfold unpR at hr
 rw[if_neg (λe=>e e0)]at hr
 refine ql (qd (by omega) (by omega)) ?_
 refine qfn (n:=2+(z'.1+7)/8) (by omega) (by omega) (qxd ?_)
 have hdl:(xs.drop (2+(z'.1+7)/8)).length=xs.length-(2+(z'.1+7)/8):=length_drop
 have hdb:qjm (xs.drop (2+(z'.1+7)/8)):=λx hx'=>hx x (List.mem_of_mem_drop hx')
 haveI:=h.cutR s (2+(z'.1+7)/8) s.len (s.cap-(2+(z'.1+7)/8)) (ys:=xs.drop (2+(z'.1+7)/8)) (by omega) (by omega) hc (by rw[take_of_length_le (by omega)])
 refine qar.c (s:=⟨qpf s.a s.cap (2+(z'.1+7)/8) 1,s.len-(2+(z'.1+7)/8),s.cap-(2+(z'.1+7)/8)⟩) h hdb (by omega) λnb w h=>⟨_,rfl,?_⟩
 refine qtg.c (rb:=nb) h hdb λw h=>⟨_,rfl,?_⟩
 refine qwi.c (rb:=nb) h ⟨_,rfl,?_⟩
 have ht4:((xs.drop (2+(z'.1+7)/8)).take 4).length<=4:=by rw[length_take];omega
 have hbe:=qnmb (n:=4) (l:=(xs.drop (2+(z'.1+7)/8)).take 4) (λx hx'=>hdb x (List.mem_of_mem_take hx')) ht4
 rw[show((2:Int)^(8*4))=4294967296 by decide]at hbe
 by_cases h4:xs.length<2+(z'.1+7)/8+4
 ·rw[if_pos h4]at hr
  have e:nuS (xs.drop (2+(z'.1+7)/8)) 0 0 4=(0,0,3):=by
   have et:tkS (xs.drop (2+(z'.1+7)/8)) 0 0 ((4:Nat):Int)=([],0,3):=by
    unfold tkS;rw[if_neg (λe=>by have:=e.2.2;omega)];rfl
   unfold nuS;rw[et];rfl
  rw[e]
  refine qbg rfl ?_
  exact no w 3 h.drop.drop hr
 ·rw[if_neg h4]at hr
  have e:nuS (xs.drop (2+(z'.1+7)/8)) 0 0 4=(be ((xs.drop (2+(z'.1+7)/8)).take 4),4,0):=by
   have et:tkS (xs.drop (2+(z'.1+7)/8)) 0 0 ((4:Nat):Int)=((xs.drop (2+(z'.1+7)/8)).take 4,4,0):=by
    unfold tkS;rw[if_pos ⟨rfl,by decide,by omega⟩];rfl
   unfold nuS;rw[et];simp only
   rw[if_neg (by omega)]
  rw[e]
  refine qoe rfl ?_
  simp only
  refine ql (show u32.wrap _=be ((xs.drop (2+(z'.1+7)/8)).take 4)by rw[qgh];omega) ?_
  refine qdm.c (s:=t) h hzb (by omega) λw h=>⟨_,rfl,?_⟩
  refine qbf (λg=>?_) (λg=>?_)
  ·rw[if_pos (by simpa using g)]at hr
   exact no w 4 h.drop.drop hr
  ·rw[if_neg (by simpa using g)]at hr
   refine ql (qd (by omega) (by omega)) ?_
   refine ql (qd (by omega) (by omega)) ?_
   subst hr
   have:=hk t w ht hzb h.drop
   simp only at this
   rw[show 2+(((z'.1+7)/8:Nat):Int)+4=((2+(z'.1+7)/8+4:Nat):Int)by omega]
   exact this
theorem qkh.c{K:Ending->World->Prop}(h:St F0 w0 w ps)[Rdb F0 w0 s ps 1 (u8s xs)](hx:∀x∈xs,0<=x/\x<256)(hL:xs.length<=1000000)(hc:s.len<=s.cap)(hr:Unp xs most r)
 (hk:∀t w',t.len=r.1.length->(∀x∈r.1,0<=x/\x<256)->St F0 w0 w' (rdA 1 t (u8s r.1)::ps)->K (.returned (.tuple ⟨[.slice t.a t.len t.cap,.int .i64 r.2.1,.int .i64 r.2.2]⟩)) w'):Calls prog 51 ⟨[.slice s.a s.len s.cap,.int .i64 most]⟩ w K:=by
 have hl:=(h.rdb s).1
 rw[qj]at hl
 refine qec (qkh.ok _ _ _ _ ?_)
 unfold qkh
 have no:∀w (e:Int),St F0 w0 w ps->r=([],0,e)->K (.returned (.tuple ⟨[.slice none 0 0,.int .i64 0,.int .i64 e]⟩)) w:=by
  intro w e h er;subst er;exact hk ⟨none,0,0⟩ w rfl (λx hx=>by cases hx) (h.nil 1).ro
 unfold Unp at hr
 refine qrc (λg=>?_) (λg=>?_)
 ·rw[if_pos (by omega)]at hr
  exact no w 3 h hr
 rw[if_neg (by omega)]at hr
 have b0:=hx _ (qwe (xs:=xs) (i:=0) (by omega))
 have b1:=hx _ (qwe (xs:=xs) (i:=1) (by omega))
 have bad:∀w,St F0 w0 w ps->hdBad (xs.getD 0 0) (xs.getD 1 0)->K (.returned (.tuple ⟨[.slice none 0 0,.int .i64 0,.int .i64 2]⟩)) w:=by
  intro w h hb;rw[if_pos hb]at hr;exact no w 2 h hr
 refine h.drewK λw h=>?_
 refine h.lx (s:=s) 0 rfl (by omega) (qxd ?_)
 refine qbf (λg1=>bad w h (Or.inl (by simpa using g1))) (λg1=>?_)
 refine h.lx (s:=s) 0 rfl (by omega) ⟨by decide,qxd ?_⟩
 refine qrc (λg2=>bad w h (Or.inr (Or.inl g2))) (λg2=>?_)
 refine h.lx (s:=s) 0 rfl (by omega) (ql (qd (by omega) (by omega)) ⟨by decide,qxd ?_⟩)
 refine h.lx (s:=s) 1 rfl (by omega) (ql (qd (by omega) (by omega)) (qxd ⟨by decide,qxd ?_⟩))
 refine qbf (λg3=>bad w h (Or.inr (Or.inr (Or.inl (by simpa using g3))))) (λg3=>?_)
 refine h.lx (s:=s) 1 rfl (by omega) (qxd ?_)
 refine qbf (λg4=>bad w h (Or.inr (Or.inr (Or.inr (by simpa using g4))))) (λg4=>?_)
 rw[if_neg (λe=>by
  rcases e with e|e|e|e
  ·exact e (by simpa using g1)
  ·exact g2 e
  ·exact e (by simpa using g3)
  ·exact e (by simpa using g4))]at hr
 refine qfn (n:=2) rfl (by omega) (qxd ?_)
 by_cases hmo:most<0\/262144<most
 ·rw[if_pos hmo]at hr
  refine qec (qwb.ok _ _ _ _ ?_)
  unfold qwb qwb.j1
  refine qrc (λg=>⟨⟨none,0,0⟩,_,_,rfl,qbg rfl (no w 1 h hr)⟩) (λg=>?_)
  refine qrc (λg=>⟨⟨none,0,0⟩,_,_,rfl,qbg rfl (no w 1 h hr)⟩) (λg=>by omega)
 rw[if_neg hmo]at hr
 obtain⟨V,z',hV,hz,hr⟩:=hr
 haveI:=h.cutR s 2 s.len (s.cap-2) (ys:=xs.drop 2) (by omega) (by omega) hc (by rw[take_of_length_le (by rw[length_drop];omega)])
 rw[hV]at this
 have hzp:=qfqb hz
 have hzl:=qdeb hz (by omega)
 have hzb:=qxz hz
 refine qwb.c (s:=⟨qpf s.a s.cap 2 1,s.len-2,s.cap-2⟩) (V:=V) (N:=xs.length-2) h (by omega) (by omega) (by omega) hz (λt w e0 ht _ h=>⟨t,_,_,rfl,qoe rfl ?_⟩) (λw e0 h=>⟨⟨none,0,0⟩,_,_,rfl,qbg (by simpa using e0) ?_⟩)
 rotate_left
 ·refine no w _ h ?_
  rw[hr]
  unfold unpR
  rw[if_pos e0]
 unfold unpR at hr
 rw[if_neg (λe=>e e0)]at hr
 refine ql (qd (by omega) (by omega)) ?_
 rw[show(((z'.1+7)/8:Nat):Int)+2=((2+(z'.1+7)/8:Nat):Int)by omega]
 generalize hn:2+(z'.1+7)/8=n at hr|-
 refine ql (qd (by omega) (by omega)) ?_
 refine qrc (λg=>?_) (λg=>?_)
 ·rw[if_pos (by omega)]at hr
  exact no w 3 h.drop hr
 rw[if_neg (by omega)]at hr
 have hd:(xs.drop n).take 4=[xs.getD n 0,xs.getD (n+1) 0,xs.getD (n+2) 0,xs.getD (n+3) 0]:=by
  rw[qkv (show n<xs.length by omega),qkv (show n+1<xs.length by omega),qkv (show n+1+1<xs.length by omega),qkv (show n+1+1+1<xs.length by omega)];rfl
 rw[hd]at hr
 have c0:=hx _ (qwe (xs:=xs) (i:=n) (by omega))
 have c1:=hx _ (qwe (xs:=xs) (i:=n+1) (by omega))
 have c2:=hx _ (qwe (xs:=xs) (i:=n+2) (by omega))
 have c3:=hx _ (qwe (xs:=xs) (i:=n+3) (by omega))
 have wu:∀x:Int,0<=x/\x<256->u32.wrap x=x:=λx hx=>by rw[qgh];omega
 refine h.drewK λw h=>?_
 refine h.lx (s:=s) n rfl (by omega) (ql (wu _ c0) ⟨by decide,qxd ?_⟩)
 refine ql (qd (by omega) (by omega)) ?_
 refine h.lx (s:=s) (n+1) (by omega) (by omega) (ql (wu _ c1) ⟨by decide,qxd (qxd ?_)⟩)
 refine ql (qd (by omega) (by omega)) ?_
 refine h.lx (s:=s) (n+2) (by omega) (by omega) (ql (wu _ c2) ⟨by decide,qxd (qxd ?_)⟩)
 refine ql (qd (by omega) (by omega)) ?_
 refine h.lx (s:=s) (n+3) (by omega) (by omega) (ql (wu _ c3) (ql (qrib c0 c1 c2 c3) ?_))
 refine qyg.c (s:=t) h hzb (by omega) λw h=>⟨_,rfl,?_⟩
 refine qbf (λg=>?_) (λg=>?_)
 ·rw[if_pos (by simpa using g)]at hr
  exact no w 4 h.drop hr
 ·rw[if_neg (by simpa using g)]at hr
  refine ql (qd (by omega) (by omega)) ?_
  subst hr
  have:=hk t w ht hzb h
  simp only at this
  rw[show(n:Int)+4=((n+4:Nat):Int)by omega]
  exact this
end
end
section
attribute [local irreducible] apK cpK mkK br
theorem St.new5{F0:List Nat}{w0 w:World}{ps:List As}{s:Sl}{a b c d e:Int}(h:St F0 w0 w (qyb 1 s (⟨[.int .u8 a,.int .u8 b,.int .u8 c,.int .u8 d,.int .u8 e]⟩:Array Value).toList::ps)):St F0 w0 w (qyb 1 s (u8s [a,b,c,d,e])::ps):=h
theorem St.new4{F0:List Nat}{w0 w:World}{ps:List As}{s:Sl}{a b c d:Int}(h:St F0 w0 w (qyb 1 s (⟨[.int .u8 a,.int .u8 b,.int .u8 c,.int .u8 d]⟩:Array Value).toList::ps)):St F0 w0 w (qyb 1 s (u8s [a,b,c,d])::ps):=h
section
variable {F0:List Nat}{w0 w:World}{ps rest:List As}{s:Sl}{xs:List Int}{K:Ending->World->Prop}
theorem qjb.c(h:St F0 w0 w ps)[Rdb F0 w0 s ps 1 (u8s xs)](hx:qjm xs)(hL:xs.length<=1000000000)
 (hk:∀w',St F0 w0 w' ps->K (.returned (.tuple ⟨[.int .i64 (qxj 0 0 xs).1,.int .i64 (qxj 0 0 xs).2.1,.int .i64 (qxj 0 0 xs).2.2]⟩)) w'):
 Calls prog 50 ⟨[.slice s.a s.len s.cap]⟩ w K:=by
 refine qec (qjb.ok _ _ _ ?_)
 unfold qjb qjb.j1 qjb.j3
 have hl:=(h.rdb s).1
 rw[qj]at hl
 refine qmg (λ(i:Nat) (v i':Int) w'=>i'=i/\i<=xs.length/\i<=8/\0<=v/\(i=0->v=0)/\(0<i->v*128+384<=130*128^i)/\qxj i v (xs.drop i)=qxj 0 0 xs/\St F0 w0 w' ps) (λi=>xs.length-i) 0 ⟨rfl,by omega,by omega,by omega,λ_=>rfl,λg=>by omega,rfl,h⟩ ?_
 clear h
 rintro i v i' w I μ ⟨rfl,hi,hi9,hv0,hz,hv1,hd,h⟩ hin
 unfold qjb.b1
 refine qrc (λg=>?_) (λg=>?_)
 ·unfold qjb.j4
  refine qbf (λg2=>?_) (λg2=>?_)
  ·have:i=xs.length:=by have:(i:Int)=s.len:=by simpa using g2
                        omega
   subst this
   rw[List.drop_length,qxj,if_neg (by omega)]at hd
   rw[<-hd]at hk
   exact hk w h
  ·have hix:i<xs.length:=by have:¬(i:Int)=s.len:=by simpa using g2
                            omega
   have hc:=qxr hx hix
   have ed:xs.drop i=xs.getD i 0::xs.drop (i+1):=by
    rw[List.drop_eq_getElem_cons hix];simp[getD,List.getElem?_eq_getElem hix]
   rw[ed]at hd
   have hlx:∀(K:Int->Prop),K (xs.getD i 0)->ixS s.a s.len (i:Int) 1 λa=>ldI .u8 w a K:=λK hk=>h.lx i rfl hix hk
   generalize xs.getD i 0=c at hc hd hlx
   rw[qxj,if_neg (by omega)]at hd
   have hP:(128:Int)^i<=128^7:=by exact_mod_cast Nat.pow_le_pow_right (by decide) (show i<=7 by omega)
   rw[show(128:Int)^7=562949953421312 by decide]at hP
   have hP0:(0:Int)<128^i:=Int.pow_pos (by decide)
   have hP1:(128:Int)^(i+1)=128*128^i:=by rw[Int.pow_succ,Int.mul_comm]
   have end7:∀u:Int,0<=u->u<=1000000000000000->(if 0<i then(v+1)*128 else v)=u*128->(0<i->u=v+1)->qjb.j6 s u (i:Int) (λv w'=>K (.returned v) w') (λb_0' v_5' i_6' w'=>(b_0'=s)/\I v_5' i_6' w'/\μ v_5' i_6' w'<μ v i w) w:=by
    intro u hu0 hu1 hu2 hu3;rw[hu2]at hd;obtain⟨u,rfl⟩:∃t:Nat,u=t:=⟨u.toNat,by omega⟩;obtain⟨m,hm⟩:∃m:Nat,c%128=m:=⟨(c%128).toNat,by omega⟩;rw[hm]at hd;unfold qjb.j6;refine⟨by decide,?_⟩;have es:=qzj .i64 (x:=(u:Int)) (t:=7) (by decide) (by omega) (by rw[show(2:Int)^(i64.bits-1)=9223372036854775808 by decide,show(2:Int)^7=128 by decide];omega);rw[show(2:Int)^7=128 by decide]at es;refine ql es ?_;refine hlx _ ?_;refine ql (qix (by decide) _) ?_;refine ql (qd (by omega) (by omega)) ?_;rw[hm];have eo:=qnr .i64 (a:=m) (b:=u) (t:=7) (by omega) (by show m+u*2^7<2^63;omega);rw[show(2:Int)^7=128 by decide]at eo;refine ql eo ?_;rw[Int.add_comm (m:Int)];refine hlx _ ?_;refine qrc (λg3=>?_) (λg3=>?_)
    ·rw[if_pos g3]at hd;refine ql (qd (by omega) (by omega)) ?_;rw[<-hd]at hk;exact hk w h
    ·rw[if_neg g3]at hd;unfold qjb.j5;refine ql (qd (by omega) (by omega)) ?_;refine⟨rfl,hin (i+1) _ _ _ ⟨by omega,by omega,by omega,by omega,by omega,λ_=>?_,hd,h⟩ (by omega)⟩;by_cases h0:0<i
     ·have h5:=hv1 h0;have h6:=hu3 h0;omega
     ·have h1:i=0:=by omega
      have h2:=hz h1;rw[if_neg h0]at hu2;subst h1;rw[hP1];simp only[Int.pow_zero]at hP|-
      omega
   refine qrc (λg3=>?_) (λg3=>?_)
   ·have h0:0<i:=by omega
    have h5:=hv1 h0
    refine ql (qd (by omega) (by omega)) ?_
    exact end7 (v+1) (by omega) (by omega) (by rw[if_pos h0]) (λ_=>rfl)
   ·have h0:i=0:=by omega
    exact end7 v hv0 (by rw[hz h0];decide) (by rw[if_neg (by omega),hz h0];rfl) (λg=>by omega)
 ·have:i=8:=by omega
  subst this
  have e8:qxj 8 v (xs.drop 8)=(0,0,5):=by
   cases xs.drop 8 with
   |nil=>rfl
   |cons c r=>rfl
  rw[e8]at hd
  unfold qjb.j2
  rw[<-hd]at hk
  exact hk w h
theorem qub.c{n:Nat}(h:St F0 w0 w ps)[PkO s ps 1 (u8s xs) rest](hL:xs.length<=1000000000)(hn:n<9223372036854775808)
 (hk:∀t (ys:List Int) w',ys.length<=xs.length+11/\((∀x∈xs,0<=x/\x<256)->∀y∈ys,0<=y/\y<256)->St F0 w0 w' (qyb 1 t (u8s ys)::rest)->K (.returned (.slice t.a t.len t.cap)) w'):
 Calls prog 45 ⟨[.slice s.a s.len s.cap,.int .i64 (n:Int)]⟩ w K:=by
 refine qec (qub.ok _ _ _ _ ?_)
 unfold qub
 refine qrc (λg=>by omega) λ_=>?_
 unfold qub.j1
 refine qxd (qxd ?_)
 have h:=h.toO s
 refine h.new λnb w h=>?_
 refine⟨by decide,ql (shr7 n) ?_⟩
 unfold qub.j2
 refine qmg (λ(a:Nat×Nat×List Int) (v:Int) (o:Sl) w'=>v=a.1/\a.1<=n/\a.1<128^a.2.1/\(a.2.1+a.2.2.length<=11/\∀y∈a.2.2,0<=y/\y<256)/\St F0 w0 w' (qyb 1 o (u8s a.2.2)::qyb 1 s (u8s xs)::rest)) (λa=>a.2.1) (n/128,10,[IntKind.u8.wrap (qzi .i64 (n:Int) 127)]) ⟨rfl,by simp only;omega,by simp only;omega,⟨by simp,λy hy=>by rw[List.mem_singleton.1 hy,qhi];omega⟩,h.ownB (n:=1) rfl⟩ ?_
 clear h
 rintro⟨v,k,ys⟩ v' o w I μ ⟨rfl,hvn,hv,⟨hl,hr⟩,h⟩ hin
 simp only at hvn hv hl hr h hin|-
 unfold qub.b1
 refine qrc (λg=>?_) (λg=>?_)
 ·refine ql (show i64.wrap ((v:Int)-1)=((v-1:Nat):Int)by rw[qd (by omega) (by omega)];omega) ?_
  refine qxd (qxd (qxd ?_))
  refine h.new λnb w h=>?_
  have h:=h.ownB (n:=1) rfl
  have h:St F0 w0 w (qyb 1 ⟨some ⟨nb,0,none⟩,1,1⟩ (u8s [IntKind.u8.wrap (orV .i64 (qzi .i64 ((v-1:Nat):Int) 127) 128)])::qyb 1 o (u8s ys)::qyb 1 s (u8s xs)::rest):=h
  refine h.appI (s:=⟨some ⟨nb,0,none⟩,1,1⟩) (s2:=o) (by rw[List.length_singleton];omega) λo2 w h=>?_
  refine⟨by decide,ql (shr7 (v-1)) ?_⟩
  have hk1:1<=k:=by
   rcases Nat.eq_zero_or_pos k with e|e
   ·subst e;simp at hv;omega
   ·exact e
  refine⟨rfl,hin ((v-1)/128,k-1,[IntKind.u8.wrap (orV .i64 (qzi .i64 ((v-1:Nat):Int) 127) 128)]++ys) _ _ _ ⟨rfl,by simp only;omega,?_,⟨by simp only[length_append,List.length_singleton];omega,λy hy=>by
   rcases mem_append.1 hy with hy|hy
   ·rw[List.mem_singleton.1 hy,qhi];omega
   ·exact hr y hy⟩,h.sub⟩ (by simp only;omega)⟩
  simp only
  have e:128^k=128*128^(k-1):=by rw[show k=(k-1)+1 by omega,Nat.pow_succ,Nat.mul_comm];rfl
  rw[e]at hv
  generalize 128^(k-1)=P at hv|-
  omega
 ·unfold qub.j3
  refine h.appI (s:=s) (s2:=o) (by omega) λt w h=>?_
  exact hk t (xs++ys) w ⟨by rw[length_append];omega,λhx y hy=>(mem_append.1 hy).elim (hx y) (hr y)⟩ h.sub
theorem qjc.c(h:St F0 w0 w ps)[Rdb F0 w0 s ps 1 (u8s xs)](hb:∀x∈xs,0<=x/\x<256)(hL:xs.length<=65535)(hc:s.len<=s.cap)
 (hk:∀t (ys:List Int) w',(ys.length<=xs.length+5/\∀y∈ys,0<=y/\y<256)->St F0 w0 w' (qyb 1 t (u8s ys)::ps)->K (.returned (.slice t.a t.len t.cap)) w'):
 Calls prog 65 ⟨[.slice s.a s.len s.cap]⟩ w K:=by
 have hl:=(h.rdb s).1
 rw[qj]at hl
 refine qec (qjc.ok _ _ _ ?_)
 unfold qjc qjc.j1
 have h:St F0 w0 w (qyb 1 ⟨none,0,0⟩ (u8s [])::ps):=h.nil 1
 refine qmg (λ(_:Unit) (b o:Sl) w'=>b=s/\o=⟨none,0,0⟩/\St F0 w0 w' (qyb 1 ⟨none,0,0⟩ (u8s [])::ps)) (λ_=>0) () ⟨rfl,rfl,h⟩ ?_
 clear h
 rintro _ b o w I μ ⟨rfl,rfl,h⟩ _
 unfold qjc.b1 qjc.j2
 refine qrc (λg=>by omega) λ_=>?_
 unfold qjc.j3
 refine qxd ⟨by decide,qxd (qxd (qxd (qxd ⟨by decide,qxd (qxd (qxd ?_))⟩)))⟩
 refine h.new λnb w h=>?_
 have h:=h.ownB (n:=5) rfl
 obtain⟨L,hL5,hLo,h⟩:∃L:List Int,L.length=5/\(∀y∈L,0<=y/\y<256)/\St F0 w0 w (qyb 1 ⟨some ⟨nb,0,none⟩,5,5⟩ (u8s L)::qyb 1 ⟨none,0,0⟩ (u8s [])::ps):=⟨_,rfl,by
  intro y hy;simp only[List.mem_cons,List.not_mem_nil,or_false]at hy;rcases hy with rfl|rfl|rfl|rfl|rfl<;>first|(rw[qhi];omega)|decide|(unfold qwk;rw[qhi];omega),St.new5 h⟩
 refine h.appI (s:=⟨none,0,0⟩) (s2:=⟨some ⟨nb,0,none⟩,5,5⟩) (by simp;omega) λo2 w h=>?_
 rw[nil_append]at h
 refine qfn (n:=b.len) rfl hc (qxd ?_)
 haveI:=h.cutR b 0 b.len (b.cap-0) (le_refl _) (zero_le _) hc (show(xs.drop 0).take (b.len-0)=xs by rw[drop_zero,take_of_length_le (by omega)])
 refine h.appI (s:=o2) (s2:=⟨qpf b.a b.cap 0 1,b.len-0,b.cap-0⟩) (by omega) λt w h=>?_
 refine qfn (n:=b.len) rfl (le_refl _) (qxd ?_)
 refine qbg (by simp) ?_
 exact hk t (L++xs) w ⟨by rw[length_append];omega,λy hy=>(mem_append.1 hy).elim (hLo y) (hb y)⟩ h.sub
theorem qth.c(h:St F0 w0 w ps)[Rdb F0 w0 s ps 1 (u8s xs)](hb:∀x∈xs,0<=x/\x<256)(hL:xs.length<=65535)(hc:s.len<=s.cap)
 (hk:∀t (ys:List Int) w',(1<=ys.length/\ys.length<=xs.length+11/\∀y∈ys,0<=y/\y<256)->St F0 w0 w' (qyb 1 t (u8s ys)::ps)->K (.returned (.slice t.a t.len t.cap)) w'):
 Calls prog 46 ⟨[.slice s.a s.len s.cap]⟩ w K:=by
 refine qec (qth.ok _ _ _ ?_)
 unfold qth
 refine h.new λnb w h=>?_
 have h:=h.ownB (n:=2) rfl
 have h:St F0 w0 w (qyb 1 ⟨some ⟨nb,0,none⟩,2,2⟩ (u8s [120,1])::ps):=h
 refine qjc.c (s:=s) (xs:=xs) h hb hL hc λr ys w ⟨hy,hyo⟩ h=>⟨r,rfl,?_⟩
 refine h.appI (s:=⟨some ⟨nb,0,none⟩,2,2⟩) (s2:=r) (by simp;omega) λt w h=>?_
 refine qyg.c (s:=s) (xs:=xs) h hb (by omega) λw h=>⟨_,rfl,?_⟩
 refine⟨by decide,qxd (qxd ⟨by decide,qxd (qxd ⟨by decide,qxd (qxd (qxd ?_))⟩)⟩)⟩
 refine h.new λnb2 w h=>?_
 have h:=h.ownB (n:=4) rfl
 obtain⟨L,hL4,hLo,h⟩:∃L:List Int,L.length=4/\(∀y∈L,0<=y/\y<256)/\St F0 w0 w (qyb 1 ⟨some ⟨nb2,0,none⟩,4,4⟩ (u8s L)::qyb 1 t (u8s ([120,1]++ys))::qyb 1 r (u8s ys)::ps):=⟨_,rfl,by
  intro y hy;simp only[List.mem_cons,List.not_mem_nil,or_false]at hy;rcases hy with rfl|rfl|rfl|rfl<;>first|(rw[qhi];omega)|decide,St.new4 h⟩
 refine h.appI (s:=t) (s2:=⟨some ⟨nb2,0,none⟩,4,4⟩) (by rw[length_append,hL4];show 2+ys.length+4<=_;omega) λt2 w h=>?_
 exact hk t2 ([120,1]++ys++L) w (by
  refine⟨?_,?_,λy hy=>?_⟩
  ·rw[length_append,length_append,hL4];show 1<=2+ys.length+4;omega
  ·rw[length_append,length_append,hL4];show 2+ys.length+4<=_;omega
  ·rcases mem_append.1 hy with hy|hy
   ·rcases mem_append.1 hy with hy|hy
    ·simp at hy;omega
    ·exact hyo y hy
   ·exact hLo y hy) h.sub
end
end
end Go.Proofs.YtdccpphmkfaioaaGreat
