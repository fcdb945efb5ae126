/- Own texts as one, only what is reached (shake2.py). -/
import Derived.Test.YtdccpphmkfaioaaGreatPbd
import Derived.Test.YtdccpphmkfaioaaGreatProg
set_option linter.unusedSectionVars false
set_option linter.unusedVariables false
set_option linter.unusedSimpArgs false
namespace Go.Proofs.YtdccpphmkfaioaaGreat
open Go Go.Proofs
open Int (tmod toNat_natCast)
open Go.IntKind (i64 u32)
open List (getD length_append length_drop length_replicate length_take replicate take_of_length_le)
open Nat (le_refl zero_le)
open Go.Proofs.Tryz (prog)
section
attribute [local irreducible] apK cpK mkK br
section
variable {F0:List Nat}{w0 w:World}{ps rest rest2:List As}{sb rb V N:Nat}{most:Int}{z:Z}
theorem qarb:zc prog 236=⟨ivs .i64 (replicate 19 0)⟩:=by kernel_rfl
theorem qbj.c{K:Ending->World->Prop}(h:St F0 w0 w ps)(hk:∀w',St F0 w0 w' ps->K (.returned (.agg ⟨ivs .i64 qki⟩)) w'):Calls prog 171 ⟨[]⟩ w K:=by
 refine qdc (qbj.ok _ _ ?_);unfold qbj;refine h.new λnb w h=>⟨rfl,?_⟩;rw[qarb]at h;have h:St F0 w0 w (qqb nb (ivs .i64 (replicate 19 0))::ps):=h;refine St.sA (n:=19) (l':=ivs .i64 qki) h (by rfl) (by rfl) qpe λw h=>?_;refine h.lA (b:=nb) rfl ?_;exact hk w h.drop
theorem qqf.c{s:Sl}{sym:Int}{l:List Int}{K:Ending->World->Prop}(h:St F0 w0 w (ztA sb rb V N most z::ps))[Rdb F0 w0 s ps 1 (ivs .i64 l)](hN:N<=137438953472)(hp:z.1<=8*N)(hl:l.length<=1000000)
 (hk:∀w',(qtf (ql V (8*N)) sym l z).2.1<=8*N->St F0 w0 w' (ztA sb rb V N most (qtf (ql V (8*N)) sym l z).2::ps)->K (.returned (.tuple ⟨[.int .i64 (qtf (ql V (8*N)) sym l z).1.1,.int .i64 (qtf (ql V (8*N)) sym l z).1.2]⟩)) w'):
 Calls prog 172 ⟨[.pointer (some ⟨sb,0,none⟩),.int .i64 sym,.slice s.a s.len s.cap]⟩ w K:=by
 have hls:=(h.rdb s).1
 rw[qk]at hls
 have hp':=(qvw (B:=ql V (8*N)) (z:=z) sym l (by rw[qq];exact hp)).2
 rw[qq]at hp'
 have hk:=λw'=>hk w' hp'
 clear hp'
 refine qdc (qqf.ok _ _ _ _ _ ?_)
 unfold qqf
 unfold qtf at hk
 have b2:=qof (B:=ql V (8*N)) (z:=z) 2 (by decide)
 have b3:=qof (B:=ql V (8*N)) (z:=z) 3 (by decide)
 have b7:=qof (B:=ql V (8*N)) (z:=z) 7 (by decide)
 refine qye (λg=>?_) (λg=>?_)
 ·have g:sym=16:=by simpa using g
  rw[if_pos g]at hk
  refine qye (λg2=>?_) (λg2=>?_)
  ·have g2:(s.len:Int)=0:=by simpa using g2
   rw[if_pos (by omega)]at hk
   exact qmc.c h λw h=>⟨rfl,hk w h⟩
  ·have g2:(s.len:Int)≠0:=by simpa using g2
   rw[if_neg (by omega)]at hk
   refine h.drewK λw h=>?_
   refine qm (qd (by omega) (by omega)) ?_
   have hr:=h.rdb s
   refine hr.ix (by decide) (by omega) (by omega) λa ha=>?_
   have ei:((s.len:Int)-1).toNat*1=l.length-1:=by omega
   rw[ei]
   refine⟨?_,?_⟩
   ·refine hr.ldI ha (qsm (by omega)) ?_
    refine qtc.c h hN hp λw _ h=>⟨_,rfl,?_⟩
    exact qm (qd (by omega) (by omega)) (hk w h)
   ·refine qtc.c h hN hp λw _ h=>⟨_,rfl,?_⟩
    refine qm (qd (by omega) (by omega)) ?_
    exact(h.rdb s).ldI ha (qsm (by omega)) (hk w h)
 have g:sym≠16:=by simpa using g
 rw[if_neg g]at hk
 refine qye (λg=>?_) (λg=>?_)
 ·have g:sym=17:=by simpa using g
  rw[if_pos g]at hk
  refine qtc.c h hN hp λw _ h=>⟨_,rfl,?_⟩
  exact qm (qd (by omega) (by omega)) (hk w h)
 have g:sym≠17:=by simpa using g
 rw[if_neg g]at hk
 refine qye (λg=>?_) (λg=>?_)
 ·have g:sym=18:=by simpa using g
  rw[if_pos g]at hk
  refine qtc.c h hN hp λw _ h=>⟨_,rfl,?_⟩
  exact qm (qd (by omega) (by omega)) (hk w h)
 have g:sym≠18:=by simpa using g
 rw[if_neg g]at hk
 exact hk w h
theorem qh.loop{cb:Option Addr}{cl:List Int}{nl nd:Nat}{K:Ending->World->Prop}(h:St F0 w0 w (ztA sb rb V N most z::ps))(hc:z.2.2=0->∃b,cb=some ⟨b,0,none⟩/\∃rest,PkF hcA b ps cl rest)(hN:N<=137438953472)(hp:z.1<=8*N)(hn:nl+nd<=200000)
 (hk0:∀(t11:Sl) w',(zll cl (ql V (8*N)) (nl+nd) (nl+nd+1) [] z).2.2.2=0->t11.len=nl+nd->t11.len<=t11.cap->St F0 w0 w' (ztA sb rb V N most (zll cl (ql V (8*N)) (nl+nd) (nl+nd+1) [] z).2::rdA 1 t11 (ivs .i64 (zll cl (ql V (8*N)) (nl+nd) (nl+nd+1) [] z).1)::ps)->K (.returned (.tuple ⟨[.slice (qnf t11.a t11.cap 0 1) (nl-0) (t11.cap-0),.slice (qnf t11.a t11.cap nl 1) (t11.len-nl) (t11.cap-nl)]⟩)) w')
 (hk1:∀w',(zll cl (ql V (8*N)) (nl+nd) (nl+nd+1) [] z).2.2.2≠0->St F0 w0 w' (ztA sb rb V N most (zll cl (ql V (8*N)) (nl+nd) (nl+nd+1) [] z).2::ps)->K (.returned (.tuple ⟨[.slice none 0 0,.slice none 0 0]⟩)) w'):
 qh.j6 (some ⟨sb,0,none⟩) (nl:Int) (nd:Int) cb ⟨none,0,0⟩ (λv w'=>K (.returned v) w') w:=by
 have hBl:(ql (V:Int) (8*N)).length=8*N:=qq _ _
 generalize hR:zll cl (ql V (8*N)) (nl+nd) (nl+nd+1) [] z=R at hk0 hk1
 have hRl:=qit (cl:=cl) (B:=ql V (8*N)) (N:=nl+nd) (nl+nd+1) [] z (by simp) (by simp)
 rw[hR]at hRl
 unfold qh.j6
 refine qjf (λ(a:Nat×List Int×Z) (t11:Sl) w'=>zll cl (ql V (8*N)) (nl+nd) a.1 a.2.1 a.2.2=R/\a.2.2.1<=8*N/\a.2.1.length<=nl+nd/\(a.2.2.2.2=0->z.2.2=0/\nl+nd<a.1+a.2.1.length)/\St F0 w0 w' (ztA sb rb V N most a.2.2::qcc 1 t11 (ivs .i64 a.2.1)::ps)) (λa=>a.1) (nl+nd+1,[],z) ⟨hR,hp,by simp,λe=>⟨e,by simp⟩,(h.nil 1).at1⟩ ?_
 clear h hp hR
 rintro⟨f,l,y⟩ t11 wL I μ ⟨hR,hp,hl,hf,h⟩ hin
 simp only at hR hp hl hf h hin|-
 have hol:=h.drop.len
 rw[qk]at hol
 have h0:=h
 unfold qh.b1
 obtain⟨o,h⟩:=qmv h
 refine qkd (h.fI ?_)
 have stop:(y.2.2≠0\/nl+nd<=l.length)->qh.j7 (some ⟨sb,0,none⟩) (nl:Int) t11 (λv w'=>K (.returned v) w') wL:=by
  intro hc;have e:R=(l,y):=by
   rw[<-hR];cases f with
   |zero=>rfl
   |succ f=>rw[zll,if_pos hc]
  rw[e]at hk0 hk1 hRl;simp only at hk0 hk1 hRl;unfold qh.j7;refine qkd (h.fI ?_);refine qye (λg=>?_) (λg=>?_)
  ·have g:y.2.2≠0:=by simpa using g
   exact hk1 wL g (h0.tail λ_ _ _ h=>h.drop)
  ·have g:y.2.2=0:=by simpa using g
   have hll:=hRl g;have hcap:=h0.drop.cap (by decide);refine h0.drewK λw h0=>?_;refine qkn (n:=nl) rfl (by omega) (qbe ?_);refine qkn (n:=nl) rfl (by omega) (qbe ?_);exact hk0 t11 w g (by omega) hcap (h0.tail λ_ _ _ h=>h.ro)
 refine qye (λg=>?_) (λg=>stop (Or.inl (by simpa using g)))
 have g:y.2.2=0:=by simpa using g
 refine qm (qd (by omega) (by omega)) ?_
 refine quc (λg1=>?_) (λg1=>stop (Or.inr (by omega)))
 obtain⟨hz0,hfl⟩:=hf g
 obtain⟨b,rfl,rest,ipk⟩:=hc hz0
 obtain⟨f,rfl⟩:∃f',f=f'+1:=⟨f-1,by omega⟩
 rw[zll,if_neg (λe=>by rcases e with e|e;exact e g;omega)]at hR
 unfold zllS at hR
 simp only at hR
 unfold qh.j8
 refine qbf.c (cb:=b) (ls:=cl) h0 hN hp λw hle h=>⟨_,rfl,?_⟩
 generalize qyl cl (ql V (8*N)) y=s at h hR hle|-
 refine qqf.c (s:=t11) (l:=l) h hN hle (by omega) λw hle2 h=>⟨_,_,rfl,?_⟩
 have hna:=qww (B:=ql V (8*N)) (z:=s.2) s.1 l
 generalize qtf (ql V (8*N)) s.1 l s.2=a at h hR hle2 hna|-
 refine qm (qd (by omega) (by omega)) ?_
 refine qm (qd (by omega) (by omega)) ?_
 have main:∀(z3:Z) w,z3=(if((nl+nd:Nat):Int)-l.length<a.1.2 then qtd 2 a.2 else a.2)->z3.1<=8*N->St F0 w0 w (ztA sb rb V N most z3::qcc 1 t11 (ivs .i64 l)::ps)->
  qh.j9 (some ⟨sb,0,none⟩) (nl:Int) (nd:Int) (some ⟨b,0,none⟩) t11 a.1.1 a.1.2 (λv w'=>K (.returned v) w') (λd_0' t4' t5' t10' t11' w'=>(d_0'=some ⟨sb,0,none⟩/\t4'=(nl:Int)/\t5'=(nd:Int)/\t10'=some ⟨b,0,none⟩)/\I t11' w'/\μ t11' w'<μ t11 wL) w:=by
  intro z3 w e hz3 h
  rw[<-e]at hR
  have h0:=h
  unfold qh.j9
  obtain⟨o,h⟩:=qmv h
  refine qkd (h.fI ?_)
  refine qye (λg2=>?_) (λg2=>?_)
  ·have g2:z3.2.2=0:=by simpa using g2
   have hle3:a.1.2<=((nl+nd:Nat):Int)-l.length/\a.2.2.2=0:=by
    by_cases hc:((nl+nd:Nat):Int)-l.length<a.1.2
    ·rw[if_pos hc]at e;rw[e]at g2;exact absurd g2 (qvh (by decide))
    ·rw[if_neg hc]at e;exact⟨by omega,by rw[<-e];exact g2⟩
   have hn1:=hna.2.2 hle3.2
   rw[if_pos g2]at hR
   have h:=h0
   refine h.new λnb w h=>?_
   have h:St F0 w0 w (qqb nb (ivs .i64 [a.1.1])::ztA sb rb V N most z3::qcc 1 t11 (ivs .i64 l)::ps):=h
   have h:=h.ownB (n:=1) rfl
   have en:a.1.2=((a.1.2.toNat:Nat):Int):=by omega
   rw[en]
   refine qsb.c (s:=⟨some ⟨nb,0,none⟩,1,1⟩) (x:=a.1.1) h (by omega) λt w ht h=>⟨t,rfl,?_⟩
   refine h.appI (s:=t11) (s2:=t) (by rw[length_replicate];omega) λt2 w h=>?_
   refine⟨⟨rfl,rfl,rfl,rfl⟩,hin (f,l++replicate a.1.2.toNat a.1.1,z3) _ _ ⟨hR,hz3,by simp only[length_append,length_replicate];omega,λ_=>⟨hz0,by simp only[length_append,length_replicate];omega⟩,?_⟩ (by simp only;omega)⟩
   exact h.sub
  ·have g2:z3.2.2≠0:=by simpa using g2
   rw[if_neg g2]at hR
   exact⟨⟨rfl,rfl,rfl,rfl⟩,hin (f,l,z3) _ _ ⟨hR,hz3,by simp only;omega,λe=>absurd e g2,h0⟩ (by simp only;omega)⟩
 refine quc (λg2=>?_) (λg2=>?_)
 ·refine qmc.c h λw h=>⟨rfl,?_⟩
  exact main (qtd 2 a.2) w (by rw[if_pos (by omega)]) hle2 h
 ·exact main a.2 w (by rw[if_neg (by omega)]) hle2 h
theorem qsw:∀k,k<19->0<=qki.getD k 0/\qki.getD k 0<19:=by decide
theorem qpab(b c:Nat)(hc:c≠0):cutP ⟨b,0,none⟩ c 0 1=some ⟨b,0,none⟩:=by
 unfold cutP;rw[if_neg hc,qyf]
theorem qjfb{nb n c:Nat}{k:IntKind}{l:List Int}[PkB nb ps (ivs k l) rest](hn:n<=l.length):Rdb F0 w0 ⟨some ⟨nb,0,none⟩,n,c⟩ ps 1 (ivs k (l.take n)):=⟨λh=>by
 have hb:=(h.toB nb).blk;refine⟨by rw[qk,length_take,Nat.mul_one];exact Nat.min_eq_left hn,λi hi=>⟨_,rfl,?_⟩⟩;rw[qk,length_take]at hi;rw[qyf,Nat.zero_add,hb.cell,<-qcr,List.getElem?_take,if_pos (by omega)]⟩
theorem qip{l:List Int}{n k:Nat}(h:k<n):(l.take n).getD k 0=l.getD k 0:=by simp[getD,List.getElem?_take,h]
theorem qh.c{K:Ending->World->Prop}(h:St F0 w0 w (ztA sb rb V N most z::ps))(hN:N<=137438953472)(hp:z.1<=8*N)
 (hk0:∀(t11:Sl) (l:List Int) (nl:Nat) w',(qoj (ql V (8*N)) z).2.2.2=0->t11.len=l.length->nl<=t11.len->t11.len<=t11.cap->(qoj (ql V (8*N)) z).1=(l.take nl,l.drop nl)->St F0 w0 w' (ztA sb rb V N most (qoj (ql V (8*N)) z).2::rdA 1 t11 (ivs .i64 l)::ps)->K (.returned (.tuple ⟨[.slice (qnf t11.a t11.cap 0 1) (nl-0) (t11.cap-0),.slice (qnf t11.a t11.cap nl 1) (t11.len-nl) (t11.cap-nl)]⟩)) w')
 (hk1:∀w',(qoj (ql V (8*N)) z).2.2.2≠0->St F0 w0 w' (ztA sb rb V N most (qoj (ql V (8*N)) z).2::ps)->K (.returned (.tuple ⟨[.slice none 0 0,.slice none 0 0]⟩)) w'):
 Calls prog 159 ⟨[.pointer (some ⟨sb,0,none⟩)]⟩ w K:=by
 have hBl:(ql (V:Int) (8*N)).length=8*N:=qq _ _
 refine qdc (qh.ok _ _ _ ?_)
 unfold qh qh.j1
 generalize hZ:qoj (ql V (8*N)) z=Zr at hk0 hk1
 unfold qoj at hZ
 simp only at hZ
 refine qtc.c h hN hp λw hp1 h=>⟨_,rfl,?_⟩
 have hg1:=qof (B:=ql V (8*N)) (z:=z) 5 (by decide)
 generalize qff (ql V (8*N)) 5 z=g1 at h hZ hp1 hg1|-
 refine qm (qd (by omega) (by omega)) ?_
 have j2:∀(y1:Z) w,y1=(if 286<g1.1+257 then qtd 2 g1.2 else g1.2)->y1.1<=8*N->St F0 w0 w (ztA sb rb V N most y1::ps)->qh.j2 (some ⟨sb,0,none⟩) (g1.1+257) (λv w'=>K (.returned v) w') w:=by
  intro y1 w e hp1 h;rw[<-e]at hZ;unfold qh.j2;refine qtc.c h hN hp1 λw hp2 h=>⟨_,rfl,?_⟩;have hg2:=qof (B:=ql V (8*N)) (z:=y1) 5 (by decide);generalize qff (ql V (8*N)) 5 y1=g2 at h hZ hp2 hg2|-
  refine qm (qd (by omega) (by omega)) ?_;have j3:∀(y2:Z) w,y2=(if 30<g2.1+1 then qtd 2 g2.2 else g2.2)->y2.1<=8*N->St F0 w0 w (ztA sb rb V N most y2::ps)->qh.j3 (some ⟨sb,0,none⟩) (g1.1+257) (g2.1+1) (λv w'=>K (.returned v) w') w:=by
   intro y2 w e hp2 h;rw[<-e]at hZ;unfold qh.j3;refine h.new λcb w h=>?_;rw[qarb]at h;refine qbj.c h λw h=>⟨_,rfl,?_⟩;refine h.new λob w h=>⟨rfl,?_⟩;rw[qarb]at h;have h:St F0 w0 w (qqb ob (ivs .i64 (replicate 19 0))::qqb cb (ivs .i64 (replicate 19 0))::ztA sb rb V N most y2::ps):=h;refine St.sA (n:=19) (l':=ivs .i64 qki) h (by rfl) (by rfl) qpe λw h=>?_;have h:St F0 w0 w (ztA sb rb V N most y2::qqb cb (ivs .i64 (replicate 19 0))::qqb ob (ivs .i64 qki)::ps):=h.sub;unfold qh.j4;refine qtc.c h hN hp2 λw hp3 h=>⟨_,rfl,?_⟩;have hg3:=qyk (B:=ql V (8*N)) (z:=y2) 4;rw[show((2:Int)^(4:Int).toNat)=16 by decide]at hg3;generalize qff (ql V (8*N)) 4 y2=g3 at h hZ hp3 hg3|-
   refine qm (qd (by omega) (by omega)) ?_;refine qkn (n:=(g3.1+4).toNat) (by omega) (by omega) (qbe ?_);rw[qpab _ _ (by decide)];unfold qh.j10;refine qjf (λ(k:Nat) (k':Int) w'=>k'=k/\k<=(g3.1+4).toNat/\(qel (ql V (8*N)) g3.2 k).2.1<=8*N/\St F0 w0 w' (ztA sb rb V N most (qel (ql V (8*N)) g3.2 k).2::qqb cb (ivs .i64 (qel (ql V (8*N)) g3.2 k).1)::qqb ob (ivs .i64 qki)::ps)) (λk=>(g3.1+4).toNat-k) 0 ⟨rfl,by omega,hp3,h⟩ ?_;clear h;rintro k k' wL I μ ⟨rfl,hkn,hpk,h⟩ hin;unfold qh.b2;refine quc (λg=>?_) (λg=>?_)
   ·have g:(k:Int)<(((g3.1+4).toNat-0:Nat):Int):=g;have hk19:k<19:=by omega
    have hz:=qsw k hk19;have hcl:=quw (B:=ql V (8*N)) (z:=g3.2) k;haveI:Rdb F0 w0 ⟨some ⟨ob,0,none⟩,(g3.1+4).toNat-0,19-0⟩ (ztA sb rb V N most (qel (ql V (8*N)) g3.2 k).2::qqb cb (ivs .i64 (qel (ql V (8*N)) g3.2 k).1)::qqb ob (ivs .i64 qki)::ps) 1 (ivs .i64 (qki.take ((g3.1+4).toNat-0))):=qjfb (show _<=19 by omega);refine h.lx (s:=⟨some ⟨ob,0,none⟩,(g3.1+4).toNat-0,19-0⟩) k rfl (by rw[length_take];show k<min _ 19;omega) ?_;rw[qip (by omega)];refine qtc.c h hN hpk λw hpk2 h=>⟨_,rfl,?_⟩;refine St.sa (b:=cb) (zs:=(qel (ql V (8*N)) g3.2 k).1) h (qki.getD k 0).toNat (by omega) hcl (by omega) λw h=>?_;refine qm (qd (by omega) (by omega)) ?_;refine⟨⟨rfl,rfl,rfl,rfl,rfl,rfl⟩,hin (k+1) _ _ ⟨by omega,by omega,?_,?_⟩ (by omega)⟩
    ·rw[qel];exact hpk2
    ·rw[qel];exact h.sub
   ·have:k=(g3.1+4).toNat:=by
     have g:¬(k:Int)<(((g3.1+4).toNat-0:Nat):Int):=g;omega
    subst this
    clear hin;have hcl:=quw (B:=ql V (8*N)) (z:=g3.2) (g3.1+4).toNat;generalize qel (ql V (8*N)) g3.2 (g3.1+4).toNat=c at h hZ hpk hcl|-
    unfold qh.j5;rw[qpab _ _ (by decide)];refine qbe ?_;haveI:Rdb F0 w0 ⟨some ⟨cb,0,none⟩,19-0,19-0⟩ (qqb cb (ivs .i64 c.1)::qqb ob (ivs .i64 qki)::ps) 1 (ivs .i64 c.1):=by
     have:=qjfb (F0:=F0) (w0:=w0) (nb:=cb) (n:=19-0) (c:=19-0) (k:= .i64) (l:=c.1) (ps:=qqb cb (ivs .i64 c.1)::qqb ob (ivs .i64 qki)::ps) (by omega);rwa[take_of_length_le (by omega)]at this
    obtain⟨n1,hn1⟩:∃n1:Nat,g1.1+257=n1:=⟨(g1.1+257).toNat,by omega⟩;obtain⟨n2,hn2⟩:∃n2:Nat,g2.1+1=n2:=⟨(g2.1+1).toNat,by omega⟩;rw[hn1,hn2]at hZ;rw[hn1,hn2];have e12:((n1:Int)+(n2:Int)).toNat=n1+n2:=by omega
    rw[e12,toNat_natCast]at hZ;have fin:∀(y4:Z) (cbo:Option Addr) (qs:List As) w,y4=qgj c.1 false c.2->y4.1<=8*N->(y4.2.2=0->∃b,cbo=some ⟨b,0,none⟩/\∃rest,PkF hcA b qs c.1 rest)->(∀(F0:List Nat) (w0 w:World),St F0 w0 w qs->St F0 w0 w ps)->St F0 w0 w (ztA sb rb V N most y4::qs)->qh.j6 (some ⟨sb,0,none⟩) (n1:Int) (n2:Int) cbo ⟨none,0,0⟩ (λv w'=>K (.returned v) w') w:=by
     intro y4 cbo qs w e hp4 hcb hq h;rw[<-e]at hZ;refine qh.loop (nl:=n1) (nd:=n2) (cl:=c.1) h hcb hN hp4 (by omega) (λt11 w g ht hc h=>?_) (λw g h=>?_)
     ·rw[if_neg (λe=>e g)]at hZ;have hzl:=qit (cl:=c.1) (B:=ql V (8*N)) (N:=n1+n2) (n1+n2+1) [] y4 (by simp) (by simp) g;subst hZ;refine hk0 t11 _ n1 w g (by omega) (by omega) hc rfl (h.tail λ_ _ _ h=>h.tail λ_ _ _ h=>hq _ _ _ h)
     ·rw[if_pos g]at hZ;subst hZ;exact hk1 w g (h.tail λ_ _ _ h=>hq _ _ _ h)
    refine qqd.c (s:=⟨some ⟨cb,0,none⟩,19-0,19-0⟩) (half:=false) h (λhb w g0 gn h=>⟨_,rfl,?_⟩) (λw g0 gn h=>⟨_,rfl,?_⟩) (λg=>⟨_,rfl,?_⟩)
    ·refine fin c.2 _ (hcA hb c.1::qqb cb (ivs .i64 c.1)::qqb ob (ivs .i64 qki)::ps) w (by unfold qgj;rw[if_neg (λe=>e.2 gn)]) hpk (λ_=>⟨hb,rfl,_,PkF.hd⟩) (λ_ _ _ h=>h.drop.drop.drop) h
    ·refine fin (qtd 2 c.2) _ (qqb cb (ivs .i64 c.1)::qqb ob (ivs .i64 qki)::ps) w (by unfold qgj;rw[if_pos ⟨g0,gn⟩]) hpk (λe=>absurd e (qvh (by decide))) (λ_ _ _ h=>h.drop.drop) h
    ·refine fin c.2 _ (qqb cb (ivs .i64 c.1)::qqb ob (ivs .i64 qki)::ps) _ (by unfold qgj;rw[if_neg (λe=>g e.1)]) hpk (λe=>absurd e g) (λ_ _ _ h=>h.drop.drop) h
  refine quc (λg=>?_) (λg=>?_)
  ·refine qmc.c h λw h=>⟨rfl,?_⟩;exact j3 (qtd 2 g2.2) w (by rw[if_pos (by omega)]) hp2 h
  ·exact j3 g2.2 w (by rw[if_neg (by omega)]) hp2 h
 refine quc (λg=>?_) (λg=>?_)
 ·refine qmc.c h λw h=>⟨rfl,?_⟩
  exact j2 (qtd 2 g1.2) w (by rw[if_pos (by omega)]) hp1 h
 ·exact j2 g1.2 w (by rw[if_neg (by omega)]) hp1 h
end
end
section
attribute [local irreducible] apK cpK mkK br
section
variable {B:List Bool}{most:Int}{z:Z}
theorem zst_p:∀(n:Nat) (z:Z),z.1<=B.length->z.1<=(zst B most n z).1/\(zst B most n z).1<=B.length:=by
 intro n;induction n with
 |zero=>intro z h;exact⟨le_refl _,h⟩
 |succ n ih=>
  intro z h;have h1:=qdo (B:=B) (z:=z) 8 h;have:=ih (zput most (qff B 8 z).1 (qff B 8 z).2) (by rw[qjo];exact h1.2);rw[qjo]at this
  rw[zst];omega
theorem qlhb{N:Nat}(hB:B.length=8*N)(h:z.1<=B.length):z.1<=(qck B most z).1/\(qck B most z).1<=B.length:=by
 unfold qck;simp only
 have h1:=qdo (B:=B) (z:=(8*((z.1+7)/8),z.2.1,z.2.2)) 16 (by simp only;omega);generalize qff B 16 (8*((z.1+7)/8),z.2.1,z.2.2)=g at h1|-
 simp only at h1;have h2:=qdo (B:=B) (z:=g.2) 16 h1.2;generalize qff B 16 g.2=g2 at h2|-
 split
 ·omega
 ·split
  ·rw[qjt];omega
  ·split
   ·rw[qjt];omega
   ·have:=zst_p (B:=B) (most:=most) g.1.toNat g2.2 h2.2;omega
theorem qlmb{ll dl:List Int}:∀(f:Nat) (z:Z),z.1<=B.length->z.1<=(qcg ll dl B most f z).1/\(qcg ll dl B most f z).1<=B.length:=by
 intro f;induction f with
 |zero=>intro z h;exact⟨le_refl _,h⟩
 |succ f ih=>
  intro z h;rw[qcg];split
  ·exact⟨le_refl _,h⟩
  ·simp only
   have h1:=qrw (B:=B) ll (z:=z) h;generalize qyl ll B z=s at h1|-
   unfold zfwd at h1;split
   ·exact h1
   ·split
    ·have:=ih (zput most s.1 s.2) (by rw[qjo];exact h1.2);rw[qjo]at this
     omega
    ·have h2:=qhq (B:=B) (most:=most) dl s.1 (z:=s.2) h1.2;unfold zfwd at h2;have:=ih (qli dl B most s.1 s.2) h2.2;omega
theorem qvhb{ll dl:List Int}(h:z.1<=B.length):z.1<=(zblk ll dl B most z).1/\(zblk ll dl B most z).1<=B.length:=by
 unfold zblk;simp only
 have e1:(qwh dl (qwh ll (if z.2.2=0/\ll.getD 256 0=0 then qtd 2 z else z))).1=z.1:=by
  rw[qrhb,qrhb];split<;>rfl
 generalize qwh dl (qwh ll (if z.2.2=0/\ll.getD 256 0=0 then qtd 2 z else z))=z3 at e1|-
 split
 ·omega
 ·have:=qlmb (B:=B) (most:=most) (ll:=ll) (dl:=dl) (B.length+1) z3 (by omega);omega
theorem qvqb{n:Int}(h:(qff B n z).2.2.2=0):(qff B n z).2.1=z.1+n.toNat/\z.2.2=0:=by
 have h0:=qtw h;refine⟨?_,h0⟩;unfold qff at h|-
 rw[if_neg (λe=>e h0)]at h|-
 split at h
 ·rename_i hc;rw[if_pos hc]
 ·simp at h
theorem qko{N:Nat}(hB:B.length=8*N)(h:z.1<=B.length):z.1<=(qyd B most z).2.1/\(qyd B most z).2.1<=B.length/\((qyd B most z).2.2.2=0->z.1<(qyd B most z).2.1):=by
 unfold qyd;simp only
 have h1:=qdo (B:=B) (z:=z) 1 h;generalize qff B 1 z=a at h1|-
 have h2:=qdo (B:=B) (z:=a.2) 2 h1.2;have h3:=qvqb (B:=B) (z:=a.2) (n:=2);generalize qff B 2 a.2=k at h2 h3|-
 split
 ·rename_i hk;exact⟨by simp only;omega,by simp only;omega,λe=>absurd e hk⟩
 ·rename_i hk;have h3:=(h3 (Classical.byContradiction hk)).1;have e2:(2:Int).toNat=2:=rfl;rw[e2]at h3;split
  ·have:=qlhb (B:=B) (most:=most) (z:=k.2) hB h2.2;simp only;omega
  ·split
   ·have:=qvhb (B:=B) (most:=most) (ll:=qho) (dl:=qsj) (z:=k.2) h2.2;simp only;omega
   ·split
    ·have h4:=qhbb (B:=B) (z:=k.2) h2.2;generalize qoj B k.2=q at h4|-
     split
     ·simp only;omega
     ·have:=qvhb (B:=B) (most:=most) (ll:=q.1.1) (dl:=q.1.2) (z:=q.2) h4.2;simp only;omega
    ·rw[qjt];simp only;omega
theorem qrl(hm:most<=1000000)(h:z.2.1.length<=1000000):(qyd B most z).2.2.1.length<=1000000:=by
 have hst:∀n (z:Z),z.2.1.length<=1000000->(zst B most n z).2.1.length<=1000000:=λn z=>qtqb hm n z;unfold qyd;simp only
 have h1:(qff B 1 z).2.2.1.length<=1000000:=by rw[qrd];exact h
 generalize qff B 1 z=a at h1|-
 have h2:(qff B 2 a.2).2.2.1.length<=1000000:=by rw[qrd];exact h1
 generalize qff B 2 a.2=k at h2|-
 split
 ·exact h2
 ·split
  ·unfold qck;simp only
   have h3:(qff B 16 (8*((k.2.1+7)/8),k.2.2.1,k.2.2.2)).2.2.1.length<=1000000:=by rw[qrd];exact h2
   generalize qff B 16 (8*((k.2.1+7)/8),k.2.2.1,k.2.2.2)=g at h3|-
   have h4:(qff B 16 g.2).2.2.1.length<=1000000:=by rw[qrd];exact h3
   generalize qff B 16 g.2=g2 at h4|-
   split
   ·exact h4
   ·split
    ·exact h4
    ·split
     ·exact h4
     ·exact hst _ _ h4
  ·split
   ·exact qez hm h2
   ·split
    ·have h5:(qoj B k.2).2.2.1.length<=1000000:=by rw[qrq];exact h2
     generalize qoj B k.2=q at h5|-
     split
     ·exact h5
     ·exact qez hm h5
    ·exact h2
theorem ZAll.out{n:Nat}{z z':Z}(h:ZAll B most n z z')(hm:most<=1000000)(hL:z.2.1.length<=1000000):z'.2.1.length<=1000000:=by
 induction h with
 |bad he=>exact qrl hm hL
 |last he hl=>exact qrl hm hL
 |next he hl hr ih=>exact ih (qrl hm hL)
end
section
variable {F0:List Nat}{w0 w:World}{ps rest rest2:List As}{sb rb V N:Nat}{most:Int}{z:Z}
theorem qr.bad{K:Ending->World->Prop}(h:St F0 w0 w (ztA sb rb V N most z::ps))(hz:z.2.2≠0)
 (hk:∀w',St F0 w0 w' (ztA sb rb V N most z::ps)->K (.returned (.tuple ⟨[]⟩)) w'):
 Calls prog 158 ⟨[.pointer (some ⟨sb,0,none⟩),.slice none 0 0,.slice none 0 0]⟩ w K:=by
 refine qdc (qr.ok _ ⟨none,0,0⟩ ⟨none,0,0⟩ _ _ ?_)
 unfold qr
 have h0:=h
 obtain⟨o,h⟩:=qmv h
 refine qkd (h.fI ?_)
 refine qze (by simpa using hz) ?_
 unfold qr.j1
 haveI:Rdb F0 w0 ⟨none,0,0⟩ ps 1 (ivs .i64 []):=Rdb.nil 0
 refine qqd.c (s:=⟨none,0,0⟩) (ls:=[]) (half:=true) h0 (λcb w e1 e3 h=>absurd e1 hz) (λw e1 e3 h=>absurd e1 hz) (λ_=>⟨_,rfl,?_⟩)
 refine qqd.c (s:=⟨none,0,0⟩) (ls:=[]) (half:=true) h0 (λcb w e1 e3 h=>absurd e1 hz) (λw e1 e3 h=>absurd e1 hz) (λ_=>⟨_,rfl,?_⟩)
 refine qkd (h.fI ?_)
 exact qjh (by simpa using hz) (hk w h0)
theorem qpf.a{K:Ending->World->Prop}(h:St F0 w0 w (ztA sb rb V N most z::ps))(hN:N<=137438953472)(hp:z.1<=8*N)(hm:most<=1000000)(hm0:0<=most)(hL:z.2.1.length<=1000000)
 (hk:∀w',St F0 w0 w' (ztA sb rb V N most (qyd (ql V (8*N)) most z).2::ps)->K (.returned (.bool (qyd (ql V (8*N)) most z).1)) w'):
 Calls prog 143 ⟨[.pointer (some ⟨sb,0,none⟩)]⟩ w K:=by
 have hBl:(ql (V:Int) (8*N)).length=8*N:=qq _ _
 refine qdc (qpf.ok _ _ _ ?_)
 unfold qpf
 unfold qyd at hk
 simp only at hk
 refine qtc.c h hN hp λw hg h=>⟨_,rfl,?_⟩
 have go:=qrd (B:=ql V (8*N)) (z:=z) 1
 generalize qff (ql V (8*N)) 1 z=a at h hk hg go|-
 refine qtc.c h hN hg λw hg2 h=>⟨_,rfl,?_⟩
 have go2:=qrd (B:=ql V (8*N)) (z:=a.2) 2
 generalize qff (ql V (8*N)) 2 a.2=k at h hk hg2 go2|-
 have hkL:k.2.2.1.length<=1000000:=by rw[go2,go];exact hL
 have h0:=h
 obtain⟨o,h⟩:=qmv h
 refine qkd (h.fI ?_)
 refine qye (λg=>?_) (λg=>?_)
 ·have g:k.2.2.2≠0:=by simpa using g
  rw[if_pos g]at hk
  exact hk w h0
 have g:k.2.2.2=0:=by simpa using g
 rw[if_neg (by simpa using g)]at hk
 refine qye (λg1=>?_) (λg1=>?_)
 ·have g1:k.1=0:=by simpa using g1
  rw[if_pos g1]at hk
  exact qac.c h0 hN hg2 hm hm0 hkL λw hle h=>⟨rfl,hk w h⟩
 have g1:¬k.1=0:=by simpa using g1
 rw[if_neg g1]at hk
 refine qye (λg3=>?_) (λg3=>?_)
 ·have g3:k.1=1:=by simpa using g3
  rw[if_pos g3]at hk
  refine qy.c h0 λs t w hs ht h=>⟨s,t,rfl,?_⟩
  have h:St F0 w0 w (ztA sb rb V N most k.2::rdA 1 s (ivs .i64 qho)::rdA 1 t (ivs .i64 qsj)::ps):=h.at2
  refine qr.c (s:=s) (t:=t) (ll:=qho) (dl:=qsj) h (by rw[qvi];decide) hN hg2 hm hkL λw h=>⟨rfl,?_⟩
  exact hk w (h.tail λ_ _ _ h=>h.drop.drop)
 have g3:¬k.1=1:=by simpa using g3
 rw[if_neg g3]at hk
 refine qye (λg4=>?_) (λg4=>?_)
 ·have g4:k.1=2:=by simpa using g4
  rw[if_pos g4]at hk
  have hlp:=qhbb (B:=ql V (8*N)) (z:=k.2) (by rw[hBl];exact hg2)
  have hlo:=qrq (B:=ql V (8*N)) (z:=k.2)
  have hll:=qbz (B:=ql V (8*N)) (z:=k.2)
  rw[hBl]at hlp
  refine qh.c h0 hN hg2 (λt11 l nl w e0 ht hnl hcap el h=>⟨⟨qnf t11.a t11.cap 0 1,nl-0,t11.cap-0⟩,⟨qnf t11.a t11.cap nl 1,t11.len-nl,t11.cap-nl⟩,rfl,?_⟩) (λw e0 h=>⟨⟨none,0,0⟩,⟨none,0,0⟩,rfl,?_⟩)
  ·have hll:=hll e0
   rw[if_neg (λe=>e e0)]at hk
   rw[el]at hk hll
   simp only at hk hll
   haveI:=h.drop.cutR t11 0 nl (t11.cap-0) (ys:=l.take nl) hnl (by omega) hcap (by rw[List.drop_zero,Nat.sub_zero])
   haveI:=h.drop.cutR t11 nl t11.len (t11.cap-nl) (ys:=l.drop nl) (by omega) hnl hcap (by rw[take_of_length_le (by rw[length_drop];omega)])
   refine qr.c (s:=⟨qnf t11.a t11.cap 0 1,nl-0,t11.cap-0⟩) (t:=⟨qnf t11.a t11.cap nl 1,t11.len-nl,t11.cap-nl⟩) (ll:=l.take nl) (dl:=l.drop nl) h (by omega) hN hlp.2 hm (by rw[hlo];exact hkL) λw h=>⟨rfl,?_⟩
   exact hk w (h.tail λ_ _ _ h=>h.drop)
  ·rw[if_pos e0]at hk
   refine qr.bad h e0 λw h=>⟨rfl,?_⟩
   exact hk w h
 have g4:¬k.1=2:=by simpa using g4
 rw[if_neg g4]at hk
 exact qmc.c h0 λw h=>⟨rfl,hk w h⟩
def zinf(V N:Nat)(most:Int)(z':Z):Prop:=∃n,ZAll (ql V (8*N)) most n (0,[],0) z'
theorem qxb.a{s:Sl}{K:Ending->World->Prop}{z':Z}(h:St F0 w0 w ps)[Rdb F0 w0 s ps 1 (u8s (byt V N))](hN:N<=137438953472)(hm:most<=262144)(hm0:0<=most)(hr:zinf V N most z')
 (hk:∀t w',z'.2.2=0->t.len=z'.2.1.length->St F0 w0 w' (rdA 1 t (u8s z'.2.1)::ps)->K (.returned (.tuple ⟨[.slice t.a t.len t.cap,.int .i64 (((z'.1+7)/8:Nat):Int),.int .i64 0]⟩)) w')
 (hk2:∀w',z'.2.2≠0->St F0 w0 w' ps->K (.returned (.tuple ⟨[.slice none 0 0,.int .i64 0,.int .i64 z'.2.2]⟩)) w'):
 Calls prog 115 ⟨[.slice s.a s.len s.cap,.int .i64 most]⟩ w K:=by
 have hBl:(ql (V:Int) (8*N)).length=8*N:=qq _ _
 obtain⟨n,hr⟩:=hr
 refine qdc (qxb.ok _ _ _ _ ?_)
 unfold qxb qxb.j1
 refine quc (λg=>by omega) λ_=>?_
 refine quc (λg=>by omega) λ_=>?_
 refine qii.c (V:=V) (N:=N) (s:=s) h (h.rdb s) hN λrb w h=>⟨_,rfl,?_⟩
 refine h.new λsb w h=>?_
 have h:=(h.nil 1).at2.at2
 have h:St F0 w0 w (ztA sb rb V N most (0,[],0)::ps):=qpfb (o:=⟨none,0,0⟩) (p:=0) (out:=[]) (err:=0) h
 unfold qxb.j2 qxb.j4
 refine qjf (λ(a:Nat×Z×Bool) (b:Bool) w'=>b=a.2.2/\a.2.1.1<=8*N/\a.2.1.2.1.length<=1000000/\a.2.1.2.2=0/\(a.2.2=false->∃n,n<a.1/\ZAll (ql V (8*N)) most n a.2.1 z')/\(a.2.2=true->a.2.1=z')/\St F0 w0 w' (ztA sb rb V N most a.2.1::ps)) (λa=>a.1) (n+1,(0,[],0),false) ⟨rfl,zero_le _,by simp,rfl,λ_=>⟨n,by simp,hr⟩,λe=>by simp at e,h⟩ ?_
 clear h hr
 rintro⟨m,z,b⟩ b' wL I μ ⟨rfl,hp,hL,he0,hr,hd,h⟩ hin
 simp only at hp hL he0 hr hd h hin|-
 unfold qxb.b1
 cases b' with
 |false=>
  refine qgp ?_
  obtain⟨n,hn,hr⟩:=hr rfl
  refine qpf.a h hN hp (by omega) hm0 hL λw h=>⟨_,rfl,?_⟩
  have hL2:=qrl (B:=ql V (8*N)) (most:=most) (by omega) hL
  have hle:=(qko (most:=most) hBl (by rw[hBl];exact hp)).2.1
  rw[hBl]at hle
  have h0:=h
  obtain⟨o,h⟩:=qmv h
  refine qkd (h.fI ?_)
  refine qye (λg=>?_) (λg=>?_)
  ·have g:(qyd (ql V (8*N)) most z).2.2.2≠0:=by simpa using g
   refine h.drewK λw h=>?_
   refine qkd (h.fI ?_)
   cases hr with
   |bad he=>exact hk2 w g h.drop.drop.drop
   |last he _=>exact absurd he g
   |next he _ _=>exact absurd he g
  ·have g:(qyd (ql V (8*N)) most z).2.2.2=0:=by simpa using g
   cases hr with
   |bad he=>exact absurd g he
   |last he hl=>
    refine⟨rfl,hin (0,(qyd (ql V (8*N)) most z).2,true) _ _ ⟨hl,hle,hL2,g,λe=>by simp at e,λ_=>rfl,h0⟩ (by simp only;omega)⟩
   |next he hl hr=>
    rename_i n2
    refine⟨rfl,hin (n2+1,(qyd (ql V (8*N)) most z).2,false) _ _ ⟨hl,hle,hL2,g,λ_=>⟨n2,by simp,hr⟩,λe=>by simp at e,h0⟩ (by simp only;omega)⟩
 |true=>
  refine qcq ?_
  have hd:=hd rfl
  subst hd
  unfold qxb.j3
  refine h.drewK λw h=>?_
  obtain⟨o,h⟩:=qmv h
  have hcap:=h.at2.cap (by decide)
  have hol:=h.at2.len
  rw[qk]at hol
  refine qkd (h.fL (qkd ⟨?_,?_⟩))
  ·refine qad.c h.at2.ro hcap λt h1 h2 h=>⟨t,rfl,?_⟩
   refine h.at1.fP ?_
   refine qhf.c (rb:=rb) (V:=V) (N:=N) (at':=z.1) h.at2 (by omega) λh=>⟨_,rfl,?_⟩
   have h1:t.len=o.len:=h1
   exact hk t w he0 (by omega) (h.at1.tail λ_ _ _ h=>h.drop.drop)
  ·refine h.fP ?_
   refine qad.c h.at2.ro hcap λt h1 h2 h=>⟨t,rfl,?_⟩
   refine qhf.c (rb:=rb) (V:=V) (N:=N) (at':=z.1) h.at2 (by omega) λh=>⟨_,rfl,?_⟩
   have h1:t.len=o.len:=h1
   exact hk t w he0 (by omega) (h.at1.tail λ_ _ _ h=>h.drop.drop)
end
end
section
set_option maxRecDepth 100000
def qkh(s_0:OAd)(e_1:Int)(Q:VWP)(w:World):Prop:=nz s_0 λa1=>ldI .i64 w (Addr.add a1 3) λx2=>br (x2==0) (nz s_0 λa3=>st w (Addr.add a3 3) (.int .i64 e_1) λw4=>Q (.tuple ⟨[]⟩) w4) (Q (.tuple ⟨[]⟩) w)
theorem qkh.ok(s_0:OAd)(e_1:Int)(Q:VWP)(w:World)(h:qkh s_0 e_1 Q w):Calls prog 113 ⟨[.pointer s_0,.int .i64 e_1]⟩ w (Ret Q):=
 qhc [] qde Tryz.func113 rfl rfl rfl rfl .lf (by kernel_rfl) h
def qzh(s_0:OAd)(n_1:Int)(Q:VWP)(w:World):Prop:=nz s_0 λa1=>ldI .i64 w (Addr.add a1 3) λx2=>br (x2 !=0) (Q (.int .i64 0) w) (nz s_0 λa3=>ldP w (Addr.add a3 0) λx4=>qwob 135 [.pointer x4,.int .i64 n_1] w λr7 r8 w6=>br (!r8) (ct_ 113 [.pointer s_0,.int .i64 3] w6 λw10=>Q (.int .i64 r7) w10) (Q (.int .i64 r7) w6))
theorem qzh.ok(s_0:OAd)(n_1:Int)(Q:VWP)(w:World)(h:qzh s_0 n_1 Q w):Calls prog 108 ⟨[.pointer s_0,.int .i64 n_1]⟩ w (Ret Q):=
 qhc [.tmp 4] qde Tryz.func108 rfl rfl rfl rfl .lf (by kernel_rfl) h
def qxh(s_0 c_1:OAd)(Q:VWP)(w:World):Prop:=nz s_0 λa1=>ldI .i64 w (Addr.add a1 3) λx2=>br (x2 !=0) (Q (.int .i64 0) w) (nz s_0 λa3=>ldP w (Addr.add a3 0) λx4=>qhlb 155 [.pointer c_1,.pointer x4] w λr7 r8 w6=>br (r8 !=0) (ct_ 113 [.pointer s_0,.int .i64 r8] w6 λw10=>Q (.int .i64 r7) w10) (Q (.int .i64 r7) w6))
theorem qxh.ok(s_0:OAd)(c_1:OAd)(Q:VWP)(w:World)(h:qxh s_0 c_1 Q w):Calls prog 139 ⟨[.pointer s_0,.pointer c_1]⟩ w (Ret Q):=
 qhc [.tmp 4] qde Tryz.func139 rfl rfl rfl rfl .lf (by kernel_rfl) h
def qyh(s_0:OAd)(b_1:Int)(Q:VWP)(w:World):Prop:=nz s_0 λa1=>ldI .i64 w (Addr.add a1 3) λx2=>br (x2 !=0) (Q (.tuple ⟨[]⟩) w) (lt (World.drew w) λw3=>nz s_0 λa4=>ldL w3 (Addr.add a4 1) λx5=>nz s_0 λa6=>ldI .i64 w3 (Addr.add a6 2) λx7=>br (decide ((x5.len:Int)>=x7)) (ct_ 113 [.pointer s_0,.int .i64 5] w3 λw9=>Q (.tuple ⟨[]⟩) w9) (nz s_0 λa10=>ldL w3 (Addr.add a10 1) λx11=>nw w3 ⟨[.int .u8 b_1]⟩ 5 λa12 w13=>rdO w13 (some a12) (1*1) λc14=>apK prog 5 w13 x11.a x11.len x11.cap 1 c14 λs15 w16=>nz s_0 λa17=>st w16 (Addr.add a17 1) (sV s15) λw18=>Q (.tuple ⟨[]⟩) w18))
theorem qyh.ok(s_0:OAd)(b_1:Int)(Q:VWP)(w:World)(h:qyh s_0 b_1 Q w):Calls prog 137 ⟨[.pointer s_0,.int .u8 b_1]⟩ w (Ret Q):=
 qhc [] qde Tryz.func137 rfl rfl rfl rfl .lf (by kernel_rfl) h
def qfb.b1(s_0:OAd)(n_2:Int)(i_4:Int)(Q:VWP)(nx1:OAd->Int->Int->WP)(w:World):Prop:=br (decide (i_4<n_2)) (qbk 108 [.pointer s_0,.int .i64 8] w λr3 w2=>lt (IntKind.u8.wrap r3) λx4=>ct_ 137 [.pointer s_0,.int .u8 x4] w2 λw6=>lt (i64.wrap (i_4+1)) λx7=>nx1 s_0 n_2 x7 w6) (Q (.tuple ⟨[]⟩) w)
def qfb.l1(s_0:OAd)(n_2:Int)(i_4:Int)(Q:VWP)(w:World):Prop:=∃(I:Int->WP) (μ:Int->World->Nat),I i_4 w/\∀i_4:Int,∀w:World,I i_4 w->qfb.b1 s_0 n_2 i_4 Q (λs_0' n_2' i_4' w'=>(s_0'=s_0/\n_2'=n_2)/\I i_4' w'/\μ i_4' w'<μ i_4 w) w
def qfb.j4(s_0:OAd)(n_2:Int)(i_4:Int)(Q:VWP)(w:World):Prop:=qfb.l1 s_0 n_2 i_4 Q w
def qfb.j3(s_0:OAd)(n_2:Int)(Q:VWP)(w:World):Prop:=lt (World.drew w) λw8=>nz s_0 λa9=>ldI .i64 w8 (Addr.add a9 2) λx10=>nz s_0 λa11=>ldL w8 (Addr.add a11 1) λx12=>lt (i64.wrap (x10-(x12.len:Int))) λx13=>br (decide (n_2>x13)) (ct_ 113 [.pointer s_0,.int .i64 5] w8 λw15=>Q (.tuple ⟨[]⟩) w15) (qfb.j4 s_0 n_2 0 Q w8)
def qfb.j2(s_0:OAd)(n_2:Int)(m_3:Int)(Q:VWP)(w:World):Prop:=nz s_0 λa16=>ldI .i64 w (Addr.add a16 3) λx17=>br (x17 !=0) (Q (.tuple ⟨[]⟩) w) (lt (qlk .i64 n_2 m_3) λx18=>br (x18 !=65535) (ct_ 113 [.pointer s_0,.int .i64 2] w λw20=>Q (.tuple ⟨[]⟩) w20) (qfb.j3 s_0 n_2 Q w))
def qfb.j1(s_0:OAd)(Q:VWP)(w:World):Prop:=qbk 108 [.pointer s_0,.int .i64 16] w λr23 w22=>qbk 108 [.pointer s_0,.int .i64 16] w22 λr26 w25=>qfb.j2 s_0 r23 r26 Q w25
def qfb(s_0:OAd)(Q:VWP)(w:World):Prop:=nz s_0 λa27=>ldP w (Addr.add a27 0) λx28=>ct_ 136 [.pointer x28] w λw30=>qfb.j1 s_0 Q w30
theorem qfb.ok(s_0:OAd)(Q:VWP)(w:World)(h:qfb s_0 Q w):Calls prog 109 ⟨[.pointer s_0]⟩ w (Ret Q):=
 qhc [] qde Tryz.func109 rfl rfl rfl rfl (.sq [sP 0] (λa w=>qfb.j1 a Q w) .lf (.pr 1 [sP 0,sI 2,sI 3] (λa b c w=>qfb.j2 a b c Q w) (.pr 1 [sP 0,sI 2] (λa b w=>qfb.j3 a b Q w) (.pr 1 [sP 0,sI 2,sI 4] (λa b c w=>qfb.j4 a b c Q w) (.bk (.lo [sP 0,sI 2] [sI 4] (λa b c w=>qfb.l1 a b c Q w) (λnx1 a b c w=>qfb.b1 a b c Q nx1 w) λnx1=> .lf)))))) (by kernel_rfl) h
def qb.j9(s_0:OAd)(nl_4:Int)(l_12:Sl)(Q:VWP)(w:World):Prop:=nz s_0 λa1=>ldI .i64 w (Addr.add a1 3) λx2=>br (x2 !=0) (Q (.tuple ⟨[.slice none 0 0,.slice none 0 0]⟩) w) (lt (World.drew w) λw3=>bd nl_4 l_12.cap λn4=>lt (⟨qnf l_12.a l_12.cap 0 1,n4-0,l_12.cap-0⟩:Sl) λs5=>bd nl_4 l_12.len λn6=>lt (⟨qnf l_12.a l_12.cap n6 1,l_12.len-n6,l_12.cap-n6⟩:Sl) λs7=>Q (.tuple ⟨[sV s5,sV s7]⟩) w3)
def qb.b2(s_0:OAd)(nl_4:Int)(nd_5:Int)(c_10:OAd)(n_14 x_15:Int)(l_12:Sl)(i_16:Int)(Q:VWP)(nx1:OAd->Int->Int->OAd->Sl->WP)(nx2:OAd->Int->Int->OAd->Int->Int->Sl->Int->WP)(w:World):Prop:=br (decide (i_16<n_14)) (nw w ⟨[.int .i64 x_15]⟩ 3 λa8 w9=>rdO w9 (some a8) (1*1) λc10=>apK prog 3 w9 l_12.a l_12.len l_12.cap 1 c10 λs11 w12=>lt (i64.wrap (i_16+1)) λx13=>nx2 s_0 nl_4 nd_5 c_10 n_14 x_15 s11 x13 w12) (nx1 s_0 nl_4 nd_5 c_10 l_12 w)
def qb.l2(s_0:OAd)(nl_4:Int)(nd_5:Int)(c_10:OAd)(n_14 x_15:Int)(l_12:Sl)(i_16:Int)(Q:VWP)(nx1:OAd->Int->Int->OAd->Sl->WP)(w:World):Prop:=∃(I:Sl->Int->WP) (μ:Sl->Int->World->Nat),I l_12 i_16 w/\∀l_12:Sl,∀i_16:Int,∀w:World,I l_12 i_16 w->qb.b2 s_0 nl_4 nd_5 c_10 n_14 x_15 l_12 i_16 Q nx1 (λs_0' nl_4' nd_5' c_10' n_14' x_15' l_12' i_16' w'=>(s_0'=s_0/\nl_4'=nl_4/\nd_5'=nd_5/\c_10'=c_10/\n_14'=n_14/\x_15'=x_15)/\I l_12' i_16' w'/\μ l_12' i_16' w'<μ l_12 i_16 w) w
def qb.j14(s_0:OAd)(nl_4:Int)(nd_5:Int)(c_10:OAd)(l_12:Sl)(n_14:Int)(x_15 i_16:Int)(Q:VWP)(nx1:OAd->Int->Int->OAd->Sl->WP)(w:World):Prop:=qb.l2 s_0 nl_4 nd_5 c_10 n_14 x_15 l_12 i_16 Q nx1 w
def qb.j13(s_0:OAd)(nl_4:Int)(nd_5:Int)(c_10:OAd)(l_12:Sl)(n_14:Int)(x_15:Int)(Q:VWP)(nx1:OAd->Int->Int->OAd->Sl->WP)(w:World):Prop:=lt (i64.wrap (nl_4+nd_5)) λx14=>lt (i64.wrap (x14-(l_12.len:Int))) λx15=>br (decide (n_14>x15)) (ct_ 113 [.pointer s_0,.int .i64 2] w λw17=>Q (.tuple ⟨[.slice none 0 0,.slice none 0 0]⟩) w17) (qb.j14 s_0 nl_4 nd_5 c_10 l_12 n_14 x_15 0 Q nx1 w)
def qb.j12(s_0:OAd)(nl_4:Int)(nd_5:Int)(c_10:OAd)(l_12:Sl)(n_14:Int)(x_15:Int)(Q:VWP)(nx1:OAd->Int->Int->OAd->Sl->WP)(w:World):Prop:=nz s_0 λa18=>ldI .i64 w (Addr.add a18 3) λx19=>br (x19 !=0) (Q (.tuple ⟨[.slice none 0 0,.slice none 0 0]⟩) w) (qb.j13 s_0 nl_4 nd_5 c_10 l_12 n_14 x_15 Q nx1 w)
def qb.j11(s_0:OAd)(nl_4:Int)(nd_5:Int)(c_10:OAd)(l_12:Sl)(v_13:Int)(n_14:Int)(Q:VWP)(nx1:OAd->Int->Int->OAd->Sl->WP)(w:World):Prop:=br (v_13==16) (br ((l_12.len:Int)==0) (ct_ 113 [.pointer s_0,.int .i64 2] w λw21=>Q (.tuple ⟨[.slice none 0 0,.slice none 0 0]⟩) w21) (lt (i64.wrap ((l_12.len:Int)-1)) λx22=>ixS l_12.a l_12.len x22 1 λa23=>ldI .i64 w a23 λx24=>qbk 108 [.pointer s_0,.int .i64 2] w λr27 w26=>lt (i64.wrap (3+r27)) λx28=>qb.j12 s_0 nl_4 nd_5 c_10 l_12 x28 x24 Q nx1 w26)) (br (v_13==17) (qbk 108 [.pointer s_0,.int .i64 3] w λr31 w30=>lt (i64.wrap (3+r31)) λx32=>qb.j12 s_0 nl_4 nd_5 c_10 l_12 x32 0 Q nx1 w30) (br (v_13==18) (qbk 108 [.pointer s_0,.int .i64 7] w λr35 w34=>lt (i64.wrap (11+r35)) λx36=>qb.j12 s_0 nl_4 nd_5 c_10 l_12 x36 0 Q nx1 w34) (qb.j12 s_0 nl_4 nd_5 c_10 l_12 n_14 v_13 Q nx1 w)))
def qb.j10(s_0:OAd)(nl_4:Int)(nd_5:Int)(c_10:OAd)(l_12:Sl)(Q:VWP)(nx1:OAd->Int->Int->OAd->Sl->WP)(w:World):Prop:=qbk 139 [.pointer s_0,.pointer c_10] w λr39 w38=>qb.j11 s_0 nl_4 nd_5 c_10 l_12 r39 1 Q nx1 w38
def qb.b1(s_0:OAd)(nl_4:Int)(nd_5:Int)(c_10:OAd)(l_12:Sl)(Q:VWP)(nx1:OAd->Int->Int->OAd->Sl->WP)(w:World):Prop:=lt (i64.wrap (nl_4+nd_5)) λx40=>br (decide ((l_12.len:Int)<x40)) (nz s_0 λa41=>ldI .i64 w (Addr.add a41 3) λx42=>br (x42==0) (qb.j10 s_0 nl_4 nd_5 c_10 l_12 Q nx1 w) (qb.j9 s_0 nl_4 l_12 Q w)) (qb.j9 s_0 nl_4 l_12 Q w)
def qb.l1(s_0:OAd)(nl_4:Int)(nd_5:Int)(c_10:OAd)(l_12:Sl)(Q:VWP)(w:World):Prop:=∃(I:Sl->WP) (μ:Sl->World->Nat),I l_12 w/\∀l_12:Sl,∀w:World,I l_12 w->qb.b1 s_0 nl_4 nd_5 c_10 l_12 Q (λs_0' nl_4' nd_5' c_10' l_12' w'=>(s_0'=s_0/\nl_4'=nl_4/\nd_5'=nd_5/\c_10'=c_10)/\I l_12' w'/\μ l_12' w'<μ l_12 w) w
def qb.j8(s_0:OAd)(nl_4:Int)(nd_5:Int)(c_10:OAd)(l_12:Sl)(Q:VWP)(w:World):Prop:=qb.l1 s_0 nl_4 nd_5 c_10 l_12 Q w
def qb.j7(s_0:OAd)(nl_4:Int)(nd_5:Int)(c_10:OAd)(e_11:Int)(Q:VWP)(w:World):Prop:=br (e_11 !=0) (ct_ 113 [.pointer s_0,.int .i64 2] w λw44=>Q (.tuple ⟨[.slice none 0 0,.slice none 0 0]⟩) w44) (qb.j8 s_0 nl_4 nd_5 c_10 ⟨none,0,0⟩ Q w)
def qb.j6(s_0:OAd)(nl_4:Int)(nd_5:Int)(cl_8:Sl)(Q:VWP)(w:World):Prop:=nz s_0 λa45=>ldI .i64 w (Addr.add a45 3) λx46=>br (x46 !=0) (Q (.tuple ⟨[.slice none 0 0,.slice none 0 0]⟩) w) (qsy 138 [sV cl_8,.bool false] w λr49 r50 w48=>qb.j7 s_0 nl_4 nd_5 r49 r50 Q w48)
def qb.b3(s_0:OAd)(nl_4:Int)(nd_5 nc_6:Int)(order_7:Sl)(cl_8:Sl)(i_9:Int)(Q:VWP)(nx3:OAd->Int->Int->Int->Sl->Sl->Int->WP)(w:World):Prop:=br (decide (i_9<nc_6)) (nz s_0 λa51=>ldI .i64 w (Addr.add a51 3) λx52=>br (x52==0) (lt (World.drew w) λw53=>ixS order_7.a order_7.len i_9 1 λa54=>(ldI .i64 w53 a54 λx55=>qbk 108 [.pointer s_0,.int .i64 3] w53 λr58 w57=>ixS cl_8.a cl_8.len x55 1 λa59=>st w57 a59 (.int .i64 r58) λw60=>lt (i64.wrap (i_9+1)) λx61=>nx3 s_0 nl_4 nd_5 nc_6 order_7 cl_8 x61 w60)/\(qbk 108 [.pointer s_0,.int .i64 3] w53 λr64 w63=>ldI .i64 w63 a54 λx65=>ixS cl_8.a cl_8.len x65 1 λa66=>st w63 a66 (.int .i64 r64) λw67=>lt (i64.wrap (i_9+1)) λx68=>nx3 s_0 nl_4 nd_5 nc_6 order_7 cl_8 x68 w67)) (qb.j6 s_0 nl_4 nd_5 cl_8 Q w)) (qb.j6 s_0 nl_4 nd_5 cl_8 Q w)
def qb.l3(s_0:OAd)(nl_4:Int)(nd_5 nc_6:Int)(order_7:Sl)(cl_8:Sl)(i_9:Int)(Q:VWP)(w:World):Prop:=∃(I:Int->WP) (μ:Int->World->Nat),I i_9 w/\∀i_9:Int,∀w:World,I i_9 w->qb.b3 s_0 nl_4 nd_5 nc_6 order_7 cl_8 i_9 Q (λs_0' nl_4' nd_5' nc_6' order_7' cl_8' i_9' w'=>(s_0'=s_0/\nl_4'=nl_4/\nd_5'=nd_5/\nc_6'=nc_6/\order_7'=order_7/\cl_8'=cl_8)/\I i_9' w'/\μ i_9' w'<μ i_9 w) w
def qb.j15(s_0:OAd)(nl_4:Int)(nd_5 nc_6:Int)(order_7:Sl)(cl_8:Sl)(i_9:Int)(Q:VWP)(w:World):Prop:=qb.l3 s_0 nl_4 nd_5 nc_6 order_7 cl_8 i_9 Q w
def qb.j5(s_0:OAd)(nl_4:Int)(nd_5 nc_6:Int)(order_7:Sl)(cl_8:Sl)(Q:VWP)(w:World):Prop:=qb.j15 s_0 nl_4 nd_5 nc_6 order_7 cl_8 0 Q w
def qb.j4(s_0:OAd)(nl_4:Int)(nd_5 nc_6:Int)(Q:VWP)(w:World):Prop:=nw w ⟨[.int .i64 16,.int .i64 17,.int .i64 18,.int .i64 0,.int .i64 8,.int .i64 7,.int .i64 9,.int .i64 6,.int .i64 10,.int .i64 5,.int .i64 11,.int .i64 4,.int .i64 12,.int .i64 3,.int .i64 13,.int .i64 2,.int .i64 14,.int .i64 1,.int .i64 15]⟩ 3 λa69 w70=>mkK prog 3 w70 19 19 λs71 w72=>qb.j5 s_0 nl_4 nd_5 nc_6 ⟨(some a69),19,19⟩ s71 Q w72
def qb.j3(s_0:OAd)(nl_4:Int)(nd_5:Int)(Q:VWP)(w:World):Prop:=qbk 108 [.pointer s_0,.int .i64 4] w λr75 w74=>lt (i64.wrap (r75+4)) λx76=>qb.j4 s_0 nl_4 nd_5 x76 Q w74
def qb.j2(s_0:OAd)(nl_4:Int)(Q:VWP)(w:World):Prop:=qbk 108 [.pointer s_0,.int .i64 5] w λr79 w78=>lt (i64.wrap (r79+1)) λx80=>br (decide (x80>30)) (ct_ 113 [.pointer s_0,.int .i64 2] w78 λw82=>qb.j3 s_0 nl_4 x80 Q w82) (qb.j3 s_0 nl_4 x80 Q w78)
def qb.j1(s_0:OAd)(Q:VWP)(w:World):Prop:=qbk 108 [.pointer s_0,.int .i64 5] w λr85 w84=>lt (i64.wrap (r85+257)) λx86=>br (decide (x86>286)) (ct_ 113 [.pointer s_0,.int .i64 2] w84 λw88=>qb.j2 s_0 x86 Q w88) (qb.j2 s_0 x86 Q w84)
def qb(s_0:OAd)(Q:VWP)(w:World):Prop:=qb.j1 s_0 Q w
theorem qb.ok(s_0:OAd)(Q:VWP)(w:World)(h:qb s_0 Q w):Calls prog 112 ⟨[.pointer s_0]⟩ w (Ret Q):=
 qhc [.tmp 2,.tmp 3] qde Tryz.func112 rfl rfl rfl rfl (.sq [sP 0] (λa w=>qb.j1 a Q w) .lf (.pr 1 [sP 0,sI 4] (λa b w=>qb.j2 a b Q w) (.pr 1 [sP 0,sI 4,sI 5] (λa b c w=>qb.j3 a b c Q w) (.sq [sP 0,sI 4,sI 5,sI 6] (λa b c d w=>qb.j4 a b c d Q w) .lf (.pr 1 [sP 0,sI 4,sI 5,sI 6,sL 7,sL 8] (λa b c d e f w=>qb.j5 a b c d e f Q w) (.sq [sP 0,sI 4,sI 5,sL 8] (λa b c d w=>qb.j6 a b c d Q w) (.sq [sP 0,sI 4,sI 5,sI 6,sL 7,sL 8,sI 9] (λa b c d e f g w=>qb.j15 a b c d e f g Q w) .lf (.bk (.lo [sP 0,sI 4,sI 5,sI 6,sL 7,sL 8] [sI 9] (λa b c d e f g w=>qb.l3 a b c d e f g Q w) (λnx3 a b c d e f g w=>qb.b3 a b c d e f g Q nx3 w) λnx3=> .lf))) (.pr 1 [sP 0,sI 4,sI 5,sP 10,sI 11] (λa b c d e w=>qb.j7 a b c d e Q w) (.pr 1 [sP 0,sI 4,sI 5,sP 10,sL 12] (λa b c d e w=>qb.j8 a b c d e Q w) (.sq [sP 0,sI 4,sL 12] (λa b c w=>qb.j9 a b c Q w) (.bk (.lo [sP 0,sI 4,sI 5,sP 10] [sL 12] (λa b c d e w=>qb.l1 a b c d e Q w) (λnx1 a b c d e w=>qb.b1 a b c d e Q nx1 w) λnx1=>(.sq [sP 0,sI 4,sI 5,sP 10,sL 12] (λa b c d e w=>qb.j10 a b c d e Q nx1 w) .lf (.bk (.pr 1 [sP 0,sI 4,sI 5,sP 10,sL 12,sI 13,sI 14] (λa b c d e f g w=>qb.j11 a b c d e f g Q nx1 w) (.pr 1 [sP 0,sI 4,sI 5,sP 10,sL 12,sI 14,sI 15] (λa b c d e f g w=>qb.j12 a b c d e f g Q nx1 w) (.sq [sP 0,sI 4,sI 5,sP 10,sL 12,sI 14,sI 15] (λa b c d e f g w=>qb.j13 a b c d e f g Q nx1 w) .lf (.pr 1 [sP 0,sI 4,sI 5,sP 10,sL 12,sI 14,sI 15,sI 16] (λa b c d e f g h w=>qb.j14 a b c d e f g h Q nx1 w) (.bk (.lo [sP 0,sI 4,sI 5,sP 10,sI 14,sI 15] [sL 12,sI 16] (λa b c d e f g h w=>qb.l2 a b c d e f g h Q nx1 w) (λnx2 a b c d e f g h w=>qb.b2 a b c d e f g h Q nx1 nx2 w) λnx2=> .lf)))))))))) .lf))))))))) (by kernel_rfl) h
def qg.b2(s_0 a_6 b_8:OAd)(n_11:Int)(d_14 i_17:Int)(Q:VWP)(nx1:OAd->OAd->OAd->WP)(nx2:OAd->OAd->OAd->Int->Int->Int->WP)(w:World):Prop:=br (decide (i_17<n_11)) (nz s_0 λa1=>ldI .i64 w (Addr.add a1 3) λx2=>br (x2==0) (lt (World.drew w) λw3=>nz s_0 λa4=>ldL w3 (Addr.add a4 1) λx5=>nz s_0 λa6=>ldL w3 (Addr.add a6 1) λx7=>lt (i64.wrap ((x7.len:Int)-d_14)) λx8=>ixS x5.a x5.len x8 1 λa9=>ldI .u8 w3 a9 λx10=>ct_ 137 [.pointer s_0,.int .u8 x10] w3 λw12=>lt (i64.wrap (i_17+1)) λx13=>nx2 s_0 a_6 b_8 n_11 d_14 x13 w12) (nx1 s_0 a_6 b_8 w)) (nx1 s_0 a_6 b_8 w)
def qg.l2(s_0 a_6 b_8:OAd)(n_11:Int)(d_14 i_17:Int)(Q:VWP)(nx1:OAd->OAd->OAd->WP)(w:World):Prop:=∃(I:Int->WP) (μ:Int->World->Nat),I i_17 w/\∀i_17:Int,∀w:World,I i_17 w->qg.b2 s_0 a_6 b_8 n_11 d_14 i_17 Q nx1 (λs_0' a_6' b_8' n_11' d_14' i_17' w'=>(s_0'=s_0/\a_6'=a_6/\b_8'=b_8/\n_11'=n_11/\d_14'=d_14)/\I i_17' w'/\μ i_17' w'<μ i_17 w) w
def qg.j12(s_0 a_6 b_8:OAd)(n_11:Int)(d_14 i_17:Int)(Q:VWP)(nx1:OAd->OAd->OAd->WP)(w:World):Prop:=qg.l2 s_0 a_6 b_8 n_11 d_14 i_17 Q nx1 w
def qg.j11(s_0 a_6 b_8:OAd)(n_11:Int)(d_14:Int)(Q:VWP)(nx1:OAd->OAd->OAd->WP)(w:World):Prop:=qg.j12 s_0 a_6 b_8 n_11 d_14 0 Q nx1 w
def qg.j10(s_0 a_6 b_8:OAd)(n_11:Int)(d_14 y_15:Int)(Q:VWP)(nx1:OAd->OAd->OAd->WP)(w:World):Prop:=qbk 108 [.pointer s_0,.int .i64 y_15] w λr16 w15=>lt (i64.wrap (d_14+r16)) λx17=>nz s_0 λa18=>ldI .i64 w15 (Addr.add a18 3) λx19=>br (x19==0) (nz s_0 λa20=>ldL w15 (Addr.add a20 1) λx21=>br (decide (x17>(x21.len:Int))) (ct_ 113 [.pointer s_0,.int .i64 2] w15 λw23=>qg.j11 s_0 a_6 b_8 n_11 x17 Q nx1 w23) (qg.j11 s_0 a_6 b_8 n_11 x17 Q nx1 w15)) (qg.j11 s_0 a_6 b_8 n_11 x17 Q nx1 w15)
def qg.j9(s_0 a_6 b_8:OAd)(n_11:Int)(d_14 y_15:Int)(Q:VWP)(nx1:OAd->OAd->OAd->WP)(w:World):Prop:=nz s_0 λa24=>ldI .i64 w (Addr.add a24 3) λx25=>br (x25 !=0) (Q (.tuple ⟨[]⟩) w) (qg.j10 s_0 a_6 b_8 n_11 d_14 y_15 Q nx1 w)
def qg.j8(s_0 a_6 b_8:OAd)(n_11:Int)(Q:VWP)(nx1:OAd->OAd->OAd->WP)(w:World):Prop:=qbk 139 [.pointer s_0,.pointer b_8] w λr28 w27=>qhw 141 [.int .i64 r28] w27 λr31 r32 r33 w30=>nz s_0 λa34=>ldI .i64 w30 (Addr.add a34 3) λx35=>br (x35==0) (br (!r33) (ct_ 113 [.pointer s_0,.int .i64 2] w30 λw37=>qg.j9 s_0 a_6 b_8 n_11 r31 r32 Q nx1 w37) (qg.j9 s_0 a_6 b_8 n_11 r31 r32 Q nx1 w30)) (qg.j9 s_0 a_6 b_8 n_11 r31 r32 Q nx1 w30)
def qg.j7(s_0 a_6 b_8:OAd)(n_11:Int)(x_12:Int)(ok_13:Bool)(Q:VWP)(nx1:OAd->OAd->OAd->WP)(w:World):Prop:=br (!ok_13) (ct_ 113 [.pointer s_0,.int .i64 2] w λw39=>Q (.tuple ⟨[]⟩) w39) (qbk 108 [.pointer s_0,.int .i64 x_12] w λr42 w41=>lt (i64.wrap (n_11+r42)) λx43=>qg.j8 s_0 a_6 b_8 x43 Q nx1 w41)
def qg.j6(s_0 a_6 b_8:OAd)(v_10:Int)(Q:VWP)(nx1:OAd->OAd->OAd->WP)(w:World):Prop:=br (decide (v_10<256)) (lt (IntKind.u8.wrap v_10) λx44=>ct_ 137 [.pointer s_0,.int .u8 x44] w λw46=>nx1 s_0 a_6 b_8 w46) (qhw 140 [.int .i64 v_10] w λr49 r50 r51 w48=>qg.j7 s_0 a_6 b_8 r49 r50 r51 Q nx1 w48)
def qg.j5(s_0 a_6 b_8:OAd)(v_10:Int)(Q:VWP)(nx1:OAd->OAd->OAd->WP)(w:World):Prop:=nz s_0 λa52=>ldI .i64 w (Addr.add a52 3) λx53=>br (x53 !=0) (Q (.tuple ⟨[]⟩) w) (br (v_10==256) (Q (.tuple ⟨[]⟩) w) (qg.j6 s_0 a_6 b_8 v_10 Q nx1 w))
def qg.j4(s_0 a_6 b_8:OAd)(Q:VWP)(nx1:OAd->OAd->OAd->WP)(w:World):Prop:=qbk 139 [.pointer s_0,.pointer a_6] w λr56 w55=>qg.j5 s_0 a_6 b_8 r56 Q nx1 w55
def qg.b1(s_0 a_6 b_8:OAd)(Q:VWP)(nx1:OAd->OAd->OAd->WP)(w:World):Prop:=nz s_0 λa57=>ldI .i64 w (Addr.add a57 3) λx58=>br (x58==0) (qg.j4 s_0 a_6 b_8 Q nx1 w) (Q (.tuple ⟨[]⟩) w)
def qg.l1(s_0 a_6 b_8:OAd)(Q:VWP)(w:World):Prop:=∃(I:WP) (μ:World->Nat),I w/\∀w:World,I w->qg.b1 s_0 a_6 b_8 Q (λs_0' a_6' b_8' w'=>(s_0'=s_0/\a_6'=a_6/\b_8'=b_8)/\I w'/\μ w'<μ w) w
def qg.j3(s_0 a_6 b_8:OAd)(Q:VWP)(w:World):Prop:=qg.l1 s_0 a_6 b_8 Q w
def qg.j2(s_0:OAd)(dist_2:Sl)(a_6:OAd)(e_7:Int)(Q:VWP)(w:World):Prop:=qsy 138 [sV dist_2,.bool true] w λr61 r62 w60=>br (e_7 !=0) (ct_ 113 [.pointer s_0,.int .i64 2] w60 λw64=>Q (.tuple ⟨[]⟩) w64) (br (r62 !=0) (ct_ 113 [.pointer s_0,.int .i64 2] w60 λw66=>Q (.tuple ⟨[]⟩) w66) (qg.j3 s_0 a_6 r61 Q w60))
def qg.j1(s_0:OAd)(lit_1:Sl)(dist_2:Sl)(Q:VWP)(w:World):Prop:=ixS lit_1.a lit_1.len 256 1 λa67=>ldI .i64 w a67 λx68=>br (x68==0) (ct_ 113 [.pointer s_0,.int .i64 2] w λw70=>Q (.tuple ⟨[]⟩) w70) (qsy 138 [sV lit_1,.bool true] w λr73 r74 w72=>qg.j2 s_0 dist_2 r73 r74 Q w72)
def qg(s_0:OAd)(lit_1:Sl)(dist_2:Sl)(Q:VWP)(w:World):Prop:=nz s_0 λa75=>ldI .i64 w (Addr.add a75 3) λx76=>br (x76 !=0) (Q (.tuple ⟨[]⟩) w) (qg.j1 s_0 lit_1 dist_2 Q w)
theorem qg.ok(s_0:OAd)(lit_1:Sl)(dist_2:Sl)(Q:VWP)(w:World)(h:qg s_0 lit_1 dist_2 Q w):Calls prog 111 ⟨[.pointer s_0,sV lit_1,sV dist_2]⟩ w (Ret Q):=
 qhc [] qde Tryz.func111 rfl rfl rfl rfl (.sq [sP 0,sL 1,sL 2] (λa b c w=>qg.j1 a b c Q w) .lf (.pr 1 [sP 0,sL 2,sP 6,sI 7] (λa b c d w=>qg.j2 a b c d Q w) (.pr 1 [sP 0,sP 6,sP 8] (λa b c w=>qg.j3 a b c Q w) (.bk (.lo [sP 0,sP 6,sP 8] [] (λa b c w=>qg.l1 a b c Q w) (λnx1 a b c w=>qg.b1 a b c Q nx1 w) λnx1=>(.sq [sP 0,sP 6,sP 8] (λa b c w=>qg.j4 a b c Q nx1 w) .lf (.bk (.sq [sP 0,sP 6,sP 8,sI 10] (λa b c d w=>qg.j5 a b c d Q nx1 w) .lf (.pr 1 [sP 0,sP 6,sP 8,sI 10] (λa b c d w=>qg.j6 a b c d Q nx1 w) (.pr 1 [sP 0,sP 6,sP 8,sI 11,sI 12,sB 13] (λa b c d e f w=>qg.j7 a b c d e f Q nx1 w) (.pr 1 [sP 0,sP 6,sP 8,sI 11] (λa b c d w=>qg.j8 a b c d Q nx1 w) (.pr 1 [sP 0,sP 6,sP 8,sI 11,sI 14,sI 15] (λa b c d e f w=>qg.j9 a b c d e f Q nx1 w) (.sq [sP 0,sP 6,sP 8,sI 11,sI 14,sI 15] (λa b c d e f w=>qg.j10 a b c d e f Q nx1 w) .lf (.pr 1 [sP 0,sP 6,sP 8,sI 11,sI 14] (λa b c d e w=>qg.j11 a b c d e Q nx1 w) (.sq [sP 0,sP 6,sP 8,sI 11,sI 14,sI 17] (λa b c d e f w=>qg.j12 a b c d e f Q nx1 w) .lf (.bk (.lo [sP 0,sP 6,sP 8,sI 11,sI 14] [sI 17] (λa b c d e f w=>qg.l2 a b c d e f Q nx1 w) (λnx2 a b c d e f w=>qg.b2 a b c d e f Q nx1 nx2 w) λnx2=> .lf))))))))))))))))) (by kernel_rfl) h
def qyb.j3(s_0:OAd)(last_3:Bool)(Q:VWP)(w:World):Prop:=br last_3 (nz s_0 λa1=>ldI .i64 w (Addr.add a1 3) λx2=>Q (.bool (x2==0)) w) (Q (.bool false) w)
def qyb.j2(s_0:OAd)(last_3:Bool)(k_4:Int)(Q:VWP)(w:World):Prop:=nz s_0 λa3=>ldI .i64 w (Addr.add a3 3) λx4=>br (x4 !=0) (Q (.bool false) w) (br (k_4==0) (ct_ 109 [.pointer s_0] w λw6=>qyb.j3 s_0 last_3 Q w6) (br (k_4==1) (qflb 110 [] w λr9 r10 w8=>ct_ 111 [.pointer s_0,sV r9,sV r10] w8 λw12=>qyb.j3 s_0 last_3 Q w12) (br (k_4==2) (qflb 112 [.pointer s_0] w λr15 r16 w14=>ct_ 111 [.pointer s_0,sV r15,sV r16] w14 λw18=>qyb.j3 s_0 last_3 Q w18) (ct_ 113 [.pointer s_0,.int .i64 2] w λw20=>qyb.j3 s_0 last_3 Q w20))))
def qyb.j1(s_0:OAd)(Q:VWP)(w:World):Prop:=qbk 108 [.pointer s_0,.int .i64 1] w λr23 w22=>qbk 108 [.pointer s_0,.int .i64 2] w22 λr26 w25=>qyb.j2 s_0 (r23==1) r26 Q w25
def qyb(s_0:OAd)(Q:VWP)(w:World):Prop:=qyb.j1 s_0 Q w
theorem qyb.ok(s_0:OAd)(Q:VWP)(w:World)(h:qyb s_0 Q w):Calls prog 83 ⟨[.pointer s_0]⟩ w (Ret Q):=
 qhc [.tmp 2] qde Tryz.func83 rfl rfl rfl rfl (.sq [sP 0] (λa w=>qyb.j1 a Q w) .lf (.pr 1 [sP 0,sB 3,sI 4] (λa b c w=>qyb.j2 a b c Q w) (.pr 1 [sP 0,sB 3] (λa b w=>qyb.j3 a b Q w) .lf))) (by kernel_rfl) h
def qub.j3(s_7:OAd)(Q:VWP)(w:World):Prop:=lt (World.drew w) λw1=>nz s_7 λa2=>nz s_7 λa3=>ldP w1 (Addr.add a3 0) λx4=>(ldL w1 (Addr.add a2 1) λx5=>qbk 84 [.pointer x4] w1 λr8 w7=>Q (.tuple ⟨[sV x5,.int .i64 r8,.int .i64 0]⟩) w7)/\(qbk 84 [.pointer x4] w1 λr11 w10=>ldL w10 (Addr.add a2 1) λx12=>Q (.tuple ⟨[sV x12,.int .i64 r11,.int .i64 0]⟩) w10)
def qub.b1(s_7:OAd)(Q:VWP)(nx1:OAd->WP)(w:World):Prop:=qzcb 83 [.pointer s_7] w λr15 w14=>br (!r15) (nz s_7 λa16=>ldI .i64 w14 (Addr.add a16 3) λx17=>br (x17 !=0) (lt (World.drew w14) λw18=>nz s_7 λa19=>ldI .i64 w18 (Addr.add a19 3) λx20=>Q (.tuple ⟨[.slice none 0 0,.int .i64 0,.int .i64 x20]⟩) w18) (nx1 s_7 w14)) (qub.j3 s_7 Q w14)
def qub.l1(s_7:OAd)(Q:VWP)(w:World):Prop:=∃(I:WP) (μ:World->Nat),I w/\∀w:World,I w->qub.b1 s_7 Q (λs_7' w'=>(s_7'=s_7)/\I w'/\μ w'<μ w) w
def qub.j2(s_7:OAd)(Q:VWP)(w:World):Prop:=qub.l1 s_7 Q w
def qub.j1(b_0:Sl)(most_1:Int)(Q:VWP)(w:World):Prop:=br (decide (most_1<0)) (Q (.tuple ⟨[.slice none 0 0,.int .i64 0,.int .i64 1]⟩) w) (br (decide (most_1>262144)) (Q (.tuple ⟨[.slice none 0 0,.int .i64 0,.int .i64 1]⟩) w) (nw w (⟨[sV b_0,.int .i64 0]⟩:Array Value) 133 λa21 w22=>nw w22 (⟨[.pointer (some a21),.slice none 0 0,.int .i64 most_1,.int .i64 0]⟩:Array Value) 135 λa23 w24=>qub.j2 (some a23) Q w24))
def qub(b_0:Sl)(most_1:Int)(Q:VWP)(w:World):Prop:=qub.j1 b_0 most_1 Q w
theorem qub.ok(b_0:Sl)(most_1:Int)(Q:VWP)(w:World)(h:qub b_0 most_1 Q w):Calls prog 69 ⟨[sV b_0,.int .i64 most_1]⟩ w (Ret Q):=
 qhc [.tmp 4,.tmp 5,.tmp 6] qde Tryz.func69 rfl rfl rfl rfl (.sq [sL 0,sI 1] (λa b w=>qub.j1 a b Q w) .lf (.pr 1 [sP 7] (λa w=>qub.j2 a Q w) (.sq [sP 7] (λa w=>qub.j3 a Q w) (.bk (.lo [sP 7] [] (λa w=>qub.l1 a Q w) (λnx1 a w=>qub.b1 a Q nx1 w) λnx1=> .lf)) .lf))) (by kernel_rfl) h
end
section
attribute [local irreducible] apK cpK mkK br
def dtA(sb rb:Nat)(q:Sl)(most:Int)(z:Z):As:=exA λo:Sl=>andA (qqb sb [.pointer (some ⟨rb,0,none⟩),.slice o.a o.len o.cap,.int .i64 most,.int .i64 z.2.2]) (andA (bitR rb (q,z.1)) (qcc 1 o (u8s z.2.1)))
section
variable {F0:List Nat}{w0 w:World}{ps rest rest2:List As}{sb rb V N:Nat}{q:Sl}{most:Int}{z:Z}
theorem qkv(h:St F0 w0 w (dtA sb rb q most z::ps)):∃o:Sl,St F0 w0 w (qqb sb [.pointer (some ⟨rb,0,none⟩),.slice o.a o.len o.cap,.int .i64 most,.int .i64 z.2.2]::bitR rb (q,z.1)::qcc 1 o (u8s z.2.1)::ps):=by
 unfold dtA at h;obtain⟨o,h⟩:=h.exE;exact⟨o,h.split.tail λ_ _ _ h=>h.split⟩
theorem qkhb{o:Sl}{p:Nat}{out:List Int}{err:Int}(h:St F0 w0 w (qqb sb [.pointer (some ⟨rb,0,none⟩),.slice o.a o.len o.cap,.int .i64 most,.int .i64 err]::bitR rb (q,p)::qcc 1 o (u8s out)::ps)):St F0 w0 w (dtA sb rb q most (p,out,err)::ps):=by
 unfold dtA;exact St.exI o (St.join (h.tail λ_ _ _ h=>h.join))
theorem qmf.c{e:Int}{K:Ending->World->Prop}(h:St F0 w0 w (dtA sb rb q most z::ps))
 (hk:∀w',St F0 w0 w' (dtA sb rb q most (qtd e z)::ps)->K (.returned (.tuple ⟨[]⟩)) w'):Calls prog 113 ⟨[.pointer (some ⟨sb,0,none⟩),.int .i64 e]⟩ w K:=by
 obtain⟨p,out,err⟩:=z
 refine qdc (qkh.ok _ _ _ _ ?_)
 unfold qkh
 unfold qtd at hk
 obtain⟨o,h⟩:=qkv h
 simp only at h hk
 refine qkd (h.fI ?_)
 refine qye (λg=>?_) (λg=>?_)
 ·rw[if_pos (by simpa using g)]at hk
  refine qkd (h.fst trivial λw h=>?_)
  exact hk w (qkhb h)
 ·rw[if_neg (by simpa using g)]at hk
  exact hk w (qkhb h)
theorem qai.c{n:Int}{K:Ending->World->Prop}(h:St F0 w0 w (dtA sb rb q most z::ps))[Rdb F0 w0 q ps 1 (u8s (byt V N))](hN:N<=137438953472)(hp:z.1<=8*N)
 (hk:∀w',(qff (ql V (8*N)) n z).2.1<=8*N->St F0 w0 w' (dtA sb rb q most (qff (ql V (8*N)) n z).2::ps)->K (.returned (.int .i64 (qff (ql V (8*N)) n z).1)) w'):Calls prog 108 ⟨[.pointer (some ⟨sb,0,none⟩),.int .i64 n]⟩ w K:=by
 have hf:=(qsq (B:=ql V (8*N)) n (z:=z) (by rw[qq];exact hp)).2
 rw[qq]at hf
 have hk:=λw'=>hk w' hf
 clear hf
 obtain⟨p,out,err⟩:=z
 simp only at hp
 refine qdc (qzh.ok _ _ _ _ ?_)
 unfold qzh
 unfold qff at hk
 have h0:=h
 obtain⟨o,h⟩:=qkv h
 simp only at h hk
 refine qkd (h.fI ?_)
 refine qye (λg=>?_) (λg=>?_)
 ·rw[if_pos (by simpa using g)]at hk
  exact hk w h0
 ·have g:err=0:=by simpa using g
  subst g
  rw[if_neg (by simp),qq]at hk
  refine qkd (h.fP ?_)
  have h:St F0 w0 w (rfA rb q p::qqb sb [.pointer (some ⟨rb,0,none⟩),.slice o.a o.len o.cap,.int .i64 most,.int .i64 0]::qcc 1 o (u8s out)::ps):=h.at1
  refine qcb.c (V:=V) (N:=N) (at':=p) (s:=q) h (λw h=>h.rdb q) hN (by omega) (λg w h=>⟨_,_,rfl,?_⟩) (λg w h=>⟨_,_,rfl,?_⟩)
  ·have g:=of_decide_eq_true g
   rw[if_pos ⟨g.1,g.2.1,by omega⟩]at hk
   simp only at hk
   rw[qmdb (by omega)]at hk
   refine qcq ?_
   exact hk w (qkhb (q:=q) (p:=p+n.toNat) h.at1)
  ·have g:=of_decide_eq_false g
   rw[if_neg (λe=>g ⟨e.1,e.2.1,by have:=e.2.2;omega⟩)]at hk
   refine qgp ?_
   have h:=qkhb (q:=q) (p:=p) (out:=out) (err:=0) h.at1
   refine qmf.c h λw h=>⟨rfl,?_⟩
   exact hk w h
theorem qnx.c{b:Int}{K:Ending->World->Prop}(h:St F0 w0 w (dtA sb rb q most z::ps))(hL:z.2.1.length<=1000000000)
 (hk:∀w',St F0 w0 w' (dtA sb rb q most (zput most b z)::ps)->K (.returned (.tuple ⟨[]⟩)) w'):Calls prog 137 ⟨[.pointer (some ⟨sb,0,none⟩),.int .u8 b]⟩ w K:=by
 obtain⟨p,out,err⟩:=z
 simp only at hL
 refine qdc (qyh.ok _ _ _ _ ?_)
 unfold qyh
 unfold zput at hk
 have h0:=h
 obtain⟨o,h⟩:=qkv h
 simp only at h hk
 have hol:=h.at2.len
 rw[qk]at hol
 refine qkd (h.fI ?_)
 refine qye (λg=>?_) (λg=>?_)
 ·rw[if_pos (by simpa using g)]at hk
  exact hk w h0
 have g:err=0:=by simpa using g
 subst g
 rw[if_neg (by simp)]at hk
 refine h.drewK λw h=>?_
 refine qkd (h.fL (qkd (h.fI ?_)))
 refine quc (λg2=>?_) (λg2=>?_)
 ·have g2:((o.len:Nat):Int)>=most:=g2
  rw[if_pos (by omega)]at hk
  exact qmf.c (qkhb h) λw h=>⟨rfl,hk w h⟩
 ·have g2:¬((o.len:Nat):Int)>=most:=g2
  rw[if_neg (by omega)]at hk
  refine qkd (h.fL ?_)
  refine h.pushI (s:=o) (by omega) λo2 w h=>?_
  refine qkd (h.fst trivial λw h=>?_)
  exact hk w (qkhb (o:=o2) h.sub)
theorem qmx.c{cb:Nat}{ls:List Int}{K:Ending->World->Prop}(h:St F0 w0 w (dtA sb rb q most z::ps))[Rdb F0 w0 q ps 1 (u8s (byt V N))][PkF hrA cb ps ls rest][Rdb F0 w0 q rest 1 (u8s (byt V N))](hN:N<=137438953472)(hp:z.1<=8*N)
 (hk:∀w',(qyl ls (ql V (8*N)) z).2.1<=8*N->St F0 w0 w' (dtA sb rb q most (qyl ls (ql V (8*N)) z).2::ps)->K (.returned (.int .i64 (qyl ls (ql V (8*N)) z).1)) w'):
 Calls prog 139 ⟨[.pointer (some ⟨sb,0,none⟩),.pointer (some ⟨cb,0,none⟩)]⟩ w K:=by
 obtain⟨p,out,err⟩:=z
 simp only at hp
 refine qdc (qxh.ok _ _ _ _ ?_)
 unfold qxh
 unfold qyl at hk
 have h0:=h
 obtain⟨o,h⟩:=qkv h
 simp only at h hk
 refine qkd (h.fI ?_)
 refine qye (λg=>?_) (λg=>?_)
 ·rw[if_pos (by simpa using g)]at hk
  exact hk w hp h0
 have g:err=0:=by simpa using g
 subst g
 rw[if_neg (by simp)]at hk
 refine qkd (h.fP ?_)
 refine qj.c (ls:=ls) (cb:=cb) (rb:=rb) (V:=V) (N:=N) (p:=p) (s:=q) h.at1 hN hp λw hle h=>⟨_,_,rfl,?_⟩
 refine qye (λg=>?_) (λg=>?_)
 ·refine qmf.c (qkhb h.at1) λw h=>⟨rfl,?_⟩
  refine hk w hle ?_
  unfold qtd at h
  simp only at h
  rw[if_pos trivial]at h
  exact h
 ·refine hk w hle ?_
  have g:(hnext ls (ql V (8*N)) p).2.1=0:=by simpa using g
  rw[g]
  exact qkhb h.at1
theorem qwbb.c{K:Ending->World->Prop}(h:St F0 w0 w (dtA sb rb q most z::ps))[Rdb F0 w0 q ps 1 (u8s (byt V N))](hN:N<=137438953472)(hp:z.1<=8*N)(hm:most<=1000000)(hm0:0<=most)(hL:z.2.1.length<=1000000)
 (hk:∀w',St F0 w0 w' (dtA sb rb q most (qck (ql V (8*N)) most z)::ps)->K (.returned (.tuple ⟨[]⟩)) w'):
 Calls prog 109 ⟨[.pointer (some ⟨sb,0,none⟩)]⟩ w K:=by
 refine qdc (qfb.ok _ _ _ ?_)
 unfold qfb
 unfold qck at hk
 simp only at hk
 obtain⟨o,h⟩:=qkv h
 refine qkd (h.fP ?_)
 have h:St F0 w0 w (rfA rb q z.1::qqb sb [.pointer (some ⟨rb,0,none⟩),.slice o.a o.len o.cap,.int .i64 most,.int .i64 z.2.2]::qcc 1 o (u8s z.2.1)::ps):=h.at1
 refine qwe.c h (by omega) λw h=>⟨rfl,?_⟩
 have h:=qkhb (q:=q) (p:=8*((z.1+7)/8)) (out:=z.2.1) h.at1
 have hz0:(8*((z.1+7)/8),z.2.1,z.2.2).1<=8*N:=by simp only;omega
 have hz0L:((8*((z.1+7)/8),z.2.1,z.2.2):Z).2.1.length<=1000000:=hL
 generalize ((8*((z.1+7)/8),z.2.1,z.2.2):Z)=z0 at h hk hz0 hz0L
 unfold qfb.j1
 refine qai.c h hN hz0 λw hg h=>⟨_,rfl,?_⟩
 have gl:=qyk (B:=ql V (8*N)) (z:=z0) 16
 have go:=qrd (B:=ql V (8*N)) (z:=z0) 16
 generalize qff (ql V (8*N)) 16 z0=g at h hk hg gl go|-
 refine qai.c h hN hg λw hg2 h=>⟨_,rfl,?_⟩
 have go2:=qrd (B:=ql V (8*N)) (z:=g.2) 16
 generalize qff (ql V (8*N)) 16 g.2=g2 at h hk hg2 go2|-
 have hgL:g2.2.2.1.length<=1000000:=by rw[go2,go];exact hz0L
 unfold qfb.j2
 have h0:=h
 obtain⟨o,h⟩:=qkv h
 refine qkd (h.fI ?_)
 refine qye (λg3=>?_) (λg3=>?_)
 ·have g3:g2.2.2.2≠0:=by simpa using g3
  rw[if_pos g3]at hk
  exact hk w h0
 have g3:g2.2.2.2=0:=by simpa using g3
 rw[if_neg (by simpa using g3)]at hk
 refine qbe ?_
 refine qye (λg4=>?_) (λg4=>?_)
 ·rw[if_pos (by simpa using g4)]at hk
  exact qmf.c h0 λw h=>⟨rfl,hk w h⟩
 rw[if_neg (by simpa using g4)]at hk
 have hol:=h.at2.len
 rw[qk]at hol
 have pl:(2:Int)^(16:Int).toNat=65536:=by decide
 rw[pl]at gl
 unfold qfb.j3
 refine h.drewK λw h=>?_
 have h0:=qkhb (q:=q) (p:=g2.2.1) h
 refine qkd (h.fI (qkd (h.fL ?_)))
 refine qm (qd (by simp only;omega) (by simp only;omega)) ?_
 refine quc (λg5=>?_) (λg5=>?_)
 ·have g5:g.1>most-((o.len:Nat):Int):=g5
  rw[if_pos (by omega)]at hk
  exact qmf.c h0 λw h=>⟨rfl,hk w h⟩
 have g5:¬g.1>most-((o.len:Nat):Int):=g5
 rw[if_neg (by omega)]at hk
 have h0:St F0 w0 w (dtA sb rb q most g2.2::ps):=h0
 clear h hol g4 g5
 obtain⟨n,hn⟩:∃k:Nat,g.1=k:=⟨g.1.toNat,by omega⟩
 rw[hn]at hk gl|-
 rw[toNat_natCast]at hk
 generalize g2.2=z2 at hk h0 hg2 hgL
 unfold qfb.j4
 refine qjf (λ(a:Nat×Z) (i':Int) w'=>i'=a.1/\a.1<=n/\a.2.1<=8*N/\a.2.2.1.length<=1000000/\zst (ql V (8*N)) most (n-a.1) a.2=zst (ql V (8*N)) most n z2/\St F0 w0 w' (dtA sb rb q most a.2::ps)) (λa=>n-a.1) (0,z2) ⟨rfl,by simp,hg2,hgL,rfl,h0⟩ ?_
 clear h0 hg2 hgL
 rintro⟨i,z3⟩ i' wL I μ ⟨rfl,hi,hp3,hL3,hz,h⟩ hin
 simp only at hi hp3 hL3 hz h hin|-
 unfold qfb.b1
 refine quc (λg1=>?_) (λg1=>?_)
 ·obtain⟨f,hf⟩:∃f,n-i=f+1:=⟨n-i-1,by omega⟩
  rw[hf,zst]at hz
  refine qai.c h hN hp3 λw hg h=>⟨_,rfl,?_⟩
  have gl:=qyk (B:=ql V (8*N)) (z:=z3) 8
  have go:=qrd (B:=ql V (8*N)) (z:=z3) 8
  generalize qff (ql V (8*N)) 8 z3=g at h hz hg gl go|-
  have pl:(2:Int)^(8:Int).toNat=256:=by decide
  rw[pl]at gl
  refine qbe ?_
  rw[qmk,show g.1%256=g.1 by omega]
  refine qnx.c h (by rw[go];omega) λw h=>⟨rfl,?_⟩
  refine qm (qd (by omega) (by omega)) ?_
  refine⟨⟨rfl,rfl⟩,hin (i+1,zput most g.1 g.2) _ _ ⟨by simp,by simp only;omega,by simp only;rw[qjo];exact hg,qfl _ hm (by rw[go];exact hL3),?_,h⟩ (by simp only;omega)⟩
  simp only
  rw[show n-(i+1)=f by omega]
  exact hz
 ·have:i=n:=by omega
  subst this
  rw[Nat.sub_self,zst]at hz
  rw[<-hz]at hk
  exact hk wL h
end
end
section
attribute [local irreducible] apK cpK mkK br
section
variable {F0:List Nat}{w0 w:World}{ps rest rest2:List As}{sb rb V N:Nat}{q:Sl}{most:Int}{z:Z}
theorem qtq{e:Int}(h:z.2.2≠0):qtd e z=z:=by
 unfold qtd;rw[if_neg h]
theorem qjpb(ok:Bool)(h:z.2.2≠0):zok ok z=z:=by
 unfold zok;split
 ·rfl
 ·exact qtq h
theorem qll.copy{ca cb:Nat}{n d:Int}{nx:Option Addr->Option Addr->Option Addr->World->Prop}(h:St F0 w0 w (dtA sb rb q most z::ps))(hm:most<=1000000)(hL:z.2.1.length<=1000000)(hn:0<=n/\n<=2000)(hd:0<=d/\d<=200000)(hok:z.2.2=0->1<=d/\d<=(z.2.1.length:Int))
 {K:VWP}
 (hk:∀w',St F0 w0 w' (dtA sb rb q most (zcp most d n.toNat z)::ps)->nx (some ⟨sb,0,none⟩) (some ⟨ca,0,none⟩) (some ⟨cb,0,none⟩) w'):
 qg.j11 (some ⟨sb,0,none⟩) (some ⟨ca,0,none⟩) (some ⟨cb,0,none⟩) n d K nx w:=by
 unfold qg.j11 qg.j12
 obtain⟨n,rfl⟩:∃k:Nat,n=k:=⟨n.toNat,by omega⟩
 rw[toNat_natCast]at hk
 refine qjf (λ(a:Nat×Z) (i':Int) w'=>i'=a.1/\a.1<=n/\zcp most d (n-a.1) a.2=zcp most d n z/\a.2.2.1.length<=1000000/\(a.2.2.2=0->1<=d/\d<=(a.2.2.1.length:Int))/\St F0 w0 w' (dtA sb rb q most a.2::ps)) (λa=>n-a.1) (0,z) ⟨rfl,by simp,rfl,hL,hok,h⟩ ?_
 clear h hL hok
 rintro⟨i,p,out,err⟩ i' wL I μ ⟨rfl,hi,hz,hl5,hd5,h⟩ hin
 simp only at hi hz hl5 hd5 h hin|-
 unfold qg.b2
 have h0:=h
 obtain⟨o,h⟩:=qkv h
 simp only at h
 have hol:=h.at2.len
 rw[qk]at hol
 refine quc (λg1=>?_) (λg1=>?_)
 ·obtain⟨f,hf⟩:∃f,n-i=f+1:=⟨n-i-1,by omega⟩
  rw[hf,zcp]at hz
  refine qkd (h.fI ?_)
  refine qye (λg3=>?_) (λg3=>?_)
  ·have g3:err=0:=by simpa using g3
   subst g3
   have hd5:=hd5 rfl
   rw[if_neg (by simp)]at hz
   simp only at hz
   refine h.drewK λw h=>?_
   refine qkd (h.fL (qkd (h.fL ?_)))
   refine qm (show i64.wrap (((o.len:Nat):Int)-d)=((out.length-d.toNat:Nat):Int)by rw[qd (by omega) (by omega)];omega) ?_
   refine h.lx (s:=o) (out.length-d.toNat) rfl (by omega) ?_
   refine qnx.c (qkhb h) (by simp only;omega) λw h=>⟨rfl,?_⟩
   refine qm (qd (by omega) (by omega)) ?_
   refine⟨⟨rfl,rfl,rfl,rfl,rfl⟩,hin (i+1,zput most (out.getD (out.length-d.toNat) 0) (p,out,0)) _ _ ⟨by simp,by simp only;omega,?_,qfl _ hm hl5,?_,h⟩ (by simp only;omega)⟩
   ·simp only
    rw[show n-(i+1)=f by omega]
    exact hz
   ·intro e
    refine⟨hd5.1,?_⟩
    simp only at e|-
    unfold zput at e|-
    rw[if_neg (by simp)]at e|-
    split
    ·rename_i hc
     rw[if_pos hc]at e
     simp at e
    ·simp only[length_append,List.length_singleton];omega
  ·have g3:err≠0:=by simpa using g3
   rw[if_pos g3]at hz
   rw[<-hz]at hk
   exact hk wL h0
 ·have:i=n:=by omega
  subst this
  rw[Nat.sub_self,zcp]at hz
  rw[<-hz]at hk
  exact hk wL h0
theorem qll.loop{ca cb:Nat}{ll dl:List Int}{K:Ending->World->Prop}(h:St F0 w0 w (dtA sb rb q most z::ps))[Rdb F0 w0 q ps 1 (u8s (byt V N))][PkF hrA ca ps ll rest][Rdb F0 w0 q rest 1 (u8s (byt V N))][PkF hrA cb ps dl rest2][Rdb F0 w0 q rest2 1 (u8s (byt V N))](hN:N<=137438953472)(hp:z.1<=8*N)(hm:most<=1000000)(hL:z.2.1.length<=1000000)
 (hk:∀w',St F0 w0 w' (dtA sb rb q most (qcg ll dl (ql V (8*N)) most (8*N+1) z)::ps)->K (.returned (.tuple ⟨[]⟩)) w'):
 qg.j3 (some ⟨sb,0,none⟩) (some ⟨ca,0,none⟩) (some ⟨cb,0,none⟩) (λv w'=>K (.returned v) w') w:=by
 unfold qg.j3
 have hBl:(ql (V:Int) (8*N)).length=8*N:=qq _ _
 refine loop0 (λ(a:Nat×Z) w'=>8*N-a.2.1<a.1/\a.2.1<=8*N/\a.2.2.1.length<=1000000/\qcg ll dl (ql V (8*N)) most a.1 a.2=qcg ll dl (ql V (8*N)) most (8*N+1) z/\St F0 w0 w' (dtA sb rb q most a.2::ps)) (λa=>a.1) (8*N+1,z) ⟨by simp only;omega,hp,hL,rfl,h⟩ ?_
 clear h hp hL
 rintro⟨f,z1⟩ wL I μ ⟨hf,hp,hL,hz,h⟩ hin
 simp only at hf hp hL hz h hin|-
 unfold qg.b1
 obtain⟨f,rfl⟩:∃g,f=g+1:=⟨f-1,by omega⟩
 rw[qcg]at hz
 have h0:=h
 obtain⟨o,h⟩:=qkv h
 refine qkd (h.fI ?_)
 refine qye (λg1=>?_) (λg1=>?_)
 ·have g1:z1.2.2=0:=by simpa using g1
  rw[if_neg (by simpa using g1)]at hz
  simp only at hz
  unfold qg.j4
  refine qmx.c (ls:=ll) (cb:=ca) h0 hN hp λw hs h=>⟨_,rfl,?_⟩
  have so:=qwi (B:=ql V (8*N)) (z:=z1) ll
  have sp:(qyl ll (ql V (8*N)) z1).2.2.2=0->z1.1<(qyl ll (ql V (8*N)) z1).2.1:=by
   unfold qyl;rw[if_neg (by simpa using g1)];exact(qpcb ll (ql V (8*N)) (qcj ll 15) 1 0 z1.1 (by rw[hBl];exact hp)).2.2
  have sn:=qgbb (B:=ql V (8*N)) (z:=z1) ll
  generalize qyl ll (ql V (8*N)) z1=s at h hz hs so sp sn|-
  obtain⟨v,z2⟩:=s
  simp only at h hz hs so sp sn|-
  unfold qg.j5
  have h1:=h
  obtain⟨o,h⟩:=qkv h
  refine qkd (h.fI ?_)
  refine qye (λg2=>?_) (λg2=>?_)
  ·have g2:z2.2.2≠0:=by simpa using g2
   rw[if_pos (Or.inl g2)]at hz
   rw[<-hz]at hk
   exact hk w h1
  have g2:z2.2.2=0:=by simpa using g2
  have sp:=sp g2
  refine qye (λg3=>?_) (λg3=>?_)
  ·rw[if_pos (Or.inr (by simpa using g3))]at hz
   rw[<-hz]at hk
   exact hk w h1
  have g3:v≠256:=by simpa using g3
  rw[if_neg (by rintro(e|e);exact e g2;exact g3 e)]at hz
  unfold qg.j6
  refine quc (λg4=>?_) (λg4=>?_)
  ·rw[if_pos g4]at hz
   refine qbe ?_
   rw[qmk,show v%256=v by omega]
   refine qnx.c h1 (by rw[so];omega) λw h=>⟨rfl,?_⟩
   refine⟨⟨rfl,rfl,rfl⟩,hin (f,zput most v z2) _ ⟨?_,?_,qfl _ hm (by rw[so];exact hL),?_,h⟩ (by simp only;omega)⟩
   ·simp only;rw[qjo];omega
   ·simp only;rw[qjo];exact hs
   ·exact hz
  ·rw[if_neg g4]at hz
   have hfw:=qhq (most:=most) (B:=ql V (8*N)) dl v (z:=z2) (by rw[hBl];exact hs)
   rw[zfwd,hBl]at hfw
   have hbl:=qgq (B:=ql V (8*N)) dl v hm (z:=z2) (by rw[so];exact hL)
   have stop:∀y w,qli dl (ql V (8*N)) most v z2=y->y.2.2≠0->St F0 w0 w (dtA sb rb q most y::ps)->K (.returned (.tuple ⟨[]⟩)) w:=by
    intro y w e hy h;rw[e]at hz;have:qcg ll dl (ql V (8*N)) most f y=y:=by
     cases f with
     |zero=>rfl
     |succ f=>rw[qcg,if_pos hy]
    rw[this]at hz;rw[<-hz]at hk;exact hk w h
   have next:∀w,St F0 w0 w (dtA sb rb q most (qli dl (ql V (8*N)) most v z2)::ps)->(some (⟨sb,0,none⟩:Addr)=some ⟨sb,0,none⟩/\some (⟨ca,0,none⟩:Addr)=some ⟨ca,0,none⟩/\some (⟨cb,0,none⟩:Addr)=some ⟨cb,0,none⟩)/\I w/\μ w<μ wL:=by
    intro w h;refine⟨⟨rfl,rfl,rfl⟩,hin (f,qli dl (ql V (8*N)) most v z2) _ ⟨?_,hfw.2,hbl,hz,h⟩ (by simp only;omega)⟩;simp only;omega
   clear hin hk hz
   have b1:=qkdb v
   have hL2:z2.2.1.length<=1000000:=by rw[so];exact hL
   unfold qli at stop next
   simp only at stop next
   refine qzg.c h1 λw h1=>⟨_,_,_,rfl,?_⟩
   unfold qg.j7
   generalize (qdl v).1=l1 at stop next b1|-
   generalize (qdl v).2.1=l2 at stop next b1|-
   cases hk2:(qdl v).2.2 with
   |false=>
    rw[hk2]at stop
    refine qgp ?_
    refine qmf.c h1 λw h=>⟨rfl,?_⟩
    refine stop (qtd 2 z2) w ?_ (qvh (by decide)) h
    have hne:(qtd 2 z2).2.2≠0:=qvh (by decide)
    have e1:zok false z2=qtd 2 z2:=rfl
    rw[e1,qts hne]
    have e2:∀y:Z,y.2.2≠0->qyl dl (ql V (8*N)) y=(0,y):=λy hy=>by unfold qyl;rw[if_pos hy]
    simp only
    rw[e2 _ hne]
    have e3:∀ok (y:Z),y.2.2≠0->zok ok y=y:=λok y hy=>qjpb ok hy
    simp only
    rw[e3 _ _ hne,qts hne]
    have e4:∀y:Z,y.2.2≠0->qtd 2 y=y:=λy hy=>qtq hy
    simp only
    have e5:∀(c:Prop) [Decidable c],(if c then qtd 2 (qtd 2 z2)else qtd 2 z2)=qtd 2 z2:=by
     intro c _;split
     ·exact e4 _ hne
     ·rfl
    rw[e5]
    exact qibb _ _ hne
   |true=>
    rw[hk2]at stop next
    refine qcq ?_
    have ez:zok true z2=z2:=rfl
    rw[ez]at stop next
    refine qai.c h1 hN hs λw hg h=>⟨_,rfl,?_⟩
    have gl:=qyk (B:=ql V (8*N)) (z:=z2) l2
    have go:=qrd (B:=ql V (8*N)) (z:=z2) l2
    generalize qff (ql V (8*N)) l2 z2=g at h stop next hg gl go|-
    have pl:(2:Int)^l2.toNat<=64:=qcu (c:=64) b1.2.2 rfl
    refine qm (qd (by omega) (by omega)) ?_
    unfold qg.j8
    refine qmx.c (ls:=dl) (cb:=cb) h hN hg λw hs2 h=>⟨_,rfl,?_⟩
    have so2:=qwi (B:=ql V (8*N)) (z:=g.2) dl
    generalize qyl dl (ql V (8*N)) g.2=s at h stop next hs2 so2|-
    have b2:=qndb s.1
    refine quf.c h λw h=>⟨_,_,_,rfl,?_⟩
    have j9:∀(z4:Z) w,z4=zok (qik s.1).2.2 s.2->St F0 w0 w (dtA sb rb q most z4::ps)->qg.j9 (some ⟨sb,0,none⟩) (some ⟨ca,0,none⟩) (some ⟨cb,0,none⟩) (l1+g.1) (qik s.1).1 (qik s.1).2.1 (λv w'=>K (.returned v) w') (λd_0' t6' t8' w'=>(d_0'=some ⟨sb,0,none⟩/\t6'=some ⟨ca,0,none⟩/\t8'=some ⟨cb,0,none⟩)/\I w'/\μ w'<μ wL) w:=by
     intro z4 w e4 h;have hzp2:z4.1<=8*N:=by rw[e4,qqfb];exact hs2
     have ho2:z4.2.1.length<=1000000:=by rw[e4,qln,so2,go];exact hL2
     have he2:=qnhb (ok:=(qik s.1).2.2) (z:=s.2);rw[<-e4]at stop next he2
     clear e4;have b2':z4.2.2=0->1<=(qik s.1).1:=λe=>b2.2.2.2 (he2 e).1;generalize (qik s.1).1=d1 at stop next b2 b2'|-
     generalize (qik s.1).2.1=d2 at stop next b2|-
     unfold qg.j9;have h0:=h;obtain⟨o,h⟩:=qkv h;refine qkd (h.fI ?_);refine qye (λg5=>?_) (λg5=>?_)
     ·have g5:z4.2.2≠0:=by simpa using g5
      refine stop z4 w ?_ g5 h0;rw[qts g5];simp only
      have e5:(if(z4.2.1.length:Int)<d1+0 then qtd 2 z4 else z4)=z4:=by
       split
       ·exact qtq g5
       ·rfl
      rw[e5];exact qibb _ _ g5
     have g5:z4.2.2=0:=by simpa using g5
     have b2':=b2' g5;unfold qg.j10;refine qai.c h0 hN hzp2 λw hg2 h=>⟨_,rfl,?_⟩;have gl2:=qyk (B:=ql V (8*N)) (z:=z4) d2;have go2:=qrd (B:=ql V (8*N)) (z:=z4) d2;generalize qff (ql V (8*N)) d2 z4=g2 at h stop next hg2 gl2 go2|-
     have pl2:(2:Int)^d2.toNat<=16384:=qcu (c:=16384) b2.2.2.1 rfl;refine qm (qd (by omega) (by omega)) ?_;have fin:∀(z5:Z) w,z5=(if(g2.2.2.1.length:Int)<d1+g2.1 then qtd 2 g2.2 else g2.2)->z5.2.1.length<=1000000->(z5.2.2=0->1<=d1+g2.1/\d1+g2.1<=(z5.2.1.length:Int))->St F0 w0 w (dtA sb rb q most z5::ps)->qg.j11 (some ⟨sb,0,none⟩) (some ⟨ca,0,none⟩) (some ⟨cb,0,none⟩) (l1+g.1) (d1+g2.1) (λv w'=>K (.returned v) w') (λd_0' t6' t8' w'=>(d_0'=some ⟨sb,0,none⟩/\t6'=some ⟨ca,0,none⟩/\t8'=some ⟨cb,0,none⟩)/\I w'/\μ w'<μ wL) w:=by
      intro z5 w e hl5 hd5 h;rw[<-e]at next
      exact qll.copy (n:=l1+g.1) (d:=d1+g2.1) h hm hl5 (by omega) (by omega) hd5 λw h=>⟨⟨rfl,rfl,rfl⟩,(next w h).2⟩
     have h0:=h;obtain⟨o,h⟩:=qkv h;refine qkd (h.fI ?_);refine qye (λg6=>?_) (λg6=>?_)
     ·have g6:g2.2.2.2=0:=by simpa using g6
      have hol:=h.at2.len;rw[qk]at hol;refine qkd (h.fL ?_);refine quc (λg7=>?_) (λg7=>?_)
      ·have g7:d1+g2.1>((o.len:Nat):Int):=g7;refine qmf.c h0 λw h=>⟨rfl,?_⟩;exact fin (qtd 2 g2.2) w (by rw[if_pos (by omega)]) (by show g2.2.2.1.length<=_;rw[go2];exact ho2) (λe=>absurd e (qvh (by decide))) h
      ·have g7:¬d1+g2.1>((o.len:Nat):Int):=g7;exact fin g2.2 w (by rw[if_neg (by omega)]) (by rw[go2];exact ho2) (λ_=>by omega) h0
     ·have g6:g2.2.2.2≠0:=by simpa using g6
      refine fin g2.2 w ?_ (by rw[go2];exact ho2) (λe=>absurd e g6) h0;split
      ·exact(qtq g6).symm
      ·rfl
    have h0:=h
    obtain⟨o,h⟩:=qkv h
    refine qkd (h.fI ?_)
    refine qye (λg6=>?_) (λg6=>?_)
    ·refine qye (λg7=>?_) (λg7=>?_)
     ·have g7:(qik s.1).2.2=false:=by simpa using g7
      refine qmf.c h0 λw h=>⟨rfl,?_⟩
      exact j9 _ w (by rw[g7];rfl) h
     ·have g7:(qik s.1).2.2=true:=by simpa using g7
      exact j9 _ w (by rw[g7];rfl) h0
    ·have g6:s.2.2.2≠0:=by simpa using g6
     exact j9 _ w (qjpb _ g6).symm h0
 ·have g1:z1.2.2≠0:=by simpa using g1
  rw[if_pos g1]at hz
  rw[<-hz]at hk
  exact hk wL h0
end
end
section
attribute [local irreducible] apK cpK mkK br
section
variable {F0:List Nat}{w0 w:World}{ps rest rest2:List As}{sb rb V N:Nat}{q:Sl}{most:Int}{z:Z}
theorem qll.c{s t:Sl}{ll dl:List Int}{K:Ending->World->Prop}(h:St F0 w0 w (dtA sb rb q most z::ps))[Rdb F0 w0 q ps 1 (u8s (byt V N))][Rdb F0 w0 s ps 1 (ivs .i64 ll)][Rdb F0 w0 t ps 1 (ivs .i64 dl)](hll:256<ll.length)(hN:N<=137438953472)(hp:z.1<=8*N)(hm:most<=1000000)(hL:z.2.1.length<=1000000)
 (hk:∀w',St F0 w0 w' (dtA sb rb q most (zblk ll dl (ql V (8*N)) most z)::ps)->K (.returned (.tuple ⟨[]⟩)) w'):
 Calls prog 111 ⟨[.pointer (some ⟨sb,0,none⟩),.slice s.a s.len s.cap,.slice t.a t.len t.cap]⟩ w K:=by
 refine qdc (qg.ok _ _ _ _ _ ?_)
 unfold qg
 unfold zblk at hk
 simp only[qq]at hk
 have h0:=h
 obtain⟨o,h⟩:=qkv h
 refine qkd (h.fI ?_)
 refine qye (λg=>?_) (λg=>?_)
 ·have g:z.2.2≠0:=by simpa using g
  rw[show(if z.2.2=0/\ll.getD 256 0=0 then qtd 2 z else z)=z from if_neg (λe=>g e.1),qcm ll g,qcm dl g,if_pos g]at hk
  exact hk w h0
 have g:z.2.2=0:=by simpa using g
 unfold qg.j1
 refine h.lx (s:=s) 256 rfl hll ?_
 have hne:(qtd 2 z).2.2≠0:=qvh (by decide)
 refine qye (λg2=>?_) (λg2=>?_)
 ·rw[show(if z.2.2=0/\ll.getD 256 0=0 then qtd 2 z else z)=qtd 2 z from if_pos ⟨g,by simpa using g2⟩,qcm ll hne,qcm dl hne,if_pos hne]at hk
  exact qmf.c h0 λw h=>⟨rfl,hk w h⟩
 have g2:ll.getD 256 0≠0:=by intro e;rw[e]at g2;simp at g2
 rw[show(if z.2.2=0/\ll.getD 256 0=0 then qtd 2 z else z)=z from if_neg (λe=>g2 e.2)]at hk
 refine qmb.c (s:=s) (half:=true) h0 (λca w e1 h=>⟨_,_,rfl,?_⟩) (λw e1 h=>⟨_,_,rfl,?_⟩)
 ·have ec:qwh ll z=z:=by unfold qwh;rw[if_neg (λe=>e.2 e1)]
  rw[ec]at hk
  unfold qg.j2
  refine qmb.c (s:=t) (half:=true) h (λcb w e2 h=>⟨_,_,rfl,?_⟩) (λw e2 h=>⟨_,_,rfl,?_⟩)
  ·have ec2:qwh dl z=z:=by unfold qwh;rw[if_neg (λe=>e.2 e2)]
   rw[ec2,if_neg (λe=>e g)]at hk
   refine qze rfl (qze rfl ?_)
   have h:St F0 w0 w (dtA sb rb q most z::hrA cb dl::hrA ca ll::ps):=h.at2
   exact qll.loop (ca:=ca) (cb:=cb) (ll:=ll) (dl:=dl) h hN hp hm hL λw h=>hk w (h.tail λ_ _ _ h=>h.drop.drop)
  ·have ec2:qwh dl z=qtd 2 z:=by unfold qwh;rw[if_pos ⟨g,e2⟩]
   rw[ec2,if_pos hne]at hk
   refine qze rfl (qjh (by simpa using e2) ?_)
   have h:St F0 w0 w (dtA sb rb q most z::ps):=h.drop
   exact qmf.c h λw h=>⟨rfl,hk w h⟩
 ·have ec:qwh ll z=qtd 2 z:=by unfold qwh;rw[if_pos ⟨g,e1⟩]
  rw[ec,qcm dl hne,if_pos hne]at hk
  unfold qg.j2
  refine qmb.c (s:=t) (half:=true) h (λcb w e2 h=>⟨_,_,rfl,?_⟩) (λw e2 h=>⟨_,_,rfl,?_⟩)
  ·refine qjh (by simpa using e1) ?_
   exact qmf.c h.drop λw h=>⟨rfl,hk w h⟩
  ·refine qjh (by simpa using e1) ?_
   exact qmf.c h λw h=>⟨rfl,hk w h⟩
theorem qqo.loop{cb:Nat}{cl:List Int}{nl nd:Nat}{K:Ending->World->Prop}(h:St F0 w0 w (dtA sb rb q most z::ps))[Rdb F0 w0 q ps 1 (u8s (byt V N))][PkF hrA cb ps cl rest][Rdb F0 w0 q rest 1 (u8s (byt V N))](hN:N<=137438953472)(hp:z.1<=8*N)(hn:nl+nd<=200000)(hz0:z.2.2=0)
 (hk0:∀(t11:Sl) w',(zll cl (ql V (8*N)) (nl+nd) (nl+nd+1) [] z).2.2.2=0->t11.len=nl+nd->t11.len<=t11.cap->St F0 w0 w' (dtA sb rb q most (zll cl (ql V (8*N)) (nl+nd) (nl+nd+1) [] z).2::rdA 1 t11 (ivs .i64 (zll cl (ql V (8*N)) (nl+nd) (nl+nd+1) [] z).1)::ps)->K (.returned (.tuple ⟨[.slice (qnf t11.a t11.cap 0 1) (nl-0) (t11.cap-0),.slice (qnf t11.a t11.cap nl 1) (t11.len-nl) (t11.cap-nl)]⟩)) w')
 (hk1:∀w',(zll cl (ql V (8*N)) (nl+nd) (nl+nd+1) [] z).2.2.2≠0->St F0 w0 w' (dtA sb rb q most (zll cl (ql V (8*N)) (nl+nd) (nl+nd+1) [] z).2::ps)->K (.returned (.tuple ⟨[.slice none 0 0,.slice none 0 0]⟩)) w'):
 qb.j8 (some ⟨sb,0,none⟩) (nl:Int) (nd:Int) (some ⟨cb,0,none⟩) ⟨none,0,0⟩ (λv w'=>K (.returned v) w') w:=by
 have hBl:(ql (V:Int) (8*N)).length=8*N:=qq _ _
 generalize hR:zll cl (ql V (8*N)) (nl+nd) (nl+nd+1) [] z=R at hk0 hk1
 have hRl:=qit (cl:=cl) (B:=ql V (8*N)) (N:=nl+nd) (nl+nd+1) [] z (by simp) (by simp)
 rw[hR]at hRl
 unfold qb.j8
 refine qjf (λ(a:Nat×List Int×Z) (t11:Sl) w'=>zll cl (ql V (8*N)) (nl+nd) a.1 a.2.1 a.2.2=R/\a.2.2.1<=8*N/\a.2.1.length<=nl+nd/\a.2.2.2.2=0/\nl+nd<a.1+a.2.1.length/\St F0 w0 w' (dtA sb rb q most a.2.2::qcc 1 t11 (ivs .i64 a.2.1)::ps)) (λa=>a.1) (nl+nd+1,[],z) ⟨hR,hp,by simp,hz0,by simp,(h.nil 1).at1⟩ ?_
 clear h hp hR hz0
 rintro⟨f,l,y⟩ t11 wL I μ ⟨hR,hp,hl,hy,hf,h⟩ hin
 simp only at hR hp hl hy hf h hin|-
 have hol:=h.drop.len
 rw[qk]at hol
 have h0:=h
 obtain⟨f,rfl⟩:∃f',f=f'+1:=⟨f-1,by omega⟩
 unfold qb.b1
 obtain⟨o,h⟩:=qkv h
 refine qm (qd (by omega) (by omega)) ?_
 refine quc (λg1=>?_) (λg1=>?_)
 rotate_left
 ·have e:R=(l,y):=by rw[<-hR,zll,if_pos (Or.inr (by omega))]
  rw[e]at hk0 hk1 hRl
  simp only at hk0 hk1 hRl
  unfold qb.j9
  refine qkd (h.fI ?_)
  refine qze (by simpa using hy) ?_
  have hll:=hRl hy
  have hcap:=h0.drop.cap (by decide)
  refine h0.drewK λw h0=>?_
  refine qkn (n:=nl) rfl (by omega) (qbe ?_)
  refine qkn (n:=nl) rfl (by omega) (qbe ?_)
  exact hk0 t11 w hy (by omega) hcap (h0.tail λ_ _ _ h=>h.ro)
 refine qkd (h.fI ?_)
 refine qjh (by simpa using hy) ?_
 rw[zll,if_neg (λe=>by rcases e with e|e;exact e hy;omega)]at hR
 have bad:∀z3 w,z3.2.2≠0->(zllS cl (ql V (8*N)) (nl+nd) l y).2=z3->St F0 w0 w (dtA sb rb q most z3::ps)->K (.returned (.tuple ⟨[.slice none 0 0,.slice none 0 0]⟩)) w:=by
  intro z3 w hz3 e h;have:R.2=z3:=by
   rw[<-hR,e];cases f with
   |zero=>rfl
   |succ f=>rw[zll,if_pos (Or.inl hz3)]
  rw[this]at hk1;exact hk1 w hz3 h
 unfold zllS at hR bad
 simp only at hR bad
 unfold qb.j10
 refine qmx.c (cb:=cb) (ls:=cl) h0 hN hp λw hle h=>⟨_,rfl,?_⟩
 generalize qyl cl (ql V (8*N)) y=s at h hR bad hle|-
 have j12:∀(a:(Int×Int)×Z) w,qtf (ql V (8*N)) s.1 l s.2=a->St F0 w0 w (dtA sb rb q most a.2::qcc 1 t11 (ivs .i64 l)::ps)->
  qb.j12 (some ⟨sb,0,none⟩) (nl:Int) (nd:Int) (some ⟨cb,0,none⟩) t11 a.1.2 a.1.1 (λv w'=>K (.returned v) w') (λd_0' t4' t5' t10' t12' w'=>(d_0'=some ⟨sb,0,none⟩/\t4'=(nl:Int)/\t5'=(nd:Int)/\t10'=some ⟨cb,0,none⟩)/\I t12' w'/\μ t12' w'<μ t11 wL) w:=by
  intro a w e h
  have hna:=qww (B:=ql V (8*N)) (z:=s.2) s.1 l
  have hpa:=(qvw (B:=ql V (8*N)) (z:=s.2) s.1 l (by rw[hBl];exact hle)).2
  rw[hBl]at hpa
  rw[e]at hR bad hna hpa
  unfold qb.j12
  have h0:=h
  obtain⟨o,h⟩:=qkv h
  refine qkd (h.fI ?_)
  refine qye (λg2=>?_) (λg2=>?_)
  ·have g2:a.2.2.2≠0:=by simpa using g2
   refine bad a.2 w g2 ?_ (h0.tail λ_ _ _ h=>h.drop)
   split
   ·exact qtq g2
   ·rfl
  have g2:a.2.2.2=0:=by simpa using g2
  unfold qb.j13
  refine qm (qd (by omega) (by omega)) ?_
  refine qm (qd (by omega) (by omega)) ?_
  refine quc (λg3=>?_) (λg3=>?_)
  ·refine qmf.c h0 λw h=>⟨rfl,?_⟩
   exact bad (qtd 2 a.2) w (qvh (by decide)) (by rw[if_pos (by omega)]) (h.tail λ_ _ _ h=>h.drop)
  rw[show(if((nl+nd:Nat):Int)-l.length<a.1.2 then qtd 2 a.2 else a.2)=a.2 from if_neg (by omega),if_pos g2]at hR
  obtain⟨n,hn2⟩:∃n:Nat,a.1.2=n:=⟨a.1.2.toNat,by omega⟩
  rw[hn2,toNat_natCast]at hR
  rw[hn2]
  have hn1:=hna.2.2 g2
  unfold qb.j14
  refine qug (λ(k:Nat) (t:Sl) (k':Int) w'=>k'=k/\k<=n/\St F0 w0 w' (dtA sb rb q most a.2::qcc 1 t (ivs .i64 (l++replicate k a.1.1))::ps)) (λk=>n-k) 0 ⟨rfl,by omega,by simpa using h0⟩ ?_
  clear h h0
  rintro k t k' wM I2 μ2 ⟨rfl,hkn,h⟩ hin2
  unfold qb.b2
  refine quc (λg4=>?_) (λg4=>?_)
  ·refine h.pushI (s:=t) (by rw[length_append,length_replicate];omega) λt2 w h=>?_
   refine qm (qd (by omega) (by omega)) ?_
   refine⟨⟨rfl,rfl,rfl,rfl,rfl,rfl⟩,hin2 (k+1) _ _ _ ⟨by omega,by omega,?_⟩ (by omega)⟩
   rw[List.append_assoc,<-List.replicate_succ']at h
   exact h.at1
  ·have:k=n:=by omega
   subst this
   refine⟨⟨rfl,rfl,rfl,rfl⟩,hin (f,l++replicate k a.1.1,a.2) _ _ ⟨hR,hpa,by simp only[length_append,length_replicate];omega,g2,by simp only[length_append,length_replicate];omega,h⟩ (by simp only;omega)⟩
 have b2:=qof (B:=ql V (8*N)) (z:=s.2) 2 (by decide)
 have b3:=qof (B:=ql V (8*N)) (z:=s.2) 3 (by decide)
 have b7:=qof (B:=ql V (8*N)) (z:=s.2) 7 (by decide)
 unfold qb.j11
 refine qye (λg=>?_) (λg=>?_)
 ·have g:s.1=16:=by simpa using g
  refine qye (λg2=>?_) (λg2=>?_)
  ·have g2:(t11.len:Int)=0:=by simpa using g2
   refine qmf.c h λw h=>⟨rfl,?_⟩
   have e:qtf (ql V (8*N)) s.1 l s.2=((0,0),qtd 2 s.2):=by
    unfold qtf;rw[if_pos g,if_pos (by omega)]
   rw[e]at bad
   have hne:(qtd 2 s.2).2.2≠0:=qvh (by decide)
   refine bad (qtd 2 s.2) w hne ?_ (h.tail λ_ _ _ h=>h.drop)
   simp only
   rw[if_neg (by omega)]
  ·have g2:(t11.len:Int)≠0:=by simpa using g2
   have e:qtf (ql V (8*N)) s.1 l s.2=((l.getD (l.length-1) 0,3+(qff (ql V (8*N)) 2 s.2).1),(qff (ql V (8*N)) 2 s.2).2):=by
    unfold qtf;rw[if_pos g,if_neg (by omega)]
   refine qm (qd (by omega) (by omega)) ?_
   refine h.lx (s:=t11) (l.length-1) (by omega) (by omega) ?_
   refine qai.c h hN hle λw _ h=>⟨_,rfl,?_⟩
   exact qm (qd (by omega) (by omega)) (j12 _ w e h)
 have g:s.1≠16:=by simpa using g
 refine qye (λg3=>?_) (λg3=>?_)
 ·have g3:s.1=17:=by simpa using g3
  have e:qtf (ql V (8*N)) s.1 l s.2=((0,3+(qff (ql V (8*N)) 3 s.2).1),(qff (ql V (8*N)) 3 s.2).2):=by
   unfold qtf;rw[if_neg g,if_pos g3]
  refine qai.c h hN hle λw _ h=>⟨_,rfl,?_⟩
  exact qm (qd (by omega) (by omega)) (j12 _ w e h)
 have g3:s.1≠17:=by simpa using g3
 refine qye (λg4=>?_) (λg4=>?_)
 ·have g4:s.1=18:=by simpa using g4
  have e:qtf (ql V (8*N)) s.1 l s.2=((0,11+(qff (ql V (8*N)) 7 s.2).1),(qff (ql V (8*N)) 7 s.2).2):=by
   unfold qtf;rw[if_neg g,if_neg g3,if_pos g4]
  refine qai.c h hN hle λw _ h=>⟨_,rfl,?_⟩
  exact qm (qd (by omega) (by omega)) (j12 _ w e h)
 have g4:s.1≠18:=by simpa using g4
 have e:qtf (ql V (8*N)) s.1 l s.2=((s.1,1),s.2):=by
  unfold qtf;rw[if_neg g,if_neg g3,if_neg g4]
 exact j12 _ w e h
theorem qshb{B:List Bool}{z:Z}{k:Nat}(h:(qel B z k).2.2.2≠0):∀d,(qel B z (k+d)).2=(qel B z k).2:=by
 intro d;induction d with
 |zero=>rfl
 |succ d ih=>
  rw[<-Nat.add_assoc,qel];simp only
  rw[ih,qts h]
theorem qqo.c{K:Ending->World->Prop}(h:St F0 w0 w (dtA sb rb q most z::ps))[Rdb F0 w0 q ps 1 (u8s (byt V N))](hN:N<=137438953472)(hp:z.1<=8*N)
 (hk0:∀(t11:Sl) (l:List Int) (nl:Nat) w',(qoj (ql V (8*N)) z).2.2.2=0->t11.len=l.length->nl<=t11.len->t11.len<=t11.cap->(qoj (ql V (8*N)) z).1=(l.take nl,l.drop nl)->St F0 w0 w' (dtA sb rb q most (qoj (ql V (8*N)) z).2::rdA 1 t11 (ivs .i64 l)::ps)->K (.returned (.tuple ⟨[.slice (qnf t11.a t11.cap 0 1) (nl-0) (t11.cap-0),.slice (qnf t11.a t11.cap nl 1) (t11.len-nl) (t11.cap-nl)]⟩)) w')
 (hk1:∀w',(qoj (ql V (8*N)) z).2.2.2≠0->St F0 w0 w' (dtA sb rb q most (qoj (ql V (8*N)) z).2::ps)->K (.returned (.tuple ⟨[.slice none 0 0,.slice none 0 0]⟩)) w'):
 Calls prog 112 ⟨[.pointer (some ⟨sb,0,none⟩)]⟩ w K:=by
 have hBl:(ql (V:Int) (8*N)).length=8*N:=qq _ _
 refine qdc (qb.ok _ _ _ ?_)
 unfold qb qb.j1
 generalize hZ:qoj (ql V (8*N)) z=Zr at hk0 hk1
 unfold qoj at hZ
 simp only at hZ
 refine qai.c h hN hp λw hp1 h=>⟨_,rfl,?_⟩
 have hg1:=qof (B:=ql V (8*N)) (z:=z) 5 (by decide)
 generalize qff (ql V (8*N)) 5 z=g1 at h hZ hp1 hg1|-
 refine qm (qd (by omega) (by omega)) ?_
 have j2:∀(y1:Z) w,y1=(if 286<g1.1+257 then qtd 2 g1.2 else g1.2)->y1.1<=8*N->St F0 w0 w (dtA sb rb q most y1::ps)->qb.j2 (some ⟨sb,0,none⟩) (g1.1+257) (λv w'=>K (.returned v) w') w:=by
  intro y1 w e hp1 h;rw[<-e]at hZ;unfold qb.j2;refine qai.c h hN hp1 λw hp2 h=>⟨_,rfl,?_⟩;have hg2:=qof (B:=ql V (8*N)) (z:=y1) 5 (by decide);generalize qff (ql V (8*N)) 5 y1=g2 at h hZ hp2 hg2|-
  refine qm (qd (by omega) (by omega)) ?_;have j3:∀(y2:Z) w,y2=(if 30<g2.1+1 then qtd 2 g2.2 else g2.2)->y2.1<=8*N->St F0 w0 w (dtA sb rb q most y2::ps)->qb.j3 (some ⟨sb,0,none⟩) (g1.1+257) (g2.1+1) (λv w'=>K (.returned v) w') w:=by
   intro y2 w e hp2 h;rw[<-e]at hZ;unfold qb.j3;refine qai.c h hN hp2 λw hp3 h=>⟨_,rfl,?_⟩;have hg3:=qyk (B:=ql V (8*N)) (z:=y2) 4;rw[show((2:Int)^(4:Int).toNat)=16 by decide]at hg3;generalize qff (ql V (8*N)) 4 y2=g3 at h hZ hp3 hg3|-
   refine qm (qd (by omega) (by omega)) ?_;obtain⟨nc,hnc⟩:∃nc:Nat,g3.1+4=nc:=⟨(g3.1+4).toNat,by omega⟩;rw[hnc]at hZ|-
   rw[toNat_natCast]at hZ;unfold qb.j4;refine h.new λob w h=>?_;have h:St F0 w0 w (qqb ob (ivs .i64 qki)::dtA sb rb q most g3.2::ps):=h;have h:=(h.ownB (n:=19) rfl).ro;refine h.makeI (n:=19) rfl rfl (by decide) λcs w hcs hcc h=>?_;have h:St F0 w0 w (dtA sb rb q most g3.2::qcc 1 cs (ivs .i64 (replicate 19 0))::rdA 1 ⟨some ⟨ob,0,none⟩,19,19⟩ (ivs .i64 qki)::ps):=h.sub;unfold qb.j5 qb.j15;refine qjf (λ(k:Nat) (k':Int) w'=>k'=k/\k<=nc/\(qel (ql V (8*N)) g3.2 k).2.1<=8*N/\St F0 w0 w' (dtA sb rb q most (qel (ql V (8*N)) g3.2 k).2::qcc 1 cs (ivs .i64 (qel (ql V (8*N)) g3.2 k).1)::rdA 1 ⟨some ⟨ob,0,none⟩,19,19⟩ (ivs .i64 qki)::ps)) (λk=>nc-k) 0 ⟨rfl,by omega,hp3,h⟩ ?_;clear h;rintro k k' wL I μ ⟨rfl,hkn,hpk,h⟩ hin;unfold qb.b3;have hcl:=quw (B:=ql V (8*N)) (z:=g3.2) k;have j6:(k=nc\/(qel (ql V (8*N)) g3.2 k).2.2.2≠0)->qb.j6 (some ⟨sb,0,none⟩) (g1.1+257) (g2.1+1) cs (λv w'=>K (.returned v) w') wL:=by
    intro hc;clear hin;unfold qb.j6;have h0:=h;obtain⟨o,h⟩:=qkv h;refine qkd (h.fI ?_);refine qye (λg=>?_) (λg=>?_)
    ·have g:(qel (ql V (8*N)) g3.2 k).2.2.2≠0:=by simpa using g
     have e1:(qel (ql V (8*N)) g3.2 nc).2=(qel (ql V (8*N)) g3.2 k).2:=by
      have:=qshb g (nc-k);rwa[show k+(nc-k)=nc by omega]at this
     have e2:∀cl,qgj cl false (qel (ql V (8*N)) g3.2 k).2=(qel (ql V (8*N)) g3.2 k).2:=λcl=>by unfold qgj;rw[if_neg (λe=>g e.1)]
     have e3:∀cl M f,zll cl (ql V (8*N)) M (f+1) [] (qel (ql V (8*N)) g3.2 k).2=([],(qel (ql V (8*N)) g3.2 k).2):=λcl M f=>by rw[zll,if_pos (Or.inl g)]
     rw[e1,e2,e3,if_pos g]at hZ;subst hZ;exact hk1 wL g (h0.tail λ_ _ _ h=>h.drop.drop)
    have g:(qel (ql V (8*N)) g3.2 k).2.2.2=0:=by simpa using g
    have hkc:k=nc:=hc.resolve_right (λe=>e g);subst hkc;generalize qel (ql V (8*N)) g3.2 k=c at h0 hZ hpk hcl g;refine qmb.c (s:=cs) (half:=false) h0 (λhb w e1 h=>⟨_,_,rfl,?_⟩) (λw e1 h=>⟨_,_,rfl,?_⟩)
    ·have ec:qgj c.1 false c.2=c.2:=by unfold qgj;rw[if_neg (λe=>e.2 e1)]
     rw[ec]at hZ;unfold qb.j7;refine qze rfl ?_;obtain⟨n1,hn1⟩:∃n1:Nat,g1.1+257=n1:=⟨(g1.1+257).toNat,by omega⟩;obtain⟨n2,hn2⟩:∃n2:Nat,g2.1+1=n2:=⟨(g2.1+1).toNat,by omega⟩;rw[hn1,hn2]at hZ;rw[hn1,hn2];have e12:((n1:Int)+(n2:Int)).toNat=n1+n2:=by omega
     rw[e12,toNat_natCast]at hZ;have h:St F0 w0 w (dtA sb rb q most c.2::hrA hb c.1::ps):=h.sub;refine qqo.loop (nl:=n1) (nd:=n2) (cl:=c.1) (cb:=hb) h hN hpk (by omega) g (λt11 w g ht hc h=>?_) (λw g h=>?_)
     ·rw[if_neg (λe=>e g)]at hZ;subst hZ;have hzl:=qit (cl:=c.1) (B:=ql V (8*N)) (N:=n1+n2) (n1+n2+1) [] c.2 (by simp) (by simp) g;exact hk0 t11 _ n1 w g (by omega) (by omega) hc rfl (h.tail λ_ _ _ h=>h.tail λ_ _ _ h=>h.drop)
     ·rw[if_pos g]at hZ;subst hZ;exact hk1 w g (h.tail λ_ _ _ h=>h.drop)
    ·have ec:qgj c.1 false c.2=qtd 2 c.2:=by unfold qgj;rw[if_pos ⟨g,e1⟩]
     have hne:(qtd 2 c.2).2.2≠0:=qvh (by decide);have e3:∀M f,zll c.1 (ql V (8*N)) M (f+1) [] (qtd 2 c.2)=([],qtd 2 c.2):=λM f=>by rw[zll,if_pos (Or.inl hne)]
     rw[ec,e3,if_pos hne]at hZ;subst hZ;unfold qb.j7;refine qjh (by simpa using e1) ?_;refine qmf.c h λw h=>⟨rfl,?_⟩;exact hk1 w hne (h.tail λ_ _ _ h=>h.drop.drop)
   refine quc (λg=>?_) (λg=>j6 (Or.inl (by omega)));have h0:=h;obtain⟨o,h⟩:=qkv h;refine qkd (h.fI ?_);refine qye (λg0=>?_) (λg0=>j6 (Or.inr (by simpa using g0)));clear h;have hk19:k<19:=by omega
   have hz:=qsw k hk19;refine h0.drewK λw h=>?_;have hr:=h.rdb (⟨some ⟨ob,0,none⟩,19,19⟩:Sl);refine hr.ix (by decide) (by omega) (by show(k:Int)<19;omega) λa ha=>?_;have hv:(ivs .i64 qki)[((k:Int)).toNat*1]?=some (.int .i64 (qki.getD k 0)):=by
    rw[show((k:Int)).toNat*1=k by omega];exact qsm hk19
   have fin:∀w,(qff (ql V (8*N)) 3 (qel (ql V (8*N)) g3.2 k).2).2.1<=8*N->St F0 w0 w (dtA sb rb q most (qff (ql V (8*N)) 3 (qel (ql V (8*N)) g3.2 k).2).2::qcc 1 cs (ivs .i64 (qel (ql V (8*N)) g3.2 k).1)::rdA 1 ⟨some ⟨ob,0,none⟩,19,19⟩ (ivs .i64 qki)::ps)->
    ixS cs.a cs.len (qki.getD k 0) 1 λa59=>Go.Proofs.YtdccpphmkfaioaaGreat.st w a59 (.int .i64 (qff (ql V (8*N)) 3 (qel (ql V (8*N)) g3.2 k).2).1) λw60=>lt (i64.wrap ((k:Int)+1)) λx61=>((some (⟨sb,0,none⟩:Addr)=some ⟨sb,0,none⟩/\g1.1+257=g1.1+257/\g2.1+1=g2.1+1/\(nc:Int)=nc/\(⟨some ⟨ob,0,none⟩,19,19⟩:Sl)=⟨some ⟨ob,0,none⟩,19,19⟩/\cs=cs)/\I x61 w60/\μ x61 w60<μ (k:Int) wL):=by
    intro w hpk2 h
    refine h.sx (s:=cs) (qki.getD k 0).toNat (by omega) (by omega) λw h=>?_
    refine qm (qd (by omega) (by omega)) ?_
    refine⟨⟨rfl,rfl,rfl,rfl,rfl,rfl⟩,hin (k+1) _ _ ⟨by omega,by omega,?_,?_⟩ (by omega)⟩
    ·rw[qel];exact hpk2
    ·rw[qel]
     exact h.sub
   refine⟨?_,?_⟩
   ·refine hr.ldI ha hv ?_;refine qai.c h hN hpk λw hpk2 h=>⟨_,rfl,?_⟩;exact fin w hpk2 h
   ·refine qai.c h hN hpk λw hpk2 h=>⟨_,rfl,?_⟩;refine(h.rdb (⟨some ⟨ob,0,none⟩,19,19⟩:Sl)).ldI ha hv ?_;exact fin w hpk2 h
  refine quc (λg=>?_) (λg=>?_)
  ·refine qmf.c h λw h=>⟨rfl,?_⟩;exact j3 (qtd 2 g2.2) w (by rw[if_pos (by omega)]) hp2 h
  ·exact j3 g2.2 w (by rw[if_neg (by omega)]) hp2 h
 refine quc (λg=>?_) (λg=>?_)
 ·refine qmf.c h λw h=>⟨rfl,?_⟩
  exact j2 (qtd 2 g1.2) w (by rw[if_pos (by omega)]) hp1 h
 ·exact j2 g1.2 w (by rw[if_neg (by omega)]) hp1 h
theorem qbgb.c{K:Ending->World->Prop}(h:St F0 w0 w (dtA sb rb q most z::ps))[Rdb F0 w0 q ps 1 (u8s (byt V N))](hN:N<=137438953472)(hp:z.1<=8*N)(hm:most<=1000000)(hm0:0<=most)(hL:z.2.1.length<=1000000)
 (hk:∀w',St F0 w0 w' (dtA sb rb q most (qyd (ql V (8*N)) most z).2::ps)->K (.returned (.bool ((qyd (ql V (8*N)) most z).1&&(qyd (ql V (8*N)) most z).2.2.2==0))) w'):
 Calls prog 83 ⟨[.pointer (some ⟨sb,0,none⟩)]⟩ w K:=by
 have hBl:(ql (V:Int) (8*N)).length=8*N:=qq _ _
 refine qdc (qyb.ok _ _ _ ?_)
 unfold qyb qyb.j1
 generalize hZ:qyd (ql V (8*N)) most z=Zr at hk
 unfold qyd at hZ
 simp only at hZ
 refine qai.c h hN hp λw hg h=>⟨_,rfl,?_⟩
 have go:=qrd (B:=ql V (8*N)) (z:=z) 1
 generalize qff (ql V (8*N)) 1 z=a at h hZ hg go|-
 refine qai.c h hN hg λw hg2 h=>⟨_,rfl,?_⟩
 have go2:=qrd (B:=ql V (8*N)) (z:=a.2) 2
 generalize qff (ql V (8*N)) 2 a.2=k at h hZ hg2 go2|-
 have hkL:k.2.2.1.length<=1000000:=by rw[go2,go];exact hL
 unfold qyb.j2
 have h0:=h
 obtain⟨o,h⟩:=qkv h
 refine qkd (h.fI ?_)
 refine qye (λg=>?_) (λg=>?_)
 ·have g:k.2.2.2≠0:=by simpa using g
  rw[if_pos g]at hZ
  subst hZ
  exact hk w h0
 have g:k.2.2.2=0:=by simpa using g
 rw[if_neg (λe=>e g)]at hZ
 have j3:∀(y:Z) w,Zr=(a.1==1,y)->St F0 w0 w (dtA sb rb q most y::ps)->qyb.j3 (some ⟨sb,0,none⟩) (a.1==1) (λv w'=>K (.returned v) w') w:=by
  intro y w e h;subst e;simp only at hk;unfold qyb.j3;have h0:=h;obtain⟨o,h⟩:=qkv h;refine qye (λg=>?_) (λg=>?_)
  ·rw[g]at hk;exact qkd (h.fI (hk w h0))
  ·rw[g]at hk;exact hk w h0
 refine qye (λg1=>?_) (λg1=>?_)
 ·have g1:k.1=0:=by simpa using g1
  rw[if_pos g1]at hZ
  exact qwbb.c h0 hN hg2 hm hm0 hkL λw h=>⟨rfl,j3 _ w hZ.symm h⟩
 have g1:¬k.1=0:=by simpa using g1
 rw[if_neg g1]at hZ
 refine qye (λg3=>?_) (λg3=>?_)
 ·have g3:k.1=1:=by simpa using g3
  rw[if_pos g3]at hZ
  refine qeb.c h0 λs t w hs ht h=>⟨s,t,rfl,?_⟩
  have h:St F0 w0 w (dtA sb rb q most k.2::qcc 1 t (ivs .i64 qsj)::qcc 1 s (ivs .i64 qho)::ps):=h.at2
  refine qll.c (s:=s) (t:=t) (ll:=qho) (dl:=qsj) h (by rw[qvi];decide) hN hg2 hm hkL λw h=>⟨rfl,?_⟩
  exact j3 _ w hZ.symm (h.tail λ_ _ _ h=>h.drop.drop)
 have g3:¬k.1=1:=by simpa using g3
 rw[if_neg g3]at hZ
 refine qye (λg4=>?_) (λg4=>?_)
 ·have g4:k.1=2:=by simpa using g4
  rw[if_pos g4]at hZ
  have hlp:=qhbb (B:=ql V (8*N)) (z:=k.2) (by rw[hBl];exact hg2)
  have hlo:=qrq (B:=ql V (8*N)) (z:=k.2)
  have hll:=qbz (B:=ql V (8*N)) (z:=k.2)
  rw[hBl]at hlp
  refine qqo.c h0 hN hg2 (λt11 l nl w e0 ht hnl hcap el h=>⟨⟨qnf t11.a t11.cap 0 1,nl-0,t11.cap-0⟩,⟨qnf t11.a t11.cap nl 1,t11.len-nl,t11.cap-nl⟩,rfl,?_⟩) (λw e0 h=>⟨⟨none,0,0⟩,⟨none,0,0⟩,rfl,?_⟩)
  ·have hll:=hll e0
   rw[if_neg (λe=>e e0)]at hZ
   rw[el]at hZ hll
   simp only at hZ hll
   haveI:=h.drop.cutR t11 0 nl (t11.cap-0) (ys:=l.take nl) hnl (by omega) hcap (by rw[List.drop_zero,Nat.sub_zero])
   haveI:=h.drop.cutR t11 nl t11.len (t11.cap-nl) (ys:=l.drop nl) (by omega) hnl hcap (by rw[take_of_length_le (by rw[length_drop];omega)])
   refine qll.c (s:=⟨qnf t11.a t11.cap 0 1,nl-0,t11.cap-0⟩) (t:=⟨qnf t11.a t11.cap nl 1,t11.len-nl,t11.cap-nl⟩) (ll:=l.take nl) (dl:=l.drop nl) h (by omega) hN hlp.2 hm (by rw[hlo];exact hkL) λw h=>⟨rfl,?_⟩
   exact j3 _ w hZ.symm (h.tail λ_ _ _ h=>h.drop)
  ·rw[if_pos e0]at hZ
   refine qdc (qg.ok _ ⟨none,0,0⟩ ⟨none,0,0⟩ _ _ ?_)
   unfold qg
   have h0:=h
   obtain⟨o,h⟩:=qkv h
   refine qkd (h.fI (qjh (by simpa using e0) ⟨rfl,?_⟩))
   exact j3 _ w hZ.symm h0
 have g4:¬k.1=2:=by simpa using g4
 rw[if_neg g4]at hZ
 exact qmf.c h0 λw h=>⟨rfl,j3 _ w hZ.symm h⟩
theorem qub.c{s:Sl}{K:Ending->World->Prop}{z':Z}(h:St F0 w0 w ps)[Rdb F0 w0 s ps 1 (u8s (byt V N))](hN:N<=137438953472)(hm:most<=262144)(hm0:0<=most)(hr:zinf V N most z')
 (hk:∀t w',z'.2.2=0->t.len=z'.2.1.length->t.len<=t.cap->St F0 w0 w' (rdA 1 t (u8s z'.2.1)::ps)->K (.returned (.tuple ⟨[.slice t.a t.len t.cap,.int .i64 (((z'.1+7)/8:Nat):Int),.int .i64 0]⟩)) w')
 (hk2:∀w',z'.2.2≠0->St F0 w0 w' ps->K (.returned (.tuple ⟨[.slice none 0 0,.int .i64 0,.int .i64 z'.2.2]⟩)) w'):
 Calls prog 69 ⟨[.slice s.a s.len s.cap,.int .i64 most]⟩ w K:=by
 have hBl:(ql (V:Int) (8*N)).length=8*N:=qq _ _
 obtain⟨n,hr⟩:=hr
 refine qdc (qub.ok _ _ _ _ ?_)
 unfold qub qub.j1
 refine quc (λg=>by omega) λ_=>?_
 refine quc (λg=>by omega) λ_=>?_
 refine h.new λrb w h=>?_
 refine h.new λsb w h=>?_
 have h:=(h.nil 1).at2.at2
 have h:St F0 w0 w (qqb sb [.pointer (some ⟨rb,0,none⟩),.slice none 0 0,.int .i64 most,.int .i64 0]::bitR rb (s,0)::qcc 1 ⟨none,0,0⟩ (u8s [])::ps):=h
 have h:St F0 w0 w (dtA sb rb s most (0,[],0)::ps):=qkhb (o:=⟨none,0,0⟩) (p:=0) (out:=[]) (err:=0) h
 unfold qub.j2
 refine loop0 (λ(a:Nat×Z) w'=>a.2.1<=8*N/\a.2.2.1.length<=1000000/\ZAll (ql V (8*N)) most a.1 a.2 z'/\St F0 w0 w' (dtA sb rb s most a.2::ps)) (λa=>a.1) (n,(0,[],0)) ⟨zero_le _,by simp,hr,h⟩ ?_
 clear h hr
 rintro⟨m,z⟩ wL I μ ⟨hp,hL,hr,h⟩ hin
 simp only at hp hL hr h hin|-
 unfold qub.b1
 refine qbgb.c h hN hp (by omega) hm0 hL λw h=>⟨_,rfl,?_⟩
 have hL2:=qrl (B:=ql V (8*N)) (most:=most) (by omega) hL
 have hle:=(qko (most:=most) hBl (by rw[hBl];exact hp)).2.1
 rw[hBl]at hle
 have h0:=h
 obtain⟨o,h⟩:=qkv h
 cases hr with
 |bad he=>
  refine qjh (by simp[he]) ?_
  refine qkd (h.fI (qjh (by simpa using he) ?_))
  refine h.drewK λw h=>?_
  exact qkd (h.fI (hk2 w he h.drop.drop.drop))
 |last he hl=>
  refine qze (by simp[he,hl]) ?_
  unfold qub.j3
  refine h.drewK λw h=>?_
  have hcap:=h.at2.cap (by decide)
  have hol:=h.at2.len
  rw[qk]at hol
  refine qkd (qkd (h.fP ?_))
  have h2:St F0 w0 w (rfA rb s (qyd (ql V (8*N)) most z).2.1::qqb sb [.pointer (some ⟨rb,0,none⟩),.slice o.a o.len o.cap,.int .i64 most,.int .i64 (qyd (ql V (8*N)) most z).2.2.2]::qcc 1 o (u8s (qyd (ql V (8*N)) most z).2.2.1)::ps):=h.at1
  have fin:=hk o w he (by omega) hcap (h.at2.ro.tail λ_ _ _ h=>h.drop.drop)
  refine⟨?_,?_⟩
  ·refine h.fL ?_
   exact qne.c (at':=(qyd (ql V (8*N)) most z).2.1) h2 (by omega) ⟨_,rfl,fin⟩
  ·refine qne.c (at':=(qyd (ql V (8*N)) most z).2.1) h2 (by omega) ⟨_,rfl,?_⟩
   exact h.fL fin
 |next he hl hr=>
  rename_i n2
  refine qjh (by simp[hl]) ?_
  refine qkd (h.fI (qze (by simpa using he) ?_))
  exact⟨rfl,hin (n2,(qyd (ql V (8*N)) most z).2) _ ⟨hle,hL2,hr,h0⟩ (by simp only;omega)⟩
end
end
section
attribute [local irreducible] apK cpK mkK
section
variable {F0:List Nat}{w0 w:World}{ps rest:List As}{xs:List Int}
theorem qfi.d{s:Sl}{v:Int}{K:Ending->World->Prop}(h:St F0 w0 w ps)[Rdb F0 w0 s ps 1 (u8s xs)](hL:xs.length<=1099511627776)
 (hk:∀s' w',s'.len=xs.length+4->s'.cap=s'.len->St F0 w0 w' (rdA 1 s' (u8s (xs++beJ 4 4 v))::ps)->K (.returned (.slice s'.a s'.len s'.cap)) w'):Calls prog 16 ⟨[.slice s.a s.len s.cap,.int .i64 v]⟩ w K:=by
 refine qdc (qfi.ok _ _ _ _ ?_)
 unfold qfi
 exact qrg.c (n:=4) h (h.rdb s) hL (by decide) λs' w h1 h2 h=>⟨s',rfl,hk s' w h1 h2 h⟩
end
end
section
attribute [local irreducible] apK cpK mkK hs qtk
section
variable {F0:List Nat}{w0 w:World}{ps:List As}
theorem qfx(xs:List Int):(u8s (qtk xs)).length=20:=by rw[qjd];exact qoi xs
theorem qjs{l:List Int}:∀v∈(⟨u8s l⟩:Array Value),qfe v:=by
 intro v hv;have hv:v∈u8s l:=by simpa using hv
 obtain⟨n,_,rfl⟩:=List.mem_map.1 hv;trivial
theorem St.st20{nb:Nat}{c l:List Value}{K:World->Prop}(h:St F0 w0 w (qqb nb c::ps))(hc:c.length=20)(hl:l.length=20)(hs:∀v∈(⟨l⟩:Array Value),qfe v)
 (hk:∀w',St F0 w0 w' (qqb nb l::ps)->K w'):Go.Proofs.YtdccpphmkfaioaaGreat.stA w ⟨nb,0,none⟩ ⟨l⟩ K:=by
 refine h.stA (o:=0) (by show 0+l.length<=c.length;omega) hs λw' h=>hk w' ?_
 have e:c.take 0++(⟨l⟩:Array Value).toList++c.drop (0+(⟨l⟩:Array Value).size)=l:=by
  rw[List.take_zero,List.nil_append,List.drop_eq_nil_of_le (by show c.length<=0+l.length;omega),List.append_nil]
 rwa[e]at h
theorem St.ld20{nb n:Nat}{l:List Value}{K:Array Value->Prop}(h:St F0 w0 w (qqb nb l::ps))(hl:l.length=n)(hk:K ⟨l⟩):ldA w ⟨nb,0,none⟩ n K:=
 h.blk.ldA (cs:=⟨l⟩) hl (λj hj=>by rw[qcl,Nat.zero_add]) hk
theorem qqr.c{s:Sl}{xs:List Int}{K:Ending->World->Prop}(h:St F0 w0 w ps)(hr:∀w' p q,St F0 w0 w' (p::q::ps)->Rd w' 1 s (u8s xs))(hx:qxl xs)(hL:xs.length<=34359738368)
 (hk:∀w',St F0 w0 w' ps->K (.returned (.agg ⟨u8s (qtk xs)⟩)) w'):Calls prog 56 ⟨[.slice s.a s.len s.cap]⟩ w K:=by
 refine qdc (qqr.ok _ _ _ ?_)
 unfold qqr
 refine h.new λnb w h=>?_
 have hz:(zc prog 43).toList.length=20:=by rw[Array.length_toList];exact qnv
 generalize (zc prog 43).toList=c at h hz
 refine qkq.c h λhb w h=>⟨_,rfl,?_⟩
 refine qbd.c h (λw' p h=>hr w' p _ h) hx (by simp;omega) λw h=>⟨rfl,?_⟩
 rw[List.nil_append]at h
 refine qrb.c h hL λw h=>⟨_,rfl,?_⟩
 refine⟨qfx xs,?_⟩
 refine h.drop.st20 hz (qfx xs) qjs λw h=>?_
 refine h.ld20 (qfx xs) ?_
 exact hk w h.drop
end
end
section
attribute [local irreducible] apK cpK mkK hs qtk rounds qkj
theorem or32{a b t m:Nat}(hm:m=2^t)(ha:a<m)(hs:a+b*m<4294967296):orV .u32 ((b*m:Nat):Int) (a:Int)=((a+b*m:Nat):Int):=by
 subst hm;have h:=qxs (k:= .u32) (a:=a) (b:=b) (t:=t) rfl ha hs;rw[qwx];have e:((b*2^t:Nat):Int)=(b:Int)*2^t:=by simp
 rw[e,h,Int.natCast_add,e]
theorem shl32{a t m:Nat}(hm:m=2^t)(ht:t<=32)(hs:a*m<4294967296):qzi .u32 (a:Int) (t:Int)=((a*m:Nat):Int):=by
 subst hm;rw[qgib (k:= .u32) rfl ht hs];simp
theorem qxhb{a b c d:Int}(ha:0<=a/\a<256)(hb:0<=b/\b<256)(hc:0<=c/\c<256)(hd:0<=d/\d<256):
 orV .u32 (orV .u32 (orV .u32 (qzi .u32 a 24) (qzi .u32 b 16)) (qzi .u32 c 8)) d=be [a,b,c,d]:=by
 obtain⟨a,rfl⟩:∃n:Nat,a=n:=⟨a.toNat,by omega⟩
 obtain⟨b,rfl⟩:∃n:Nat,b=n:=⟨b.toNat,by omega⟩
 obtain⟨c,rfl⟩:∃n:Nat,c=n:=⟨c.toNat,by omega⟩
 obtain⟨d,rfl⟩:∃n:Nat,d=n:=⟨d.toNat,by omega⟩
 have h1:qzi .u32 (a:Int) 24=((a*16777216:Nat):Int):=shl32 (t:=24) (by decide) (by decide) (by omega)
 have h2:qzi .u32 (b:Int) 16=((b*65536:Nat):Int):=shl32 (t:=16) (by decide) (by decide) (by omega)
 have h3:qzi .u32 (c:Int) 8=((c*256:Nat):Int):=shl32 (t:=8) (by decide) (by decide) (by omega)
 have u1:=or32 (a:=b*65536) (b:=a) (t:=24) (m:=16777216) (by decide) (by omega) (by omega)
 have u2:=or32 (a:=c*256) (b:=b+a*256) (t:=16) (m:=65536) (by decide) (by omega) (by omega)
 have u3:=or32 (a:=d) (b:=c+(b+a*256)*256) (t:=8) (m:=256) (by decide) (by omega) (by omega)
 rw[show(b+a*256)*65536=b*65536+a*16777216 by omega]at u2
 rw[show(c+(b+a*256)*256)*256=c*256+(b*65536+a*16777216)by omega]at u3
 rw[h1,h2,h3,u1,u2,u3]
 simp only[be,List.foldl_cons,List.foldl_nil]
 omega
section
variable {F0:List Nat}{w0 w:World}{ps:List As}
theorem qgi.c{s:Sl}{xs:List Int}{K:Ending->World->Prop}(hr:Rd w 1 s (u8s xs))(hx:qxl xs)(hl:4<=xs.length)(hk:∀w',Mod [] w w'->K (.returned (.int .u32 (be (xs.take 4)))) w'):Calls prog 67 ⟨[.slice s.a s.len s.cap]⟩ w K:=by
 have hs:=hr.1;rw[qjd]at hs;refine qdc (qgi.ok _ _ _ ?_);unfold qgi;refine qbe ?_;have hr:=hr.keep (Mod.drew w) (by simp);match xs,hl,hx,hr,hk with
 |a::b::c::d::r,_,hx,hr,hk=>
  have ha:=hx a (by simp);have hb:=hx b (by simp);have hc:=hx c (by simp);have hd:=hx d (by simp);refine hr.ix (by decide) (by decide) (by omega) λp hp=>?_;refine hr.ldI (i:=0) (n:=a) hp rfl ?_;refine qm (show u32.wrap a=a by rw[qtg];omega) ?_;refine⟨by decide,qbe ?_⟩;refine hr.ix (by decide) (by decide) (by omega) λp hp=>?_;refine hr.ldI (i:=1) (n:=b) hp rfl ?_;refine qm (show u32.wrap b=b by rw[qtg];omega) ?_;refine⟨by decide,qbe (qbe ?_)⟩;refine hr.ix (by decide) (by decide) (by omega) λp hp=>?_;refine hr.ldI (i:=2) (n:=c) hp rfl ?_;refine qm (show u32.wrap c=c by rw[qtg];omega) ?_;refine⟨by decide,qbe (qbe ?_)⟩;refine hr.ix (by decide) (by decide) (by omega) λp hp=>?_;refine hr.ldI (i:=3) (n:=d) hp rfl ?_;refine qm (show u32.wrap d=d by rw[qtg];omega) ?_;refine qm (qxhb ha hb hc hd) ?_;exact hk _ (Mod.drew w)
end
end
section
set_option maxRecDepth 100000
def qdd.j2(x_5 y_6:Int)(Q:VWP)(w:World):Prop:=(0:Int)<=16/\lt (qzi .u32 y_6 16) λx1=>lt (orV .u32 x1 x_5) λx2=>Q (.int .u32 x2) w
def qdd.b1(t13:Sl)(t14:Int)(x_5 y_6 t15:Int)(Q:VWP)(nx1:Sl->Int->Int->Int->Int->WP)(w:World):Prop:=br (decide (t15<t14)) (ixS t13.a t13.len t15 1 λa3=>ldI .u8 w a3 λx4=>lt (u32.wrap x4) λx5=>lt (u32.wrap (x_5+x5)) λx6=>(65521:Int)≠0/\lt (tmod x6 65521) λx7=>lt (u32.wrap (y_6+x7)) λx8=>(65521:Int)≠0/\lt (tmod x8 65521) λx9=>lt (i64.wrap (t15+1)) λx10=>nx1 t13 t14 x7 x9 x10 w) (qdd.j2 x_5 y_6 Q w)
def qdd.l1(t13:Sl)(t14:Int)(x_5 y_6 t15:Int)(Q:VWP)(w:World):Prop:=∃(I:Int->Int->Int->WP) (μ:Int->Int->Int->World->Nat),I x_5 y_6 t15 w/\∀x_5:Int,∀y_6:Int,∀t15:Int,∀w:World,I x_5 y_6 t15 w->qdd.b1 t13 t14 x_5 y_6 t15 Q (λt13' t14' x_5' y_6' t15' w'=>(t13'=t13/\t14'=t14)/\I x_5' y_6' t15' w'/\μ x_5' y_6' t15' w'<μ x_5 y_6 t15 w) w
def qdd.j3(x_5 y_6:Int)(t13:Sl)(t14 t15:Int)(Q:VWP)(w:World):Prop:=qdd.l1 t13 t14 x_5 y_6 t15 Q w
def qdd.j1(b_1:Sl)(x_5:Int)(y_6:Int)(Q:VWP)(w:World):Prop:=qdd.j3 x_5 y_6 b_1 (b_1.len:Int) 0 Q w
def qdd(adler_0:Int)(b_1:Sl)(Q:VWP)(w:World):Prop:=lt (qdj .u32 adler_0 65535) λx11=>(0:Int)<=16/\lt (qal .u32 adler_0 16) λx12=>qdd.j1 b_1 x11 x12 Q w
theorem qdd.ok(adler_0:Int)(b_1:Sl)(Q:VWP)(w:World)(h:qdd adler_0 b_1 Q w):Calls prog 81 ⟨[.int .u32 adler_0,sV b_1]⟩ w (Ret Q):=
 qhc [.tmp 4] qde Tryz.func81 rfl rfl rfl rfl (.pr 1 [sL 1,(5,.I .u32),(6,.I .u32)] (λa b c w=>qdd.j1 a b c Q w) (.sq [(5,.I .u32),(6,.I .u32)] (λa b w=>qdd.j2 a b Q w) (.sq [(5,.I .u32),(6,.I .u32),sL 13,sI 14,sI 15] (λa b c d e w=>qdd.j3 a b c d e Q w) .lf (.bk (.lo [sL 13,sI 14] [(5,.I .u32),(6,.I .u32),sI 15] (λa b c d e w=>qdd.l1 a b c d e Q w) (λnx1 a b c d e w=>qdd.b1 a b c d e Q nx1 w) λnx1=> .lf))) .lf)) (by kernel_rfl) h
def qsl(b_0:Sl)(Q:VWP)(w:World):Prop:=qlj 81 [.int .u32 1,sV b_0] w λr3 w2=>Q (.int .u32 r3) w2
theorem qsl.ok(b_0:Sl)(Q:VWP)(w:World)(h:qsl b_0 Q w):Calls prog 64 ⟨[sV b_0]⟩ w (Ret Q):=
 qhc [.tmp 2] qde Tryz.func64 rfl rfl rfl rfl .lf (by kernel_rfl) h
def qpb.j3(s1_5 s2_6:Int)(Q:VWP)(w:World):Prop:=(0:Int)<=16/\lt (qzi .u32 s2_6 16) λx1=>lt (orV .u32 x1 s1_5) λx2=>Q (.int .u32 x2) w
def qpb.b1(b_1:Sl)(s1_5:Int)(s2_6 i_7:Int)(Q:VWP)(nx1:Sl->Int->Int->Int->WP)(w:World):Prop:=br (decide (i_7<(b_1.len:Int))) (ixS b_1.a b_1.len i_7 1 λa3=>ldI .u8 w a3 λx4=>lt (u32.wrap x4) λx5=>lt (u32.wrap (s1_5+x5)) λx6=>(65521:Int)≠0/\lt (tmod x6 65521) λx7=>lt (u32.wrap (s2_6+x7)) λx8=>(65521:Int)≠0/\lt (tmod x8 65521) λx9=>lt (i64.wrap (i_7+1)) λx10=>nx1 b_1 x7 x9 x10 w) (qpb.j3 s1_5 s2_6 Q w)
def qpb.l1(b_1:Sl)(s1_5:Int)(s2_6 i_7:Int)(Q:VWP)(w:World):Prop:=∃(I:Int->Int->Int->WP) (μ:Int->Int->Int->World->Nat),I s1_5 s2_6 i_7 w/\∀s1_5:Int,∀s2_6:Int,∀i_7:Int,∀w:World,I s1_5 s2_6 i_7 w->qpb.b1 b_1 s1_5 s2_6 i_7 Q (λb_1' s1_5' s2_6' i_7' w'=>(b_1'=b_1)/\I s1_5' s2_6' i_7' w'/\μ s1_5' s2_6' i_7' w'<μ s1_5 s2_6 i_7 w) w
def qpb.j4(b_1:Sl)(s1_5:Int)(s2_6 i_7:Int)(Q:VWP)(w:World):Prop:=qpb.l1 b_1 s1_5 s2_6 i_7 Q w
def qpb.j2(b_1:Sl)(s1_5:Int)(s2_6:Int)(Q:VWP)(w:World):Prop:=qpb.j4 b_1 s1_5 s2_6 0 Q w
def qpb.j1(a_0:Int)(b_1:Sl)(Q:VWP)(w:World):Prop:=lt (qdj .u32 a_0 65535) λx11=>(0:Int)<=16/\lt (qal .u32 a_0 16) λx12=>qpb.j2 b_1 x11 x12 Q w
def qpb(a_0:Int)(b_1:Sl)(Q:VWP)(w:World):Prop:=qpb.j1 a_0 b_1 Q w
theorem qpb.ok(a_0:Int)(b_1:Sl)(Q:VWP)(w:World)(h:qpb a_0 b_1 Q w):Calls prog 82 ⟨[.int .u32 a_0,sV b_1]⟩ w (Ret Q):=
 qhc [.tmp 4] qde Tryz.func82 rfl rfl rfl rfl (.sq [(0,.I .u32),sL 1] (λa b w=>qpb.j1 a b Q w) .lf (.pr 1 [sL 1,(5,.I .u32),(6,.I .u32)] (λa b c w=>qpb.j2 a b c Q w) (.sq [(5,.I .u32),(6,.I .u32)] (λa b w=>qpb.j3 a b Q w) (.sq [sL 1,(5,.I .u32),(6,.I .u32),sI 7] (λa b c d w=>qpb.j4 a b c d Q w) .lf (.bk (.lo [sL 1] [(5,.I .u32),(6,.I .u32),sI 7] (λa b c d w=>qpb.l1 a b c d Q w) (λnx1 a b c d w=>qpb.b1 a b c d Q nx1 w) λnx1=> .lf))) .lf))) (by kernel_rfl) h
def qoh(b_0:Sl)(Q:VWP)(w:World):Prop:=qlj 82 [.int .u32 1,sV b_0] w λr3 w2=>Q (.int .u32 r3) w2
theorem qoh.ok(b_0:Sl)(Q:VWP)(w:World)(h:qoh b_0 Q w):Calls prog 66 ⟨[sV b_0]⟩ w (Ret Q):=
 qhc [.tmp 2] qde Tryz.func66 rfl rfl rfl rfl .lf (by kernel_rfl) h
end
section
set_option maxRecDepth 100000
def qgb.j3(w_3:OAd)(Q:VWP)(w:World):Prop:=qak 98 [.pointer w_3] w λr3 w2=>Q (sV r3) w2
def qgb.j10(b_0:Sl)(w_3:OAd)(more_4:Bool)(k_5:Int)(Q:VWP)(nx1:OAd->Sl->Bool->WP)(w:World):Prop:=bd k_5 b_0.len λn4=>lt (⟨qnf b_0.a b_0.cap n4 1,b_0.len-n4,b_0.cap-n4⟩:Sl) λs5=>nx1 w_3 s5 more_4 w
def qgb.b2(b_0:Sl)(w_3:OAd)(more_4:Bool)(k_5:Int)(t36:Sl)(t37:Int)(t38:Int)(Q:VWP)(nx1:OAd->Sl->Bool->WP)(nx2:Sl->OAd->Bool->Int->Sl->Int->Int->WP)(w:World):Prop:=br (decide (t38<t37)) (ixS t36.a t36.len t38 1 λa6=>ldI .u8 w a6 λx7=>ct_ 97 [.pointer w_3,.int .u8 x7] w λw9=>lt (i64.wrap (t38+1)) λx10=>nx2 b_0 w_3 more_4 k_5 t36 t37 x10 w9) (qgb.j10 b_0 w_3 more_4 k_5 Q nx1 w)
def qgb.l2(b_0:Sl)(w_3:OAd)(more_4:Bool)(k_5:Int)(t36:Sl)(t37:Int)(t38:Int)(Q:VWP)(nx1:OAd->Sl->Bool->WP)(w:World):Prop:=∃(I:Int->WP) (μ:Int->World->Nat),I t38 w/\∀t38:Int,∀w:World,I t38 w->qgb.b2 b_0 w_3 more_4 k_5 t36 t37 t38 Q nx1 (λb_0' w_3' more_4' k_5' t36' t37' t38' w'=>(b_0'=b_0/\w_3'=w_3/\more_4'=more_4/\k_5'=k_5/\t36'=t36/\t37'=t37)/\I t38' w'/\μ t38' w'<μ t38 w) w
def qgb.j11(b_0:Sl)(w_3:OAd)(more_4:Bool)(k_5:Int)(t36:Sl)(t37:Int)(t38:Int)(Q:VWP)(nx1:OAd->Sl->Bool->WP)(w:World):Prop:=qgb.l2 b_0 w_3 more_4 k_5 t36 t37 t38 Q nx1 w
def qgb.j9(b_0:Sl)(w_3:OAd)(more_4:Bool)(k_5:Int)(Q:VWP)(nx1:OAd->Sl->Bool->WP)(w:World):Prop:=bd k_5 b_0.cap λn11=>lt (⟨qnf b_0.a b_0.cap 0 1,n11-0,b_0.cap-0⟩:Sl) λs12=>qgb.j11 b_0 w_3 more_4 k_5 s12 (s12.len:Int) 0 Q nx1 w
def qgb.j8(b_0:Sl)(w_3:OAd)(more_4:Bool)(k_5:Int)(Q:VWP)(nx1:OAd->Sl->Bool->WP)(w:World):Prop:=
 ct_ 95 [.pointer w_3,.int .i64 k_5,.int .i64 16] w λw14=>
 lt (qlk .i64 (if IntKind.signed .i64 then -1 else IntKind.max .i64) k_5) λx15=>
 ct_ 95 [.pointer w_3,.int .i64 x15,.int .i64 16] w14 λw17=>
 qgb.j9 b_0 w_3 more_4 k_5 Q nx1 w17
def qgb.j7(b_0:Sl)(w_3:OAd)(more_4:Bool)(k_5:Int)(last_6:Int)(Q:VWP)(nx1:OAd->Sl->Bool->WP)(w:World):Prop:=ct_ 95 [.pointer w_3,.int .i64 last_6,.int .i64 3] w λw19=>ct_ 96 [.pointer w_3] w19 λw21=>qgb.j8 b_0 w_3 more_4 k_5 Q nx1 w21
def qgb.j6(b_0:Sl)(w_3:OAd)(more_4:Bool)(k_5:Int)(Q:VWP)(nx1:OAd->Sl->Bool->WP)(w:World):Prop:=br more_4 (qgb.j7 b_0 w_3 more_4 k_5 0 Q nx1 w) (qgb.j7 b_0 w_3 more_4 k_5 1 Q nx1 w)
def qgb.j5(b_0:Sl)(w_3:OAd)(Q:VWP)(nx1:OAd->Sl->Bool->WP)(w:World):Prop:=
 lt (if(65535:Int)<(b_0.len:Int)then 65535 else(b_0.len:Int)) λx22=>
 qgb.j6 b_0 w_3 (decide (x22<(b_0.len:Int))) x22 Q nx1 w
def qgb.b1(w_3:OAd)(b_0:Sl)(more_4:Bool)(Q:VWP)(nx1:OAd->Sl->Bool->WP)(w:World):Prop:=br more_4 (qgb.j5 b_0 w_3 Q nx1 w) (qgb.j3 w_3 Q w)
def qgb.l1(w_3:OAd)(b_0:Sl)(more_4:Bool)(Q:VWP)(w:World):Prop:=∃(I:Sl->Bool->WP) (μ:Sl->Bool->World->Nat),I b_0 more_4 w/\∀b_0:Sl,∀more_4:Bool,∀w:World,I b_0 more_4 w->qgb.b1 w_3 b_0 more_4 Q (λw_3' b_0' more_4' w'=>(w_3'=w_3)/\I b_0' more_4' w'/\μ b_0' more_4' w'<μ b_0 more_4 w) w
def qgb.j4(b_0:Sl)(w_3:OAd)(more_4:Bool)(Q:VWP)(w:World):Prop:=qgb.l1 w_3 b_0 more_4 Q w
def qgb.j2(b_0:Sl)(w_3:OAd)(Q:VWP)(w:World):Prop:=qgb.j4 b_0 w_3 true Q w
def qgb.j1(b_0:Sl)(Q:VWP)(w:World):Prop:=br (decide ((b_0.len:Int)>262144)) (Q (.slice none 0 0) w) (qchb 94 [] w λr25 w24=>qgb.j2 b_0 r25 Q w24)
def qgb(b_0:Sl)(Q:VWP)(w:World):Prop:=qgb.j1 b_0 Q w
theorem qgb.ok(b_0:Sl)(Q:VWP)(w:World)(h:qgb b_0 Q w):Calls prog 78 ⟨[sV b_0]⟩ w (Ret Q):=
 qhc [.tmp 2] qde Tryz.func78 rfl rfl rfl rfl (.sq [sL 0] (λa w=>qgb.j1 a Q w) .lf (.pr 1 [sL 0,sP 3] (λa b w=>qgb.j2 a b Q w) (.sq [sP 3] (λa w=>qgb.j3 a Q w) (.sq [sL 0,sP 3,sB 4] (λa b c w=>qgb.j4 a b c Q w) .lf (.bk (.lo [sP 3] [sL 0,sB 4] (λa b c w=>qgb.l1 a b c Q w) (λnx1 a b c w=>qgb.b1 a b c Q nx1 w) λnx1=>(.sq [sL 0,sP 3] (λa b w=>qgb.j5 a b Q nx1 w) .lf (.bk (.pr 1 [sL 0,sP 3,sB 4,sI 5] (λa b c d w=>qgb.j6 a b c d Q nx1 w) (.pr 1 [sL 0,sP 3,sB 4,sI 5,sI 6] (λa b c d e w=>qgb.j7 a b c d e Q nx1 w) (.pr 1 [sL 0,sP 3,sB 4,sI 5] (λa b c d w=>qgb.j8 a b c d Q nx1 w) (.pr 1 [sL 0,sP 3,sB 4,sI 5] (λa b c d w=>qgb.j9 a b c d Q nx1 w) (.sq [sL 0,sP 3,sB 4,sI 5] (λa b c d w=>qgb.j10 a b c d Q nx1 w) (.sq [sL 0,sP 3,sB 4,sI 5,sL 36,sI 37,sI 38] (λa b c d e f g w=>qgb.j11 a b c d e f g Q nx1 w) .lf (.bk (.lo [sL 0,sP 3,sB 4,sI 5,sL 36,sI 37] [sI 38] (λa b c d e f g w=>qgb.l2 a b c d e f g Q nx1 w) (λnx2 a b c d e f g w=>qgb.b2 a b c d e f g Q nx1 nx2 w) λnx2=> .lf))) .lf)))))))))) .lf))) (by kernel_rfl) h
def qkf.b1(v_0:Int)(t6:Addr)(p_7:Addr)(k_8:Int)(Q:VWP)(nx1:Int->Addr->Addr->Int->WP)(w:World):Prop:=qhw 119 [.int .i64 k_8] w λr3 r4 r5 w2=>br (!r5) (ldA w2 p_7 3 λc6=>(c6).size=3/\stA w2 t6 c6 λw7=>ldA w7 t6 3 λc8=>Q (.agg c8) w7) (br (decide (r3>v_0)) (ldA w2 p_7 3 λc9=>(c9).size=3/\stA w2 t6 c9 λw10=>ldA w10 t6 3 λc11=>Q (.agg c11) w10) (lt (i64.wrap (v_0-r3)) λx12=>((⟨[.int .i64 k_8,.int .i64 x12,.int .i64 r4]⟩:Array Value)).size=3/\stA w2 p_7 (⟨[.int .i64 k_8,.int .i64 x12,.int .i64 r4]⟩:Array Value) λw13=>lt (i64.wrap (k_8+1)) λx14=>nx1 v_0 t6 p_7 x14 w13))
def qkf.l1(v_0:Int)(t6:Addr)(p_7:Addr)(k_8:Int)(Q:VWP)(w:World):Prop:=∃(I:Int->WP) (μ:Int->World->Nat),I k_8 w/\∀k_8:Int,∀w:World,I k_8 w->qkf.b1 v_0 t6 p_7 k_8 Q (λv_0' t6' p_7' k_8' w'=>(v_0'=v_0/\t6'=t6/\p_7'=p_7)/\I k_8' w'/\μ k_8' w'<μ k_8 w) w
def qkf.j2(v_0:Int)(t6:Addr)(p_7:Addr)(k_8:Int)(Q:VWP)(w:World):Prop:=qkf.l1 v_0 t6 p_7 k_8 Q w
def qkf.j1(v_0 from_1:Int)(t6:Addr)(Q:VWP)(w:World):Prop:=nw w (zc prog 146) 146 λa15 w16=>((⟨[.int .i64 0,.int .i64 0,.int .i64 0]⟩:Array Value)).size=3/\stA w16 a15 (⟨[.int .i64 0,.int .i64 0,.int .i64 0]⟩:Array Value) λw17=>qkf.j2 v_0 t6 a15 from_1 Q w17
def qkf(v_0 from_1:Int)(Q:VWP)(w:World):Prop:=nw w (zc prog 146) 146 λa18 w19=>qkf.j1 v_0 from_1 a18 Q w19
theorem qkf.ok(v_0:Int)(from_1:Int)(Q:VWP)(w:World)(h:qkf v_0 from_1 Q w):Calls prog 118 ⟨[.int .i64 v_0,.int .i64 from_1,.func (.func 119) ⟨[]⟩ ⟨[]⟩]⟩ w (Ret Q):=
 qhc [.cell 6 146] qde Tryz.func118 rfl rfl rfl rfl (.sq [sI 0,sI 1,(2,.c0 119),sA 6] (λa b _ c w=>qkf.j1 a b c Q w) .lf (.pr 1 [sI 0,(2,.c0 119),sA 6,sA 7,sI 8] (λa _ b c d w=>qkf.j2 a b c d Q w) (.bk (.lo [sI 0,(2,.c0 119),sA 6,sA 7] [sI 8] (λa _ b c d w=>qkf.l1 a b c d Q w) (λnx1 a _ b c d w=>qkf.b1 a b c d Q (λx0 x6 x7 x8 w=>nx1 x0 () x6 x7 x8 w) w) λnx1=> .lf)))) (by kernel_rfl) h
def qlf.b1(v_0:Int)(t6:Addr)(p_7:Addr)(k_8:Int)(Q:VWP)(nx1:Int->Addr->Addr->Int->WP)(w:World):Prop:=qhw 120 [.int .i64 k_8] w λr3 r4 r5 w2=>br (!r5) (ldA w2 p_7 3 λc6=>(c6).size=3/\stA w2 t6 c6 λw7=>ldA w7 t6 3 λc8=>Q (.agg c8) w7) (br (decide (r3>v_0)) (ldA w2 p_7 3 λc9=>(c9).size=3/\stA w2 t6 c9 λw10=>ldA w10 t6 3 λc11=>Q (.agg c11) w10) (lt (i64.wrap (v_0-r3)) λx12=>((⟨[.int .i64 k_8,.int .i64 x12,.int .i64 r4]⟩:Array Value)).size=3/\stA w2 p_7 (⟨[.int .i64 k_8,.int .i64 x12,.int .i64 r4]⟩:Array Value) λw13=>lt (i64.wrap (k_8+1)) λx14=>nx1 v_0 t6 p_7 x14 w13))
def qlf.l1(v_0:Int)(t6:Addr)(p_7:Addr)(k_8:Int)(Q:VWP)(w:World):Prop:=∃(I:Int->WP) (μ:Int->World->Nat),I k_8 w/\∀k_8:Int,∀w:World,I k_8 w->qlf.b1 v_0 t6 p_7 k_8 Q (λv_0' t6' p_7' k_8' w'=>(v_0'=v_0/\t6'=t6/\p_7'=p_7)/\I k_8' w'/\μ k_8' w'<μ k_8 w) w
def qlf.j2(v_0:Int)(t6:Addr)(p_7:Addr)(k_8:Int)(Q:VWP)(w:World):Prop:=qlf.l1 v_0 t6 p_7 k_8 Q w
def qlf.j1(v_0 from_1:Int)(t6:Addr)(Q:VWP)(w:World):Prop:=nw w (zc prog 146) 146 λa15 w16=>((⟨[.int .i64 0,.int .i64 0,.int .i64 0]⟩:Array Value)).size=3/\stA w16 a15 (⟨[.int .i64 0,.int .i64 0,.int .i64 0]⟩:Array Value) λw17=>qlf.j2 v_0 t6 a15 from_1 Q w17
def qlf(v_0 from_1:Int)(Q:VWP)(w:World):Prop:=nw w (zc prog 146) 146 λa18 w19=>qlf.j1 v_0 from_1 a18 Q w19
theorem qlf.ok(v_0:Int)(from_1:Int)(Q:VWP)(w:World)(h:qlf v_0 from_1 Q w):Calls prog 118 ⟨[.int .i64 v_0,.int .i64 from_1,.func (.func 120) ⟨[]⟩ ⟨[]⟩]⟩ w (Ret Q):=
 qhc [.cell 6 146] qde Tryz.func118 rfl rfl rfl rfl (.sq [sI 0,sI 1,(2,.c0 120),sA 6] (λa b _ c w=>qlf.j1 a b c Q w) .lf (.pr 1 [sI 0,(2,.c0 120),sA 6,sA 7,sI 8] (λa _ b c d w=>qlf.j2 a b c d Q w) (.bk (.lo [sI 0,(2,.c0 120),sA 6,sA 7] [sI 8] (λa _ b c d w=>qlf.l1 a b c d Q w) (λnx1 a _ b c d w=>qlf.b1 a b c d Q (λx0 x6 x7 x8 w=>nx1 x0 () x6 x7 x8 w) w) λnx1=> .lf)))) (by kernel_rfl) h
def qjk(t_0:(Array Value))(Q:VWP)(w:World):Prop:=nw w t_0 144 λa1 w2=>nw w2 (zc prog 146) 146 λa3 w4=>nw w4 (zc prog 146) 146 λa5 w6=>ldI .i64 w6 (Addr.add a1 1) λx7=>br (x7==0) (ldI .u8 w6 (Addr.add a1 0) λx8=>lt (i64.wrap x8) λx9=>((⟨[.int .i64 x9,.int .i64 0,.int .i64 0]⟩:Array Value)).size=3/\stA w6 a3 (⟨[.int .i64 x9,.int .i64 0,.int .i64 0]⟩:Array Value) λw10=>((⟨[.int .i64 0,.int .i64 0,.int .i64 0]⟩:Array Value)).size=3/\stA w10 a5 (⟨[.int .i64 0,.int .i64 0,.int .i64 0]⟩:Array Value) λw11=>ldA w11 a3 3 λc12=>ldA w11 a5 3 λc13=>Q (.tuple ⟨[.agg c12,.agg c13,.bool false]⟩) w11) (lt (World.drew w6) λw14=>ldI .i64 w14 (Addr.add a1 1) λx15=>(qgv 118 [.int .i64 x15,.int .i64 257,.func (.func 119) ⟨[]⟩ ⟨[]⟩] w14 λr18 w17=>ldI .i64 w17 (Addr.add a1 2) λx19=>qgv 118 [.int .i64 x19,.int .i64 0,.func (.func 120) ⟨[]⟩ ⟨[]⟩] w17 λr22 w21=>(r18).size=3/\stA w21 a3 r18 λw23=>(r22).size=3/\stA w23 a5 r22 λw24=>ldA w24 a3 3 λc25=>ldA w24 a5 3 λc26=>Q (.tuple ⟨[.agg c25,.agg c26,.bool true]⟩) w24)/\(ldI .i64 w14 (Addr.add a1 2) λx27=>qgv 118 [.int .i64 x15,.int .i64 257,.func (.func 119) ⟨[]⟩ ⟨[]⟩] w14 λr30 w29=>qgv 118 [.int .i64 x27,.int .i64 0,.func (.func 120) ⟨[]⟩ ⟨[]⟩] w29 λr33 w32=>(r30).size=3/\stA w32 a3 r30 λw34=>(r33).size=3/\stA w34 a5 r33 λw35=>ldA w35 a3 3 λc36=>ldA w35 a5 3 λc37=>Q (.tuple ⟨[.agg c36,.agg c37,.bool true]⟩) w35))
theorem qjk.ok(t_0:(Array Value))(Q:VWP)(w:World)(h:qjk t_0 Q w):Calls prog 90 ⟨[.agg t_0]⟩ w (Ret Q):=
 qhc [.cell 2 146,.cell 3 146,.tmp 4] qde Tryz.func90 rfl rfl rfl rfl .lf (by kernel_rfl) h
def qsd.j2(k_3:OAd)(Q:VWP)(w:World):Prop:=nz k_3 λa1=>ldL w (Addr.add a1 1) λx2=>ixS x2.a x2.len 256 1 λa3=>ldI .i64 w a3 λx4=>lt (i64.wrap (x4+1)) λx5=>ixS x2.a x2.len 256 1 λa6=>st w a6 (.int .i64 x5) λw7=>Q (.pointer k_3) w7
def qsd.b1(k_3:OAd)(t14:Sl)(t15 t16:Int)(Q:VWP)(nx1:OAd->Sl->Int->Int->WP)(w:World):Prop:=br (decide (t16<t15)) (ixS t14.a t14.len t16 3 λa8=>ldA w a8 3 λc9=>nw w (zc prog 144) 144 λa10 w11=>(c9).size=3/\stA w11 a10 c9 λw12=>ldA w12 a10 3 λc13=>Calls prog 90 ⟨[.agg c13]⟩ w12 λe14 w15=>∃r16:(Array Value),∃r17:(Array Value),∃r18:Bool,e14= .returned (.tuple ⟨[.agg r16,.agg r17,.bool r18]⟩)/\nw w15 (zc prog 146) 146 λa19 w20=>nw w20 (zc prog 146) 146 λa21 w22=>(r16).size=3/\stA w22 a19 r16 λw23=>(r17).size=3/\stA w23 a21 r17 λw24=>lt (World.drew w24) λw25=>nz k_3 λa26=>ldL w25 (Addr.add a26 1) λx27=>ldI .i64 w25 (Addr.add a19 0) λx28=>ixS x27.a x27.len x28 1 λa29=>ldI .i64 w25 a29 λx30=>lt (i64.wrap (x30+1)) λx31=>ixS x27.a x27.len x28 1 λa32=>st w25 a32 (.int .i64 x31) λw33=>br r18 (lt (World.drew w33) λw34=>nz k_3 λa35=>ldL w34 (Addr.add a35 2) λx36=>ldI .i64 w34 (Addr.add a21 0) λx37=>ixS x36.a x36.len x37 1 λa38=>ldI .i64 w34 a38 λx39=>lt (i64.wrap (x39+1)) λx40=>ixS x36.a x36.len x37 1 λa41=>st w34 a41 (.int .i64 x40) λw42=>lt (i64.wrap (t16+1)) λx43=>nx1 k_3 t14 t15 x43 w42) (lt (i64.wrap (t16+1)) λx44=>nx1 k_3 t14 t15 x44 w33)) (qsd.j2 k_3 Q w)
def qsd.l1(k_3:OAd)(t14:Sl)(t15 t16:Int)(Q:VWP)(w:World):Prop:=∃(I:Int->WP) (μ:Int->World->Nat),I t16 w/\∀t16:Int,∀w:World,I t16 w->qsd.b1 k_3 t14 t15 t16 Q (λk_3' t14' t15' t16' w'=>(k_3'=k_3/\t14'=t14/\t15'=t15)/\I t16' w'/\μ t16' w'<μ t16 w) w
def qsd.j3(k_3:OAd)(t14:Sl)(t15 t16:Int)(Q:VWP)(w:World):Prop:=qsd.l1 k_3 t14 t15 t16 Q w
def qsd.j1(l_0:Sl)(k_3:OAd)(Q:VWP)(w:World):Prop:=qsd.j3 k_3 l_0 (l_0.len:Int) 0 Q w
def qsd(l_0:Sl)(Q:VWP)(w:World):Prop:=lt (World.drew w) λw45=>(mkK prog 3 w45 286 286 λs46 w47=>mkK prog 3 w47 30 30 λs48 w49=>nw w49 (⟨[sV l_0,sV s46,sV s48]⟩:Array Value) 142 λa50 w51=>qsd.j1 l_0 (some a50) Q w51)/\(mkK prog 3 w45 30 30 λs52 w53=>mkK prog 3 w53 286 286 λs54 w55=>nw w55 (⟨[sV l_0,sV s54,sV s52]⟩:Array Value) 142 λa56 w57=>qsd.j1 l_0 (some a56) Q w57)
theorem qsd.ok(l_0:Sl)(Q:VWP)(w:World)(h:qsd l_0 Q w):Calls prog 76 ⟨[sV l_0]⟩ w (Ret Q):=
 qhc [.tmp 2] qde Tryz.func76 rfl rfl rfl rfl (.pr 1 [sL 0,sP 3] (λa b w=>qsd.j1 a b Q w) (.sq [sP 3] (λa w=>qsd.j2 a Q w) (.sq [sP 3,sL 14,sI 15,sI 16] (λa b c d w=>qsd.j3 a b c d Q w) .lf (.bk (.lo [sP 3,sL 14,sI 15] [sI 16] (λa b c d w=>qsd.l1 a b c d Q w) (λnx1 a b c d w=>qsd.b1 a b c d Q nx1 w) λnx1=> .lf))) .lf)) (by kernel_rfl) h
def qrc.j1(w_1 lit_2:OAd)(Q:VWP)(w:World):Prop:=qzcb 107 [.pointer lit_2,.pointer w_1,.int .i64 256] w λr3 w2=>Q (.tuple ⟨[]⟩) w2
def qrc.b1(w_1 lit_2 dist_3:OAd)(t16:Sl)(t17 t18:Int)(Q:VWP)(nx1:OAd->OAd->OAd->Sl->Int->Int->WP)(w:World):Prop:=br (decide (t18<t17)) (ixS t16.a t16.len t18 3 λa4=>ldA w a4 3 λc5=>nw w (zc prog 144) 144 λa6 w7=>(c5).size=3/\stA w7 a6 c5 λw8=>ldA w8 a6 3 λc9=>Calls prog 90 ⟨[.agg c9]⟩ w8 λe10 w11=>∃r12:(Array Value),∃r13:(Array Value),∃r14:Bool,e10= .returned (.tuple ⟨[.agg r12,.agg r13,.bool r14]⟩)/\nw w11 (zc prog 146) 146 λa15 w16=>nw w16 (zc prog 146) 146 λa17 w18=>(r12).size=3/\stA w18 a15 r12 λw19=>(r13).size=3/\stA w19 a17 r13 λw20=>ldI .i64 w20 (Addr.add a15 0) λx21=>qzcb 107 [.pointer lit_2,.pointer w_1,.int .i64 x21] w20 λr24 w23=>br r14 (ldI .i64 w23 (Addr.add a15 1) λx25=>ldI .i64 w23 (Addr.add a15 2) λx26=>ct_ 95 [.pointer w_1,.int .i64 x25,.int .i64 x26] w23 λw28=>ldI .i64 w28 (Addr.add a17 0) λx29=>qzcb 107 [.pointer dist_3,.pointer w_1,.int .i64 x29] w28 λr32 w31=>ldI .i64 w31 (Addr.add a17 1) λx33=>ldI .i64 w31 (Addr.add a17 2) λx34=>ct_ 95 [.pointer w_1,.int .i64 x33,.int .i64 x34] w31 λw36=>lt (i64.wrap (t18+1)) λx37=>nx1 w_1 lit_2 dist_3 t16 t17 x37 w36) (lt (i64.wrap (t18+1)) λx38=>nx1 w_1 lit_2 dist_3 t16 t17 x38 w23)) (qrc.j1 w_1 lit_2 Q w)
def qrc.l1(w_1 lit_2 dist_3:OAd)(t16:Sl)(t17 t18:Int)(Q:VWP)(w:World):Prop:=∃(I:Int->WP) (μ:Int->World->Nat),I t18 w/\∀t18:Int,∀w:World,I t18 w->qrc.b1 w_1 lit_2 dist_3 t16 t17 t18 Q (λw_1' lit_2' dist_3' t16' t17' t18' w'=>(w_1'=w_1/\lit_2'=lit_2/\dist_3'=dist_3/\t16'=t16/\t17'=t17)/\I t18' w'/\μ t18' w'<μ t18 w) w
def qrc.j2(w_1 lit_2 dist_3:OAd)(t16:Sl)(t17 t18:Int)(Q:VWP)(w:World):Prop:=qrc.l1 w_1 lit_2 dist_3 t16 t17 t18 Q w
def qrc(k_0 w_1 lit_2 dist_3:OAd)(Q:VWP)(w:World):Prop:=nz k_0 λa39=>ldL w (Addr.add a39 0) λx40=>qrc.j2 w_1 lit_2 dist_3 x40 (x40.len:Int) 0 Q w
theorem qrc.ok(k_0:OAd)(w_1:OAd)(lit_2:OAd)(dist_3:OAd)(Q:VWP)(w:World)(h:qrc k_0 w_1 lit_2 dist_3 Q w):Calls prog 101 ⟨[.pointer k_0,.pointer w_1,.pointer lit_2,.pointer dist_3]⟩ w (Ret Q):=
 qhc [] qde Tryz.func101 rfl rfl rfl rfl (.sq [sP 1,sP 2] (λa b w=>qrc.j1 a b Q w) (.sq [sP 1,sP 2,sP 3,sL 16,sI 17,sI 18] (λa b c d e f w=>qrc.j2 a b c d e f Q w) .lf (.bk (.lo [sP 1,sP 2,sP 3,sL 16,sI 17] [sI 18] (λa b c d e f w=>qrc.l1 a b c d e f Q w) (λnx1 a b c d e f w=>qrc.b1 a b c d e f Q nx1 w) λnx1=> .lf))) .lf) (by kernel_rfl) h
def qxg(k_0:OAd)(Q:VWP)(w:World):Prop:=qchb 94 [] w λr3 w2=>ct_ 95 [.pointer r3,.int .i64 3,.int .i64 3] w2 λw5=>qflb 99 [] w5 λr8 r9 w7=>qsy 100 [sV r8,.bool true] w7 λr12 r13 w11=>qsy 100 [sV r9,.bool true] w11 λr16 r17 w15=>ct_ 101 [.pointer k_0,.pointer r3,.pointer r12,.pointer r16] w15 λw19=>qak 98 [.pointer r3] w19 λr22 w21=>Q (sV r22) w21
theorem qxg.ok(k_0:OAd)(Q:VWP)(w:World)(h:qxg k_0 Q w):Calls prog 79 ⟨[.pointer k_0]⟩ w (Ret Q):=
 qhc [.tmp 2] qde Tryz.func79 rfl rfl rfl rfl .lf (by kernel_rfl) h
def qob.j2(out_3:Sl)(Q:VWP)(w:World):Prop:=Q (sV out_3) w
def qob.j7(l_0 out_3:Sl)(i_4:Int)(n_5:Int)(Q:VWP)(nx1:Sl->Sl->Int->WP)(w:World):Prop:=lt (i64.wrap (i_4+n_5)) λx1=>nx1 l_0 out_3 x1 w
def qob.j10(l_0 out_3:Sl)(i_4:Int)(n_5:Int)(t73:Bool)(Q:VWP)(nx1:Sl->Sl->Int->WP)(w:World):Prop:=
 br t73 (
 lt (if(6:Int)<n_5 then 6 else n_5) λx15=>
 lt (i64.wrap (x15-3)) λx16=>
 ((⟨[.int .i64 16,.int .i64 x16,.int .i64 2]⟩:Array Value)).size=3/\
 nw w ⟨(spl [.int .i64 0,.int .i64 0,.int .i64 0] 0 (⟨[.int .i64 16,.int .i64 x16,.int .i64 2]⟩:Array Value))⟩ 146 λa17 w18=>
 rdO w18 (some a17) (1*3) λc19=>
 apK prog 146 w18 out_3.a out_3.len out_3.cap 1 c19 λs20 w21=>
 qob.j7 l_0 s20 i_4 x15 Q nx1 w21) (
 ixS l_0.a l_0.len i_4 1 λa22=>
 ldI .i64 w a22 λx23=>
 ((⟨[.int .i64 x23,.int .i64 0,.int .i64 0]⟩:Array Value)).size=3/\
 nw w ⟨(spl [.int .i64 0,.int .i64 0,.int .i64 0] 0 (⟨[.int .i64 x23,.int .i64 0,.int .i64 0]⟩:Array Value))⟩ 146 λa24 w25=>
 rdO w25 (some a24) (1*3) λc26=>
 apK prog 146 w25 out_3.a out_3.len out_3.cap 1 c26 λs27 w28=>
 qob.j7 l_0 s27 i_4 1 Q nx1 w28)
def qob.j9(l_0 out_3:Sl)(i_4:Int)(n_5:Int)(t57:Bool)(Q:VWP)(nx1:Sl->Sl->Int->WP)(w:World):Prop:=br t57 (lt (i64.wrap (n_5-3)) λx9=>((⟨[.int .i64 17,.int .i64 x9,.int .i64 3]⟩:Array Value)).size=3/\nw w ⟨(spl [.int .i64 0,.int .i64 0,.int .i64 0] 0 (⟨[.int .i64 17,.int .i64 x9,.int .i64 3]⟩:Array Value))⟩ 146 λa10 w11=>rdO w11 (some a10) (1*3) λc12=>apK prog 146 w11 out_3.a out_3.len out_3.cap 1 c12 λs13 w14=>qob.j7 l_0 s13 i_4 n_5 Q nx1 w14) (lt (World.drew w) λw29=>br (decide (i_4>0)) (ixS l_0.a l_0.len i_4 1 λa30=>ldI .i64 w29 a30 λx31=>lt (i64.wrap (i_4-1)) λx32=>ixS l_0.a l_0.len x32 1 λa33=>ldI .i64 w29 a33 λx34=>br (x31==x34) (qob.j10 l_0 out_3 i_4 n_5 (decide (n_5>=3)) Q nx1 w29) (qob.j10 l_0 out_3 i_4 n_5 false Q nx1 w29)) (qob.j10 l_0 out_3 i_4 n_5 false Q nx1 w29))
def qob.j8(l_0 out_3:Sl)(i_4:Int)(n_5:Int)(t39:Bool)(Q:VWP)(nx1:Sl->Sl->Int->WP)(w:World):Prop:=
 br t39 (
 lt (if(138:Int)<n_5 then 138 else n_5) λx2=>
 lt (i64.wrap (x2-11)) λx3=>
 ((⟨[.int .i64 18,.int .i64 x3,.int .i64 7]⟩:Array Value)).size=3/\
 nw w ⟨(spl [.int .i64 0,.int .i64 0,.int .i64 0] 0 (⟨[.int .i64 18,.int .i64 x3,.int .i64 7]⟩:Array Value))⟩ 146 λa4 w5=>
 rdO w5 (some a4) (1*3) λc6=>
 apK prog 146 w5 out_3.a out_3.len out_3.cap 1 c6 λs7 w8=>
 qob.j7 l_0 s7 i_4 x2 Q nx1 w8) (
 ixS l_0.a l_0.len i_4 1 λa35=>
 ldI .i64 w a35 λx36=>
 br (x36==0) (
 qob.j9 l_0 out_3 i_4 n_5 (decide (n_5>=3)) Q nx1 w) (
 qob.j9 l_0 out_3 i_4 n_5 false Q nx1 w))
def qob.j6(l_0 out_3:Sl)(i_4:Int)(n_5:Int)(Q:VWP)(nx1:Sl->Sl->Int->WP)(w:World):Prop:=ixS l_0.a l_0.len i_4 1 λa37=>ldI .i64 w a37 λx38=>br (x38==0) (qob.j8 l_0 out_3 i_4 n_5 (decide (n_5>=11)) Q nx1 w) (qob.j8 l_0 out_3 i_4 n_5 false Q nx1 w)
def qob.b2(l_0 out_3:Sl)(i_4:Int)(n_5:Int)(Q:VWP)(nx1:Sl->Sl->Int->WP)(nx2:Sl->Sl->Int->Int->WP)(w:World):Prop:=lt (World.drew w) λw39=>lt (i64.wrap (i_4+n_5)) λx40=>br (decide (x40<(l_0.len:Int))) (lt (i64.wrap (i_4+n_5)) λx41=>ixS l_0.a l_0.len x41 1 λa42=>ldI .i64 w39 a42 λx43=>ixS l_0.a l_0.len i_4 1 λa44=>ldI .i64 w39 a44 λx45=>br (x43==x45) (lt (i64.wrap (n_5+1)) λx46=>nx2 l_0 out_3 i_4 x46 w39) (qob.j6 l_0 out_3 i_4 n_5 Q nx1 w39)) (qob.j6 l_0 out_3 i_4 n_5 Q nx1 w39)
def qob.l2(l_0 out_3:Sl)(i_4:Int)(n_5:Int)(Q:VWP)(nx1:Sl->Sl->Int->WP)(w:World):Prop:=∃(I:Int->WP) (μ:Int->World->Nat),I n_5 w/\∀n_5:Int,∀w:World,I n_5 w->qob.b2 l_0 out_3 i_4 n_5 Q nx1 (λl_0' out_3' i_4' n_5' w'=>(l_0'=l_0/\out_3'=out_3/\i_4'=i_4)/\I n_5' w'/\μ n_5' w'<μ n_5 w) w
def qob.j5(l_0 out_3:Sl)(i_4:Int)(n_5:Int)(Q:VWP)(nx1:Sl->Sl->Int->WP)(w:World):Prop:=qob.l2 l_0 out_3 i_4 n_5 Q nx1 w
def qob.j4(l_0 out_3:Sl)(i_4:Int)(Q:VWP)(nx1:Sl->Sl->Int->WP)(w:World):Prop:=qob.j5 l_0 out_3 i_4 1 Q nx1 w
def qob.b1(l_0 out_3:Sl)(i_4:Int)(Q:VWP)(nx1:Sl->Sl->Int->WP)(w:World):Prop:=br (decide (i_4<(l_0.len:Int))) (qob.j4 l_0 out_3 i_4 Q nx1 w) (qob.j2 out_3 Q w)
def qob.l1(l_0 out_3:Sl)(i_4:Int)(Q:VWP)(w:World):Prop:=∃(I:Sl->Int->WP) (μ:Sl->Int->World->Nat),I out_3 i_4 w/\∀out_3:Sl,∀i_4:Int,∀w:World,I out_3 i_4 w->qob.b1 l_0 out_3 i_4 Q (λl_0' out_3' i_4' w'=>(l_0'=l_0)/\I out_3' i_4' w'/\μ out_3' i_4' w'<μ out_3 i_4 w) w
def qob.j3(l_0 out_3:Sl)(i_4:Int)(Q:VWP)(w:World):Prop:=qob.l1 l_0 out_3 i_4 Q w
def qob.j1(l_0 out_3:Sl)(Q:VWP)(w:World):Prop:=qob.j3 l_0 out_3 0 Q w
def qob(l_0:Sl)(Q:VWP)(w:World):Prop:=qob.j1 l_0 ⟨none,0,0⟩ Q w
theorem qob.ok(l_0:Sl)(Q:VWP)(w:World)(h:qob l_0 Q w):Calls prog 104 ⟨[sV l_0]⟩ w (Ret Q):=
 qhc [.tmp 2] qde Tryz.func104 rfl rfl rfl rfl (.pr 1 [sL 0,sL 3] (λa b w=>qob.j1 a b Q w) (.sq [sL 3] (λa w=>qob.j2 a Q w) (.sq [sL 0,sL 3,sI 4] (λa b c w=>qob.j3 a b c Q w) .lf (.bk (.lo [sL 0] [sL 3,sI 4] (λa b c w=>qob.l1 a b c Q w) (λnx1 a b c w=>qob.b1 a b c Q nx1 w) λnx1=>(.sq [sL 0,sL 3,sI 4] (λa b c w=>qob.j4 a b c Q nx1 w) .lf (.bk (.sq [sL 0,sL 3,sI 4,sI 5] (λa b c d w=>qob.j5 a b c d Q nx1 w) .lf (.sq [sL 0,sL 3,sI 4,sI 5] (λa b c d w=>qob.j6 a b c d Q nx1 w) (.bk (.lo [sL 0,sL 3,sI 4] [sI 5] (λa b c d w=>qob.l2 a b c d Q nx1 w) (λnx2 a b c d w=>qob.b2 a b c d Q nx1 nx2 w) λnx2=> .lf)) (.sq [sL 0,sL 3,sI 4,sI 5] (λa b c d w=>qob.j7 a b c d Q nx1 w) (.bk (.sq [sL 0,sL 3,sI 4,sI 5,sB 39] (λa b c d e w=>qob.j8 a b c d e Q nx1 w) .lf (.cd .lf (.sq [sL 0,sL 3,sI 4,sI 5,sB 57] (λa b c d e w=>qob.j9 a b c d e Q nx1 w) .lf (.cd .lf (.sq [sL 0,sL 3,sI 4,sI 5,sB 73] (λa b c d e w=>qob.j10 a b c d e Q nx1 w) .lf .lf)))))) .lf)))))))) .lf)) (by kernel_rfl) h
def qje.j2(l_0:Sl)(Q:VWP)(w:World):Prop:=Q (sV l_0) w
def qje.b1(least_1:Int)(l_0:Sl)(Q:VWP)(nx1:Int->Sl->WP)(w:World):Prop:=br (decide ((l_0.len:Int)>least_1)) (lt (i64.wrap ((l_0.len:Int)-1)) λx1=>ixS l_0.a l_0.len x1 1 λa2=>ldI .i64 w a2 λx3=>br (x3==0) (lt (i64.wrap ((l_0.len:Int)-1)) λx4=>bd x4 l_0.cap λn5=>lt (⟨qnf l_0.a l_0.cap 0 1,n5-0,l_0.cap-0⟩:Sl) λs6=>nx1 least_1 s6 w) (qje.j2 l_0 Q w)) (qje.j2 l_0 Q w)
def qje.l1(least_1:Int)(l_0:Sl)(Q:VWP)(w:World):Prop:=∃(I:Sl->WP) (μ:Sl->World->Nat),I l_0 w/\∀l_0:Sl,∀w:World,I l_0 w->qje.b1 least_1 l_0 Q (λleast_1' l_0' w'=>(least_1'=least_1)/\I l_0' w'/\μ l_0' w'<μ l_0 w) w
def qje.j1(l_0:Sl)(least_1:Int)(Q:VWP)(w:World):Prop:=qje.l1 least_1 l_0 Q w
def qje(l_0:Sl)(least_1:Int)(Q:VWP)(w:World):Prop:=qje.j1 l_0 least_1 Q w
theorem qje.ok(l_0:Sl)(least_1:Int)(Q:VWP)(w:World)(h:qje l_0 least_1 Q w):Calls prog 103 ⟨[sV l_0,.int .i64 least_1]⟩ w (Ret Q):=
 qhc [.tmp 4] qde Tryz.func103 rfl rfl rfl rfl (.sq [sL 0,sI 1] (λa b w=>qje.j1 a b Q w) .lf (.sq [sL 0] (λa w=>qje.j2 a Q w) (.bk (.lo [sI 1] [sL 0] (λa b w=>qje.l1 a b Q w) (λnx1 a b w=>qje.b1 a b Q nx1 w) λnx1=> .lf)) .lf)) (by kernel_rfl) h
def qic.j3(m_3:Int)(Q:VWP)(w:World):Prop:=Q (.int .i64 m_3) w
def qic.b1(x_0:Sl)(m_3:Int)(i_4:Int)(Q:VWP)(nx1:Sl->Int->Int->WP)(w:World):Prop:=
 br (decide (i_4<(x_0.len:Int))) (
 ixS x_0.a x_0.len i_4 1 λa1=>
 ldI .i64 w a1 λx2=>
 lt (if(x2:Int)>m_3 then x2 else m_3) λx3=>
 lt (i64.wrap (i_4+1)) λx4=>
 nx1 x_0 x3 x4 w) (
 qic.j3 m_3 Q w)
def qic.l1(x_0:Sl)(m_3:Int)(i_4:Int)(Q:VWP)(w:World):Prop:=∃(I:Int->Int->WP) (μ:Int->Int->World->Nat),I m_3 i_4 w/\∀m_3:Int,∀i_4:Int,∀w:World,I m_3 i_4 w->qic.b1 x_0 m_3 i_4 Q (λx_0' m_3' i_4' w'=>(x_0'=x_0)/\I m_3' i_4' w'/\μ m_3' i_4' w'<μ m_3 i_4 w) w
def qic.j4(x_0:Sl)(m_3:Int)(i_4:Int)(Q:VWP)(w:World):Prop:=qic.l1 x_0 m_3 i_4 Q w
def qic.j2(x_0:Sl)(m_3:Int)(Q:VWP)(w:World):Prop:=qic.j4 x_0 m_3 1 Q w
def qic.j1(x_0:Sl)(Q:VWP)(w:World):Prop:=br (decide ((x_0.len:Int)<1)) (False) (ixS x_0.a x_0.len 0 1 λa5=>ldI .i64 w a5 λx6=>qic.j2 x_0 x6 Q w)
def qic(x_0:Sl)(Q:VWP)(w:World):Prop:=qic.j1 x_0 Q w
theorem qic.ok(x_0:Sl)(Q:VWP)(w:World)(h:qic x_0 Q w):Calls prog 106 ⟨[sV x_0]⟩ w (Ret Q):=
 qhc [.tmp 2] qde Tryz.func106 rfl rfl rfl rfl (.sq [sL 0] (λa w=>qic.j1 a Q w) .lf (.pr 1 [sL 0,sI 3] (λa b w=>qic.j2 a b Q w) (.sq [sI 3] (λa w=>qic.j3 a Q w) (.sq [sL 0,sI 3,sI 4] (λa b c w=>qic.j4 a b c Q w) .lf (.bk (.lo [sL 0] [sI 3,sI 4] (λa b c w=>qic.l1 a b c Q w) (λnx1 a b c w=>qic.b1 a b c Q nx1 w) λnx1=> .lf))) .lf))) (by kernel_rfl) h
def qc.j14(k_0 lit_7 dist_9 w_21:OAd)(Q:VWP)(w:World):Prop:=ct_ 101 [.pointer k_0,.pointer w_21,.pointer lit_7,.pointer dist_9] w λw2=>qak 98 [.pointer w_21] w2 λr5 w4=>Q (sV r5) w4
def qc.b1(k_0 lit_7 dist_9 code_17 w_21:OAd)(t153:Sl)(t154 t155:Int)(Q:VWP)(nx1:OAd->OAd->OAd->OAd->OAd->Sl->Int->Int->WP)(w:World):Prop:=br (decide (t155<t154)) (ixS t153.a t153.len t155 3 λa6=>ldA w a6 3 λc7=>nw w (zc prog 146) 146 λa8 w9=>(c7).size=3/\stA w9 a8 c7 λw10=>ldI .i64 w10 (Addr.add a8 0) λx11=>qzcb 107 [.pointer code_17,.pointer w_21,.int .i64 x11] w10 λr14 w13=>ldI .i64 w13 (Addr.add a8 1) λx15=>ldI .i64 w13 (Addr.add a8 2) λx16=>ct_ 95 [.pointer w_21,.int .i64 x15,.int .i64 x16] w13 λw18=>lt (i64.wrap (t155+1)) λx19=>nx1 k_0 lit_7 dist_9 code_17 w_21 t153 t154 x19 w18) (qc.j14 k_0 lit_7 dist_9 w_21 Q w)
def qc.l1(k_0 lit_7 dist_9 code_17 w_21:OAd)(t153:Sl)(t154 t155:Int)(Q:VWP)(w:World):Prop:=∃(I:Int->WP) (μ:Int->World->Nat),I t155 w/\∀t155:Int,∀w:World,I t155 w->qc.b1 k_0 lit_7 dist_9 code_17 w_21 t153 t154 t155 Q (λk_0' lit_7' dist_9' code_17' w_21' t153' t154' t155' w'=>(k_0'=k_0/\lit_7'=lit_7/\dist_9'=dist_9/\code_17'=code_17/\w_21'=w_21/\t153'=t153/\t154'=t154)/\I t155' w'/\μ t155' w'<μ t155 w) w
def qc.j15(k_0 lit_7 dist_9 code_17 w_21:OAd)(t153:Sl)(t154 t155:Int)(Q:VWP)(w:World):Prop:=qc.l1 k_0 lit_7 dist_9 code_17 w_21 t153 t154 t155 Q w
def qc.j13(k_0 lit_7 dist_9:OAd)(l_11:Sl)(code_17 w_21:OAd)(Q:VWP)(w:World):Prop:=qc.j15 k_0 lit_7 dist_9 code_17 w_21 l_11 (l_11.len:Int) 0 Q w
def qc.b2(k_0 lit_7 dist_9:OAd)(l_11:Sl)(cl_15:Sl)(code_17:OAd)(w_21:OAd)(t140:Sl)(t141 t142:Int)(Q:VWP)(nx2:OAd->OAd->OAd->Sl->Sl->OAd->OAd->Sl->Int->Int->WP)(w:World):Prop:=br (decide (t142<t141)) (ixS t140.a t140.len t142 1 λa20=>ldI .i64 w a20 λx21=>ixS cl_15.a cl_15.len x21 1 λa22=>ldI .i64 w a22 λx23=>ct_ 95 [.pointer w_21,.int .i64 x23,.int .i64 3] w λw25=>lt (i64.wrap (t142+1)) λx26=>nx2 k_0 lit_7 dist_9 l_11 cl_15 code_17 w_21 t140 t141 x26 w25) (qc.j13 k_0 lit_7 dist_9 l_11 code_17 w_21 Q w)
def qc.l2(k_0 lit_7 dist_9:OAd)(l_11:Sl)(cl_15:Sl)(code_17:OAd)(w_21:OAd)(t140:Sl)(t141 t142:Int)(Q:VWP)(w:World):Prop:=∃(I:Int->WP) (μ:Int->World->Nat),I t142 w/\∀t142:Int,∀w:World,I t142 w->qc.b2 k_0 lit_7 dist_9 l_11 cl_15 code_17 w_21 t140 t141 t142 Q (λk_0' lit_7' dist_9' l_11' cl_15' code_17' w_21' t140' t141' t142' w'=>(k_0'=k_0/\lit_7'=lit_7/\dist_9'=dist_9/\l_11'=l_11/\cl_15'=cl_15/\code_17'=code_17/\w_21'=w_21/\t140'=t140/\t141'=t141)/\I t142' w'/\μ t142' w'<μ t142 w) w
def qc.j16(k_0 lit_7 dist_9:OAd)(l_11:Sl)(cl_15:Sl)(code_17:OAd)(w_21:OAd)(t140:Sl)(t141 t142:Int)(Q:VWP)(w:World):Prop:=qc.l2 k_0 lit_7 dist_9 l_11 cl_15 code_17 w_21 t140 t141 t142 Q w
def qc.j12(k_0 lit_7 dist_9:OAd)(l_11:Sl)(cl_15:Sl)(code_17:OAd)(order_19:Sl)(n_20:Int)(w_21:OAd)(Q:VWP)(w:World):Prop:=bd n_20 order_19.cap λn27=>lt (⟨qnf order_19.a order_19.cap 0 1,n27-0,order_19.cap-0⟩:Sl) λs28=>qc.j16 k_0 lit_7 dist_9 l_11 cl_15 code_17 w_21 s28 (s28.len:Int) 0 Q w
def qc.j11(k_0:OAd)(b_5:Sl)(lit_7 dist_9:OAd)(l_11:Sl)(cl_15:Sl)(code_17:OAd)(order_19:Sl)(n_20:Int)(w_21:OAd)(Q:VWP)(w:World):Prop:=lt (i64.wrap ((b_5.len:Int)-1)) λx29=>ct_ 95 [.pointer w_21,.int .i64 x29,.int .i64 5] w λw31=>lt (i64.wrap (n_20-4)) λx32=>ct_ 95 [.pointer w_21,.int .i64 x32,.int .i64 4] w31 λw34=>qc.j12 k_0 lit_7 dist_9 l_11 cl_15 code_17 order_19 n_20 w_21 Q w34
def qc.j10(k_0:OAd)(a_3:Sl)(b_5:Sl)(lit_7:OAd)(dist_9:OAd)(l_11:Sl)(cl_15:Sl)(code_17:OAd)(order_19:Sl)(n_20:Int)(w_21:OAd)(Q:VWP)(w:World):Prop:=ct_ 95 [.pointer w_21,.int .i64 5,.int .i64 3] w λw36=>lt (i64.wrap ((a_3.len:Int)-256)) λx37=>lt (i64.wrap (x37-1)) λx38=>ct_ 95 [.pointer w_21,.int .i64 x38,.int .i64 5] w36 λw40=>qc.j11 k_0 b_5 lit_7 dist_9 l_11 cl_15 code_17 order_19 n_20 w_21 Q w40
def qc.j9(k_0:OAd)(a_3:Sl)(b_5:Sl)(lit_7:OAd)(dist_9:OAd)(l_11:Sl)(cl_15:Sl)(code_17:OAd)(order_19:Sl)(n_20:Int)(Q:VWP)(w:World):Prop:=qchb 94 [] w λr43 w42=>qc.j10 k_0 a_3 b_5 lit_7 dist_9 l_11 cl_15 code_17 order_19 n_20 r43 Q w42
def qc.b3(k_0:OAd)(a_3:Sl)(b_5:Sl)(lit_7:OAd)(dist_9:OAd)(l_11:Sl)(cl_15:Sl)(code_17:OAd)(order_19:Sl)(n_20:Int)(Q:VWP)(nx3:OAd->Sl->Sl->OAd->OAd->Sl->Sl->OAd->Sl->Int->WP)(w:World):Prop:=br (decide (n_20>4)) (lt (i64.wrap (n_20-1)) λx44=>ixS order_19.a order_19.len x44 1 λa45=>ldI .i64 w a45 λx46=>ixS cl_15.a cl_15.len x46 1 λa47=>ldI .i64 w a47 λx48=>br (x48==0) (lt (i64.wrap (n_20-1)) λx49=>nx3 k_0 a_3 b_5 lit_7 dist_9 l_11 cl_15 code_17 order_19 x49 w) (qc.j9 k_0 a_3 b_5 lit_7 dist_9 l_11 cl_15 code_17 order_19 n_20 Q w)) (qc.j9 k_0 a_3 b_5 lit_7 dist_9 l_11 cl_15 code_17 order_19 n_20 Q w)
def qc.l3(k_0:OAd)(a_3:Sl)(b_5:Sl)(lit_7:OAd)(dist_9:OAd)(l_11:Sl)(cl_15:Sl)(code_17:OAd)(order_19:Sl)(n_20:Int)(Q:VWP)(w:World):Prop:=∃(I:Int->WP) (μ:Int->World->Nat),I n_20 w/\∀n_20:Int,∀w:World,I n_20 w->qc.b3 k_0 a_3 b_5 lit_7 dist_9 l_11 cl_15 code_17 order_19 n_20 Q (λk_0' a_3' b_5' lit_7' dist_9' l_11' cl_15' code_17' order_19' n_20' w'=>(k_0'=k_0/\a_3'=a_3/\b_5'=b_5/\lit_7'=lit_7/\dist_9'=dist_9/\l_11'=l_11/\cl_15'=cl_15/\code_17'=code_17/\order_19'=order_19)/\I n_20' w'/\μ n_20' w'<μ n_20 w) w
def qc.j8(k_0:OAd)(a_3:Sl)(b_5:Sl)(lit_7:OAd)(dist_9:OAd)(l_11:Sl)(cl_15:Sl)(code_17:OAd)(order_19:Sl)(n_20:Int)(Q:VWP)(w:World):Prop:=qc.l3 k_0 a_3 b_5 lit_7 dist_9 l_11 cl_15 code_17 order_19 n_20 Q w
def qc.j7(k_0:OAd)(a_3:Sl)(b_5:Sl)(lit_7:OAd)(dist_9:OAd)(l_11:Sl)(cl_15:Sl)(code_17:OAd)(Q:VWP)(w:World):Prop:=nw w ⟨[.int .i64 16,.int .i64 17,.int .i64 18,.int .i64 0,.int .i64 8,.int .i64 7,.int .i64 9,.int .i64 6,.int .i64 10,.int .i64 5,.int .i64 11,.int .i64 4,.int .i64 12,.int .i64 3,.int .i64 13,.int .i64 2,.int .i64 14,.int .i64 1,.int .i64 15]⟩ 3 λa50 w51=>qc.j8 k_0 a_3 b_5 lit_7 dist_9 l_11 cl_15 code_17 ⟨(some a50),19,19⟩ ((19:Nat):Int) Q w51
def qc.j6(k_0:OAd)(a_3:Sl)(b_5:Sl)(lit_7:OAd)(dist_9:OAd)(l_11:Sl)(counts_12:Sl)(Q:VWP)(w:World):Prop:=qyu 102 [sV counts_12,.int .i64 7] w λr54 r55 w53=>qsy 100 [sV r54,.bool false] w53 λr58 r59 w57=>qc.j7 k_0 a_3 b_5 lit_7 dist_9 l_11 r54 r58 Q w57
def qc.j5(k_0:OAd)(a_3:Sl)(b_5:Sl)(lit_7:OAd)(dist_9:OAd)(l_11:Sl)(counts_12:Sl)(Q:VWP)(w:World):Prop:=qbk 106 [sV counts_12] w λr62 w61=>br (r62==(l_11.len:Int)) (ixS l_11.a l_11.len 0 3 λa63=>ldI .i64 w61 (Addr.add a63 0) λx64=>lt (i64.wrap (x64+1)) λx65=>(2:Int)≠0/\lt (tmod x65 2) λx66=>ixS counts_12.a counts_12.len x66 1 λa67=>ldI .i64 w61 a67 λx68=>lt (i64.wrap (x68+1)) λx69=>ixS counts_12.a counts_12.len x66 1 λa70=>st w61 a70 (.int .i64 x69) λw71=>qc.j6 k_0 a_3 b_5 lit_7 dist_9 l_11 counts_12 Q w71) (qc.j6 k_0 a_3 b_5 lit_7 dist_9 l_11 counts_12 Q w61)
def qc.b4(k_0:OAd)(a_3:Sl)(b_5:Sl)(lit_7:OAd)(dist_9:OAd)(l_11:Sl)(counts_12 t62:Sl)(t63:Int)(t64:Int)(Q:VWP)(nx4:OAd->Sl->Sl->OAd->OAd->Sl->Sl->Sl->Int->Int->WP)(w:World):Prop:=br (decide (t64<t63)) (ixS t62.a t62.len t64 3 λa72=>ldA w a72 3 λc73=>nw w (zc prog 146) 146 λa74 w75=>(c73).size=3/\stA w75 a74 c73 λw76=>ldI .i64 w76 (Addr.add a74 0) λx77=>ixS counts_12.a counts_12.len x77 1 λa78=>ldI .i64 w76 a78 λx79=>lt (i64.wrap (x79+1)) λx80=>ixS counts_12.a counts_12.len x77 1 λa81=>st w76 a81 (.int .i64 x80) λw82=>lt (i64.wrap (t64+1)) λx83=>nx4 k_0 a_3 b_5 lit_7 dist_9 l_11 counts_12 t62 t63 x83 w82) (qc.j5 k_0 a_3 b_5 lit_7 dist_9 l_11 counts_12 Q w)
def qc.l4(k_0:OAd)(a_3:Sl)(b_5:Sl)(lit_7:OAd)(dist_9:OAd)(l_11:Sl)(counts_12 t62:Sl)(t63:Int)(t64:Int)(Q:VWP)(w:World):Prop:=∃(I:Int->WP) (μ:Int->World->Nat),I t64 w/\∀t64:Int,∀w:World,I t64 w->qc.b4 k_0 a_3 b_5 lit_7 dist_9 l_11 counts_12 t62 t63 t64 Q (λk_0' a_3' b_5' lit_7' dist_9' l_11' counts_12' t62' t63' t64' w'=>(k_0'=k_0/\a_3'=a_3/\b_5'=b_5/\lit_7'=lit_7/\dist_9'=dist_9/\l_11'=l_11/\counts_12'=counts_12/\t62'=t62/\t63'=t63)/\I t64' w'/\μ t64' w'<μ t64 w) w
def qc.j17(k_0:OAd)(a_3:Sl)(b_5:Sl)(lit_7:OAd)(dist_9:OAd)(l_11:Sl)(counts_12 t62:Sl)(t63:Int)(t64:Int)(Q:VWP)(w:World):Prop:=qc.l4 k_0 a_3 b_5 lit_7 dist_9 l_11 counts_12 t62 t63 t64 Q w
def qc.j4(k_0:OAd)(a_3:Sl)(b_5:Sl)(lit_7:OAd)(dist_9:OAd)(l_11:Sl)(counts_12:Sl)(Q:VWP)(w:World):Prop:=qc.j17 k_0 a_3 b_5 lit_7 dist_9 l_11 counts_12 l_11 (l_11.len:Int) 0 Q w
def qc.j3(k_0:OAd)(a_3:Sl)(b_5:Sl)(lit_7:OAd)(dist_9:OAd)(Q:VWP)(w:World):Prop:=nw w ⟨[sV a_3,sV b_5]⟩ 26 λa84 w85=>qak 105 [.slice (some a84) 2 2] w85 λr88 w87=>qak 104 [sV r88] w87 λr91 w90=>mkK prog 3 w90 19 19 λs92 w93=>qc.j4 k_0 a_3 b_5 lit_7 dist_9 r91 s92 Q w93
def qc.j2(k_0:OAd)(a_3:Sl)(b_5:Sl)(lit_7:OAd)(Q:VWP)(w:World):Prop:=qsy 100 [sV b_5,.bool true] w λr96 r97 w95=>qak 103 [sV a_3,.int .i64 257] w95 λr100 w99=>qak 103 [sV b_5,.int .i64 1] w99 λr103 w102=>qc.j3 k_0 r100 r103 lit_7 r96 Q w102
def qc.j1(k_0:OAd)(a_3:Sl)(Q:VWP)(w:World):Prop:=nz k_0 λa104=>ldL w (Addr.add a104 2) λx105=>qyu 102 [sV x105,.int .i64 15] w λr108 r109 w107=>qsy 100 [sV a_3,.bool true] w107 λr112 r113 w111=>qc.j2 k_0 a_3 r108 r112 Q w111
def qc(k_0:OAd)(Q:VWP)(w:World):Prop:=nz k_0 λa114=>ldL w (Addr.add a114 1) λx115=>qyu 102 [sV x115,.int .i64 15] w λr118 r119 w117=>qc.j1 k_0 r118 Q w117
theorem qc.ok(k_0:OAd)(Q:VWP)(w:World)(h:qc k_0 Q w):Calls prog 80 ⟨[.pointer k_0]⟩ w (Ret Q):=
 qhc [.tmp 2] qde Tryz.func80 rfl rfl rfl rfl (.pr 1 [sP 0,sL 3] (λa b w=>qc.j1 a b Q w) (.pr 1 [sP 0,sL 3,sL 5,sP 7] (λa b c d w=>qc.j2 a b c d Q w) (.pr 1 [sP 0,sL 3,sL 5,sP 7,sP 9] (λa b c d e w=>qc.j3 a b c d e Q w) (.pr 1 [sP 0,sL 3,sL 5,sP 7,sP 9,sL 11,sL 12] (λa b c d e f g w=>qc.j4 a b c d e f g Q w) (.sq [sP 0,sL 3,sL 5,sP 7,sP 9,sL 11,sL 12] (λa b c d e f g w=>qc.j5 a b c d e f g Q w) (.sq [sP 0,sL 3,sL 5,sP 7,sP 9,sL 11,sL 12,sL 62,sI 63,sI 64] (λa b c d e f g h i j w=>qc.j17 a b c d e f g h i j Q w) .lf (.bk (.lo [sP 0,sL 3,sL 5,sP 7,sP 9,sL 11,sL 12,sL 62,sI 63] [sI 64] (λa b c d e f g h i j w=>qc.l4 a b c d e f g h i j Q w) (λnx4 a b c d e f g h i j w=>qc.b4 a b c d e f g h i j Q nx4 w) λnx4=> .lf))) (.sq [sP 0,sL 3,sL 5,sP 7,sP 9,sL 11,sL 12] (λa b c d e f g w=>qc.j6 a b c d e f g Q w) .lf (.pr 1 [sP 0,sL 3,sL 5,sP 7,sP 9,sL 11,sL 15,sP 17] (λa b c d e f g h w=>qc.j7 a b c d e f g h Q w) (.pr 1 [sP 0,sL 3,sL 5,sP 7,sP 9,sL 11,sL 15,sP 17,sL 19,sI 20] (λa b c d e f g h i j w=>qc.j8 a b c d e f g h i j Q w) (.sq [sP 0,sL 3,sL 5,sP 7,sP 9,sL 11,sL 15,sP 17,sL 19,sI 20] (λa b c d e f g h i j w=>qc.j9 a b c d e f g h i j Q w) (.bk (.lo [sP 0,sL 3,sL 5,sP 7,sP 9,sL 11,sL 15,sP 17,sL 19] [sI 20] (λa b c d e f g h i j w=>qc.l3 a b c d e f g h i j Q w) (λnx3 a b c d e f g h i j w=>qc.b3 a b c d e f g h i j Q nx3 w) λnx3=> .lf)) (.sq [sP 0,sL 3,sL 5,sP 7,sP 9,sL 11,sL 15,sP 17,sL 19,sI 20,sP 21] (λa b c d e f g h i j k w=>qc.j10 a b c d e f g h i j k Q w) .lf (.pr 1 [sP 0,sL 5,sP 7,sP 9,sL 11,sL 15,sP 17,sL 19,sI 20,sP 21] (λa b c d e f g h i j w=>qc.j11 a b c d e f g h i j Q w) (.pr 1 [sP 0,sP 7,sP 9,sL 11,sL 15,sP 17,sL 19,sI 20,sP 21] (λa b c d e f g h i w=>qc.j12 a b c d e f g h i Q w) (.sq [sP 0,sP 7,sP 9,sL 11,sP 17,sP 21] (λa b c d e f w=>qc.j13 a b c d e f Q w) (.sq [sP 0,sP 7,sP 9,sL 11,sL 15,sP 17,sP 21,sL 140,sI 141,sI 142] (λa b c d e f g h i j w=>qc.j16 a b c d e f g h i j Q w) .lf (.bk (.lo [sP 0,sP 7,sP 9,sL 11,sL 15,sP 17,sP 21,sL 140,sI 141] [sI 142] (λa b c d e f g h i j w=>qc.l2 a b c d e f g h i j Q w) (λnx2 a b c d e f g h i j w=>qc.b2 a b c d e f g h i j Q nx2 w) λnx2=> .lf))) (.sq [sP 0,sP 7,sP 9,sP 21] (λa b c d w=>qc.j14 a b c d Q w) (.sq [sP 0,sP 7,sP 9,sP 17,sP 21,sL 153,sI 154,sI 155] (λa b c d e f g h w=>qc.j15 a b c d e f g h Q w) .lf (.bk (.lo [sP 0,sP 7,sP 9,sP 17,sP 21,sL 153,sI 154] [sI 155] (λa b c d e f g h w=>qc.l1 a b c d e f g h Q w) (λnx1 a b c d e f g h w=>qc.b1 a b c d e f g h Q nx1 w) λnx1=> .lf))) .lf)))))))))))))) (by kernel_rfl) h
def qsc.j3(out_6:Sl)(Q:VWP)(w:World):Prop:=Q (sV out_6) w
def qsc.b1(k_5:OAd)(t19:Sl)(t20:Int)(out_6:Sl)(t21:Int)(Q:VWP)(nx1:OAd->Sl->Int->Sl->Int->WP)(w:World):Prop:=br (decide (t21<t20)) (ixS t19.a t19.len t21 1 λa1=>ldV w a1 λx2=>cvL prog x2 [.pointer k_5] w λr4 w3=>br (decide ((r4.len:Int)<(out_6.len:Int))) (lt (i64.wrap (t21+1)) λx5=>nx1 k_5 t19 t20 r4 x5 w3) (lt (i64.wrap (t21+1)) λx6=>nx1 k_5 t19 t20 out_6 x6 w3)) (qsc.j3 out_6 Q w)
def qsc.l1(k_5:OAd)(t19:Sl)(t20:Int)(out_6:Sl)(t21:Int)(Q:VWP)(w:World):Prop:=∃(I:Sl->Int->WP) (μ:Sl->Int->World->Nat),I out_6 t21 w/\∀out_6:Sl,∀t21:Int,∀w:World,I out_6 t21 w->qsc.b1 k_5 t19 t20 out_6 t21 Q (λk_5' t19' t20' out_6' t21' w'=>(k_5'=k_5/\t19'=t19/\t20'=t20)/\I out_6' t21' w'/\μ out_6' t21' w'<μ out_6 t21 w) w
def qsc.j4(k_5:OAd)(out_6:Sl)(t19:Sl)(t20:Int)(t21:Int)(Q:VWP)(w:World):Prop:=qsc.l1 k_5 t19 t20 out_6 t21 Q w
def qsc.j2(k_5:OAd)(out_6:Sl)(Q:VWP)(w:World):Prop:=nw w ⟨[.func (.func 79) ⟨[]⟩ ⟨[]⟩,.func (.func 80) ⟨[]⟩ ⟨[]⟩]⟩ 127 λa7 w8=>qsc.j4 k_5 out_6 ⟨(some a7),2,2⟩ ((2:Nat):Int) 0 Q w8
def qsc.j1(b_0:Sl)(effort_1:Int)(Q:VWP)(w:World):Prop:=qak 77 [sV b_0,.int .i64 effort_1] w λr11 w10=>qchb 76 [sV r11] w10 λr14 w13=>qak 78 [sV b_0] w13 λr17 w16=>qsc.j2 r14 r17 Q w16
def qsc(b_0:Sl)(effort_1:Int)(Q:VWP)(w:World):Prop:=br (decide ((b_0.len:Int)>262144)) (Q (.slice none 0 0) w) (qsc.j1 b_0 effort_1 Q w)
theorem qsc.ok(b_0:Sl)(effort_1:Int)(Q:VWP)(w:World)(h:qsc b_0 effort_1 Q w):Calls prog 63 ⟨[sV b_0,.int .i64 effort_1]⟩ w (Ret Q):=
 qhc [.tmp 4] qde Tryz.func63 rfl rfl rfl rfl (.pr 1 [sL 0,sI 1] (λa b w=>qsc.j1 a b Q w) (.pr 1 [sP 5,sL 6] (λa b w=>qsc.j2 a b Q w) (.sq [sL 6] (λa w=>qsc.j3 a Q w) (.sq [sP 5,sL 6,sL 19,sI 20,sI 21] (λa b c d e w=>qsc.j4 a b c d e Q w) .lf (.bk (.lo [sP 5,sL 19,sI 20] [sL 6,sI 21] (λa b c d e w=>qsc.l1 a b c d e Q w) (λnx1 a b c d e w=>qsc.b1 a b c d e Q nx1 w) λnx1=> .lf))) .lf))) (by kernel_rfl) h
def qql(b_0:Sl)(effort_1:Int)(Q:VWP)(w:World):Prop:=br (decide ((b_0.len:Int)>262144)) (Q (.slice none 0 0) w) (nw w ⟨[.int .u8 120,.int .u8 156]⟩ 5 λa1 w2=>qak 63 [sV b_0,.int .i64 effort_1] w2 λr5 w4=>rdO w4 r5.a (r5.len*1) λc6=>apK prog 5 w4 (some a1) 2 2 r5.len c6 λs7 w8=>qlj 64 [sV b_0] w8 λr11 w10=>lt (i64.wrap r11) λx12=>qak 16 [sV s7,.int .i64 x12] w10 λr15 w14=>Q (sV r15) w14)
theorem qql.ok(b_0:Sl)(effort_1:Int)(Q:VWP)(w:World)(h:qql b_0 effort_1 Q w):Calls prog 41 ⟨[sV b_0,.int .i64 effort_1]⟩ w (Ret Q):=
 qhc [.tmp 4] qde Tryz.func41 rfl rfl rfl rfl .lf (by kernel_rfl) h
def qkk(z_0:Sl)(most_1:Int)(Q:VWP)(w:World):Prop:=br (decide ((z_0.len:Int)<2)) (Q (.tuple ⟨[.slice none 0 0,.int .i64 0,.int .i64 3]⟩) w) (lt (World.drew w) λw1=>ixS z_0.a z_0.len 0 1 λa2=>ldI .u8 w1 a2 λx3=>lt (qdj .u8 x3 15) λx4=>br (x4 !=8) (Q (.tuple ⟨[.slice none 0 0,.int .i64 0,.int .i64 2]⟩) w1) (ixS z_0.a z_0.len 0 1 λa5=>ldI .u8 w1 a5 λx6=>(0:Int)<=4/\lt (qal .u8 x6 4) λx7=>br (decide (x7>7)) (Q (.tuple ⟨[.slice none 0 0,.int .i64 0,.int .i64 2]⟩) w1) (ixS z_0.a z_0.len 0 1 λa8=>ldI .u8 w1 a8 λx9=>lt (i64.wrap x9) λx10=>(0:Int)<=8/\lt (qzi .i64 x10 8) λx11=>ixS z_0.a z_0.len 1 1 λa12=>ldI .u8 w1 a12 λx13=>lt (i64.wrap x13) λx14=>lt (orV .i64 x11 x14) λx15=>(31:Int)≠0/\lt (tmod x15 31) λx16=>br (x16 !=0) (Q (.tuple ⟨[.slice none 0 0,.int .i64 0,.int .i64 2]⟩) w1) (ixS z_0.a z_0.len 1 1 λa17=>ldI .u8 w1 a17 λx18=>lt (qdj .u8 x18 32) λx19=>br (x19 !=0) (Q (.tuple ⟨[.slice none 0 0,.int .i64 0,.int .i64 2]⟩) w1) (bd 2 z_0.len λn20=>lt (⟨qnf z_0.a z_0.cap n20 1,z_0.len-n20,z_0.cap-n20⟩:Sl) λs21=>qqab 115 [sV s21,.int .i64 most_1] w1 λr24 r25 r26 w23=>br (r26 !=0) (Q (.tuple ⟨[.slice none 0 0,.int .i64 0,.int .i64 r26]⟩) w23) (lt (i64.wrap (2+r25)) λx27=>bd x27 z_0.len λn28=>lt (⟨qnf z_0.a z_0.cap n28 1,z_0.len-n28,z_0.cap-n28⟩:Sl) λs29=>qchb 53 [sV s29] w23 λr32 w31=>qbk 55 [.pointer r32] w31 λr35 w34=>qbk 116 [.pointer r32] w34 λr38 w37=>br (r38 !=0) (Q (.tuple ⟨[.slice none 0 0,.int .i64 0,.int .i64 3]⟩) w37) (lt (u32.wrap r35) λx39=>qlj 64 [sV r24] w37 λr42 w41=>br (x39 !=r42) (Q (.tuple ⟨[.slice none 0 0,.int .i64 0,.int .i64 4]⟩) w41) (lt (i64.wrap (2+r25)) λx43=>lt (i64.wrap (x43+4)) λx44=>Q (.tuple ⟨[sV r24,.int .i64 x44,.int .i64 0]⟩) w41))))))))
theorem qkk.ok(z_0:Sl)(most_1:Int)(Q:VWP)(w:World)(h:qkk z_0 most_1 Q w):Calls prog 88 ⟨[sV z_0,.int .i64 most_1]⟩ w (Ret Q):=
 qhc [.tmp 4,.tmp 5,.tmp 6] qde Tryz.func88 rfl rfl rfl rfl .lf (by kernel_rfl) h
end
section
attribute [local irreducible] apK cpK mkK br
def adS(p:Int×Int)(b:Int):Int×Int:=((p.1+b)%65521,(p.2+(p.1+b)%65521)%65521)
def adP(xs:List Int):Int×Int:=xs.foldl adS (1,0)
def adV(xs:List Int):Int:=(adP xs).2*65536+(adP xs).1
theorem qlr(xs:List Int)(x:Int):adP (xs++[x])=adS (adP xs) x:=by simp[adP]
theorem qipb:∀xs:List Int,0<=(adP xs).1/\(adP xs).1<65521/\0<=(adP xs).2/\(adP xs).2<65521:=by
 refine qnn ?_ ?_
 ·simp[adP]
 ·intro xs x ih;rw[qlr];unfold adS;simp only
  omega
theorem adV_b(xs:List Int):0<=adV xs/\adV xs<4294967296:=by
 have:=qipb xs;unfold adV;omega
theorem qrqb(xs:List Int):orV .u32 (qzi .u32 (adP xs).2 16) (adP xs).1=adV xs:=by
 have hb:=qipb xs;unfold adV;obtain⟨x,hx⟩:∃x:Nat,(adP xs).1=x:=⟨(adP xs).1.toNat,by omega⟩;obtain⟨y,hy⟩:∃y:Nat,(adP xs).2=y:=⟨(adP xs).2.toNat,by omega⟩;rw[hx,hy]at hb|-
 have h1:=qgib (k:= .u32) rfl (x:=y) (t:=16) (by decide) (by show y*65536<4294967296;omega);have e16:(2:Int)^16=65536:=by decide
 rw[e16]at h1;rw[show((16:Nat):Int)=16 from rfl]at h1;rw[h1];have h2:=qxs (k:= .u32) rfl (a:=x) (b:=y) (t:=16) (by show x<65536;omega) (by show x+y*65536<4294967296;omega);rw[e16]at h2;have hc:orV .u32 ((y:Int)*65536) (x:Int)=orV .u32 (x:Int) ((y:Int)*65536):=by
  unfold orV;rw[BitVec.or_comm]
 rw[hc,h2];omega
section
variable {F0:List Nat}{w0 w:World}{ps rest:List As}{s:Sl}{xs:List Int}
theorem qsl.c{K:Ending->World->Prop}(h:St F0 w0 w ps)[Rdb F0 w0 s ps 1 (u8s xs)](hx:∀x∈xs,0<=x/\x<256)(hL:xs.length<=1000000000)
 (hk:∀w',St F0 w0 w' ps->K (.returned (.int .u32 (adV xs))) w'):Calls prog 64 ⟨[.slice s.a s.len s.cap]⟩ w K:=by
 have hl:=(h.rdb s).1
 rw[qk]at hl
 refine qdc (qsl.ok _ _ _ ?_)
 unfold qsl
 refine qdc (qdd.ok _ _ _ _ ?_)
 unfold qdd
 refine qm (show _=(1:Int)by decide) ⟨by decide,qm (show _=(0:Int)by decide) ?_⟩
 unfold qdd.j1 qdd.j3
 refine loop3 (λ(i:Nat) (x y i':Int) w'=>i'=i/\i<=xs.length/\x=(adP (xs.take i)).1/\y=(adP (xs.take i)).2/\St F0 w0 w' ps) (λi=>xs.length-i) 0 ⟨rfl,by omega,rfl,rfl,h⟩ ?_
 clear h
 rintro i x y i' wL I μ ⟨rfl,hi,rfl,rfl,h⟩ hin
 have hb:=qipb (xs.take i)
 unfold qdd.b1
 refine quc (λg=>?_) (λg=>?_)
 ·have hix:i<xs.length:=by omega
  have hxi:=hx _ (qme hix)
  refine h.lx (s:=s) i rfl hix ?_
  refine qm (show u32.wrap (xs.getD i 0)=xs.getD i 0 by rw[qtg];omega) ?_
  refine qm (show u32.wrap _=(adP (xs.take i)).1+xs.getD i 0 by rw[qtg];omega) ⟨by decide,?_⟩
  refine qm (qzk (by omega)) ?_
  refine qm (show u32.wrap _=(adP (xs.take i)).2+((adP (xs.take i)).1+xs.getD i 0)%65521 by rw[qtg];omega) ⟨by decide,?_⟩
  refine qm (qzk (by omega)) ?_
  refine qm (qd (by omega) (by omega)) ?_
  refine⟨⟨rfl,rfl⟩,hin (i+1) _ _ _ _ ⟨by omega,by omega,?_,?_,h⟩ (by omega)⟩
  ·rw[qpj hix,qlr];rfl
  ·rw[qpj hix,qlr];rfl
 ·have:i=xs.length:=by omega
  subst this
  rw[List.take_length]
  unfold qdd.j2
  refine⟨by decide,qbe (qm (qrqb xs) ⟨_,rfl,hk wL h⟩)⟩
theorem qoh.c{K:Ending->World->Prop}(h:St F0 w0 w ps)[Rdb F0 w0 s ps 1 (u8s xs)](hx:∀x∈xs,0<=x/\x<256)(hL:xs.length<=1000000000)
 (hk:∀w',St F0 w0 w' ps->K (.returned (.int .u32 (adV xs))) w'):Calls prog 66 ⟨[.slice s.a s.len s.cap]⟩ w K:=by
 have hl:=(h.rdb s).1
 rw[qk]at hl
 refine qdc (qoh.ok _ _ _ ?_)
 unfold qoh
 refine qdc (qpb.ok _ _ _ _ ?_)
 unfold qpb qpb.j1
 refine qm (show _=(1:Int)by decide) ⟨by decide,qm (show _=(0:Int)by decide) ?_⟩
 unfold qpb.j2 qpb.j4
 refine loop3 (λ(i:Nat) (x y i':Int) w'=>i'=i/\i<=xs.length/\x=(adP (xs.take i)).1/\y=(adP (xs.take i)).2/\St F0 w0 w' ps) (λi=>xs.length-i) 0 ⟨rfl,by omega,rfl,rfl,h⟩ ?_
 clear h
 rintro i x y i' wL I μ ⟨rfl,hi,rfl,rfl,h⟩ hin
 have hb:=qipb (xs.take i)
 unfold qpb.b1
 refine quc (λg=>?_) (λg=>?_)
 ·have hix:i<xs.length:=by omega
  have hxi:=hx _ (qme hix)
  refine h.lx (s:=s) i rfl hix ?_
  refine qm (show u32.wrap (xs.getD i 0)=xs.getD i 0 by rw[qtg];omega) ?_
  refine qm (show u32.wrap _=(adP (xs.take i)).1+xs.getD i 0 by rw[qtg];omega) ⟨by decide,?_⟩
  refine qm (qzk (by omega)) ?_
  refine qm (show u32.wrap _=(adP (xs.take i)).2+((adP (xs.take i)).1+xs.getD i 0)%65521 by rw[qtg];omega) ⟨by decide,?_⟩
  refine qm (qzk (by omega)) ?_
  refine qm (qd (by omega) (by omega)) ?_
  refine⟨rfl,hin (i+1) _ _ _ _ ⟨by omega,by omega,?_,?_,h⟩ (by omega)⟩
  ·rw[qpj hix,qlr];rfl
  ·rw[qpj hix,qlr];rfl
 ·have:i=xs.length:=by omega
  subst this
  rw[List.take_length]
  unfold qpb.j3
  refine⟨by decide,qbe (qm (qrqb xs) ⟨_,rfl,hk wL h⟩)⟩
end
def allZ(z:Z):Prop:=∀x∈z.2.1,0<=x/\x<256
section
variable {B:List Bool}{most:Int}{z:Z}
theorem qht{b:Int}(hb:0<=b/\b<256)(h:allZ z):allZ (zput most b z):=by
 unfold zput;split
 ·exact h
 ·split
  ·exact h
  ·intro x hx;rcases List.mem_append.1 hx with hx|hx
   ·exact h x hx
   ·rw[List.mem_singleton]at hx;subst hx;exact hb
theorem qum{z':Z}(e:z'.2.1=z.2.1)(h:allZ z):allZ z':=λx hx=>h x (by rw[<-e];exact hx)
theorem qkmb(d:Int):∀(n:Nat) (z:Z),allZ z->allZ (zcp most d n z):=by
 intro n;induction n with
 |zero=>intro z h;exact h
 |succ n ih=>
  intro z h;rw[zcp];split
  ·exact h
  ·refine ih _ (qht ?_ h);rcases Nat.lt_or_ge (z.2.1.length-d.toNat) z.2.1.length with h1|h1
   ·exact h _ (qme h1)
   ·rw[getD,List.getElem?_eq_none h1];decide
theorem qhz(dl:List Int)(v:Int)(h:allZ z):allZ (qli dl B most v z):=by
 unfold qli;simp only
 refine qkmb _ _ _ ?_;have e:(qff B (qik (qyl dl B (qff B (qdl v).2.1 (zok (qdl v).2.2 z)).2).1).2.1 (zok (qik (qyl dl B (qff B (qdl v).2.1 (zok (qdl v).2.2 z)).2).1).2.2 (qyl dl B (qff B (qdl v).2.1 (zok (qdl v).2.2 z)).2).2)).2.2.1=z.2.1:=by
  rw[qrd,qln,qwi,qrd,qln]
 split
 ·exact qum (z:=z) e h
 ·exact qum (z:=z) e h
theorem qjbb{ll dl:List Int}:∀(f:Nat) (z:Z),allZ z->allZ (qcg ll dl B most f z):=by
 intro f;induction f with
 |zero=>intro z h;exact h
 |succ f ih=>
  intro z h;rw[qcg];split
  ·exact h
  ·simp only
   have hs:allZ (qyl ll B z).2:=qum (qwi ll) h;have hn:=qgbb (B:=B) (z:=z) ll;generalize qyl ll B z=s at hs hn|-
   split
   ·exact hs
   ·split
    ·rename_i h2;exact ih _ (qht ⟨hn,h2⟩ hs)
    ·exact ih _ (qhz dl s.1 hs)
theorem qemb:∀(n:Nat) (z:Z),allZ z->allZ (zst B most n z):=by
 intro n;induction n with
 |zero=>intro z h;exact h
 |succ n ih=>
  intro z h;rw[zst];have hl:=qyk (B:=B) (z:=z) 8;rw[show((2:Int)^(8:Int).toNat)=256 by decide]at hl;exact ih _ (qht hl (qum (qrd 8) h))
theorem qgz{ll dl:List Int}(h:allZ z):allZ (zblk ll dl B most z):=by
 unfold zblk;simp only
 have e1:allZ (qwh dl (qwh ll (if z.2.2=0/\ll.getD 256 0=0 then qtd 2 z else z))):=by
  refine qum (z:=z) ?_ h;rw[quq,quq];split<;>rfl
 generalize qwh dl (qwh ll (if z.2.2=0/\ll.getD 256 0=0 then qtd 2 z else z))=z3 at e1|-
 split
 ·exact e1
 ·exact qjbb _ _ e1
theorem qlo(h:allZ z):allZ (qyd B most z).2:=by
 unfold qyd;simp only
 have h1:allZ (qff B 1 z).2:=qum (qrd 1) h;generalize qff B 1 z=a at h1|-
 have h2:allZ (qff B 2 a.2).2:=qum (qrd 2) h1;generalize qff B 2 a.2=k at h2|-
 split
 ·exact h2
 ·split
  ·unfold qck;simp only
   have h3:allZ (qff B 16 (8*((k.2.1+7)/8),k.2.2.1,k.2.2.2)).2:=qum (z:=k.2) (qrd 16) h2;generalize qff B 16 (8*((k.2.1+7)/8),k.2.2.1,k.2.2.2)=g at h3|-
   have h4:allZ (qff B 16 g.2).2:=qum (qrd 16) h3;generalize qff B 16 g.2=g2 at h4|-
   split
   ·exact h4
   ·split
    ·exact h4
    ·split
     ·exact h4
     ·exact qemb _ _ h4
  ·split
   ·exact qgz h2
   ·split
    ·have h5:allZ (qoj B k.2).2:=qum qrq h2;generalize qoj B k.2=q at h5|-
     split
     ·exact h5
     ·exact qgz h5
    ·exact h2
theorem ZAll.allZ{n:Nat}{z z':Z}(h:ZAll B most n z z')(hz:Go.Proofs.YtdccpphmkfaioaaGreat.allZ z):Go.Proofs.YtdccpphmkfaioaaGreat.allZ z':=by
 induction h with
 |bad he=>exact qlo hz
 |last he hl=>exact qlo hz
 |next he hl hr ih=>exact ih (qlo hz)
end
theorem qcz{V N:Nat}{most:Int}{z':Z}(h:zinf V N most z'):allZ z':=by
 obtain⟨n,h⟩:=h;exact h.allZ (λx hx=>by cases hx)
theorem qldb{V N:Nat}{most:Int}{z':Z}(h:zinf V N most z')(hm:most<=1000000):z'.2.1.length<=1000000:=by
 obtain⟨n,h⟩:=h;exact h.out hm (by simp)
theorem qlpb{V N:Nat}{most:Int}{z':Z}(h:zinf V N most z'):z'.1<=8*N:=by
 obtain⟨n,h⟩:=h;have hB:(ql (V:Int) (8*N)).length=8*N:=qq _ _;have:∀{n:Nat} {z z':Z},ZAll (ql (V:Int) (8*N)) most n z z'->z.1<=8*N->z'.1<=8*N:=by
  intro n z z' h;induction h with
  |bad he=>intro hz;have:=(qko (most:=most) hB (by rw[hB];exact hz)).2.1;omega
  |last he hl=>intro hz;have:=(qko (most:=most) hB (by rw[hB];exact hz)).2.1;omega
  |next he hl hr ih=>intro hz;have:=(qko (most:=most) hB (by rw[hB];exact hz)).2.1;exact ih (by omega)
 exact this h (zero_le _)
def hdBad(a b:Int):Prop:=qdj .u8 a 15≠8\/7<qal .u8 a 4\/tmod (orV .i64 (qzi .i64 a 8) b) 31≠0\/qdj .u8 b 32≠0
instance (a b:Int):Decidable (hdBad a b):=inferInstanceAs (Decidable (_\/_))
def unpR(xs:List Int)(z':Z):List Int×Int×Int:=
 if z'.2.2≠0 then([],0,z'.2.2)else if xs.length<2+(z'.1+7)/8+4 then([],0,3)
 else if be ((xs.drop (2+(z'.1+7)/8)).take 4)≠adV z'.2.1 then([],0,4)else(z'.2.1,((2+(z'.1+7)/8+4:Nat):Int),0)
def Unp(xs:List Int)(most:Int)(r:List Int×Int×Int):Prop:=
 if xs.length<2 then r=([],0,3)else if hdBad (xs.getD 0 0) (xs.getD 1 0)then r=([],0,2)else if most<0\/262144<most then r=([],0,1)
 else ∃V z',xs.drop 2=byt V (xs.length-2)/\zinf V (xs.length-2) most z'/\r=unpR xs z'
section
variable {F0:List Nat}{w0 w:World}{ps rest:List As}{s:Sl}{xs:List Int}{most:Int}{r:List Int×Int×Int}
theorem qkk.c{K:Ending->World->Prop}(h:St F0 w0 w ps)[Rdb F0 w0 s ps 1 (u8s xs)](hx:∀x∈xs,0<=x/\x<256)(hL:xs.length<=1000000)(hc:s.len<=s.cap)(hr:Unp xs most r)
 (hk:∀t w',t.len=r.1.length->(∀x∈r.1,0<=x/\x<256)->St F0 w0 w' (rdA 1 t (u8s r.1)::ps)->K (.returned (.tuple ⟨[.slice t.a t.len t.cap,.int .i64 r.2.1,.int .i64 r.2.2]⟩)) w'):Calls prog 88 ⟨[.slice s.a s.len s.cap,.int .i64 most]⟩ w K:=by
 have hl:=(h.rdb s).1
 rw[qk]at hl
 refine qdc (qkk.ok _ _ _ _ ?_)
 unfold qkk
 have no:∀w (e:Int),St F0 w0 w ps->r=([],0,e)->K (.returned (.tuple ⟨[.slice none 0 0,.int .i64 0,.int .i64 e]⟩)) w:=by
  intro w e h er;subst er;exact hk ⟨none,0,0⟩ w rfl (λx hx=>by cases hx) (h.nil 1).ro
 unfold Unp at hr
 refine quc (λg=>?_) (λg=>?_)
 ·rw[if_pos (by omega)]at hr
  exact no w 3 h hr
 rw[if_neg (by omega)]at hr
 have b0:=hx _ (qme (xs:=xs) (i:=0) (by omega))
 have b1:=hx _ (qme (xs:=xs) (i:=1) (by omega))
 have bad:∀w,St F0 w0 w ps->hdBad (xs.getD 0 0) (xs.getD 1 0)->K (.returned (.tuple ⟨[.slice none 0 0,.int .i64 0,.int .i64 2]⟩)) w:=by
  intro w h hb;rw[if_pos hb]at hr;exact no w 2 h hr
 refine h.drewK λw h=>?_
 refine h.lx (s:=s) 0 rfl (by omega) (qbe ?_)
 refine qye (λg1=>bad w h (Or.inl (by simpa using g1))) (λg1=>?_)
 refine h.lx (s:=s) 0 rfl (by omega) ⟨by decide,qbe ?_⟩
 refine quc (λg2=>bad w h (Or.inr (Or.inl g2))) (λg2=>?_)
 refine h.lx (s:=s) 0 rfl (by omega) (qm (qd (by omega) (by omega)) ⟨by decide,qbe ?_⟩)
 refine h.lx (s:=s) 1 rfl (by omega) (qm (qd (by omega) (by omega)) (qbe ⟨by decide,qbe ?_⟩))
 refine qye (λg3=>bad w h (Or.inr (Or.inr (Or.inl (by simpa using g3))))) (λg3=>?_)
 refine h.lx (s:=s) 1 rfl (by omega) (qbe ?_)
 refine qye (λg4=>bad w h (Or.inr (Or.inr (Or.inr (by simpa using g4))))) (λg4=>?_)
 rw[if_neg (λe=>by
  rcases e with e|e|e|e
  ·exact e (by simpa using g1)
  ·exact g2 e
  ·exact e (by simpa using g3)
  ·exact e (by simpa using g4))]at hr
 refine qkn (n:=2) rfl (by omega) (qbe ?_)
 have hm:0<=most->¬262144<most->St F0 w0 w ps->True:=λ_ _ _=>trivial
 by_cases hmo:most<0\/262144<most
 ·rw[if_pos hmo]at hr
  refine qdc (qxb.ok _ _ _ _ ?_)
  unfold qxb
  refine quc (λg=>⟨⟨none,0,0⟩,_,_,rfl,qjh rfl (no w 1 h hr)⟩) (λg=>?_)
  refine quc (λg=>⟨⟨none,0,0⟩,_,_,rfl,qjh rfl (no w 1 h hr)⟩) (λg=>by omega)
 rw[if_neg hmo]at hr
 obtain⟨V,z',hV,hz,hr⟩:=hr
 haveI:=h.cutR s 2 s.len (s.cap-2) (ys:=xs.drop 2) (by omega) (by omega) hc (by rw[take_of_length_le (by rw[length_drop];omega)])
 rw[hV]at this
 have hzp:=qlpb hz
 have hzl:=qldb hz (by omega)
 have hzb:=qcz hz
 refine qxb.a (s:=⟨qnf s.a s.cap 2 1,s.len-2,s.cap-2⟩) (V:=V) (N:=xs.length-2) h (by omega) (by omega) (by omega) hz (λt w e0 ht h=>⟨t,_,_,rfl,qze rfl ?_⟩) (λw e0 h=>⟨⟨none,0,0⟩,_,_,rfl,qjh (by simpa using e0) ?_⟩)
 rotate_left
 ·refine no w _ h ?_
  rw[hr]
  unfold unpR
  rw[if_pos e0]
 unfold unpR at hr
 rw[if_neg (λe=>e e0)]at hr
 refine qm (qd (by omega) (by omega)) ?_
 refine qkn (n:=2+(z'.1+7)/8) (by omega) (by omega) (qbe ?_)
 have hdl:(xs.drop (2+(z'.1+7)/8)).length=xs.length-(2+(z'.1+7)/8):=length_drop
 have hdb:qxl (xs.drop (2+(z'.1+7)/8)):=λx hx'=>hx x (List.mem_of_mem_drop hx')
 haveI:=h.cutR s (2+(z'.1+7)/8) s.len (s.cap-(2+(z'.1+7)/8)) (ys:=xs.drop (2+(z'.1+7)/8)) (by omega) (by omega) hc (by rw[take_of_length_le (by omega)])
 refine qpq.c (s:=⟨qnf s.a s.cap (2+(z'.1+7)/8) 1,s.len-(2+(z'.1+7)/8),s.cap-(2+(z'.1+7)/8)⟩) h hdb (by omega) λnb w h=>⟨_,rfl,?_⟩
 refine qjg.c (rb:=nb) h hdb λw h=>⟨_,rfl,?_⟩
 refine qji.c (rb:=nb) h ⟨_,rfl,?_⟩
 have ht4:((xs.drop (2+(z'.1+7)/8)).take 4).length<=4:=by rw[length_take];omega
 have hbe:=qulb (n:=4) (l:=(xs.drop (2+(z'.1+7)/8)).take 4) (λx hx'=>hdb x (List.mem_of_mem_take hx')) ht4
 rw[show((2:Int)^(8*4))=4294967296 by decide]at hbe
 by_cases h4:xs.length<2+(z'.1+7)/8+4
 ·rw[if_pos h4]at hr
  have e:nuS (xs.drop (2+(z'.1+7)/8)) 0 0 4=(0,0,3):=by
   have et:tkS (xs.drop (2+(z'.1+7)/8)) 0 0 ((4:Nat):Int)=([],0,3):=by
    unfold tkS;rw[if_neg (λe=>by have:=e.2.2;omega)];rfl
   unfold nuS;rw[et];rfl
  rw[e]
  refine qjh rfl ?_
  exact no w 3 h.drop.drop hr
 ·rw[if_neg h4]at hr
  have e:nuS (xs.drop (2+(z'.1+7)/8)) 0 0 4=(be ((xs.drop (2+(z'.1+7)/8)).take 4),4,0):=by
   have et:tkS (xs.drop (2+(z'.1+7)/8)) 0 0 ((4:Nat):Int)=((xs.drop (2+(z'.1+7)/8)).take 4,4,0):=by
    unfold tkS;rw[if_pos ⟨rfl,by decide,by omega⟩];rfl
   unfold nuS;rw[et];simp only
   rw[if_neg (by omega)]
  rw[e]
  refine qze rfl ?_
  simp only
  refine qm (show u32.wrap _=be ((xs.drop (2+(z'.1+7)/8)).take 4)by rw[qtg];omega) ?_
  refine qsl.c (s:=t) h hzb (by omega) λw h=>⟨_,rfl,?_⟩
  refine qye (λg=>?_) (λg=>?_)
  ·rw[if_pos (by simpa using g)]at hr
   exact no w 4 h.drop.drop hr
  ·rw[if_neg (by simpa using g)]at hr
   refine qm (qd (by omega) (by omega)) ?_
   refine qm (qd (by omega) (by omega)) ?_
   subst hr
   have:=hk t w ht hzb h.drop
   simp only at this
   rw[show 2+(((z'.1+7)/8:Nat):Int)+4=((2+(z'.1+7)/8+4:Nat):Int)by omega]
   exact this
theorem qyg.c{K:Ending->World->Prop}(h:St F0 w0 w ps)[Rdb F0 w0 s ps 1 (u8s xs)](hx:∀x∈xs,0<=x/\x<256)(hL:xs.length<=1000000)(hc:s.len<=s.cap)(hr:Unp xs most r)
 (hk:∀t w',t.len=r.1.length->(∀x∈r.1,0<=x/\x<256)->St F0 w0 w' (rdA 1 t (u8s r.1)::ps)->K (.returned (.tuple ⟨[.slice t.a t.len t.cap,.int .i64 r.2.1,.int .i64 r.2.2]⟩)) w'):Calls prog 51 ⟨[.slice s.a s.len s.cap,.int .i64 most]⟩ w K:=by
 have hl:=(h.rdb s).1
 rw[qk]at hl
 refine qdc (qyg.ok _ _ _ _ ?_)
 unfold qyg
 have no:∀w (e:Int),St F0 w0 w ps->r=([],0,e)->K (.returned (.tuple ⟨[.slice none 0 0,.int .i64 0,.int .i64 e]⟩)) w:=by
  intro w e h er;subst er;exact hk ⟨none,0,0⟩ w rfl (λx hx=>by cases hx) (h.nil 1).ro
 unfold Unp at hr
 refine quc (λg=>?_) (λg=>?_)
 ·rw[if_pos (by omega)]at hr
  exact no w 3 h hr
 rw[if_neg (by omega)]at hr
 have b0:=hx _ (qme (xs:=xs) (i:=0) (by omega))
 have b1:=hx _ (qme (xs:=xs) (i:=1) (by omega))
 have bad:∀w,St F0 w0 w ps->hdBad (xs.getD 0 0) (xs.getD 1 0)->K (.returned (.tuple ⟨[.slice none 0 0,.int .i64 0,.int .i64 2]⟩)) w:=by
  intro w h hb;rw[if_pos hb]at hr;exact no w 2 h hr
 refine h.drewK λw h=>?_
 refine h.lx (s:=s) 0 rfl (by omega) (qbe ?_)
 refine qye (λg1=>bad w h (Or.inl (by simpa using g1))) (λg1=>?_)
 refine h.lx (s:=s) 0 rfl (by omega) ⟨by decide,qbe ?_⟩
 refine quc (λg2=>bad w h (Or.inr (Or.inl g2))) (λg2=>?_)
 refine h.lx (s:=s) 0 rfl (by omega) (qm (qd (by omega) (by omega)) ⟨by decide,qbe ?_⟩)
 refine h.lx (s:=s) 1 rfl (by omega) (qm (qd (by omega) (by omega)) (qbe ⟨by decide,qbe ?_⟩))
 refine qye (λg3=>bad w h (Or.inr (Or.inr (Or.inl (by simpa using g3))))) (λg3=>?_)
 refine h.lx (s:=s) 1 rfl (by omega) (qbe ?_)
 refine qye (λg4=>bad w h (Or.inr (Or.inr (Or.inr (by simpa using g4))))) (λg4=>?_)
 rw[if_neg (λe=>by
  rcases e with e|e|e|e
  ·exact e (by simpa using g1)
  ·exact g2 e
  ·exact e (by simpa using g3)
  ·exact e (by simpa using g4))]at hr
 refine qkn (n:=2) rfl (by omega) (qbe ?_)
 by_cases hmo:most<0\/262144<most
 ·rw[if_pos hmo]at hr
  refine qdc (qub.ok _ _ _ _ ?_)
  unfold qub qub.j1
  refine quc (λg=>⟨⟨none,0,0⟩,_,_,rfl,qjh rfl (no w 1 h hr)⟩) (λg=>?_)
  refine quc (λg=>⟨⟨none,0,0⟩,_,_,rfl,qjh rfl (no w 1 h hr)⟩) (λg=>by omega)
 rw[if_neg hmo]at hr
 obtain⟨V,z',hV,hz,hr⟩:=hr
 haveI:=h.cutR s 2 s.len (s.cap-2) (ys:=xs.drop 2) (by omega) (by omega) hc (by rw[take_of_length_le (by rw[length_drop];omega)])
 rw[hV]at this
 have hzp:=qlpb hz
 have hzl:=qldb hz (by omega)
 have hzb:=qcz hz
 refine qub.c (s:=⟨qnf s.a s.cap 2 1,s.len-2,s.cap-2⟩) (V:=V) (N:=xs.length-2) h (by omega) (by omega) (by omega) hz (λt w e0 ht _ h=>⟨t,_,_,rfl,qze rfl ?_⟩) (λw e0 h=>⟨⟨none,0,0⟩,_,_,rfl,qjh (by simpa using e0) ?_⟩)
 rotate_left
 ·refine no w _ h ?_
  rw[hr]
  unfold unpR
  rw[if_pos e0]
 unfold unpR at hr
 rw[if_neg (λe=>e e0)]at hr
 refine qm (qd (by omega) (by omega)) ?_
 rw[show(((z'.1+7)/8:Nat):Int)+2=((2+(z'.1+7)/8:Nat):Int)by omega]
 generalize hn:2+(z'.1+7)/8=n at hr|-
 refine qm (qd (by omega) (by omega)) ?_
 refine quc (λg=>?_) (λg=>?_)
 ·rw[if_pos (by omega)]at hr
  exact no w 3 h.drop hr
 rw[if_neg (by omega)]at hr
 have hd:(xs.drop n).take 4=[xs.getD n 0,xs.getD (n+1) 0,xs.getD (n+2) 0,xs.getD (n+3) 0]:=by
  rw[quu (show n<xs.length by omega),quu (show n+1<xs.length by omega),quu (show n+1+1<xs.length by omega),quu (show n+1+1+1<xs.length by omega)];rfl
 rw[hd]at hr
 have c0:=hx _ (qme (xs:=xs) (i:=n) (by omega))
 have c1:=hx _ (qme (xs:=xs) (i:=n+1) (by omega))
 have c2:=hx _ (qme (xs:=xs) (i:=n+2) (by omega))
 have c3:=hx _ (qme (xs:=xs) (i:=n+3) (by omega))
 have wu:∀x:Int,0<=x/\x<256->u32.wrap x=x:=λx hx=>by rw[qtg];omega
 refine h.drewK λw h=>?_
 refine h.lx (s:=s) n rfl (by omega) (qm (wu _ c0) ⟨by decide,qbe ?_⟩)
 refine qm (qd (by omega) (by omega)) ?_
 refine h.lx (s:=s) (n+1) (by omega) (by omega) (qm (wu _ c1) ⟨by decide,qbe (qbe ?_)⟩)
 refine qm (qd (by omega) (by omega)) ?_
 refine h.lx (s:=s) (n+2) (by omega) (by omega) (qm (wu _ c2) ⟨by decide,qbe (qbe ?_)⟩)
 refine qm (qd (by omega) (by omega)) ?_
 refine h.lx (s:=s) (n+3) (by omega) (by omega) (qm (wu _ c3) (qm (qxhb c0 c1 c2 c3) ?_))
 refine qoh.c (s:=t) h hzb (by omega) λw h=>⟨_,rfl,?_⟩
 refine qye (λg=>?_) (λg=>?_)
 ·rw[if_pos (by simpa using g)]at hr
  exact no w 4 h.drop hr
 ·rw[if_neg (by simpa using g)]at hr
  refine qm (qd (by omega) (by omega)) ?_
  subst hr
  have:=hk t w ht hzb h
  simp only at this
  rw[show(n:Int)+4=((n+4:Nat):Int)by omega]
  exact this
end
end
section
attribute [local irreducible] apK cpK mkK br
section
variable {F0:List Nat}{w0 w:World}{ps rest:List As}{s:Sl}{xs:List Int}{K:Ending->World->Prop}
theorem qib.c(h:St F0 w0 w ps)[Rdb F0 w0 s ps 1 (u8s xs)](hx:qxl xs)(hL:xs.length<=1000000000)
 (hk:∀w',St F0 w0 w' ps->K (.returned (.tuple ⟨[.int .i64 (qjj 0 0 xs).1,.int .i64 (qjj 0 0 xs).2.1,.int .i64 (qjj 0 0 xs).2.2]⟩)) w'):
 Calls prog 50 ⟨[.slice s.a s.len s.cap]⟩ w K:=by
 refine qdc (qib.ok _ _ _ ?_)
 unfold qib qib.j1 qib.j3
 have hl:=(h.rdb s).1
 rw[qk]at hl
 refine qug (λ(i:Nat) (v i':Int) w'=>i'=i/\i<=xs.length/\i<=8/\0<=v/\(i=0->v=0)/\(0<i->v*128+384<=130*128^i)/\qjj i v (xs.drop i)=qjj 0 0 xs/\St F0 w0 w' ps) (λi=>xs.length-i) 0 ⟨rfl,by omega,by omega,by omega,λ_=>rfl,λg=>by omega,rfl,h⟩ ?_
 clear h
 rintro i v i' w I μ ⟨rfl,hi,hi9,hv0,hz,hv1,hd,h⟩ hin
 unfold qib.b1
 refine quc (λg=>?_) (λg=>?_)
 ·unfold qib.j4
  refine qye (λg2=>?_) (λg2=>?_)
  ·have:i=xs.length:=by have:(i:Int)=s.len:=by simpa using g2
                        omega
   subst this
   rw[List.drop_length,qjj,if_neg (by omega)]at hd
   rw[<-hd]at hk
   exact hk w h
  ·have hix:i<xs.length:=by have:¬(i:Int)=s.len:=by simpa using g2
                            omega
   have hc:=qkr hx hix
   have ed:xs.drop i=xs.getD i 0::xs.drop (i+1):=by
    rw[List.drop_eq_getElem_cons hix];simp[getD,List.getElem?_eq_getElem hix]
   rw[ed]at hd
   have hlx:∀(K:Int->Prop),K (xs.getD i 0)->ixS s.a s.len (i:Int) 1 λa=>ldI .u8 w a K:=λK hk=>h.lx i rfl hix hk
   generalize xs.getD i 0=c at hc hd hlx
   rw[qjj,if_neg (by omega)]at hd
   have hP:(128:Int)^i<=128^7:=by exact_mod_cast Nat.pow_le_pow_right (by decide) (show i<=7 by omega)
   rw[show(128:Int)^7=562949953421312 by decide]at hP
   have hP0:(0:Int)<128^i:=Int.pow_pos (by decide)
   have hP1:(128:Int)^(i+1)=128*128^i:=by rw[Int.pow_succ,Int.mul_comm]
   have end7:∀u:Int,0<=u->u<=1000000000000000->(if 0<i then(v+1)*128 else v)=u*128->(0<i->u=v+1)->qib.j6 s u (i:Int) (λv w'=>K (.returned v) w') (λb_0' v_5' i_6' w'=>(b_0'=s)/\I v_5' i_6' w'/\μ v_5' i_6' w'<μ v i w) w:=by
    intro u hu0 hu1 hu2 hu3;rw[hu2]at hd;obtain⟨u,rfl⟩:∃t:Nat,u=t:=⟨u.toNat,by omega⟩;obtain⟨m,hm⟩:∃m:Nat,c%128=m:=⟨(c%128).toNat,by omega⟩;rw[hm]at hd;unfold qib.j6;refine⟨by decide,?_⟩;have es:=qmj .i64 (x:=(u:Int)) (t:=7) (by decide) (by omega) (by rw[show(2:Int)^(i64.bits-1)=9223372036854775808 by decide,show(2:Int)^7=128 by decide];omega);rw[show(2:Int)^7=128 by decide]at es;refine qm es ?_;refine hlx _ ?_;refine qm (qpw (by decide) _) ?_;refine qm (qd (by omega) (by omega)) ?_;rw[hm];have eo:=qbr .i64 (a:=m) (b:=u) (t:=7) (by omega) (by show m+u*2^7<2^63;omega);rw[show(2:Int)^7=128 by decide]at eo;refine qm eo ?_;rw[Int.add_comm (m:Int)];refine hlx _ ?_;refine quc (λg3=>?_) (λg3=>?_)
    ·rw[if_pos g3]at hd;refine qm (qd (by omega) (by omega)) ?_;rw[<-hd]at hk;exact hk w h
    ·rw[if_neg g3]at hd;unfold qib.j5;refine qm (qd (by omega) (by omega)) ?_;refine⟨rfl,hin (i+1) _ _ _ ⟨by omega,by omega,by omega,by omega,by omega,λ_=>?_,hd,h⟩ (by omega)⟩;by_cases h0:0<i
     ·have h5:=hv1 h0;have h6:=hu3 h0;omega
     ·have h1:i=0:=by omega
      have h2:=hz h1;rw[if_neg h0]at hu2;subst h1;rw[hP1];simp only[Int.pow_zero]at hP|-
      omega
   refine quc (λg3=>?_) (λg3=>?_)
   ·have h0:0<i:=by omega
    have h5:=hv1 h0
    refine qm (qd (by omega) (by omega)) ?_
    exact end7 (v+1) (by omega) (by omega) (by rw[if_pos h0]) (λ_=>rfl)
   ·have h0:i=0:=by omega
    exact end7 v hv0 (by rw[hz h0];decide) (by rw[if_neg (by omega),hz h0];rfl) (λg=>by omega)
 ·have:i=8:=by omega
  subst this
  have e8:qjj 8 v (xs.drop 8)=(0,0,5):=by
   cases xs.drop 8 with
   |nil=>rfl
   |cons c r=>rfl
  rw[e8]at hd
  unfold qib.j2
  rw[<-hd]at hk
  exact hk w h
end
end
end Go.Proofs.YtdccpphmkfaioaaGreat
