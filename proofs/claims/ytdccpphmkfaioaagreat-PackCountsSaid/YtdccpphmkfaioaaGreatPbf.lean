/- Own texts as one, only what is reached (shake2.py). -/
import Derived.Test.YtdccpphmkfaioaaGreatPbe
import Derived.Test.YtdccpphmkfaioaaGreatProg
set_option linter.unusedSectionVars false
set_option linter.unusedVariables false
set_option linter.unusedSimpArgs false
namespace Go.Proofs.YtdccpphmkfaioaaGreat
open Go Go.Proofs
open Int (toNat)
open Go.IntKind (i64 u64)
open List (Pairwise Perm append_assoc append_nil cons_append drop_eq_getElem_cons drop_left' filter_cons getD getElem_mem length_append length_cons length_drop length_eq_zero_iff length_nil length_singleton length_take map_append map_congr_left map_cons mem_append mem_cons mem_cons_of_mem mem_cons_self mem_map mem_singleton nil_append pairwise_cons range replicate sum_cons take_append_drop take_left' take_length take_succ_cons)
open Nat (add_assoc add_mul add_zero le_refl lt_or_ge mul_assoc mul_comm one_mul pow_succ zero_le)
open Go.Proofs.Tryz (prog)
section
def ofG(tab:Int->Int×Int×Bool)(v:Int):Nat->Int->Int×Int×Int->Int×Int×Int
 |0,_,p=>p
 |f+1,k,p=>if(tab k).2.2=false\/v<(tab k).1 then p else ofG tab v f (k+1) (k,v-(tab k).1,(tab k).2.1)
def ofLen(v:Int):Int×Int×Int:=ofG qdl v 40 257 (0,0,0)
def ofDis(v:Int):Int×Int×Int:=ofG qik v 40 0 (0,0,0)
theorem qdjb{tab:Int->Int×Int×Bool}{Bs Xs:Nat->Int}{fr:Int}{m:Nat}{v:Int}(hrow:∀j:Nat,j<m->tab (fr+j)=(Bs j,Xs j,true))(hend:(tab (fr+m)).2.2=false)(h0:Bs 0<=v)(hm:0<m):
 ∀(f j:Nat) (p:Int×Int×Int),j<=m->m<f+j->(0<j->p=(fr+((j-1:Nat):Int),v-Bs (j-1),Xs (j-1))/\Bs (j-1)<=v)->
 ∃i,i<m/\ofG tab v f (fr+j) p=(fr+(i:Int),v-Bs i,Xs i)/\Bs i<=v/\(i+1=m\/v<Bs (i+1)):=by
 intro f
 induction f with
 |zero=>intro j p h1 h2;omega
 |succ f ih=>
  intro j p h1 h2 h3
  rw[ofG]
  by_cases hj:j=m
  ·subst hj
   rw[if_pos (Or.inl hend)]
   obtain⟨h4,h5⟩:=h3 hm
   exact⟨j-1,by omega,h4,h5,Or.inl (by omega)⟩
  ·have hr:=hrow j (by omega)
   rw[hr]
   simp only
   by_cases hv:v<Bs j
   ·rw[if_pos (Or.inr hv)]
    have hj0:0<j:=by
     rcases Nat.eq_zero_or_pos j with e|e
     ·subst e;omega
     ·exact e
    obtain⟨h4,h5⟩:=h3 hj0
    exact⟨j-1,by omega,h4,h5,Or.inr (by rw[show j-1+1=j by omega];exact hv)⟩
   ·rw[if_neg (by rintro(e|e);cases e;exact hv e)]
    have:=ih (j+1) (fr+(j:Int),v-Bs j,Xs j) (by omega) (by omega) (λ_=>⟨by simp,by simp;omega⟩)
    rw[show fr+((j+1:Nat):Int)=fr+(j:Int)+1 by omega]at this
    exact this
theorem qop{v:Int}(h1:3<=v)(h2:v<=258):symP v false (ofLen v).1 (ofLen v).2.1 (ofLen v).2.2:=by
 have ch:∀j:Nat,j<28->tLenB.getD (j+1) 0<=tLenB.getD j 0+2^(tLenX.getD j 0).toNat:=by decide
 have nn:∀j:Nat,j<29->0<=tLenX.getD j 0:=by decide
 obtain⟨i,hi,he,hb,hn⟩:=qdjb (tab:=qdl) (Bs:=λj=>tLenB.getD j 0) (Xs:=λj=>tLenX.getD j 0) (fr:=257) (m:=29) (v:=v) (λj hj=>by
  rw[qohb (by omega) (by omega),show(257+(j:Int)-257).toNat=j by omega]) (by decide) h1 (by decide) 40 0 (0,0,0) (by decide) (by decide) (λh=>by omega)
 have he:ofLen v=(257+(i:Int),v-tLenB.getD i 0,tLenX.getD i 0):=he;rw[he];refine Or.inr ⟨rfl,by simp only;omega,by simp only;omega,tLenB.getD i 0,?_,rfl,hb,?_,nn i hi⟩
 ·simp only
  rw[qohb (by omega) (by omega),show(257+(i:Int)-257).toNat=i by omega]
 ·show v<tLenB.getD i 0+2^(tLenX.getD i 0).toNat;rcases hn with hn|hn
  ·have:i=28:=by omega
   subst this
   have e:tLenB.getD 28 0+2^(tLenX.getD 28 0).toNat=259:=by decide
   omega
  ·have:=ch i (by
    rcases lt_or_ge i 28 with h|h
    ·exact h
    ·have:i=28:=by omega
     subst this
     have e:tLenB.getD (28+1) 0=0:=by decide
     omega)
   omega
theorem qcn{v:Int}(h1:1<=v)(h2:v<=32768):symP v true (ofDis v).1 (ofDis v).2.1 (ofDis v).2.2:=by
 have ch:∀j:Nat,j<29->tDisB.getD (j+1) 0<=tDisB.getD j 0+2^(tDisX.getD j 0).toNat:=by decide
 have nn:∀j:Nat,j<30->0<=tDisX.getD j 0:=by decide
 obtain⟨i,hi,he,hb,hn⟩:=qdjb (tab:=qik) (Bs:=λj=>tDisB.getD j 0) (Xs:=λj=>tDisX.getD j 0) (fr:=0) (m:=30) (v:=v) (λj hj=>by
  rw[qphb (by omega) (by omega),show(0+(j:Int)).toNat=j by omega]) (by decide) h1 (by decide) 40 0 (0,0,0) (by decide) (by decide) (λh=>by omega)
 have he:ofDis v=(0+(i:Int),v-tDisB.getD i 0,tDisX.getD i 0):=he;rw[he];refine Or.inl ⟨rfl,by simp only;omega,by simp only;omega,tDisB.getD i 0,?_,rfl,hb,?_,nn i hi⟩
 ·simp only
  rw[qphb (by omega) (by omega),show(0+(i:Int)).toNat=i by omega]
 ·show v<tDisB.getD i 0+2^(tDisX.getD i 0).toNat;rcases hn with hn|hn
  ·have:i=29:=by omega
   subst this
   have e:tDisB.getD 29 0+2^(tDisX.getD 29 0).toNat=32769:=by decide
   omega
  ·have:=ch i (by
    rcases lt_or_ge i 29 with h|h
    ·exact h
    ·have:i=29:=by omega
     subst this
     have e:tDisB.getD (29+1) 0=0:=by decide
     omega)
   omega
def okC(ls:List Int):Prop:=okL ls/\kr ls<=32768
def inC(ls:List Int)(s:Nat):Prop:=s<ls.length/\0<ls.getD s 0
inductive Gx(ll dl:List Int):List Bool->List Int->Prop
 |nil:Gx ll dl [] []
 |lit {bits:List Bool} {out:List Int} {b:Int} (h:Gx ll dl bits out) (h0:0<=b) (h1:b<256) (hl:inC ll b.toNat):Gx ll dl (bits++qhe ll b.toNat) (out++[b])
 |copy {bits:List Bool} {out:List Int} {n d s e x s2 e2 x2:Int} (h:Gx ll dl bits out) (h3:3<=n) (h258:n<=258) (hd:1<=d) (hdo:d<=out.length) (hs:symP n false s e x) (hs2:symP d true s2 e2 x2) (hl:inC ll s.toNat) (hdl:inC dl s2.toNat):
   Gx ll dl (bits++(qhe ll s.toNat++(ql e x.toNat++(qhe dl s2.toNat++ql e2 x2.toNat)))) (qxq d n.toNat out)
section
variable {B:List Bool}{most:Int}{ll dl:List Int}
theorem qwm{ls:List Int}{s:Nat}(h:inC ls s):1<=(qhe ls s).length:=by
 rw[qhm];have:=h.2;omega
theorem qio{ls:List Int}{p s:Nat}{r:List Bool}{out:List Int}(hc:okC ls)(hs:inC ls s)(h:B.drop p=qhe ls s++r):qyl ls B (p,out,0)=((s:Int),(p+(qhe ls s).length,out,0)):=
 qsqb hc.1 hc.2 hs.1 hs.2 h
theorem qpv{p:Nat}{r:List Bool}{out:List Int}{n d s e x s2 e2 x2:Int}(hc:okC dl)(hn:3<=n)(hs:symP n false s e x)(hs2:symP d true s2 e2 x2)(hi:inC dl s2.toNat)(hd:1<=d)(hp:p<=B.length)
 (h:B.drop p=ql e x.toNat++(qhe dl s2.toNat++(ql e2 x2.toNat++r))):
 qli dl B most s (p,out,0)=zcp most d n.toNat (if(out.length:Int)<d then qtd 2 (p+((ql e x.toNat).length+((qhe dl s2.toNat).length+(ql e2 x2.toNat).length)),out,0)else(p+((ql e x.toNat).length+((qhe dl s2.toNat).length+(ql e2 x2.toNat).length)),out,0)):=by
 rcases hs with⟨h1,_⟩|⟨_,hs0,hs1,b,hz,he,hb1,hb2,hx0⟩
 ·cases h1
 rcases hs2 with⟨_,hs20,hs21,b2,hz2,he2,hb3,hb4,hx20⟩|⟨h1,_⟩
 rotate_left
 ·cases h1
 have hx:=qkpb s
 have hx2:=qmpb s2
 rw[hz]at hx
 rw[hz2]at hx2
 simp only at hx hx2
 have l1:=qke h
 have h':=qae h
 have l2:=qke h'
 have h'':=qae h'
 have l3:=qke h''
 unfold qli
 simp only[hz]
 unfold zok
 simp only[if_true]
 rw[qdk h (by rw[qq];omega) (by rw[qq];omega) hp]
 simp only
 rw[qio hc hi h']
 simp only
 rw[show((s2.toNat:Nat):Int)=s2 by omega]
 simp only[hz2]
 simp only[if_true]
 rw[qdk h'' (by rw[qq];omega) (by rw[qq];omega) (by omega)]
 simp only
 rw[qci (by omega) (by omega),qci (by omega) (by omega),show b2+e2=d by omega,show b+e=n by omega]
 rw[show p+(ql e x.toNat).length+(qhe dl s2.toNat).length+(ql e2 x2.toNat).length=p+((ql e x.toNat).length+((qhe dl s2.toNat).length+(ql e2 x2.toNat).length))by omega]
theorem qkt{p:Nat}{r:List Bool}{out:List Int}{b:Int}(hc:okC ll)(hi:inC ll b.toNat)(h0:0<=b)(h1:b<256)(f:Nat)(h:B.drop p=qhe ll b.toNat++r):
 qcg ll dl B most (f+1) (p,out,0)=qcg ll dl B most f (zput most b (p+(qhe ll b.toNat).length,out,0)):=by
 rw[qcg,if_neg (by simp)]
 simp only
 rw[qio hc hi h]
 simp only
 rw[if_neg (by omega),if_pos (by omega),show((b.toNat:Nat):Int)=b by omega]
theorem qhs{p:Nat}{r:List Bool}{out:List Int}{s:Int}(hc:okC ll)(hi:inC ll s.toNat)(h0:257<=s)(h1:s<=285)(f:Nat)(h:B.drop p=qhe ll s.toNat++r):
 qcg ll dl B most (f+1) (p,out,0)=qcg ll dl B most f (qli dl B most s (p+(qhe ll s.toNat).length,out,0)):=by
 rw[qcg,if_neg (by simp)]
 simp only
 rw[qio hc hi h]
 simp only
 rw[if_neg (by omega),if_neg (by omega),show((s.toNat:Nat):Int)=s by omega]
theorem qkbb{p:Nat}{r:List Bool}{out:List Int}(hc:okC ll)(hi:inC ll 256)(f:Nat)(h:B.drop p=qhe ll 256++r):
 qcg ll dl B most (f+1) (p,out,0)=(p+(qhe ll 256).length,out,0):=by
 rw[qcg,if_neg (by simp)]
 simp only
 rw[qio hc hi h]
 simp only
 rw[if_pos (show(0:Int)≠0\/((256:Nat):Int)=256 from Or.inr rfl)]
theorem qlt(f:Nat){z:Z}(h:z.2.2≠0):qcg ll dl B most f z=z:=by
 cases f with
 |zero=>rfl
 |succ f=>rw[qcg,if_pos h]
theorem Gx.dec{bits:List Bool}{out:List Int}(hcl:okC ll)(hcd:okC dl)(h:Gx ll dl bits out):∀{p:Nat} {r:List Bool},p<=B.length->B.drop p=bits++r->(out.length:Int)<=most->
 ∃k,k<=bits.length/\∀f,qcg ll dl B most (f+k) (p,[],0)=qcg ll dl B most f (p+bits.length,out,0):=by
 induction h with
 |nil=>intro p r hp hd hm;exact⟨0,le_refl _,λf=>rfl⟩
 |@lit bits out b h h0 h1 hl ih=>
  intro p r hp hd hm
  rw[length_append,length_singleton]at hm
  rw[append_assoc]at hd
  obtain⟨k,hk,ih⟩:=ih hp hd (by omega)
  have hs:=qwm hl
  refine⟨k+1,by rw[length_append];omega,λf=>?_⟩
  rw[show f+(k+1)=(f+1)+k by omega,ih,qkt hcl hl h0 h1 f (qae hd)]
  unfold zput
  rw[if_neg (by simp),if_neg (by simp only;omega),length_append,add_assoc]
 |@copy bits out n d s e x s2 e2 x2 h h3 h258 hdd hdo hs hs2 hl hdl ih=>
  intro p r hp hd hm
  rw[qwq]at hm
  rw[append_assoc]at hd
  obtain⟨k,hk,ih⟩:=ih hp hd (by omega)
  have hr:=qvs hs
  have hsp:=qwm hl
  refine⟨k+1,by simp only[length_append];omega,λf=>?_⟩
  have l1:=qke hd
  have hd2:=qae hd
  rw[append_assoc]at hd2
  have l2:=qke hd2
  have hd3:=qae hd2
  simp only[append_assoc]at hd3
  rw[show f+(k+1)=(f+1)+k by omega,ih,qhs hcl hl hr.1 hr.2 f hd2,qpv hcd h3 hs hs2 hdl hdd (by omega) hd3,if_neg (by omega),qjmb _ _ _ _ (by omega)]
  simp only[length_append,add_assoc]
theorem Gx.short{bits:List Bool}{out:List Int}(hcl:okC ll)(hcd:okC dl)(h:Gx ll dl bits out):∀{p:Nat} {r:List Bool},p<=B.length->B.drop p=bits++r->0<=most->most<(out.length:Int)->
 ∀f,(qcg ll dl B most (f+bits.length) (p,[],0)).2.2=5:=by
 induction h with
 |nil=>intro p r hp hd h0 hm;simp at hm;omega
 |@lit bits out b h h0 h1 hl ih=>
  intro p r hp hd hm0 hm
  rw[append_assoc]at hd
  have hs:=qwm hl
  intro f
  rw[length_append]
  by_cases hle:(out.length:Int)<=most
  ·obtain⟨k,hk,hdec⟩:=Gx.dec (most:=most) hcl hcd h hp hd hle
   rw[length_append,length_singleton]at hm
   rw[show f+(bits.length+(qhe ll b.toNat).length)=((f+(bits.length-k)+((qhe ll b.toNat).length-1))+1)+k by omega,hdec,qkt hcl hl h0 h1 _ (qae hd)]
   unfold zput
   rw[if_neg (by simp),if_pos (by simp only;omega),qlt _ (by simp)]
  ·rw[show f+(bits.length+(qhe ll b.toNat).length)=(f+(qhe ll b.toNat).length)+bits.length by omega]
   exact ih hp hd hm0 (by omega) _
 |@copy bits out n d s e x s2 e2 x2 h h3 h258 hdd hdo hs hs2 hl hdl ih=>
  intro p r hp hd hm0 hm
  rw[append_assoc]at hd
  have hr:=qvs hs
  have hsp:=qwm hl
  intro f
  rw[qwq]at hm
  rw[length_append,length_append]
  by_cases hle:(out.length:Int)<=most
  ·obtain⟨k,hk,hdec⟩:=Gx.dec (most:=most) hcl hcd h hp hd hle
   have l1:=qke hd
   have hd2:=qae hd
   rw[append_assoc]at hd2
   have l2:=qke hd2
   have hd3:=qae hd2
   simp only[append_assoc]at hd3
   generalize (ql e x.toNat++(qhe dl s2.toNat++ql e2 x2.toNat)).length=q
   rw[show f+(bits.length+((qhe ll s.toNat).length+q))=((f+(bits.length-k)+((qhe ll s.toNat).length-1)+q)+1)+k by omega,hdec,qhs hcl hl hr.1 hr.2 _ hd2,qpv hcd h3 hs hs2 hdl hdd (by omega) hd3,if_neg (by omega)]
   have h5:=qqhb (most:=most) (p+bits.length+(qhe ll s.toNat).length+((ql e x.toNat).length+((qhe dl s2.toNat).length+(ql e2 x2.toNat).length))) d n.toNat out hle (by omega)
   rw[qlt _ (by rw[h5];decide),h5]
  ·rw[show f+(bits.length+((qhe ll s.toNat).length+(ql e x.toNat++(qhe dl s2.toNat++ql e2 x2.toNat)).length))=(f+((qhe ll s.toNat).length+(ql e x.toNat++(qhe dl s2.toNat++ql e2 x2.toNat)).length))+bits.length by omega]
   exact ih hp hd hm0 (by omega) _
theorem qus{ls:List Int}(h:qqk ls true=0)(z:Z):qwh ls z=z:=by
 unfold qwh;rw[if_neg (λe=>e.2 h)]
theorem qfz{bits:List Bool}{out:List Int}{p:Nat}{r:List Bool}(hcl:okC ll)(hcd:okC dl)(hnl:qqk ll true=0)(hnd:qqk dl true=0)(h:Gx ll dl bits out)(hi:inC ll 256)(hp:p<=B.length)(hd:B.drop p=(bits++qhe ll 256)++r)(hm:(out.length:Int)<=most):
 zblk ll dl B most (p,[],0)=(p+(bits++qhe ll 256).length,out,0):=by
 have hl:=qke hd
 rw[append_assoc]at hd
 rw[length_append]at hl
 have h256:¬((0:Int)=0/\ll.getD 256 0=0):=λe=>by have:=hi.2;omega
 have ez:(if(((p,[],0):Z)).2.2=0/\ll.getD 256 0=0 then qtd 2 (p,[],0)else(p,[],0))=((p,[],0):Z):=if_neg h256
 unfold zblk
 rw[ez]
 rw[qus hnl,qus hnd]
 simp only
 rw[if_neg (λe=>e rfl)]
 obtain⟨k,hk,hdec⟩:=Gx.dec (most:=most) hcl hcd h hp hd hm
 have hs:=qwm hi
 rw[show B.length+1=((B.length-k)+1)+k by omega,hdec,qkbb hcl hi _ (qae hd),length_append,add_assoc]
theorem qov{bits:List Bool}{out:List Int}{p:Nat}{r:List Bool}(hcl:okC ll)(hcd:okC dl)(hnl:qqk ll true=0)(hnd:qqk dl true=0)(h:Gx ll dl bits out)(hi:inC ll 256)(hp:p<=B.length)(hd:B.drop p=(bits++qhe ll 256)++r)(h0:0<=most)(hm:most<(out.length:Int)):
 (zblk ll dl B most (p,[],0)).2.2=5:=by
 have hl:=qke hd
 rw[append_assoc]at hd
 rw[length_append]at hl
 have h256:¬((0:Int)=0/\ll.getD 256 0=0):=λe=>by have:=hi.2;omega
 have ez:(if(((p,[],0):Z)).2.2=0/\ll.getD 256 0=0 then qtd 2 (p,[],0)else(p,[],0))=((p,[],0):Z):=if_neg h256
 unfold zblk
 rw[ez]
 rw[qus hnl,qus hnd]
 simp only
 rw[if_neg (λe=>e rfl)]
 rw[show B.length+1=(B.length+1-bits.length)+bits.length by omega]
 exact Gx.short (most:=most) hcl hcd h hp hd h0 hm _
end
def tkB(ll dl:List Int)(t:Tk):List Bool:=
 if t.2.1=0 then qhe ll t.1.toNat
 else qhe ll (ofLen t.2.1).1.toNat++(ql (ofLen t.2.1).2.1 (ofLen t.2.1).2.2.toNat++(qhe dl (ofDis t.2.2).1.toNat++ql (ofDis t.2.2).2.1 (ofDis t.2.2).2.2.toNat))
def tksB(ll dl:List Int)(L:List Tk):List Bool:=L.flatMap (tkB ll dl)
def tkIn(ll dl:List Int)(t:Tk):Prop:=if t.2.1=0 then inC ll t.1.toNat else inC ll (ofLen t.2.1).1.toNat/\inC dl (ofDis t.2.2).1.toNat
theorem qppb{ll dl:List Int}{b:List Int}(hb:∀x∈b,0<=x/\x<256):∀{n m:Nat} {L:List Tk},Makes b n L m->n<=b.length->∀{bits:List Bool},Gx ll dl bits (b.take n)->(∀t∈L,tkIn ll dl t)->Gx ll dl (bits++tksB ll dl L) (b.take m):=by
 intro n m L h;induction h with
 |nil n=>intro hn bits hg _;simpa [tksB]using hg
 |@lit n m r h hr ih=>
  intro hn bits hg hin;have h1:=hb _ (getElem_mem h);have e1:b[n]=b.getD n 0:=by simp[getD,h]
  rw[e1]at h1;have ht:=hin _ (mem_cons_self ..);have ht:inC ll (b.getD n 0).toNat:=ht;have hg2:=Gx.lit hg h1.1 h1.2 ht;rw[<-qdi h]at hg2;have:=ih (by omega) hg2 (λt h=>hin t (mem_cons_of_mem _ h));rw[append_assoc]at this
  exact this
 |@copy n m k d r h3 h258 hd hdn hdf hk hs hr ih=>
  intro hn bits hg hin;have ht:=hin _ (mem_cons_self ..);have hk0:¬((k:Int)=0):=by omega
  unfold tkIn at ht;rw[if_neg hk0]at ht;have hl:(b.take n).length=n:=by rw[length_take];omega
  have hg2:=Gx.copy (n:=(k:Int)) (d:=(d:Int)) hg (by omega) (by omega) (by omega) (by omega) (qop (by omega) (by omega)) (qcn (by omega) (by omega)) ht.1 ht.2;rw[show((k:Int)).toNat=k from rfl,qiw hd k n hdn hk hs]at hg2;have:=ih hk hg2 (λt h=>hin t (mem_cons_of_mem _ h));rw[append_assoc]at this
  show Gx ll dl (bits++(tkB ll dl (0,(k:Int),(d:Int))++tksB ll dl r)) _;unfold tkB;rw[if_neg hk0];exact this
end
section
abbrev Pc:=Int×Int×Int
inductive Runs(l:List Int):Nat->List Pc->Prop
 |nil:Runs l l.length []
 |one {i:Nat} {r:List Pc} (h:i<l.length) (h0:0<=l.getD i 0) (h1:l.getD i 0<16):Runs l (i+1) r->Runs l i ((l.getD i 0,0,0)::r)
 |old {i k:Nat} {r:List Pc} (hi:0<i) (h3:3<=k) (h6:k<=6) (hk:i+k<=l.length) (hs:∀j,j<k->l.getD (i+j) 0=l.getD (i-1) 0):Runs l (i+k) r->Runs l i ((16,(k:Int)-3,2)::r)
 |few {i k:Nat} {r:List Pc} (h3:3<=k) (h10:k<=10) (hk:i+k<=l.length) (hs:∀j,j<k->l.getD (i+j) 0=0):Runs l (i+k) r->Runs l i ((17,(k:Int)-3,3)::r)
 |many {i k:Nat} {r:List Pc} (h11:11<=k) (h138:k<=138) (hk:i+k<=l.length) (hs:∀j,j<k->l.getD (i+j) 0=0):Runs l (i+k) r->Runs l i ((18,(k:Int)-11,7)::r)
theorem Runs.le{l:List Int}{i:Nat}{ps:List Pc}(h:Runs l i ps):i+ps.length<=l.length:=by
 induction h with
 |nil=>simp
 |one h _ _ _ ih=>rw[length_cons];omega
 |old _ h3 _ _ _ _ ih=>rw[length_cons];omega
 |few h3 _ _ _ _ ih=>rw[length_cons];omega
 |many h3 _ _ _ _ ih=>rw[length_cons];omega
def pcOk(p:Pc):Prop:=0<=p.1/\p.1<19/\0<=p.2.2/\p.2.2<=7
theorem Runs.ok{l:List Int}{i:Nat}{ps:List Pc}(h:Runs l i ps):∀p∈ps,pcOk p:=by
 induction h with
 |nil=>intro p hp;cases hp
 |one h h0 h1 _ ih=>intro p hp;exact(mem_cons.1 hp).elim (λe=>by subst e;exact⟨h0,by simp only;omega,by simp,by simp⟩) (ih p)
 |old _ h3 _ _ _ _ ih=>intro p hp;exact(mem_cons.1 hp).elim (λe=>by subst e;exact⟨by simp,by simp,by simp,by simp⟩) (ih p)
 |few h3 _ _ _ _ ih=>intro p hp;exact(mem_cons.1 hp).elim (λe=>by subst e;exact⟨by simp,by simp,by simp,by simp⟩) (ih p)
 |many h3 _ _ _ _ ih=>intro p hp;exact(mem_cons.1 hp).elim (λe=>by subst e;exact⟨by simp,by simp,by simp,by simp⟩) (ih p)
theorem qdx{l:List Int}{i:Nat}{v:Int}:∀{k:Nat},i+k<=l.length->(∀j,j<k->l.getD (i+j) 0=v)->l.take (i+k)=l.take i++replicate k v:=by
 intro k;induction k with
 |zero=>intro _ _;simp
 |succ k ih=>
  intro h hs;rw[show i+(k+1)=(i+k)+1 by omega,qdi (by omega),ih (by omega) (λj hj=>hs j (by omega)),hs k (by omega),append_assoc,List.replicate_succ']
def pcB(cl:List Int)(p:Pc):List Bool:=qhe cl p.1.toNat++ql p.2.1 p.2.2.toNat
def pcsB(cl:List Int)(ps:List Pc):List Bool:=ps.flatMap (pcB cl)
section
variable {B:List Bool}{most:Int}{cl l:List Int}{out:List Int}
theorem qqq{N:Nat}{l:List Int}{p q q2 k:Nat}{s v:Int}(hs:qyl cl B (p,out,0)=(s,(q,out,0)))(ha:qtf B s l (q,out,0)=((v,(k:Int)),(q2,out,0)))(hk:l.length+k<=N):
 zllS cl B N l (p,out,0)=(l++replicate k v,(q2,out,0)):=by
 unfold zllS
 simp only
 rw[hs]
 simp only
 rw[ha]
 simp only
 have e:(if(N:Int)-(l.length:Int)<(k:Int)then qtd 2 (q2,out,0)else(q2,out,0))=((q2,out,0):Z):=if_neg (by omega)
 rw[e,if_pos rfl,Int.toNat_natCast]
theorem qss{N f:Nat}{l l2:List Int}{z z2:Z}(h0:z.2.2=0)(hN:l.length<N)(h:zllS cl B N l z=(l2,z2)):zll cl B N (f+1) l z=zll cl B N f l2 z2:=by
 rw[zll,if_neg (by omega),h]
theorem qgmb{i:Nat}{ps:List Pc}(hc:okC cl)(hr:Runs l i ps):(∀p∈ps,inC cl p.1.toNat)->∀{p:Nat} {r:List Bool},p<=B.length->B.drop p=pcsB cl ps++r->∀f,ps.length<=f->
 zll cl B l.length f (l.take i) (p,out,0)=(l,(p+(pcsB cl ps).length,out,0)):=by
 induction hr with
 |nil=>
  intro _ p r hp hd f hf
  rw[take_length]
  cases f with
  |zero=>rfl
  |succ f=>rw[zll,if_pos (Or.inr (le_refl _))];rfl
 |@one i rr h h0 h1 hr ih=>
  intro hin p r hp hd f hf
  rw[length_cons]at hf
  obtain⟨f,rfl⟩:∃g,f=g+1:=⟨f-1,by omega⟩
  have hi:inC cl (l.getD i 0).toNat:=hin _ (mem_cons_self ..)
  have e:pcsB cl ((l.getD i 0,0,0)::rr)=qhe cl (l.getD i 0).toNat++pcsB cl rr:=by
   show(qhe cl (l.getD i 0).toNat++ql 0 (0:Int).toNat)++pcsB cl rr=_;rw[show ql 0 (0:Int).toNat=[]from rfl,append_nil]
  rw[e,append_assoc]at hd
  have hl:=qke hd
  have hs:=qio hc hi hd (out:=out)
  have hll:(l.take i).length=i:=by rw[length_take];omega
  have st:=qqq (N:=l.length) (l:=l.take i) (k:=1) (v:=l.getD i 0) hs (by
   unfold qtf;rw[if_neg (by omega),if_neg (by omega),if_neg (by omega),show(((l.getD i 0).toNat:Nat):Int)=l.getD i 0 by omega];rfl) (by omega)
  rw[qss rfl (by omega) st,show l.take i++replicate 1 (l.getD i 0)=l.take (i+1)from(qdi h).symm,ih (λp hp=>hin p (mem_cons_of_mem _ hp)) (by omega) (qae hd) f (by omega),e,length_append,add_assoc]
 |@old i k rr hi0 h3 h6 hk hs hr ih=>
  intro hin p r hp hd f hf
  rw[length_cons]at hf
  obtain⟨f,rfl⟩:∃g,f=g+1:=⟨f-1,by omega⟩
  have hi:inC cl 16:=hin _ (mem_cons_self ..)
  have e:pcsB cl ((16,(k:Int)-3,2)::rr)=qhe cl 16++(ql ((k:Int)-3) 2++pcsB cl rr):=append_assoc ..
  rw[e,append_assoc,append_assoc]at hd
  have hl:=qke hd
  have hs1:=qio hc hi hd (out:=out)
  have hd2:=qae hd
  have hl2:=qke hd2
  have hg:=qdk (out:=out) (n:=2) hd2 (by rw[qq];rfl) (by rw[qq];omega) (by omega)
  have vs:=qci (e:=(k:Int)-3) (x:=2) (by omega) (by show(k:Int)-3<4;omega)
  rw[show(2:Int).toNat=2 from rfl]at vs
  rw[vs]at hg
  have hll:(l.take i).length=i:=by rw[length_take];omega
  have st:=qqq (N:=l.length) (l:=l.take i) (k:=k) (v:=l.getD (i-1) 0) hs1 (by
   unfold qtf;rw[if_pos (show((16:Nat):Int)=16 from rfl),if_neg (by omega),hll,qrt (by omega),hg];simp only
   rw[show(3:Int)+((k:Int)-3)=k by omega]) (by omega)
  rw[qss rfl (by omega) st,<-qdx hk hs,ih (λp hp=>hin p (mem_cons_of_mem _ hp)) (by omega) (qae hd2) f (by omega),e,length_append,length_append,add_assoc,add_assoc]
 |@few i k rr h3 h10 hk hs hr ih=>
  intro hin p r hp hd f hf
  rw[length_cons]at hf
  obtain⟨f,rfl⟩:∃g,f=g+1:=⟨f-1,by omega⟩
  have hi:inC cl 17:=hin _ (mem_cons_self ..)
  have e:pcsB cl ((17,(k:Int)-3,3)::rr)=qhe cl 17++(ql ((k:Int)-3) 3++pcsB cl rr):=append_assoc ..
  rw[e,append_assoc,append_assoc]at hd
  have hl:=qke hd
  have hs1:=qio hc hi hd (out:=out)
  have hd2:=qae hd
  have hl2:=qke hd2
  have hg:=qdk (out:=out) (n:=3) hd2 (by rw[qq];rfl) (by rw[qq];omega) (by omega)
  have vs:=qci (e:=(k:Int)-3) (x:=3) (by omega) (by show(k:Int)-3<8;omega)
  rw[show(3:Int).toNat=3 from rfl]at vs
  rw[vs]at hg
  have hll:(l.take i).length=i:=by rw[length_take];omega
  have st:=qqq (N:=l.length) (l:=l.take i) (k:=k) (v:=0) hs1 (by
   unfold qtf;rw[if_neg (by decide),if_pos (show((17:Nat):Int)=17 from rfl),hg];simp only
   rw[show(3:Int)+((k:Int)-3)=k by omega]) (by omega)
  rw[qss rfl (by omega) st,<-qdx hk hs,ih (λp hp=>hin p (mem_cons_of_mem _ hp)) (by omega) (qae hd2) f (by omega),e,length_append,length_append,add_assoc,add_assoc]
 |@many i k rr h11 h138 hk hs hr ih=>
  intro hin p r hp hd f hf
  rw[length_cons]at hf
  obtain⟨f,rfl⟩:∃g,f=g+1:=⟨f-1,by omega⟩
  have hi:inC cl 18:=hin _ (mem_cons_self ..)
  have e:pcsB cl ((18,(k:Int)-11,7)::rr)=qhe cl 18++(ql ((k:Int)-11) 7++pcsB cl rr):=append_assoc ..
  rw[e,append_assoc,append_assoc]at hd
  have hl:=qke hd
  have hs1:=qio hc hi hd (out:=out)
  have hd2:=qae hd
  have hl2:=qke hd2
  have hg:=qdk (out:=out) (n:=7) hd2 (by rw[qq];rfl) (by rw[qq];omega) (by omega)
  have vs:=qci (e:=(k:Int)-11) (x:=7) (by omega) (by show(k:Int)-11<128;omega)
  rw[show(7:Int).toNat=7 from rfl]at vs
  rw[vs]at hg
  have hll:(l.take i).length=i:=by rw[length_take];omega
  have st:=qqq (N:=l.length) (l:=l.take i) (k:=k) (v:=0) hs1 (by
   unfold qtf;rw[if_neg (by decide),if_neg (by decide),if_pos (show((18:Nat):Int)=18 from rfl),hg];simp only
   rw[show(11:Int)+((k:Int)-11)=k by omega]) (by omega)
  rw[qss rfl (by omega) st,<-qdx hk hs,ih (λp hp=>hin p (mem_cons_of_mem _ hp)) (by omega) (qae hd2) f (by omega),e,length_append,length_append,add_assoc,add_assoc]
end
theorem qkrb(v:Int):∀m:List Int,(m.takeWhile (· ==v)).length<=m.length/\(∀j,j<(m.takeWhile (· ==v)).length->m.getD j 0=v)/\((m.takeWhile (· ==v)).length<m.length->m.getD (m.takeWhile (· ==v)).length 0≠v):=by
 intro m;induction m with
 |nil=>exact⟨le_refl _,λj hj=>by simp at hj,λh=>by simp at h⟩
 |cons x m ih=>
  obtain⟨h1,h2,h3⟩:=ih;by_cases hx:x=v
  ·rw[List.takeWhile_cons_of_pos (by simpa using hx)];refine⟨by simp only[length_cons];omega,λj hj=>?_,λh=>?_⟩
   ·cases j with
    |zero=>simpa using hx
    |succ j=>simp only[length_cons]at hj;simpa using h2 j (by omega)
   ·simp only[length_cons]at h|-
    simpa using h3 (by omega)
  ·rw[List.takeWhile_cons_of_neg (by simpa using hx)];exact⟨by simp,λj hj=>by simp at hj,λh=>by simpa using hx⟩
def qim(l:List Int)(i:Nat):Nat:=((l.drop (i+1)).takeWhile (· ==l.getD i 0)).length+1
theorem qwt{l:List Int}{i:Nat}(hi:i<l.length):i+qim l i<=l.length/\(∀j,j<qim l i->l.getD (i+j) 0=l.getD i 0)/\(i+qim l i<l.length->l.getD (i+qim l i) 0≠l.getD i 0):=by
 obtain⟨h1,h2,h3⟩:=qkrb (l.getD i 0) (l.drop (i+1));rw[length_drop]at h1 h3;have gd:∀j,(l.drop (i+1)).getD j 0=l.getD (i+(j+1)) 0:=λj=>by simp[getD,List.getElem?_drop];congr 2;omega
 unfold qim;refine⟨by omega,λj hj=>?_,λh=>?_⟩
 ·cases j with
  |zero=>rfl
  |succ j=>rw[<-gd];exact h2 j (by omega)
 ·rw[<-gd];exact h3 (by omega)
theorem qyrb{l:List Int}{i n:Nat}(hi:i<l.length)(h1:i+n<=l.length)(h2:∀j,j<n->l.getD (i+j) 0=l.getD i 0)(h3:i+n<l.length->l.getD (i+n) 0≠l.getD i 0):n=qim l i:=by
 obtain⟨g1,g2,g3⟩:=qwt hi;rcases Nat.lt_trichotomy n (qim l i)with h|h|h
 ·exact absurd (g2 n h) (h3 (by omega))
 ·exact h
 ·exact absurd (h2 _ h) (g3 (by omega))
theorem qceb(l:List Int)(i:Nat):1<=qim l i:=by unfold qim;omega
def runP(l:List Int)(i:Nat):Pc×Nat:=
 if l.getD i 0=0/\11<=qim l i then((18,((min (qim l i) 138:Nat):Int)-11,7),min (qim l i) 138)
 else if l.getD i 0=0/\3<=qim l i then((17,(qim l i:Int)-3,3),qim l i)
 else if(0<i/\l.getD i 0=l.getD (i-1) 0)/\3<=qim l i then((16,((min (qim l i) 6:Nat):Int)-3,2),min (qim l i) 6)
 else((l.getD i 0,0,0),1)
def runsF(l:List Int):Nat->Nat->List Pc
 |0,_=>[]
 |f+1,i=>if l.length<=i then[]else(runP l i).1::runsF l f (i+(runP l i).2)
def runsL(l:List Int):List Pc:=runsF l l.length 0
theorem qbeb(l:List Int)(i:Nat):1<=(runP l i).2:=by
 have:=qceb l i;unfold runP;split
 ·simp only;omega
 ·split
  ·simp only;omega
  ·split
   ·simp only;omega
   ·simp
theorem qlib{l:List Int}{i:Nat}(hi:i<l.length):i+(runP l i).2<=l.length:=by
 have:=(qwt hi).1;unfold runP;split
 ·simp only;omega
 ·split
  ·simp only;omega
  ·split
   ·simp only;omega
   ·simp only;omega
theorem qagb{l:List Int}(hl:∀x∈l,0<=x/\x<16):∀f i,i<=l.length->l.length-i<=f->Runs l i (runsF l f i):=by
 intro f;induction f with
 |zero=>
  intro i hi hf;have:i=l.length:=by omega
  subst this;exact Runs.nil
 |succ f ih=>
  intro i hi hf;rw[runsF];by_cases hi2:l.length<=i
  ·have:i=l.length:=by omega
   subst this;rw[if_pos hi2];exact Runs.nil
  ·rw[if_neg hi2];have hi2:i<l.length:=by omega
   have hp:=qbeb l i;have hle:=qlib hi2;have ih:=ih (i+(runP l i).2) hle (by omega);obtain⟨g1,g2,g3⟩:=qwt hi2;revert ih;generalize runsF l f (i+(runP l i).2)=rr;unfold runP;split
   ·rename_i h1;intro ih;exact Runs.many (by omega) (by omega) (by omega) (λj hj=>by rw[g2 j (by omega)];exact h1.1) ih
   ·split
    ·rename_i h0 h1;intro ih;have:qim l i<11:=by
      rcases lt_or_ge (qim l i) 11 with h|h
      ·exact h
      ·exact absurd ⟨h1.1,h⟩ h0
     exact Runs.few (by omega) (by omega) (by omega) (λj hj=>by rw[g2 j (by omega)];exact h1.1) ih
    ·split
     ·rename_i h1;intro ih;exact Runs.old h1.1.1 (by omega) (by omega) (by omega) (λj hj=>by rw[g2 j (by omega)];exact h1.1.2) ih
     ·intro ih;have hx:=hl _ (getElem_mem hi2);rw[show l[i]=l.getD i 0 by simp[getD,hi2]]at hx;exact Runs.one hi2 hx.1 hx.2 ih
theorem qzfb{l:List Int}(hl:∀x∈l,0<=x/\x<16):Runs l 0 (runsL l):=qagb hl _ _ (zero_le _) (by omega)
def qhj(l:List Int)(m:Nat):Nat->Nat
 |0=>0
 |n+1=>if m<n+1/\l.getD n 0=0 then qhj l m n else n+1
theorem qax(l:List Int)(m:Nat):∀n,qhj l m n<=n:=by
 intro n;induction n with
 |zero=>exact le_refl _
 |succ n ih=>rw[qhj];split<;>omega
theorem qbx(l:List Int)(m:Nat):∀n,m<=n->m<=qhj l m n:=by
 intro n;induction n with
 |zero=>intro h;exact h
 |succ n ih=>
  intro h;rw[qhj];split
  ·exact ih (by omega)
  ·exact h
theorem qwmb(l:List Int)(m:Nat):∀n j,qhj l m n<=j->j<n->l.getD j 0=0:=by
 intro n;induction n with
 |zero=>intro j _ h;omega
 |succ n ih=>
  intro j h1 h2;rw[qhj]at h1;split at h1
  ·rename_i hc;rcases lt_or_ge j n with h|h
   ·exact ih j h1 h
   ·rw[show j=n by omega];exact hc.2
  ·omega
theorem qgkb(l:List Int)(n:Nat):hc (l++[0]) n=hc l n:=by
 rw[qwo,if_neg (by omega),add_zero]
theorem qbkb(l:List Int):∀n,hf (l++[0]) n=hf l n:=by
 intro n;induction n with
 |zero=>rfl
 |succ n ih=>rw[hf,hf,ih,qgkb]
theorem qfu(l:List Int):kr (l++[0])=kr l:=by rw[qdy,if_neg (by omega),add_zero]
theorem quz{l:List Int}{s:Nat}(hs:s<l.length):qhe (l++[0]) s=qhe l s:=by
 unfold qhe;rw[qnl hs];unfold qpg;rw[qnl hs,qbkb,List.take_append_of_le_length (by omega)]
theorem qkgb{l:List Int}{s:Nat}(h:inC (l++[0]) s):inC l s:=by
 obtain⟨h1,h2⟩:=h;rw[length_append,length_singleton]at h1;rcases lt_or_ge s l.length with h|h
 ·rw[qnl h]at h2;exact⟨h,h2⟩
 ·rw[show s=l.length by omega,qer]at h2;omega
theorem qegb{l:List Int}(h:okC (l++[0])):okC l:=⟨(qxx h.1).1,by have:=h.2;rwa[qfu]at this⟩
theorem qocb{l:List Int}(h:qqk (l++[0]) true=0):qqk l true=0:=by
 obtain⟨h1,h2,h3,h4⟩:=qku (qakb h);have k1:okL l:=(qxx h1).1;rw[length_append]at h3;have k2:kr l<=32768:=by rwa[qfu]at h2
 have c:qzn l=(decide (kr l=32768),0):=by
  unfold qzn;rw[if_neg (by simp at h3;omega),if_neg (by simpa using k1),if_neg (by omega)]
 have c2:qzn (l++[0])=(decide (kr l=32768),0):=by
  rw[<-qfu l];exact Prod.ext h4 (qakb h)
 have hh:hhalf (l++[0])=hhalf l:=by
  rw[qat h1,qat k1];simp
 unfold qqk at h|-
 rw[c2,hh]at h;rw[c];exact h
theorem qmz{l:List Int}(m:Nat):∀n,n<=l.length->okC (l.take n)->qqk (l.take n) true=0->
 okC (l.take (qhj l m n))/\qqk (l.take (qhj l m n)) true=0/\∀s,inC (l.take n) s->inC (l.take (qhj l m n)) s/\qhe (l.take (qhj l m n)) s=qhe (l.take n) s:=by
 intro n
 induction n with
 |zero=>intro _ h1 h2;exact⟨h1,h2,λs h=>⟨h,rfl⟩⟩
 |succ n ih=>
  intro hn h1 h2
  rw[qhj]
  split
  ·rename_i hc
   rw[qdi (by omega),hc.2]at h1 h2|-
   obtain⟨k1,k2,k3⟩:=ih (by omega) (qegb h1) (qocb h2)
   refine⟨k1,k2,λs hs=>?_⟩
   have hs:=qkgb hs
   obtain⟨k4,k5⟩:=k3 s hs
   exact⟨k4,by rw[k5,quz hs.1]⟩
  ·exact⟨h1,h2,λs h=>⟨h,rfl⟩⟩
end
section
attribute [local irreducible] apK cpK mkK br
theorem qqmb{a b:Nat}(ha:a<9223372036854775808)(hb:b<9223372036854775808):qlk .i64 (a:Int) (b:Int)=((a^^^b:Nat):Int):=by
 have hx:a^^^b<2^63:=Nat.xor_lt_two_pow (by simpa using ha) (by simpa using hb);have e:(BitVec.ofInt 64 (a:Int)^^^BitVec.ofInt 64 (b:Int)).toNat=a^^^b:=by
  rw[BitVec.ofInt_natCast,BitVec.ofInt_natCast,BitVec.toNat_xor,BitVec.toNat_ofNat,BitVec.toNat_ofNat,Nat.mod_eq_of_lt (by omega),Nat.mod_eq_of_lt (by omega)]
 show i64.wrap (((BitVec.ofInt 64 (a:Int)^^^BitVec.ofInt 64 (b:Int)).toNat:Nat):Int)=_;rw[e];generalize a^^^b=c at hx;exact qd (by omega) (by omega)
theorem qpmb{a:Nat}(ha:a<65536):(65535^^^a)<65536/\a^^^(65535^^^a)=65535:=by
 refine⟨Nat.xor_lt_two_pow (n:=16) (by decide) ha,?_⟩;rw[Nat.xor_comm 65535 a,<-Nat.xor_assoc,Nat.xor_self,Nat.zero_xor]
def bb(ys:List Int):List Bool:=ys.flatMap λx=>ql x 8
theorem qev(ys:List Int):(bb ys).length=8*ys.length:=by
 induction ys with
 |nil=>rfl
 |cons y ys ih=>
  have:bb (y::ys)=ql y 8++bb ys:=rfl;rw[this,length_append,ih,qq,length_cons];omega
theorem qxlb(ys:List Int)(y:Int):bb (ys++[y])=bb ys++ql y 8:=by simp[bb]
theorem qdmb{B:List Bool}{most:Int}:∀(ys:List Int) (p:Nat) (out:List Int) (r:List Bool),(∀y∈ys,0<=y/\y<256)->p<=B.length->B.drop p=bb ys++r->(out.length+ys.length:Int)<=most->zst B most ys.length (p,out,0)=(p+8*ys.length,out++ys,0):=by
 intro ys;induction ys with
 |nil=>intro p out r _ _ _ _;simp[zst]
 |cons y ys ih=>
  intro p out r hy hp hd hm;rw[length_cons]at hm;have e:bb (y::ys)=ql y 8++bb ys:=rfl;rw[e,append_assoc]at hd;have l1:=qke hd;have hy0:=hy y (by simp);rw[qq]at l1;have hd2:=qae hd;rw[qq]at hd2;rw[length_cons,zst,qdk hd (by rw[qq];rfl) (by rw[qq];decide) hp];simp only
  rw[show(ql y 8:List Bool)=ql y (8:Int).toNat from rfl,qci (x:=8) hy0.1 (by have:(2:Int)^(8:Int).toNat=256:=by decide
                                                                             omega)]
  unfold zput;rw[if_neg (by simp),if_neg (by simp only;omega)];simp only
  rw[show(ql y (8:Int).toNat).length=8 from qq _ _];by_cases hn:ys=[]
  ·subst hn;simp[zst]
  have h3:0<ys.length:=List.length_pos_iff.2 hn;have hle:p+8<=B.length:=by omega
  rw[ih (p+8) (out++[y]) r (λx hx=>hy x (by simp[hx])) hle hd2 (by rw[length_append,length_singleton];omega)];simp only[append_assoc,List.singleton_append];rw[show p+8+8*ys.length=p+8*(ys.length+1)by omega]
end
section
section
variable {B:List Bool}{most:Int}{cl a b:List Int}{out:List Int}
theorem flat3{S:List Int}{f:Int->List Bool}(hf:∀s,(f s).length=3):∀{p:Nat} {r:List Bool},B.drop p=S.flatMap f++r->∀k,k<S.length->∃r',B.drop (p+3*k)=f (S.getD k 0)++r':=by
 induction S with
 |nil=>intro p r _ k hk;simp at hk
 |cons s S ih=>
  intro p r hd k hk;rw[List.flatMap_cons,append_assoc]at hd;cases k with
  |zero=>exact⟨_,hd⟩
  |succ k=>
   simp only[length_cons]at hk;obtain⟨r',h⟩:=ih (qae hd) k (by omega);rw[hf]at h;exact⟨r',by rw[show p+3*(k+1)=p+3+3*k by omega,h];rfl⟩
theorem qpu{S:List Int}{f:Int->List Bool}(hf:∀s,(f s).length=3):(S.flatMap f).length=3*S.length:=by
 induction S with
 |nil=>rfl
 |cons s S ih=>rw[List.flatMap_cons,length_append,ih,hf,length_cons];omega
def clS(cl:List Int)(k:Nat):List Int:=qzl 19 λs=>if s∈(qki.take k).map toNat then cl.getD s 0 else 0
theorem qmhb{k:Nat}(h:k<19):qki.take (k+1)=qki.take k++[qki.getD k 0]:=qdi h
theorem qfmb{k:Nat}(h:k<19):(qki.getD k 0).toNat<19:=by
 have:∀k:Nat,k<19->(qki.getD k 0).toNat<19:=by decide
 exact this k h
theorem qapb(cl:List Int){k:Nat}(h:k<19):(clS cl k).set (qki.getD k 0).toNat (cl.getD (qki.getD k 0).toNat 0)=clS cl (k+1):=by
 have h1:=qfmb h;refine lext (by rw[List.length_set];exact(qod _ _).trans (qod _ _).symm) λj hj=>?_;rw[List.length_set,clS,qod]at hj;have e2:(clS cl (k+1)).getD j 0=_:=qqg hj;have e1:(clS cl k).getD j 0=_:=qqg hj;have hmem:j∈(qki.take (k+1)).map toNat↔j∈(qki.take k).map toNat\/j=(qki.getD k 0).toNat:=by
  rw[qmhb h,map_append,mem_append];simp
 rw[e2];by_cases hjk:j=(qki.getD k 0).toNat
 ·subst hjk;rw[List.getD_eq_getElem?_getD,List.getElem?_set_self (by rw[clS,qod];exact h1),if_pos (hmem.2 (Or.inr rfl))];rfl
 ·rw[List.getD_eq_getElem?_getD,List.getElem?_set_ne (by omega),<-List.getD_eq_getElem?_getD,e1];by_cases hm:j∈(qki.take k).map toNat
  ·rw[if_pos hm,if_pos (hmem.2 (Or.inl hm))]
  ·rw[if_neg hm,if_neg λe=>(hmem.1 e).elim hm hjk]
theorem qxtb{n:Nat}(hcl:cl.length=19)(hz:∀j,n<=j->j<19->cl.getD (qki.getD j 0).toNat 0=0):clS cl n=cl:=by
 refine lext (by rw[clS,qod,hcl]) λs hs=>?_;rw[clS,qod]at hs;have e1:(clS cl n).getD s 0=_:=qqg hs;rw[e1];split
 ·rfl
 ·rename_i hm;have key:∀s:Nat,s<19->∃j:Nat,j<19/\(qki.getD j 0).toNat=s:=by decide
  obtain⟨j,hj,rfl⟩:=key s hs;rcases lt_or_ge j n with h|h
  ·exact absurd (mem_map.2 ⟨qki.getD j 0,List.mem_iff_getElem?.2 ⟨j,by
    have hjl:j<qki.length:=hj;rw[List.getElem?_take,if_pos h];simp[getD,hjl]⟩,rfl⟩) hm
  ·exact(hz j h hj).symm
theorem qxqb{n p:Nat}{r:List Bool}(hb:∀j:Nat,0<=cl.getD j 0/\cl.getD j 0<8)(hn:n<=19)(hp:p<=B.length)
 (hd:B.drop p=(qki.take n).flatMap (λs=>ql (cl.getD s.toNat 0) 3)++r):∀k,k<=n->qel B (p,out,0) k=(clS cl k,(p+3*k,out,0)):=by
 have hfl:=qpu (S:=qki.take n) (f:=λs=>ql (cl.getD s.toNat 0) 3) (λs=>qq _ _)
 have hll:(qki.take n).length=n:=by rw[length_take];exact Nat.min_eq_left hn
 have hdl:=qke hd
 rw[hfl,hll]at hdl
 intro k
 induction k with
 |zero=>intro _;rw[qel];exact Prod.ext (by show _=clS cl 0;unfold clS;rfl) rfl
 |succ k ih=>
  intro hk
  obtain⟨r',hr'⟩:=flat3 (S:=qki.take n) (f:=λs=>ql (cl.getD s.toNat 0) 3) (λs=>qq _ _) hd k (by omega)
  rw[qrt (show k<n by omega)]at hr'
  have hx:=hb (qki.getD k 0).toNat
  have hg:=qdk (out:=out) (n:=3) hr' (by rw[qq];rfl) (by rw[qq];decide) (by omega)
  have vs:=qci (e:=cl.getD (qki.getD k 0).toNat 0) (x:=3) hx.1 hx.2
  rw[show(3:Int).toNat=3 from rfl]at vs
  rw[vs,qq]at hg
  rw[qel,ih (by omega)]
  simp only
  rw[hg]
  simp only
  rw[qapb _ (by omega)]
  rfl
def hdB(a b cl:List Int)(n:Nat)(ps:List Pc):List Bool:=ql ((a.length:Int)-257) 5++(ql ((b.length:Int)-1) 5++(ql ((n:Int)-4) 4++((qki.take n).flatMap (λs=>ql (cl.getD s.toNat 0) 3)++pcsB cl ps)))
theorem qimb{n p:Nat}{ps:List Pc}{r:List Bool}(ha1:257<=a.length)(ha2:a.length<=286)(hb1:1<=b.length)(hb2:b.length<=30)(hcl:cl.length=19)(hcb:∀j:Nat,0<=cl.getD j 0/\cl.getD j 0<8)(hn1:4<=n)(hn2:n<=19)
 (hz:∀j,n<=j->j<19->cl.getD (qki.getD j 0).toNat 0=0) (hc:okC cl) (hnew0:qqk cl false=0) (hr:Runs (a++b) 0 ps) (hin:∀q∈ps,inC cl q.1.toNat) (hp:p<=B.length)
 (hd:B.drop p=hdB a b cl n ps++r):qoj B (p,out,0)=((a,b),(p+(hdB a b cl n ps).length,out,0)):=by
 unfold hdB at hd
 simp only[append_assoc]at hd
 have hd1:=qae hd
 have hd2:=qae hd1
 have hd3:=qae hd2
 have hd4:=qae hd3
 have l0:=qke hd
 have l1:=qke hd1
 have l2:=qke hd2
 have l3:=qke hd3
 have hfl:=qpu (S:=qki.take n) (f:=λs=>ql (cl.getD s.toNat 0) 3) (λs=>qq _ _)
 have hll:(qki.take n).length=n:=by rw[length_take];exact Nat.min_eq_left hn2
 rw[hll]at hfl
 simp only[qq]at hd1 hd2 hd3 hd4 l0 l1 l2 l3
 have g1:=qdk (out:=out) (n:=5) hd (by rw[qq];rfl) (by rw[qq];decide) hp
 have g2:=qdk (out:=out) (n:=5) hd1 (by rw[qq];rfl) (by rw[qq];decide) (by omega)
 have g3:=qdk (out:=out) (n:=4) hd2 (by rw[qq];rfl) (by rw[qq];decide) (by omega)
 have v1:=qci (e:=(a.length:Int)-257) (x:=5) (by omega) (by show(a.length:Int)-257<32;omega)
 have v2:=qci (e:=(b.length:Int)-1) (x:=5) (by omega) (by show(b.length:Int)-1<32;omega)
 have v3:=qci (e:=(n:Int)-4) (x:=4) (by omega) (by show(n:Int)-4<16;omega)
 rw[show(5:Int).toNat=5 from rfl]at v1 v2
 rw[show(4:Int).toNat=4 from rfl]at v3
 rw[v1,qq]at g1
 rw[v2,qq]at g2
 rw[v3,qq]at g3
 have hclr:=qxqb (out:=out) hcb hn2 (by omega) hd3 n (le_refl _)
 rw[qxtb hcl hz]at hclr
 rw[hfl]at hd4 l3
 have hzl:=qgmb (out:=out) hc hr hin (by omega) hd4 (a.length+b.length+1) (by have:=hr.le;rw[length_append]at this;omega)
 unfold qoj
 simp only
 have c1:(if(286:Int)<(a.length:Int)-257+257 then qtd 2 (p+5,out,0)else(p+5,out,0))=((p+5,out,0):Z):=if_neg (by omega)
 have c2:(if(30:Int)<(b.length:Int)-1+1 then qtd 2 (p+5+5,out,0)else(p+5+5,out,0))=((p+5+5,out,0):Z):=if_neg (by omega)
 simp only[g1,c1,g2,c2,g3]
 rw[show(((n:Int)-4)+4).toNat=n by omega,hclr]
 simp only
 have e5:qgj cl false (p+5+5+4+3*n,out,0)=(p+5+5+4+3*n,out,0):=by unfold qgj;rw[if_neg (λe=>e.2 hnew0)]
 rw[e5,show(((a.length:Int)-257+257)+((b.length:Int)-1+1)).toNat=a.length+b.length by omega]
 rw[List.take_zero,length_append]at hzl
 rw[hzl]
 simp only
 rw[if_neg (λe=>e rfl),show((a.length:Int)-257+257).toNat=a.length by omega,take_left' rfl,drop_left' rfl]
 unfold hdB
 simp only[length_append,qq]
 rw[hfl]
 refine Prod.ext rfl (Prod.ext ?_ rfl)
 show _=p+_
 simp only
 omega
end
def Dfl(xs:List Int)(D:List Bool):Prop:=∀(B r:List Bool) (most:Int),B=D++r->0<=most->((xs.length:Int)<=most->ZAll B most 0 (0,[],0) (D.length,xs,0))/\(most<xs.length->∃z',ZAll B most 0 (0,[],0) z'/\z'.2.2=5)
section
variable {B:List Bool}{most:Int}{xs:List Int}
theorem Dfl.of{D:List Bool}(h:∀(B r:List Bool) (most:Int),B=D++r->0<=most->((xs.length:Int)<=most->qyd B most (0,[],0)=(true,(D.length,xs,0)))/\(most<xs.length->(qyd B most (0,[],0)).2.2.2=5)):Dfl xs D:=by
 intro B r most e h0;obtain⟨h1,h2⟩:=h B r most e h0;refine⟨λhm=>?_,λhm=>?_⟩
 ·have e:=h1 hm;have:=ZAll.last (B:=B) (most:=most) (z:=(0,[],0)) (by rw[e]) (by rw[e]);rwa[e]at this
 ·have e:=h2 hm;exact⟨_,ZAll.bad (by rw[e];decide),e⟩
theorem qxr{k:List Bool}{p:Nat}{r:List Bool}(hk:k.length=2)(h:B.drop 0=([true]++k)++r):qff B 1 (0,[],0)=(1,(1,[],0))/\qff B 2 (1,[],0)=((val k:Int),(3,[],0))/\B.drop 3=r/\3<=B.length:=by
 rw[append_assoc]at h;have l:=qke h;have g1:=qdk (out:=[]) (n:=1) h rfl (by decide) (by omega);have h2:=qae h;have l2:=qke h2;have g2:=qdk (out:=[]) (n:=2) h2 (by rw[hk];rfl) (by omega) (by simp only[length_singleton]at l|-;omega);have h3:=qae h2;rw[hk]at g2 h3 l2;simp only[length_singleton]at l l2;exact⟨g1,g2,h3,by omega⟩
theorem qmbb{r:List Bool}(h:B.drop 0=([true]++[true,false])++r):qyd B most (0,[],0)=(true,zblk qho qsj B most (3,[],0)):=by
 obtain⟨g1,g2,_,_⟩:=qxr (p:=0) rfl h;unfold qyd;simp only
 rw[g1];simp only
 rw[g2];simp only
 rw[if_neg (by simp),if_neg (by decide),if_pos (by decide)];rfl
theorem qnbb{r:List Bool}(h:B.drop 0=([true]++[false,true])++r):qyd B most (0,[],0)=(true,let q:=qoj B (3,[],0);if q.2.2.2≠0 then q.2 else zblk q.1.1 q.1.2 B most q.2):=by
 obtain⟨g1,g2,_,_⟩:=qxr (p:=0) rfl h;unfold qyd;simp only
 rw[g1];simp only
 rw[g2];simp only
 rw[if_neg (by simp),if_neg (by decide),if_neg (by decide),if_pos (by decide)];rfl
theorem qlbb{r:List Bool}(h:B.drop 0=([true]++[false,false])++r):qyd B most (0,[],0)=(true,qck B most (3,[],0)):=by
 obtain⟨g1,g2,_,_⟩:=qxr (p:=0) rfl h;unfold qyd;simp only
 rw[g1];simp only
 rw[g2];simp only
 rw[if_neg (by simp),if_pos (by decide)];rfl
theorem qfr:okC qho:=⟨by unfold okL;decide+kernel,by decide+kernel⟩
theorem qgr:okC qsj:=⟨by unfold okL;decide+kernel,by decide+kernel⟩
theorem qky:qqk qho true=0:=by decide+kernel
theorem qsu:qqk qsj true=0:=by decide+kernel
theorem qmu{s:Nat}(h:s<288):inC qho s:=by
 have:∀s:Nat,s<288->s<qho.length/\0<qho.getD s 0:=by decide+kernel
 exact this s h
theorem qrob{s:Nat}(h:s<32):inC qsj s:=by
 have:∀s:Nat,s<32->s<qsj.length/\0<qsj.getD s 0:=by decide+kernel
 exact this s h
def fxB(L:List Tk):List Bool:=[true,true,false]++(tksB qho qsj L++qhe qho 256)
theorem Dfl.fixed{L:List Tk}(hb:∀x∈xs,0<=x/\x<256)(hL:Makes xs 0 L xs.length)(hin:∀t∈L,tkIn qho qsj t):Dfl xs (fxB L):=by
 refine Dfl.of λB r most e h0=>?_;have g:=qppb hb hL (zero_le _) Gx.nil hin;rw[nil_append,take_length]at g;have hd:B.drop 0=([true]++[true,false])++((tksB qho qsj L++qhe qho 256)++r):=by
  rw[e];rfl
 obtain⟨_,_,hd3,h3⟩:=qxr (p:=0) rfl hd;rw[qmbb hd];refine⟨λhm=>?_,λhm=>?_⟩
 ·rw[qfz qfr qgr qky qsu g (qmu (by decide)) h3 hd3 hm];refine Prod.ext rfl (Prod.ext ?_ rfl);unfold fxB;simp only[length_append,length_cons,length_nil]
 ·have hh:=qov qfr qgr qky qsu g (qmu (by decide)) h3 hd3 h0 hm;revert hh;generalize zblk qho qsj B most (3,[],0)=z;exact id
def dyB(a b cl:List Int)(n:Nat)(ps:List Pc)(L:List Tk):List Bool:=[true,false,true]++(hdB a b cl n ps++(tksB a b L++qhe a 256))
theorem Dfl.dynamic{L:List Tk}{a b cl:List Int}{n:Nat}{ps:List Pc}(hb:∀x∈xs,0<=x/\x<256)(hL:Makes xs 0 L xs.length)(hin:∀t∈L,tkIn a b t)
 (ha1:257<=a.length) (ha2:a.length<=286) (hb1:1<=b.length) (hb2:b.length<=30) (hcl:cl.length=19) (hcb:∀j:Nat,0<=cl.getD j 0/\cl.getD j 0<8) (hn1:4<=n) (hn2:n<=19)
 (hz:∀j,n<=j->j<19->cl.getD (qki.getD j 0).toNat 0=0) (hc:okC cl) (hnew0:qqk cl false=0) (hr:Runs (a++b) 0 ps) (hpi:∀q∈ps,inC cl q.1.toNat)
 (hca:okC a) (hcb2:okC b) (hna:qqk a true=0) (hnb:qqk b true=0) (hi:inC a 256):Dfl xs (dyB a b cl n ps L):=by
 refine Dfl.of λB r most e h0=>?_
 have g:=qppb hb hL (zero_le _) Gx.nil hin
 rw[nil_append,take_length]at g
 have hd:B.drop 0=([true]++[false,true])++(hdB a b cl n ps++((tksB a b L++qhe a 256)++r)):=by
  rw[e];unfold dyB;simp only[append_assoc];rfl
 obtain⟨_,_,hd3,h3⟩:=qxr (p:=0) rfl hd
 rw[qnbb hd]
 have hz:=qimb (out:=[]) ha1 ha2 hb1 hb2 hcl hcb hn1 hn2 hz hc hnew0 hr hpi h3 hd3
 have hd4:=qae hd3
 have l3:=qke hd3
 simp only
 rw[hz]
 simp only
 rw[if_neg (λe=>e rfl)]
 refine⟨λhm=>?_,λhm=>?_⟩
 ·rw[qfz hca hcb2 hna hnb g hi (by omega) hd4 hm]
  refine Prod.ext rfl (Prod.ext ?_ rfl)
  unfold dyB
  simp only[length_append,length_cons,length_nil]
  omega
 ·exact qov hca hcb2 hna hnb g hi (by omega) hd4 h0 hm
def sdB(xs:List Int):List Bool:=[true,false,false]++(replicate 5 false++(ql (xs.length:Int) 16++(ql ((65535^^^xs.length:Nat):Int) 16++bb xs)))
theorem Dfl.stored(hb:∀x∈xs,0<=x/\x<256)(hl:xs.length<65536):Dfl xs (sdB xs):=by
 refine Dfl.of λB r most e h0=>?_;obtain⟨x1,x2⟩:=qpmb hl;generalize hcx:65535^^^xs.length=c at x1 x2;have hd:B.drop 0=([true]++[false,false])++(replicate 5 false++(ql (xs.length:Int) 16++(ql (c:Int) 16++(bb xs++r)))):=by
  rw[e];unfold sdB;rw[hcx];simp only[append_assoc];rfl
 obtain⟨_,_,hd3,h3⟩:=qxr (p:=0) rfl hd;rw[qlbb hd];have l3:=qke hd3;have hd4:=qae hd3;rw[List.length_replicate]at hd4 l3;have l4:=qke hd4;have hd5:=qae hd4;rw[qq]at hd5 l4;have l5:=qke hd5;have hd6:=qae hd5;rw[qq]at hd6 l5;have e16:(2:Int)^(16:Int).toNat=65536:=by decide
 have g3:=qdk (B:=B) (out:=[]) (n:=16) hd4 (by rw[qq];rfl) (by rw[qq];decide) (by omega);have g4:=qdk (B:=B) (out:=[]) (n:=16) hd5 (by rw[qq];rfl) (by rw[qq];decide) (by omega);have v1:=qci (e:=(xs.length:Int)) (x:=16) (by omega) (by rw[e16];omega);have v2:=qci (e:=(c:Int)) (x:=16) (by omega) (by rw[e16];omega);rw[show(16:Int).toNat=16 from rfl]at v1 v2;rw[v1,qq]at g3;rw[v2,qq]at g4;have st:qck B most (3,[],0)=if most-([]:List Int).length<(xs.length:Int)then qtd 5 (40,[],0)else zst B most xs.length (40,[],0):=by
  unfold qck;simp only
  rw[show 8*((3+7)/8)=3+5 from rfl,g3];simp only
  rw[g4];simp only
  rw[if_neg (by simp),qqmb (by omega) (by omega),x2,if_neg (by decide),Int.toNat_natCast]
 rw[st];refine⟨λhm=>?_,λhm=>?_⟩
 ·rw[if_neg (by simp;omega),qdmb xs 40 [] r hb (by omega) hd6 (by simpa using hm)];refine Prod.ext rfl (Prod.ext ?_ rfl);unfold sdB;simp only[length_append,length_cons,length_nil,List.length_replicate,qq,qev];omega
 ·rw[if_pos (by simp;omega)];rfl
end
end
theorem qbv(V:Nat)(m k:Nat):ql (V:Int) (m+k)=ql (V:Int) m++ql ((V/2^m:Nat):Int) k:=by
 unfold ql;rw[List.range_add,map_append,List.map_map];congr 1;refine map_congr_left λi hi=>?_;show bt (V:Int) (m+i)=_;rw[qyab,qyab,Nat.testBit_div_two_pow,Nat.add_comm]
theorem qihb(V:Nat)(k:Nat):ql ((V%2^k:Nat):Int) k=ql (V:Int) k:=by
 unfold ql;refine map_congr_left λi hi=>?_;rw[qyab,qyab,Nat.testBit_mod_two_pow];have:=List.mem_range.1 hi;simp[this]
theorem qiqb(V:Nat):∀N,bb (byt V N)=ql (V:Int) (8*N):=by
 intro N;induction N with
 |zero=>rfl
 |succ N ih=>
  rw[qft,qxlb,ih,show 8*(N+1)=8*N+8 by omega,qbv];congr 1;exact qihb _ 8
theorem qylb(a b:List Int):bb (a++b)=bb a++bb b:=by simp[bb]
theorem qfp(D:List Bool):(bytes D).length=(D.length+7)/8:=qsh _ _
theorem qhfb(D:List Bool):∀x∈bytes D,0<=x/\x<256:=byt_ok _ _
theorem qhhb{V N:Nat}{D:List Bool}{t:List Int}(h:byt V N=bytes D++t):∃r,ql (V:Int) (8*N)=D++r:=by
 have e:=qiqb V N;rw[h,qylb]at e;have e2:bb (bytes D)=ql (val D:Int) (8*((D.length+7)/8)):=qiqb _ _;rw[show 8*((D.length+7)/8)=D.length+(8*((D.length+7)/8)-D.length)by omega,qbv,qzp]at e2;rw[e2,append_assoc]at e;exact⟨_,e.symm⟩
def frm(xs:List Int)(D:List Bool):List Int:=[120,156]++bytes D++beJ 4 4 (adV xs)
theorem qmfb(v:Int):(beJ 4 4 v).length=4:=by simp[beJ]
theorem qrp(xs:List Int)(D:List Bool):(frm xs D).length=2+(D.length+7)/8+4:=by
 unfold frm;rw[length_append,length_append,qfp,qmfb];rfl
theorem frm_ok(xs:List Int)(D:List Bool):∀x∈frm xs D,0<=x/\x<256:=by
 intro x hx;unfold frm at hx;rcases mem_append.1 hx with hx|hx
 ·rcases mem_append.1 hx with hx|hx
  ·have:∀x∈([120,156]:List Int),0<=x/\x<256:=by decide
   exact this x hx
  ·exact qhfb D x hx
 ·exact qow 4 4 _ x hx
theorem qirb{xs t:List Int}{D:List Bool}{most:Int}(hD:Dfl xs D)(ht:∀x∈t,0<=x/\x<256)(h0:0<=most)(h1:most<=262144):
 ((xs.length:Int)<=most->Unp ([120,156]++bytes D++t) most (unpR ([120,156]++bytes D++t) (D.length,xs,0)))/\(most<xs.length->Unp ([120,156]++bytes D++t) most ([],0,5)):=by
 generalize hy:[120,156]++bytes D++t=ys
 have hyl:ys.length=2+(bytes D++t).length:=by rw[<-hy];simp;omega
 have hyd:ys.drop 2=bytes D++t:=by rw[<-hy];rfl
 have e0:ys.getD 0 0=120:=by rw[<-hy];rfl
 have e1:ys.getD 1 0=156:=by rw[<-hy];rfl
 obtain⟨V,hV⟩:=qhqb (bytes D++t) (λx hx=>by
  rcases mem_append.1 hx with hx|hx
  ·exact qhfb D x hx
  ·exact ht x hx)
 obtain⟨r,hr⟩:=qhhb hV.symm
 obtain⟨g1,g2⟩:=hD _ r most hr h0
 have hbad:¬hdBad 120 156:=by decide+kernel
 have hl2:ys.length-2=(bytes D++t).length:=by omega
 have mk:∀z' q,ZAll (ql (V:Int) (8*(bytes D++t).length)) most 0 (0,[],0) z'->q=unpR ys z'->Unp ys most q:=by
  intro z' q hz hq;unfold Unp;rw[if_neg (by omega),e0,e1,if_neg hbad,if_neg (by omega),hl2];exact⟨V,z',by rw[hyd];exact hV,⟨0,hz⟩,hq⟩
 refine⟨λhm=>mk _ _ (g1 hm) rfl,λhm=>?_⟩
 obtain⟨z',hz,h5⟩:=g2 hm
 refine mk z' _ hz ?_
 unfold unpR
 rw[if_pos (by rw[h5];decide),h5]
theorem qyhb{xs t:List Int}{D:List Bool}{most:Int}(hD:Dfl xs D)(ht:∀x∈t,0<=x/\x<256)(hm:(xs.length:Int)<=most)(h1:most<=262144):Unp (frm xs D++t) most (xs,((frm xs D).length:Int),0):=by
 have h:=(qirb (t:=beJ 4 4 (adV xs)++t) hD (λx hx=>by
  rcases mem_append.1 hx with hx|hx
  ·exact qow 4 4 _ x hx
  ·exact ht x hx) (by omega) h1).1 hm
 rw[<-append_assoc,show[120,156]++bytes D++beJ 4 4 (adV xs)=frm xs D from rfl]at h;have hl:=qrp xs D;have e:unpR (frm xs D++t) (D.length,xs,0)=(xs,((frm xs D).length:Int),0):=by
  unfold unpR;simp only
  rw[if_neg (λe=>e rfl),if_neg (by rw[length_append];omega),if_neg,hl];have ed:((frm xs D++t).drop (2+(D.length+7)/8)).take 4=beJ 4 4 (adV xs):=by
   unfold frm;rw[append_assoc,drop_left' (by rw[length_append,qfp];rfl),take_left' (qmfb _)]
  have hb:=adV_b xs;rw[ed,qwlb,show(2:Int)^(8*4)=4294967296 by decide,Int.emod_eq_of_lt hb.1 hb.2];exact λe=>e rfl
 rwa[e]at h
section
section
variable {α:Type}{k:α->Int}
def mrg(k:α->Int):List α->List α->List α
 |[],ys=>ys
 |x::xs,[]=>x::xs
 |x::xs,y::ys=>if k y<k x then y::mrg k (x::xs) ys else x::mrg k xs (y::ys)
termination_by xs ys=>xs.length+ys.length
theorem qti(ys:List α):mrg k [] ys=ys:=by unfold mrg;rfl
theorem qni(xs:List α):mrg k xs []=xs:=by
 cases xs with
 |nil=>exact qti _
 |cons x xs=>unfold mrg;rfl
theorem qbi(x y:α)(xs ys:List α):mrg k (x::xs) (y::ys)=if k y<k x then y::mrg k (x::xs) ys else x::mrg k xs (y::ys):=by
 conv=>lhs;unfold mrg
theorem qyv:∀(n:Nat) (xs ys:List α),xs.length+ys.length=n->(mrg k xs ys).length=n:=by
 intro n;induction n with
 |zero=>
  intro xs ys h;have h1:xs=[]:=length_eq_zero_iff.1 (by omega);have h2:ys=[]:=length_eq_zero_iff.1 (by omega);subst h1;subst h2;rw[qti];rfl
 |succ n ih=>
  intro xs ys h;cases xs with
  |nil=>rw[qti];simpa using h
  |cons x xs=>
   cases ys with
   |nil=>rw[qni];simpa using h
   |cons y ys=>
    simp only[length_cons]at h;rw[qbi];split
    ·rw[length_cons,ih _ _ (by simp only[length_cons];omega)]
    ·rw[length_cons,ih _ _ (by simp only[length_cons];omega)]
def srt(k:α->Int)(l:List α):Prop:=l.Pairwise λa b=>k a<=k b
theorem qzx:∀(n:Nat) (A1 A2 B1 B2:List α),A1.length+B1.length=n->(∀a∈A2,∀b∈B1,k b<k a)->(∀a∈A1,∀b∈B2,k a<=k b)->mrg k (A1++A2) (B1++B2)=mrg k A1 B1++mrg k A2 B2:=by
 intro n;induction n with
 |zero=>
  intro A1 A2 B1 B2 h _ _;have h1:A1=[]:=length_eq_zero_iff.1 (by omega);have h2:B1=[]:=length_eq_zero_iff.1 (by omega);subst h1;subst h2;rw[qti];rfl
 |succ n ih=>
  intro A1 A2 B1 B2 h hA hB;cases A1 with
  |nil=>
   rw[qti,nil_append];cases B1 with
   |nil=>rfl
   |cons b B1=>
    cases A2 with
    |nil=>rw[qti,qti]
    |cons a A2=>
     rw[cons_append,qbi,if_pos (hA a (by simp) b (by simp))];have:=ih [] (a::A2) B1 B2 (by simp only[length_cons,length_nil]at h|-;omega) (λa ha b hb=>hA a ha b (by simp[hb])) (by simp);rw[nil_append,qti]at this
     rw[this];rfl
  |cons a A1=>
   cases B1 with
   |nil=>
    rw[qni,nil_append];cases B2 with
    |nil=>rw[qni,qni]
    |cons b B2=>
     have hab:=hB a (by simp) b (by simp);rw[cons_append,qbi,if_neg (by omega)];have:=ih A1 A2 [] (b::B2) (by simp only[length_cons,length_nil]at h|-;omega) (by simp) (λa ha b hb=>hB a (by simp[ha]) b hb);rw[nil_append,qni]at this
     rw[this];rfl
   |cons b B1=>
    rw[cons_append,cons_append,qbi,qbi];simp only[length_cons]at h;split
    ·have:=ih (a::A1) A2 B1 B2 (by simp only[length_cons];omega) (λa ha b hb=>hA a ha b (by simp[hb])) hB;rw[cons_append]at this
     rw[this];rfl
    ·have:=ih A1 A2 (b::B1) B2 (by simp only[length_cons];omega) hA (λa ha b hb=>hB a (by simp[ha]) b hb);rw[cons_append]at this
     rw[this];rfl
theorem qheb(A B:List α)(h:∀a∈A,∀b∈B,k a<=k b):mrg k A B=A++B:=by
 have:=qzx (k:=k) _ A [] [] B rfl (by simp) h;rw[append_nil,nil_append,qni,qti]at this
 exact this
def insR(k:α->Int)(x:α):List α->List α
 |[]=>[x]
 |y::l=>if k x<k y then x::y::l else y::insR k x l
def qxd(k:α->Int)(l:List α):List α:=l.foldl (λa x=>insR k x a) []
theorem quj(l:List α)(x:α):qxd k (l++[x])=insR k x (qxd k l):=by simp[qxd]
theorem qhab(x:α)(l:List α):(insR k x l).Perm (x::l):=by
 induction l with
 |nil=>exact Perm.refl _
 |cons y l ih=>
  rw[insR];split
  ·exact Perm.refl _
  ·exact(Perm.cons y ih).trans (Perm.swap x y l)
theorem qgob{x:α}{l:List α}(h:srt k l):srt k (insR k x l):=by
 induction l with
 |nil=>exact List.pairwise_singleton _ _
 |cons y l ih=>
  rw[insR];have h':=pairwise_cons.1 h;split
  ·rename_i hlt;refine pairwise_cons.2 ⟨λz hz=>?_,h⟩;rcases mem_cons.1 hz with rfl|hz
   ·omega
   ·have:=h'.1 z hz;omega
  ·rename_i hlt;refine pairwise_cons.2 ⟨λz hz=>?_,ih h'.2⟩;have:=(qhab (k:=k) x l).mem_iff.1 hz;rcases mem_cons.1 this with rfl|hz
   ·omega
   ·exact h'.1 z hz
theorem qzq{Q:List α->Prop}(h0:Q [])(h1:∀l x,Q l->Q (l++[x]))(l:List α):Q l:=by
 have:∀n (l:List α),l.length=n->Q l:=by
  intro n;induction n with
  |zero=>intro l h;rw[length_eq_zero_iff.1 h];exact h0
  |succ n ih=>
   intro l h;have hne:l≠[]:=by intro e;subst e;simp at h
   rw[<-List.dropLast_concat_getLast hne];exact h1 _ _ (ih _ (by rw[List.length_dropLast];omega))
 exact this _ l rfl
theorem qek(l:List α):srt k (qxd k l):=qzq (Q:=λl=>srt k (qxd k l)) Pairwise.nil (λl x h=>by rw[quj];exact qgob h) l
theorem qvj(l:List α):(qxd k l).Perm l:=qzq (Q:=λl=>(qxd k l).Perm l) (Perm.refl _) (λl x h=>by
 rw[quj];exact(qhab x _).trans ((Perm.cons x h).trans (List.perm_append_comm (l₁:=[x]) (l₂:=l)))) l
theorem qpd(l:List α):(qxd k l).length=l.length:=(qvj l).length_eq
theorem qhob(x:α):∀(n:Nat) (A B:List α),A.length+B.length=n->srt k A->srt k B->insR k x (mrg k A B)=mrg k A (insR k x B):=by
 intro n;induction n with
 |zero=>
  intro A B h _ _;have h1:A=[]:=length_eq_zero_iff.1 (by omega);subst h1;rw[qti,qti]
 |succ n ih=>
  intro A B h hA hB;cases A with
  |nil=>rw[qti,qti]
  |cons a A=>
   have hA':=pairwise_cons.1 hA;cases B with
   |nil=>
    rw[qni];show(if k x<k a then x::a::A else a::insR k x A)=mrg k (a::A) [x];rw[qbi];split
    ·rw[qni]
    ·have:=ih A [] (by simp only[length_cons,length_nil]at h|-;omega) hA'.2 Pairwise.nil;rw[qni]at this
     rw[this];rfl
   |cons b B=>
    have hB':=pairwise_cons.1 hB;simp only[length_cons]at h;rw[qbi];by_cases h1:k b<k a
    ·rw[if_pos h1];show(if k x<k b then x::b::mrg k (a::A) B else b::insR k x (mrg k (a::A) B))=_;show _=mrg k (a::A) (if k x<k b then x::b::B else b::insR k x B);by_cases h2:k x<k b
     ·rw[if_pos h2,if_pos h2,qbi,if_pos (by omega),qbi,if_pos h1]
     ·rw[if_neg h2,if_neg h2,qbi,if_pos h1,ih (a::A) B (by simp only[length_cons];omega) hA hB'.2]
    ·rw[if_neg h1];show(if k x<k a then x::a::mrg k A (b::B)else a::insR k x (mrg k A (b::B)))=_;by_cases h2:k x<k a
     ·rw[if_pos h2];have h3:k x<k b:=by omega
      show _=mrg k (a::A) (if k x<k b then x::b::B else b::insR k x B);rw[if_pos h3,qbi,if_pos h2,qbi,if_neg h1]
     ·rw[if_neg h2,ih A (b::B) (by simp only[length_cons];omega) hA'.2 hB];show a::mrg k A (if k x<k b then x::b::B else b::insR k x B)=mrg k (a::A) (if k x<k b then x::b::B else b::insR k x B);by_cases h3:k x<k b
      ·rw[if_pos h3,qbi,if_neg h2]
      ·rw[if_neg h3,qbi,if_neg h1]
theorem qoo(A B:List α):qxd k (A++B)=mrg k (qxd k A) (qxd k B):=qzq (Q:=λB=>qxd k (A++B)=mrg k (qxd k A) (qxd k B)) (by rw[append_nil];exact(qni _).symm) (λB x h=>by
 rw[<-append_assoc,quj,quj,h,qhob x _ _ _ rfl (qek A) (qek B)]) B
def bsort(k:α->Int)(c:Nat):Nat->List α->List α
 |0,l=>qxd k l
 |f+1,l=>if l.length<=c then qxd k l else qxd k (l.take c)++bsort k c f (l.drop c)
end
end
section
set_option maxRecDepth 100000
def qfk(a_0:(Array Value))(b_1:(Array Value))(Q:VWP)(w:World):Prop:=nw w a_0 198 λa1 w2=>nw w2 b_1 198 λa3 w4=>ldI .i64 w4 (Addr.add a1 0) λx5=>ldI .i64 w4 (Addr.add a3 0) λx6=>qbk 132 [.int .i64 x5,.int .i64 x6] w4 λr9 w8=>Q (.int .i64 r9) w8
theorem qfk.ok(a_0:(Array Value))(b_1:(Array Value))(Q:VWP)(w:World)(h:qfk a_0 b_1 Q w):Calls prog 131 ⟨[.agg a_0,.agg b_1]⟩ w (Ret Q):=
 qhc [.tmp 4] qde Tryz.func131 rfl rfl rfl rfl .lf (by kernel_rfl) h
def qkl(x_0:Int)(Q:VWP)(w:World):Prop:=Q (.bool (x_0 !=x_0)) w
theorem qkl.ok(x_0:Int)(Q:VWP)(w:World)(h:qkl x_0 Q w):Calls prog 150 ⟨[.int .i64 x_0]⟩ w (Ret Q):=
 qhc [.tmp 2] qde Tryz.func150 rfl rfl rfl rfl .lf (by kernel_rfl) h
def qgk(x_0 y_1:Int)(Q:VWP)(w:World):Prop:=qzcb 150 [.int .i64 x_0] w λr3 w2=>qzcb 150 [.int .i64 y_1] w2 λr6 w5=>br r3 (br r6 (Q (.int .i64 0) w5) (Q (.int .i64 (-1)) w5)) (br r6 (Q (.int .i64 1) w5) (br (decide (x_0<y_1)) (Q (.int .i64 (-1)) w5) (br (decide (x_0>y_1)) (Q (.int .i64 1) w5) (Q (.int .i64 0) w5))))
theorem qgk.ok(x_0:Int)(y_1:Int)(Q:VWP)(w:World)(h:qgk x_0 y_1 Q w):Calls prog 132 ⟨[.int .i64 x_0,.int .i64 y_1]⟩ w (Ret Q):=
 qhc [.tmp 4] qde Tryz.func132 rfl rfl rfl rfl .lf (by kernel_rfl) h
def qi.j3(data_0:Sl)(a_1:Int)(b_2 i_8:Int)(Q:VWP)(nx1:Sl->Int->Int->Int->WP)(w:World):Prop:=lt (i64.wrap (i_8+1)) λx1=>nx1 data_0 a_1 b_2 x1 w
def qi.b2(data_0:Sl)(a_1:Int)(b_2 i_8 j_9:Int)(Q:VWP)(nx1:Sl->Int->Int->Int->WP)(nx2:Sl->Int->Int->Int->Int->WP)(w:World):Prop:=lt (World.drew w) λw2=>br (decide (j_9>a_1)) (ixS data_0.a data_0.len j_9 2 λa3=>ldA w2 a3 2 λc4=>lt (i64.wrap (j_9-1)) λx5=>ixS data_0.a data_0.len x5 2 λa6=>ldA w2 a6 2 λc7=>qbk 131 [.agg c4,.agg c7] w2 λr10 w9=>br (decide (r10<0)) (lt (World.drew w9) λw11=>lt (i64.wrap (j_9-1)) λx12=>lt (i64.wrap (j_9-1)) λx13=>ixS data_0.a data_0.len x13 2 λa14=>ldA w11 a14 2 λc15=>ixS data_0.a data_0.len j_9 2 λa16=>ldA w11 a16 2 λc17=>ixS data_0.a data_0.len j_9 2 λa18=>(c15).size=2/\stA w11 a18 c15 λw19=>ixS data_0.a data_0.len x12 2 λa20=>(c17).size=2/\stA w19 a20 c17 λw21=>lt (i64.wrap (j_9-1)) λx22=>nx2 data_0 a_1 b_2 i_8 x22 w21) (qi.j3 data_0 a_1 b_2 i_8 Q nx1 w9)) (qi.j3 data_0 a_1 b_2 i_8 Q nx1 w2)
def qi.l2(data_0:Sl)(a_1:Int)(b_2 i_8 j_9:Int)(Q:VWP)(nx1:Sl->Int->Int->Int->WP)(w:World):Prop:=∃(I:Int->WP) (μ:Int->World->Nat),I j_9 w/\∀j_9:Int,∀w:World,I j_9 w->qi.b2 data_0 a_1 b_2 i_8 j_9 Q nx1 (λdata_0' a_1' b_2' i_8' j_9' w'=>(data_0'=data_0/\a_1'=a_1/\b_2'=b_2/\i_8'=i_8)/\I j_9' w'/\μ j_9' w'<μ j_9 w) w
def qi.j4(data_0:Sl)(a_1:Int)(b_2 i_8 j_9:Int)(Q:VWP)(nx1:Sl->Int->Int->Int->WP)(w:World):Prop:=qi.l2 data_0 a_1 b_2 i_8 j_9 Q nx1 w
def qi.j2(data_0:Sl)(a_1:Int)(b_2 i_8:Int)(Q:VWP)(nx1:Sl->Int->Int->Int->WP)(w:World):Prop:=qi.j4 data_0 a_1 b_2 i_8 i_8 Q nx1 w
def qi.b1(data_0:Sl)(a_1:Int)(b_2 i_8:Int)(Q:VWP)(nx1:Sl->Int->Int->Int->WP)(w:World):Prop:=br (decide (i_8<b_2)) (qi.j2 data_0 a_1 b_2 i_8 Q nx1 w) (Q (.tuple ⟨[]⟩) w)
def qi.l1(data_0:Sl)(a_1:Int)(b_2 i_8:Int)(Q:VWP)(w:World):Prop:=∃(I:Int->WP) (μ:Int->World->Nat),I i_8 w/\∀i_8:Int,∀w:World,I i_8 w->qi.b1 data_0 a_1 b_2 i_8 Q (λdata_0' a_1' b_2' i_8' w'=>(data_0'=data_0/\a_1'=a_1/\b_2'=b_2)/\I i_8' w'/\μ i_8' w'<μ i_8 w) w
def qi.j1(data_0:Sl)(a_1:Int)(b_2 i_8:Int)(Q:VWP)(w:World):Prop:=qi.l1 data_0 a_1 b_2 i_8 Q w
def qi(data_0:Sl)(a_1:Int)(b_2:Int)(Q:VWP)(w:World):Prop:=lt (i64.wrap (a_1+1)) λx23=>qi.j1 data_0 a_1 b_2 x23 Q w
theorem qi.ok(data_0:Sl)(a_1:Int)(b_2:Int)(Q:VWP)(w:World)(h:qi data_0 a_1 b_2 Q w):Calls prog 162 ⟨[sV data_0,.int .i64 a_1,.int .i64 b_2,.func (.func 131) ⟨[]⟩ ⟨[]⟩]⟩ w (Ret Q):=
 qhc [] qde Tryz.func162 rfl rfl rfl rfl (.sq [sL 0,sI 1,sI 2,(3,.c0 131),sI 8] (λa b c _ d w=>qi.j1 a b c d Q w) .lf (.bk (.lo [sL 0,sI 1,sI 2,(3,.c0 131)] [sI 8] (λa b c _ d w=>qi.l1 a b c d Q w) (λnx1 a b c _ d w=>qi.b1 a b c d Q (λx0 x1 x2 x8 w=>nx1 x0 x1 x2 () x8 w) w) λnx1=>(.sq [sL 0,sI 1,sI 2,(3,.c0 131),sI 8] (λa b c _ d w=>qi.j2 a b c d Q (λx0 x1 x2 x8 w=>nx1 x0 x1 x2 () x8 w) w) .lf (.sq [sL 0,sI 1,sI 2,(3,.c0 131),sI 8] (λa b c _ d w=>qi.j3 a b c d Q (λx0 x1 x2 x8 w=>nx1 x0 x1 x2 () x8 w) w) (.bk (.sq [sL 0,sI 1,sI 2,(3,.c0 131),sI 8,sI 9] (λa b c _ d e w=>qi.j4 a b c d e Q (λx0 x1 x2 x8 w=>nx1 x0 x1 x2 () x8 w) w) .lf (.bk (.lo [sL 0,sI 1,sI 2,(3,.c0 131),sI 8] [sI 9] (λa b c _ d e w=>qi.l2 a b c d e Q (λx0 x1 x2 x8 w=>nx1 x0 x1 x2 () x8 w) w) (λnx2 a b c _ d e w=>qi.b2 a b c d e Q (λx0 x1 x2 x8 w=>nx1 x0 x1 x2 () x8 w) (λx0 x1 x2 x8 x9 w=>nx2 x0 x1 x2 () x8 x9 w) w) λnx2=> .lf)))) .lf))))) (by kernel_rfl) h
def qkb.b1(data_0:Sl)(a_1:Int)(b_2 n_3 i_10:Int)(Q:VWP)(nx1:Sl->Int->Int->Int->Int->WP)(w:World):Prop:=br (decide (i_10<n_3)) (lt (World.drew w) λw1=>lt (i64.wrap (a_1+i_10)) λx2=>lt (i64.wrap (b_2+i_10)) λx3=>lt (i64.wrap (b_2+i_10)) λx4=>ixS data_0.a data_0.len x4 2 λa5=>ldA w1 a5 2 λc6=>lt (i64.wrap (a_1+i_10)) λx7=>ixS data_0.a data_0.len x7 2 λa8=>ldA w1 a8 2 λc9=>ixS data_0.a data_0.len x2 2 λa10=>(c6).size=2/\stA w1 a10 c6 λw11=>ixS data_0.a data_0.len x3 2 λa12=>(c9).size=2/\stA w11 a12 c9 λw13=>lt (i64.wrap (i_10+1)) λx14=>nx1 data_0 a_1 b_2 n_3 x14 w13) (Q (.tuple ⟨[]⟩) w)
def qkb.l1(data_0:Sl)(a_1:Int)(b_2 n_3 i_10:Int)(Q:VWP)(w:World):Prop:=∃(I:Int->WP) (μ:Int->World->Nat),I i_10 w/\∀i_10:Int,∀w:World,I i_10 w->qkb.b1 data_0 a_1 b_2 n_3 i_10 Q (λdata_0' a_1' b_2' n_3' i_10' w'=>(data_0'=data_0/\a_1'=a_1/\b_2'=b_2/\n_3'=n_3)/\I i_10' w'/\μ i_10' w'<μ i_10 w) w
def qkb.j1(data_0:Sl)(a_1:Int)(b_2 n_3 i_10:Int)(Q:VWP)(w:World):Prop:=qkb.l1 data_0 a_1 b_2 n_3 i_10 Q w
def qkb(data_0:Sl)(a_1:Int)(b_2 n_3:Int)(Q:VWP)(w:World):Prop:=qkb.j1 data_0 a_1 b_2 n_3 0 Q w
theorem qkb.ok(data_0:Sl)(a_1:Int)(b_2:Int)(n_3:Int)(Q:VWP)(w:World)(h:qkb data_0 a_1 b_2 n_3 Q w):Calls prog 178 ⟨[sV data_0,.int .i64 a_1,.int .i64 b_2,.int .i64 n_3,.func (.func 131) ⟨[]⟩ ⟨[]⟩]⟩ w (Ret Q):=
 qhc [] qde Tryz.func178 rfl rfl rfl rfl (.sq [sL 0,sI 1,sI 2,sI 3,sI 10] (λa b c d e w=>qkb.j1 a b c d e Q w) .lf (.bk (.lo [sL 0,sI 1,sI 2,sI 3] [sI 10] (λa b c d e w=>qkb.l1 a b c d e Q w) (λnx1 a b c d e w=>qkb.b1 a b c d e Q nx1 w) λnx1=> .lf))) (by kernel_rfl) h
def qdb.j2(data_0:Sl)(m_2:Int)(i_10:Int)(Q:VWP)(w:World):Prop:=lt (i64.wrap (m_2-i_10)) λx1=>ct_ 178 [sV data_0,.int .i64 x1,.int .i64 m_2,.int .i64 i_10,.func (.func 131) ⟨[]⟩ ⟨[]⟩] w λw3=>Q (.tuple ⟨[]⟩) w3
def qdb.b1(data_0:Sl)(m_2:Int)(i_10 j_11:Int)(Q:VWP)(nx1:Sl->Int->Int->Int->WP)(w:World):Prop:=br (i_10 !=j_11) (br (decide (i_10>j_11)) (lt (i64.wrap (m_2-i_10)) λx4=>ct_ 178 [sV data_0,.int .i64 x4,.int .i64 m_2,.int .i64 j_11,.func (.func 131) ⟨[]⟩ ⟨[]⟩] w λw6=>lt (i64.wrap (i_10-j_11)) λx7=>nx1 data_0 m_2 x7 j_11 w6) (lt (i64.wrap (m_2-i_10)) λx8=>lt (i64.wrap (m_2+j_11)) λx9=>lt (i64.wrap (x9-i_10)) λx10=>ct_ 178 [sV data_0,.int .i64 x8,.int .i64 x10,.int .i64 i_10,.func (.func 131) ⟨[]⟩ ⟨[]⟩] w λw12=>lt (i64.wrap (j_11-i_10)) λx13=>nx1 data_0 m_2 i_10 x13 w12)) (qdb.j2 data_0 m_2 i_10 Q w)
def qdb.l1(data_0:Sl)(m_2:Int)(i_10 j_11:Int)(Q:VWP)(w:World):Prop:=∃(I:Int->Int->WP) (μ:Int->Int->World->Nat),I i_10 j_11 w/\∀i_10:Int,∀j_11:Int,∀w:World,I i_10 j_11 w->qdb.b1 data_0 m_2 i_10 j_11 Q (λdata_0' m_2' i_10' j_11' w'=>(data_0'=data_0/\m_2'=m_2)/\I i_10' j_11' w'/\μ i_10' j_11' w'<μ i_10 j_11 w) w
def qdb.j1(data_0:Sl)(m_2:Int)(i_10 j_11:Int)(Q:VWP)(w:World):Prop:=qdb.l1 data_0 m_2 i_10 j_11 Q w
def qdb(data_0:Sl)(a_1:Int)(m_2 b_3:Int)(Q:VWP)(w:World):Prop:=lt (i64.wrap (m_2-a_1)) λx14=>lt (i64.wrap (b_3-m_2)) λx15=>qdb.j1 data_0 m_2 x14 x15 Q w
theorem qdb.ok(data_0:Sl)(a_1:Int)(m_2:Int)(b_3:Int)(Q:VWP)(w:World)(h:qdb data_0 a_1 m_2 b_3 Q w):Calls prog 174 ⟨[sV data_0,.int .i64 a_1,.int .i64 m_2,.int .i64 b_3,.func (.func 131) ⟨[]⟩ ⟨[]⟩]⟩ w (Ret Q):=
 qhc [] qde Tryz.func174 rfl rfl rfl rfl (.pr 1 [sL 0,sI 2,(4,.c0 131),sI 10,sI 11] (λa b _ c d w=>qdb.j1 a b c d Q w) (.sq [sL 0,sI 2,(4,.c0 131),sI 10] (λa b _ c w=>qdb.j2 a b c Q w) (.bk (.lo [sL 0,sI 2,(4,.c0 131)] [sI 10,sI 11] (λa b _ c d w=>qdb.l1 a b c d Q w) (λnx1 a b _ c d w=>qdb.b1 a b c d Q (λx0 x2 x10 x11 w=>nx1 x0 x2 () x10 x11 w) w) λnx1=> .lf)) .lf)) (by kernel_rfl) h
def qa.j8(data_0:Sl)(b_3:Int)(mid_18 end_24:Int)(Q:VWP)(w:World):Prop:=br (decide (mid_18<end_24)) (br (decide (end_24<b_3)) (ct_ 163 [sV data_0,.int .i64 mid_18,.int .i64 end_24,.int .i64 b_3,.func (.func 131) ⟨[]⟩ ⟨[]⟩] w λw2=>Q (.tuple ⟨[]⟩) w2) (Q (.tuple ⟨[]⟩) w)) (Q (.tuple ⟨[]⟩) w)
def qa.j7(data_0:Sl)(a_1:Int)(b_3 mid_18 start_20 end_24:Int)(Q:VWP)(w:World):Prop:=br (decide (a_1<start_20)) (br (decide (start_20<mid_18)) (ct_ 163 [sV data_0,.int .i64 a_1,.int .i64 start_20,.int .i64 mid_18,.func (.func 131) ⟨[]⟩ ⟨[]⟩] w λw4=>qa.j8 data_0 b_3 mid_18 end_24 Q w4) (qa.j8 data_0 b_3 mid_18 end_24 Q w)) (qa.j8 data_0 b_3 mid_18 end_24 Q w)
def qa.j6(data_0:Sl)(a_1:Int)(m_2 b_3 mid_18 n_19 start_20:Int)(Q:VWP)(w:World):Prop:=lt (i64.wrap (n_19-start_20)) λx5=>br (decide (start_20<m_2)) (br (decide (m_2<x5)) (ct_ 174 [sV data_0,.int .i64 start_20,.int .i64 m_2,.int .i64 x5,.func (.func 131) ⟨[]⟩ ⟨[]⟩] w λw7=>qa.j7 data_0 a_1 b_3 mid_18 start_20 x5 Q w7) (qa.j7 data_0 a_1 b_3 mid_18 start_20 x5 Q w)) (qa.j7 data_0 a_1 b_3 mid_18 start_20 x5 Q w)
def qa.b1(data_0:Sl)(a_1:Int)(m_2 b_3 mid_18 n_19 p_22 start_20 r_21:Int)(Q:VWP)(nx1:Sl->Int->Int->Int->Int->Int->Int->Int->Int->WP)(w:World):Prop:=br (decide (start_20<r_21)) (lt (i64.wrap (start_20+r_21)) λx8=>lt (u64.wrap x8) λx9=>(0:Int)<=1/\lt (qal .u64 x9 1) λx10=>lt (i64.wrap x10) λx11=>lt (World.drew w) λw12=>lt (i64.wrap (p_22-x11)) λx13=>ixS data_0.a data_0.len x13 2 λa14=>ldA w12 a14 2 λc15=>ixS data_0.a data_0.len x11 2 λa16=>ldA w12 a16 2 λc17=>qbk 131 [.agg c15,.agg c17] w12 λr20 w19=>br (!(decide (r20<0))) (lt (i64.wrap (x11+1)) λx21=>nx1 data_0 a_1 m_2 b_3 mid_18 n_19 p_22 x21 r_21 w19) (nx1 data_0 a_1 m_2 b_3 mid_18 n_19 p_22 start_20 x11 w19)) (qa.j6 data_0 a_1 m_2 b_3 mid_18 n_19 start_20 Q w)
def qa.l1(data_0:Sl)(a_1:Int)(m_2 b_3 mid_18 n_19 p_22 start_20 r_21:Int)(Q:VWP)(w:World):Prop:=∃(I:Int->Int->WP) (μ:Int->Int->World->Nat),I start_20 r_21 w/\∀start_20:Int,∀r_21:Int,∀w:World,I start_20 r_21 w->qa.b1 data_0 a_1 m_2 b_3 mid_18 n_19 p_22 start_20 r_21 Q (λdata_0' a_1' m_2' b_3' mid_18' n_19' p_22' start_20' r_21' w'=>(data_0'=data_0/\a_1'=a_1/\m_2'=m_2/\b_3'=b_3/\mid_18'=mid_18/\n_19'=n_19/\p_22'=p_22)/\I start_20' r_21' w'/\μ start_20' r_21' w'<μ start_20 r_21 w) w
def qa.j5(data_0:Sl)(a_1:Int)(m_2 b_3 mid_18 n_19 start_20 r_21 p_22:Int)(Q:VWP)(w:World):Prop:=qa.l1 data_0 a_1 m_2 b_3 mid_18 n_19 p_22 start_20 r_21 Q w
def qa.j4(data_0:Sl)(a_1:Int)(m_2 b_3 mid_18 n_19 start_20 r_21:Int)(Q:VWP)(w:World):Prop:=lt (i64.wrap (n_19-1)) λx22=>qa.j5 data_0 a_1 m_2 b_3 mid_18 n_19 start_20 r_21 x22 Q w
def qa.j3(data_0:Sl)(a_1:Int)(m_2 b_3 mid_18 n_19:Int)(Q:VWP)(w:World):Prop:=br (decide (m_2>mid_18)) (lt (i64.wrap (n_19-b_3)) λx23=>qa.j4 data_0 a_1 m_2 b_3 mid_18 n_19 x23 mid_18 Q w) (qa.j4 data_0 a_1 m_2 b_3 mid_18 n_19 a_1 m_2 Q w)
def qa.j2(data_0:Sl)(a_1:Int)(m_2 b_3:Int)(Q:VWP)(w:World):Prop:=lt (i64.wrap (a_1+b_3)) λx24=>lt (u64.wrap x24) λx25=>(0:Int)<=1/\lt (qal .u64 x25 1) λx26=>lt (i64.wrap x26) λx27=>lt (i64.wrap (x27+m_2)) λx28=>qa.j3 data_0 a_1 m_2 b_3 x27 x28 Q w
def qa.j12(Q:VWP)(w:World):Prop:=Q (.tuple ⟨[]⟩) w
def qa.b2(data_0:Sl)(i_14:Int)(k_17:Int)(Q:VWP)(nx2:Sl->Int->Int->WP)(w:World):Prop:=br (decide (k_17>i_14)) (lt (World.drew w) λw29=>lt (i64.wrap (k_17-1)) λx30=>lt (i64.wrap (k_17-1)) λx31=>ixS data_0.a data_0.len x31 2 λa32=>ldA w29 a32 2 λc33=>ixS data_0.a data_0.len k_17 2 λa34=>ldA w29 a34 2 λc35=>ixS data_0.a data_0.len k_17 2 λa36=>(c33).size=2/\stA w29 a36 c33 λw37=>ixS data_0.a data_0.len x30 2 λa38=>(c35).size=2/\stA w37 a38 c35 λw39=>lt (i64.wrap (k_17-1)) λx40=>nx2 data_0 i_14 x40 w39) (qa.j12 Q w)
def qa.l2(data_0:Sl)(i_14:Int)(k_17:Int)(Q:VWP)(w:World):Prop:=∃(I:Int->WP) (μ:Int->World->Nat),I k_17 w/\∀k_17:Int,∀w:World,I k_17 w->qa.b2 data_0 i_14 k_17 Q (λdata_0' i_14' k_17' w'=>(data_0'=data_0/\i_14'=i_14)/\I k_17' w'/\μ k_17' w'<μ k_17 w) w
def qa.j13(data_0:Sl)(i_14:Int)(k_17:Int)(Q:VWP)(w:World):Prop:=qa.l2 data_0 i_14 k_17 Q w
def qa.j11(data_0:Sl)(m_2:Int)(i_14:Int)(Q:VWP)(w:World):Prop:=qa.j13 data_0 i_14 m_2 Q w
def qa.b3(data_0:Sl)(m_2:Int)(i_14 j_15:Int)(Q:VWP)(nx3:Sl->Int->Int->Int->WP)(w:World):Prop:=br (decide (i_14<j_15)) (lt (i64.wrap (i_14+j_15)) λx41=>lt (u64.wrap x41) λx42=>(0:Int)<=1/\lt (qal .u64 x42 1) λx43=>lt (i64.wrap x43) λx44=>lt (World.drew w) λw45=>ixS data_0.a data_0.len m_2 2 λa46=>ldA w45 a46 2 λc47=>ixS data_0.a data_0.len x44 2 λa48=>ldA w45 a48 2 λc49=>qbk 131 [.agg c47,.agg c49] w45 λr52 w51=>br (!(decide (r52<0))) (lt (i64.wrap (x44+1)) λx53=>nx3 data_0 m_2 x53 j_15 w51) (nx3 data_0 m_2 i_14 x44 w51)) (qa.j11 data_0 m_2 i_14 Q w)
def qa.l3(data_0:Sl)(m_2:Int)(i_14 j_15:Int)(Q:VWP)(w:World):Prop:=∃(I:Int->Int->WP) (μ:Int->Int->World->Nat),I i_14 j_15 w/\∀i_14:Int,∀j_15:Int,∀w:World,I i_14 j_15 w->qa.b3 data_0 m_2 i_14 j_15 Q (λdata_0' m_2' i_14' j_15' w'=>(data_0'=data_0/\m_2'=m_2)/\I i_14' j_15' w'/\μ i_14' j_15' w'<μ i_14 j_15 w) w
def qa.j10(data_0:Sl)(m_2:Int)(i_14 j_15:Int)(Q:VWP)(w:World):Prop:=qa.l3 data_0 m_2 i_14 j_15 Q w
def qa.j9(data_0:Sl)(a_1:Int)(m_2 b_3:Int)(t80:Bool)(Q:VWP)(w:World):Prop:=br t80 (qa.j10 data_0 m_2 a_1 m_2 Q w) (qa.j2 data_0 a_1 m_2 b_3 Q w)
def qa.j1(data_0:Sl)(a_1:Int)(m_2 b_3:Int)(Q:VWP)(w:World):Prop:=lt (i64.wrap (b_3-m_2)) λx54=>qa.j9 data_0 a_1 m_2 b_3 (x54==1) Q w
def qa.j17(Q:VWP)(w:World):Prop:=Q (.tuple ⟨[]⟩) w
def qa.b4(data_0:Sl)(i_10:Int)(k_13:Int)(Q:VWP)(nx4:Sl->Int->Int->WP)(w:World):Prop:=lt (i64.wrap (i_10-1)) λx55=>br (decide (k_13<x55)) (lt (World.drew w) λw56=>lt (i64.wrap (k_13+1)) λx57=>lt (i64.wrap (k_13+1)) λx58=>ixS data_0.a data_0.len x58 2 λa59=>ldA w56 a59 2 λc60=>ixS data_0.a data_0.len k_13 2 λa61=>ldA w56 a61 2 λc62=>ixS data_0.a data_0.len k_13 2 λa63=>(c60).size=2/\stA w56 a63 c60 λw64=>ixS data_0.a data_0.len x57 2 λa65=>(c62).size=2/\stA w64 a65 c62 λw66=>lt (i64.wrap (k_13+1)) λx67=>nx4 data_0 i_10 x67 w66) (qa.j17 Q w)
def qa.l4(data_0:Sl)(i_10:Int)(k_13:Int)(Q:VWP)(w:World):Prop:=∃(I:Int->WP) (μ:Int->World->Nat),I k_13 w/\∀k_13:Int,∀w:World,I k_13 w->qa.b4 data_0 i_10 k_13 Q (λdata_0' i_10' k_13' w'=>(data_0'=data_0/\i_10'=i_10)/\I k_13' w'/\μ k_13' w'<μ k_13 w) w
def qa.j18(data_0:Sl)(i_10:Int)(k_13:Int)(Q:VWP)(w:World):Prop:=qa.l4 data_0 i_10 k_13 Q w
def qa.j16(data_0:Sl)(a_1:Int)(i_10:Int)(Q:VWP)(w:World):Prop:=qa.j18 data_0 i_10 a_1 Q w
def qa.b5(data_0:Sl)(a_1:Int)(i_10 j_11:Int)(Q:VWP)(nx5:Sl->Int->Int->Int->WP)(w:World):Prop:=br (decide (i_10<j_11)) (lt (i64.wrap (i_10+j_11)) λx68=>lt (u64.wrap x68) λx69=>(0:Int)<=1/\lt (qal .u64 x69 1) λx70=>lt (i64.wrap x70) λx71=>lt (World.drew w) λw72=>ixS data_0.a data_0.len x71 2 λa73=>ldA w72 a73 2 λc74=>ixS data_0.a data_0.len a_1 2 λa75=>ldA w72 a75 2 λc76=>qbk 131 [.agg c74,.agg c76] w72 λr79 w78=>br (decide (r79<0)) (lt (i64.wrap (x71+1)) λx80=>nx5 data_0 a_1 x80 j_11 w78) (nx5 data_0 a_1 i_10 x71 w78)) (qa.j16 data_0 a_1 i_10 Q w)
def qa.l5(data_0:Sl)(a_1:Int)(i_10 j_11:Int)(Q:VWP)(w:World):Prop:=∃(I:Int->Int->WP) (μ:Int->Int->World->Nat),I i_10 j_11 w/\∀i_10:Int,∀j_11:Int,∀w:World,I i_10 j_11 w->qa.b5 data_0 a_1 i_10 j_11 Q (λdata_0' a_1' i_10' j_11' w'=>(data_0'=data_0/\a_1'=a_1)/\I i_10' j_11' w'/\μ i_10' j_11' w'<μ i_10 j_11 w) w
def qa.j15(data_0:Sl)(a_1:Int)(i_10 j_11:Int)(Q:VWP)(w:World):Prop:=qa.l5 data_0 a_1 i_10 j_11 Q w
def qa.j14(data_0:Sl)(a_1:Int)(m_2 b_3:Int)(t28:Bool)(Q:VWP)(w:World):Prop:=br t28 (qa.j15 data_0 a_1 m_2 b_3 Q w) (qa.j1 data_0 a_1 m_2 b_3 Q w)
def qa(data_0:Sl)(a_1:Int)(m_2 b_3:Int)(Q:VWP)(w:World):Prop:=lt (i64.wrap (m_2-a_1)) λx81=>qa.j14 data_0 a_1 m_2 b_3 (x81==1) Q w
theorem qa.ok(data_0:Sl)(a_1:Int)(m_2:Int)(b_3:Int)(Q:VWP)(w:World)(h:qa data_0 a_1 m_2 b_3 Q w):Calls prog 163 ⟨[sV data_0,.int .i64 a_1,.int .i64 m_2,.int .i64 b_3,.func (.func 131) ⟨[]⟩ ⟨[]⟩]⟩ w (Ret Q):=
 qhc [] qde Tryz.func163 rfl rfl rfl rfl (.sq [sL 0,sI 1,sI 2,sI 3,(4,.c0 131)] (λa b c d _ w=>qa.j1 a b c d Q w) (.sq [sL 0,sI 1,sI 2,sI 3,(4,.c0 131),sB 28] (λa b c d _ e w=>qa.j14 a b c d e Q w) .lf (.cd (.pr 1 [sL 0,sI 1,(4,.c0 131),sI 10,sI 11] (λa b _ c d w=>qa.j15 a b c d Q w) (.sq [sL 0,sI 1,sI 10] (λa b c w=>qa.j16 a b c Q w) (.bk (.lo [sL 0,sI 1,(4,.c0 131)] [sI 10,sI 11] (λa b _ c d w=>qa.l5 a b c d Q w) (λnx5 a b _ c d w=>qa.b5 a b c d Q (λx0 x1 x10 x11 w=>nx5 x0 x1 () x10 x11 w) w) λnx5=> .lf)) (.sq [] (λ w=>qa.j17 Q w) (.sq [sL 0,sI 10,sI 13] (λa b c w=>qa.j18 a b c Q w) .lf (.bk (.lo [sL 0,sI 10] [sI 13] (λa b c w=>qa.l4 a b c Q w) (λnx4 a b c w=>qa.b4 a b c Q nx4 w) λnx4=> .lf))) .lf))) .lf)) (.sq [sL 0,sI 1,sI 2,sI 3,(4,.c0 131)] (λa b c d _ w=>qa.j2 a b c d Q w) (.sq [sL 0,sI 1,sI 2,sI 3,(4,.c0 131),sB 80] (λa b c d _ e w=>qa.j9 a b c d e Q w) .lf (.cd (.pr 1 [sL 0,sI 2,(4,.c0 131),sI 14,sI 15] (λa b _ c d w=>qa.j10 a b c d Q w) (.sq [sL 0,sI 2,sI 14] (λa b c w=>qa.j11 a b c Q w) (.bk (.lo [sL 0,sI 2,(4,.c0 131)] [sI 14,sI 15] (λa b _ c d w=>qa.l3 a b c d Q w) (λnx3 a b _ c d w=>qa.b3 a b c d Q (λx0 x2 x14 x15 w=>nx3 x0 x2 () x14 x15 w) w) λnx3=> .lf)) (.sq [] (λ w=>qa.j12 Q w) (.sq [sL 0,sI 14,sI 17] (λa b c w=>qa.j13 a b c Q w) .lf (.bk (.lo [sL 0,sI 14] [sI 17] (λa b c w=>qa.l2 a b c Q w) (λnx2 a b c w=>qa.b2 a b c Q nx2 w) λnx2=> .lf))) .lf))) .lf)) (.pr 1 [sL 0,sI 1,sI 2,sI 3,(4,.c0 131),sI 18,sI 19] (λa b c d _ e f w=>qa.j3 a b c d e f Q w) (.pr 1 [sL 0,sI 1,sI 2,sI 3,(4,.c0 131),sI 18,sI 19,sI 20,sI 21] (λa b c d _ e f g h w=>qa.j4 a b c d e f g h Q w) (.sq [sL 0,sI 1,sI 2,sI 3,(4,.c0 131),sI 18,sI 19,sI 20,sI 21,sI 22] (λa b c d _ e f g h i w=>qa.j5 a b c d e f g h i Q w) .lf (.sq [sL 0,sI 1,sI 2,sI 3,(4,.c0 131),sI 18,sI 19,sI 20] (λa b c d _ e f g w=>qa.j6 a b c d e f g Q w) (.bk (.lo [sL 0,sI 1,sI 2,sI 3,(4,.c0 131),sI 18,sI 19,sI 22] [sI 20,sI 21] (λa b c d _ e f g h i w=>qa.l1 a b c d e f g h i Q w) (λnx1 a b c d _ e f g h i w=>qa.b1 a b c d e f g h i Q (λx0 x1 x2 x3 x18 x19 x22 x20 x21 w=>nx1 x0 x1 x2 x3 () x18 x19 x22 x20 x21 w) w) λnx1=> .lf)) (.pr 1 [sL 0,sI 1,sI 3,(4,.c0 131),sI 18,sI 20,sI 24] (λa b c _ d e f w=>qa.j7 a b c d e f Q w) (.sq [sL 0,sI 3,(4,.c0 131),sI 18,sI 24] (λa b _ c d w=>qa.j8 a b c d Q w) .lf .lf)))))))) (by kernel_rfl) h
def qf.j6(data_0:Sl)(n_1:Int)(blockSize_6 a_7:Int)(Q:VWP)(nx1:Sl->Int->Int->WP)(w:World):Prop:=lt (i64.wrap (a_7+blockSize_6)) λx1=>br (decide (x1<n_1)) (ct_ 163 [sV data_0,.int .i64 a_7,.int .i64 x1,.int .i64 n_1,.func (.func 131) ⟨[]⟩ ⟨[]⟩] w λw3=>lt (i64.wrap (blockSize_6*2)) λx4=>nx1 data_0 n_1 x4 w3) (lt (i64.wrap (blockSize_6*2)) λx5=>nx1 data_0 n_1 x5 w)
def qf.b2(data_0:Sl)(n_1:Int)(blockSize_6 a_7 b_8:Int)(Q:VWP)(nx1:Sl->Int->Int->WP)(nx2:Sl->Int->Int->Int->Int->WP)(w:World):Prop:=br (decide (b_8<=n_1)) (lt (i64.wrap (a_7+blockSize_6)) λx6=>ct_ 163 [sV data_0,.int .i64 a_7,.int .i64 x6,.int .i64 b_8,.func (.func 131) ⟨[]⟩ ⟨[]⟩] w λw8=>lt (i64.wrap (2*blockSize_6)) λx9=>lt (i64.wrap (b_8+x9)) λx10=>nx2 data_0 n_1 blockSize_6 b_8 x10 w8) (qf.j6 data_0 n_1 blockSize_6 a_7 Q nx1 w)
def qf.l2(data_0:Sl)(n_1:Int)(blockSize_6 a_7 b_8:Int)(Q:VWP)(nx1:Sl->Int->Int->WP)(w:World):Prop:=∃(I:Int->Int->WP) (μ:Int->Int->World->Nat),I a_7 b_8 w/\∀a_7:Int,∀b_8:Int,∀w:World,I a_7 b_8 w->qf.b2 data_0 n_1 blockSize_6 a_7 b_8 Q nx1 (λdata_0' n_1' blockSize_6' a_7' b_8' w'=>(data_0'=data_0/\n_1'=n_1/\blockSize_6'=blockSize_6)/\I a_7' b_8' w'/\μ a_7' b_8' w'<μ a_7 b_8 w) w
def qf.j5(data_0:Sl)(n_1:Int)(blockSize_6 a_7 b_8:Int)(Q:VWP)(nx1:Sl->Int->Int->WP)(w:World):Prop:=qf.l2 data_0 n_1 blockSize_6 a_7 b_8 Q nx1 w
def qf.j4(data_0:Sl)(n_1:Int)(blockSize_6:Int)(Q:VWP)(nx1:Sl->Int->Int->WP)(w:World):Prop:=lt (i64.wrap (2*blockSize_6)) λx11=>qf.j5 data_0 n_1 blockSize_6 0 x11 Q nx1 w
def qf.b1(data_0:Sl)(n_1:Int)(blockSize_6:Int)(Q:VWP)(nx1:Sl->Int->Int->WP)(w:World):Prop:=br (decide (blockSize_6<n_1)) (qf.j4 data_0 n_1 blockSize_6 Q nx1 w) (Q (.tuple ⟨[]⟩) w)
def qf.l1(data_0:Sl)(n_1:Int)(blockSize_6:Int)(Q:VWP)(w:World):Prop:=∃(I:Int->WP) (μ:Int->World->Nat),I blockSize_6 w/\∀blockSize_6:Int,∀w:World,I blockSize_6 w->qf.b1 data_0 n_1 blockSize_6 Q (λdata_0' n_1' blockSize_6' w'=>(data_0'=data_0/\n_1'=n_1)/\I blockSize_6' w'/\μ blockSize_6' w'<μ blockSize_6 w) w
def qf.j3(data_0:Sl)(n_1:Int)(blockSize_6:Int)(Q:VWP)(w:World):Prop:=qf.l1 data_0 n_1 blockSize_6 Q w
def qf.j2(data_0:Sl)(n_1:Int)(blockSize_6 a_7:Int)(Q:VWP)(w:World):Prop:=ct_ 162 [sV data_0,.int .i64 a_7,.int .i64 n_1,.func (.func 131) ⟨[]⟩ ⟨[]⟩] w λw13=>qf.j3 data_0 n_1 blockSize_6 Q w13
def qf.b3(data_0:Sl)(n_1:Int)(blockSize_6 a_7 b_8:Int)(Q:VWP)(nx3:Sl->Int->Int->Int->Int->WP)(w:World):Prop:=br (decide (b_8<=n_1)) (ct_ 162 [sV data_0,.int .i64 a_7,.int .i64 b_8,.func (.func 131) ⟨[]⟩ ⟨[]⟩] w λw15=>lt (i64.wrap (b_8+blockSize_6)) λx16=>nx3 data_0 n_1 blockSize_6 b_8 x16 w15) (qf.j2 data_0 n_1 blockSize_6 a_7 Q w)
def qf.l3(data_0:Sl)(n_1:Int)(blockSize_6 a_7 b_8:Int)(Q:VWP)(w:World):Prop:=∃(I:Int->Int->WP) (μ:Int->Int->World->Nat),I a_7 b_8 w/\∀a_7:Int,∀b_8:Int,∀w:World,I a_7 b_8 w->qf.b3 data_0 n_1 blockSize_6 a_7 b_8 Q (λdata_0' n_1' blockSize_6' a_7' b_8' w'=>(data_0'=data_0/\n_1'=n_1/\blockSize_6'=blockSize_6)/\I a_7' b_8' w'/\μ a_7' b_8' w'<μ a_7 b_8 w) w
def qf.j1(data_0:Sl)(n_1:Int)(blockSize_6 a_7 b_8:Int)(Q:VWP)(w:World):Prop:=qf.l3 data_0 n_1 blockSize_6 a_7 b_8 Q w
def qf(data_0:Sl)(n_1:Int)(Q:VWP)(w:World):Prop:=qf.j1 data_0 n_1 20 0 20 Q w
theorem qf.ok(data_0:Sl)(n_1:Int)(Q:VWP)(w:World)(h:qf data_0 n_1 Q w):Calls prog 149 ⟨[sV data_0,.int .i64 n_1,.func (.func 131) ⟨[]⟩ ⟨[]⟩]⟩ w (Ret Q):=
 qhc [] qde Tryz.func149 rfl rfl rfl rfl (.pr 1 [sL 0,sI 1,(2,.c0 131),sI 6,sI 7,sI 8] (λa b _ c d e w=>qf.j1 a b c d e Q w) (.sq [sL 0,sI 1,(2,.c0 131),sI 6,sI 7] (λa b _ c d w=>qf.j2 a b c d Q w) (.bk (.lo [sL 0,sI 1,(2,.c0 131),sI 6] [sI 7,sI 8] (λa b _ c d e w=>qf.l3 a b c d e Q w) (λnx3 a b _ c d e w=>qf.b3 a b c d e Q (λx0 x1 x6 x7 x8 w=>nx3 x0 x1 () x6 x7 x8 w) w) λnx3=> .lf)) (.sq [sL 0,sI 1,(2,.c0 131),sI 6] (λa b _ c w=>qf.j3 a b c Q w) .lf (.bk (.lo [sL 0,sI 1,(2,.c0 131)] [sI 6] (λa b _ c w=>qf.l1 a b c Q w) (λnx1 a b _ c w=>qf.b1 a b c Q (λx0 x1 x6 w=>nx1 x0 x1 () x6 w) w) λnx1=>(.sq [sL 0,sI 1,(2,.c0 131),sI 6] (λa b _ c w=>qf.j4 a b c Q (λx0 x1 x6 w=>nx1 x0 x1 () x6 w) w) .lf (.bk (.sq [sL 0,sI 1,(2,.c0 131),sI 6,sI 7,sI 8] (λa b _ c d e w=>qf.j5 a b c d e Q (λx0 x1 x6 w=>nx1 x0 x1 () x6 w) w) .lf (.sq [sL 0,sI 1,(2,.c0 131),sI 6,sI 7] (λa b _ c d w=>qf.j6 a b c d Q (λx0 x1 x6 w=>nx1 x0 x1 () x6 w) w) (.bk (.lo [sL 0,sI 1,(2,.c0 131),sI 6] [sI 7,sI 8] (λa b _ c d e w=>qf.l2 a b c d e Q (λx0 x1 x6 w=>nx1 x0 x1 () x6 w) w) (λnx2 a b _ c d e w=>qf.b2 a b c d e Q (λx0 x1 x6 w=>nx1 x0 x1 () x6 w) (λx0 x1 x6 x7 x8 w=>nx2 x0 x1 () x6 x7 x8 w) w) λnx2=> .lf)) .lf))))))))) (by kernel_rfl) h
def qle(x_0:Sl)(Q:VWP)(w:World):Prop:=ct_ 149 [sV x_0,.int .i64 (x_0.len:Int),.func (.func 131) ⟨[]⟩ ⟨[]⟩] w λw2=>Q (.tuple ⟨[]⟩) w2
theorem qle.ok(x_0:Sl)(Q:VWP)(w:World)(h:qle x_0 Q w):Calls prog 130 ⟨[sV x_0,.func (.func 131) ⟨[]⟩ ⟨[]⟩]⟩ w (Ret Q):=
 qhc [] qde Tryz.func130 rfl rfl rfl rfl .lf (by kernel_rfl) h
end
section
attribute [local irreducible] apK cpK mkK br
abbrev Pk:=Int×Sl
def pkC(x:Pk):List Value:=[.int .i64 x.1,.slice x.2.a x.2.len x.2.cap]
def pks(L:List Pk):List Value:=L.flatMap pkC
theorem qws(x:Pk)(L:List Pk):pks (x::L)=pkC x++pks L:=rfl
theorem qur(A B:List Pk):pks (A++B)=pks A++pks B:=by simp[pks]
theorem qhi(L:List Pk):(pks L).length=L.length*2:=by
 induction L with
 |nil=>rfl
 |cons x L ih=>rw[qws,length_append,ih,length_cons];simp[pkC];omega
theorem qyz(x:Pk):∀v∈(⟨pkC x⟩:Array Value),qfe v:=by
 intro v hv;have hv:v∈pkC x:=by simpa using hv
 simp[pkC]at hv;rcases hv with rfl|rfl<;>trivial
section
variable {F0:List Nat}{w0 w:World}{ps rest:List As}{D A B:List Pk}{x y:Pk}{s:Sl}
theorem St.lpk{i:Int}{K:Array Value->Prop}(h:St F0 w0 w ps)[Rdb F0 w0 s ps 2 (pks D)](A:List Pk)(x:Pk)(B:List Pk)(hD:D=A++x::B)(hi:i=A.length)(hk:K ⟨pkC x⟩):ixS s.a s.len i 2 λa=>ldA w a 2 K:=by
 have hr:=h.rdb s;have hl:=hr.1;rw[qhi,hD,length_append,length_cons]at hl;subst hi;refine hr.ix (by decide) (by omega) (by omega) λa ha=>?_;refine⟨⟨pkC x⟩,rfl,λj hj=>?_,hk⟩;rw[qgs,hr.cell ha (by rw[qhi,hD,length_append,length_cons];omega),hD,qur,qws,List.getElem?_append_right (by rw[qhi];omega),qhi,List.getElem?_append_left (by simp[pkC];omega)];rw[show((A.length:Nat):Int).toNat*2+j-A.length*2=j by omega];simp
theorem St.spk{i:Int}{K:World->Prop}(h:St F0 w0 w (qcc 2 s (pks D)::ps))(A:List Pk)(x:Pk)(B:List Pk)(y:Pk)(hD:D=A++x::B)(hi:i=A.length)(hk:∀w',St F0 w0 w' (qcc 2 s (pks (A++y::B))::ps)->K w'):
 ixS s.a s.len i 2 λa=>(⟨pkC y⟩:Array Value).size=2/\Go.Proofs.YtdccpphmkfaioaaGreat.stA w a ⟨pkC y⟩ K:=by
 subst hi
 subst hD
 have hl:=h.len
 rw[qhi,length_append,length_cons]at hl
 obtain⟨f,ho,hst⟩:=h.step
 rcases ho with⟨rfl,hnil,_⟩|⟨ob,rs,h1,hb,h2,h3,rfl⟩
 ·simp only at hl;omega
 ·unfold ixS
  rw[h1]
  refine⟨⟨by omega,by omega⟩,rfl,?_⟩
  rw[qyf,Nat.zero_add,Int.toNat_natCast]
  have e:pks (A++x::B)++rs=pks A++(pkC x++(pks B++rs)):=by rw[qur,qws];simp
  rw[e]at hb
  refine qut hb ?_ (qyz y) λw' hm hb'=>hk w' (hst w' [ob] _ hm (Gr.refl _ _) (Or.inr ⟨ob,rs,h1,?_,?_,?_,rfl⟩))
  ·simp only[length_append,qhi,pkC,length_cons,length_nil]
   show A.length*2+2<=_
   omega
  ·rw[show A.length*2=(pks A).length from(qhi A).symm,take_left' rfl,<-List.drop_drop,drop_left' rfl]at hb'
   rw[show(⟨pkC y⟩:Array Value).size=(pkC x).length from rfl,drop_left' rfl]at hb'
   rw[qur,qws]
   simpa using hb'
  ·rw[qhi];simp only[length_append,length_cons];omega
  ·rw[<-h3];simp only[length_append,qhi,length_cons]
theorem quab.c{n:Int}{K:Ending->World->Prop}(hk:K (.returned (.bool false)) w):Calls prog 150 ⟨[.int .i64 n]⟩ w K:=by
 refine qdc (qkl.ok _ _ _ ?_);unfold qkl;rw[show(n !=n)=false by simp];exact hk
theorem qpp.c{K:Ending->World->Prop}(h:St F0 w0 w ps)(hk:∀(r:Int) w',(r<0↔x.1<y.1)->St F0 w0 w' ps->K (.returned (.int .i64 r)) w'):Calls prog 131 ⟨[.agg ⟨pkC x⟩,.agg ⟨pkC y⟩]⟩ w K:=by
 refine qdc (qfk.ok _ _ _ _ ?_);unfold qfk;refine h.new λna w h=>?_;refine h.new λnb w h=>?_;have h:St F0 w0 w (qqb nb (pkC y)::qqb na (pkC x)::ps):=h;refine(h.blk1).ldI (o:=0) rfl ?_;refine(h.blk).ldI (o:=0) rfl ?_;refine qdc (qgk.ok _ _ _ _ ?_);unfold qgk;refine quab.c ⟨_,rfl,?_⟩;refine quab.c ⟨_,rfl,?_⟩;refine qcq (qcq ?_);refine quc (λg=>?_) (λg=>?_)
 ·exact⟨_,rfl,hk _ w (by omega) h.drop.drop⟩
 ·refine quc (λg2=>?_) (λg2=>?_)
  ·exact⟨_,rfl,hk _ w (by omega) h.drop.drop⟩
  ·exact⟨_,rfl,hk _ w (by omega) h.drop.drop⟩
theorem qtt.c{P X M Y S:List Pk}{n:Nat}{K:Ending->World->Prop}(h:St F0 w0 w (qcc 2 s (pks (P++X++M++Y++S))::ps))(hX:X.length=n)(hY:Y.length=n)(hlen:(P++X++M++Y++S).length<=1000000)
 (hk:∀w',St F0 w0 w' (qcc 2 s (pks (P++Y++M++X++S))::ps)->K (.returned (.tuple ⟨[]⟩)) w'):
 Calls prog 178 ⟨[.slice s.a s.len s.cap,.int .i64 (P.length:Int),.int .i64 ((P.length+X.length+M.length:Nat):Int),.int .i64 (n:Int),.func (.func 131) ⟨[]⟩ ⟨[]⟩]⟩ w K:=by
 refine qdc (qkb.ok _ _ _ _ _ _ ?_)
 unfold qkb qkb.j1
 simp only[length_append]at hlen
 refine qjf (λ(i:Nat) (i':Int) w'=>i'=i/\i<=n/\St F0 w0 w' (qcc 2 s (pks (P++(Y.take i++X.drop i)++M++(X.take i++Y.drop i)++S))::ps)) (λi=>n-i) 0 ⟨rfl,by omega,by simpa using h⟩ ?_
 clear h
 rintro i i' wL I μ ⟨rfl,hi,h⟩ hin
 unfold qkb.b1
 refine quc (λg=>?_) (λg=>?_)
 ·have hiX:i<X.length:=by omega
  have hiY:i<Y.length:=by omega
  have eX:X.drop i=X[i]::X.drop (i+1):=drop_eq_getElem_cons hiX
  have eY:Y.drop i=Y[i]::Y.drop (i+1):=drop_eq_getElem_cons hiY
  have l1:(Y.take i).length=i:=by rw[length_take];omega
  have l2:(X.take i).length=i:=by rw[length_take];omega
  have l3:(X.drop (i+1)).length=X.length-(i+1):=length_drop
  refine h.drewK λw h=>?_
  refine qm (qd (by omega) (by omega)) (qm (qd (by omega) (by omega)) (qm (qd (by omega) (by omega)) ?_))
  refine h.lpk (s:=s) (P++(Y.take i++X.drop i)++M++X.take i) Y[i] (Y.drop (i+1)++S) (by rw[eY];simp only[append_assoc,cons_append]) (by simp only[length_append,l1,l2,length_drop];omega) ?_
  refine qm (qd (by omega) (by omega)) ?_
  refine h.lpk (s:=s) (P++Y.take i) X[i] (X.drop (i+1)++M++(X.take i++Y.drop i)++S) (by rw[eX];simp only[append_assoc,cons_append]) (by simp only[length_append,l1];omega) ?_
  refine h.spk (P++Y.take i) X[i] (X.drop (i+1)++M++(X.take i++Y.drop i)++S) Y[i] (by rw[eX];simp only[append_assoc,cons_append]) (by simp only[length_append,l1];omega) λw h=>?_
  refine h.spk (P++Y.take i++Y[i]::(X.drop (i+1)++M++X.take i)) Y[i] (Y.drop (i+1)++S) X[i] (by rw[eY];simp only[append_assoc,cons_append]) (by simp only[length_append,length_cons,l1,l2,l3];omega) λw h=>?_
  refine qm (qd (by omega) (by omega)) ?_
  refine⟨⟨rfl,rfl,rfl,rfl⟩,hin (i+1) _ _ ⟨by omega,by omega,?_⟩ (by omega)⟩
  rw[List.take_succ_eq_append_getElem hiY,List.take_succ_eq_append_getElem hiX]
  simp only[append_assoc,cons_append,nil_append]at h|-
  exact h
 ·have:i=n:=by omega
  subst this
  rw[List.take_of_length_le (by omega),List.drop_of_length_le (by omega),List.take_of_length_le (by omega),List.drop_of_length_le (by omega),append_nil,append_nil]at h
  exact hk wL h
end
end
section
attribute [local irreducible] apK cpK mkK br
def wt(x:Pk):Int:=x.1
theorem qvjb{α:Type}{k:α->Int}{x:α}:∀{T1 T2:List α},(∀y∈T1,¬k x<k y)->(∀y∈T2,k x<k y)->insR k x (T1++T2)=T1++x::T2:=by
 intro T1;induction T1 with
 |nil=>
  intro T2 _ h2;cases T2 with
  |nil=>rfl
  |cons y T2=>
   show insR k x (y::T2)=_;rw[insR,if_pos (h2 y (by simp))];rfl
 |cons y T1 ih=>
  intro T2 h1 h2;rw[cons_append,insR,if_neg (h1 y (by simp)),ih (λz hz=>h1 z (by simp[hz])) h2];rfl
section
variable {F0:List Nat}{w0 w:World}{ps rest:List As}{s:Sl}
theorem rotate.c{P A B S:List Pk}{K:Ending->World->Prop}(h:St F0 w0 w (qcc 2 s (pks (P++A++B++S))::ps))(hA:0<A.length)(hB:0<B.length)(hlen:(P++A++B++S).length<=1000000)
 (hk:∀w',St F0 w0 w' (qcc 2 s (pks (P++B++A++S))::ps)->K (.returned (.tuple ⟨[]⟩)) w'):
 Calls prog 174 ⟨[.slice s.a s.len s.cap,.int .i64 (P.length:Int),.int .i64 ((P.length+A.length:Nat):Int),.int .i64 ((P.length+A.length+B.length:Nat):Int),.func (.func 131) ⟨[]⟩ ⟨[]⟩]⟩ w K:=by
 simp only[length_append]at hlen
 refine qdc (qdb.ok _ _ _ _ _ _ ?_)
 unfold qdb qdb.j1
 refine qm (show i64.wrap (((P.length+A.length:Nat):Int)-(P.length:Int))=(A.length:Int)by rw[qd (by omega) (by omega)];omega) ?_
 refine qm (show i64.wrap (((P.length+A.length+B.length:Nat):Int)-((P.length+A.length:Nat):Int))=(B.length:Int)by rw[qd (by omega) (by omega)];omega) ?_
 generalize hT:P++B++A++S=T at hk
 generalize hM:P.length+A.length=M
 refine qug (λ(a:List Pk×List Pk×List Pk×List Pk) (i j:Int) w'=>i=(a.2.1.length:Int)/\j=(a.2.2.1.length:Int)/\a.1.length+a.2.1.length=M/\0<a.2.1.length/\0<a.2.2.1.length/\a.1.length+a.2.1.length+a.2.2.1.length+a.2.2.2.length<=1000000/\
  a.1++a.2.2.1++a.2.1++a.2.2.2=T/\St F0 w0 w' (qcc 2 s (pks (a.1++a.2.1++a.2.2.1++a.2.2.2))::ps)) (λa=>a.2.1.length+a.2.2.1.length) (P,A,B,S) ⟨rfl,rfl,hM,hA,hB,by simp only;omega,hT,h⟩ ?_
 clear h hA hB hT hM hlen
 rintro⟨P,A,B,S⟩ i j wL I μ ⟨rfl,rfl,hM,hA,hB,hlen,hT,h⟩ hin
 simp only at hM hA hB hlen hT h hin|-
 unfold qdb.b1
 refine qye (λg=>?_) (λg=>?_)
 ·have g:¬(A.length:Int)=(B.length:Int):=by simpa using g
  refine quc (λg2=>?_) (λg2=>?_)
  ·refine qm (show i64.wrap ((M:Int)-(A.length:Int))=(P.length:Int)by rw[qd (by omega) (by omega)];omega) ?_
   have l1:(A.take B.length).length=B.length:=by rw[length_take];omega
   have l2:(A.drop B.length).length=A.length-B.length:=length_drop
   have h':St F0 w0 wL (qcc 2 s (pks (P++A.take B.length++A.drop B.length++B++S))::ps):=by rw[append_assoc P,take_append_drop];exact h
   have hc:=qtt.c (n:=B.length) (K:=λe w'=>e= .returned (.tuple ⟨[]⟩)/\lt (i64.wrap ((A.length:Int)-(B.length:Int))) λx7=>((s=s/\(M:Int)=(M:Int))/\I x7 (B.length:Int) w'/\μ x7 (B.length:Int) w'<μ (A.length:Int) (B.length:Int) wL)) h' l1 rfl (by simp only[length_append,l1,l2];omega) λw h=>⟨rfl,?_⟩
   ·rw[l1,l2,show P.length+B.length+(A.length-B.length)=M by omega]at hc
    exact hc
   ·refine qm (show i64.wrap ((A.length:Int)-(B.length:Int))=((A.drop B.length).length:Int)by rw[qd (by omega) (by omega),l2];omega) ?_
    refine⟨⟨rfl,rfl⟩,hin (P++B,A.drop B.length,A.take B.length,S) _ _ _ ⟨rfl,by rw[l1],by simp only[length_append];omega,by simp only;omega,by simp only;omega,by simp only[length_append];omega,?_,h⟩ (by simp only;omega)⟩
    simp only
    rw[<-hT,append_assoc (P++B) (A.take _),take_append_drop]
  ·refine qm (show i64.wrap ((M:Int)-(A.length:Int))=(P.length:Int)by rw[qd (by omega) (by omega)];omega) ?_
   refine qm (qd (by omega) (by omega)) ?_
   refine qm (show i64.wrap ((M:Int)+(B.length:Int)-(A.length:Int))=((P.length+A.length+(B.length-A.length):Nat):Int)by rw[qd (by omega) (by omega)];omega) ?_
   have l1:(B.take (B.length-A.length)).length=B.length-A.length:=by rw[length_take];omega
   have l2:(B.drop (B.length-A.length)).length=A.length:=by rw[length_drop];omega
   have h':St F0 w0 wL (qcc 2 s (pks (P++A++B.take (B.length-A.length)++B.drop (B.length-A.length)++S))::ps):=by rw[append_assoc (P++A),take_append_drop];exact h
   have hc:=qtt.c (n:=A.length) (K:=λe w'=>e= .returned (.tuple ⟨[]⟩)/\lt (i64.wrap ((B.length:Int)-(A.length:Int))) λx7=>((s=s/\(M:Int)=(M:Int))/\I (A.length:Int) x7 w'/\μ (A.length:Int) x7 w'<μ (A.length:Int) (B.length:Int) wL)) h' rfl l2 (by simp only[length_append,l1,l2];omega) λw h=>⟨rfl,?_⟩
   ·rw[l1]at hc
    exact hc
   ·refine qm (show i64.wrap ((B.length:Int)-(A.length:Int))=((B.take (B.length-A.length)).length:Int)by rw[qd (by omega) (by omega),l1];omega) ?_
    refine⟨⟨rfl,rfl⟩,hin (P,B.drop (B.length-A.length),B.take (B.length-A.length),A++S) _ _ _ ⟨by rw[l2],rfl,by simp only;omega,by simp only;omega,by simp only;omega,by simp only[length_append];omega,?_,by simpa using h⟩ (by simp only;omega)⟩
    simp only
    rw[<-hT,append_assoc P (B.take _),take_append_drop]
    simp only[append_assoc]
 ·have g:(A.length:Int)=(B.length:Int):=by simpa using g
  unfold qdb.j2
  refine qm (show i64.wrap ((M:Int)-(A.length:Int))=(P.length:Int)by rw[qd (by omega) (by omega)];omega) ?_
  have h':St F0 w0 wL (qcc 2 s (pks (P++A++[]++B++S))::ps):=by rw[append_nil];exact h
  have hc:=qtt.c (n:=A.length) (K:=λe w'=>e= .returned (.tuple ⟨[]⟩)/\K (.returned (.tuple ⟨[]⟩)) w') h' rfl (by omega) (by simp only[length_append,length_nil];omega) λw h=>⟨rfl,hk w (by rw[<-hT];simpa using h)⟩
  rw[length_nil,add_zero,hM]at hc
  exact hc
theorem qgab.c{P X S:List Pk}{K:Ending->World->Prop}(h:St F0 w0 w (qcc 2 s (pks (P++X++S))::ps))(hlen:(P++X++S).length<=1000000)
 (hk:∀w',St F0 w0 w' (qcc 2 s (pks (P++qxd wt X++S))::ps)->K (.returned (.tuple ⟨[]⟩)) w'):
 Calls prog 162 ⟨[.slice s.a s.len s.cap,.int .i64 (P.length:Int),.int .i64 ((P.length+X.length:Nat):Int),.func (.func 131) ⟨[]⟩ ⟨[]⟩]⟩ w K:=by
 simp only[length_append]at hlen
 refine qdc (qi.ok _ _ _ _ _ ?_)
 unfold qi qi.j1
 refine qm (show i64.wrap ((P.length:Int)+1)=((P.length+1:Nat):Int)by rw[qd (by omega) (by omega)];omega) ?_
 have e1:qxd wt (X.take 1)++X.drop 1=X:=by
  cases X with
  |nil=>rfl
  |cons x X=>rfl
 refine qjf (λ(c:Nat) (i':Int) w'=>i'=((P.length+c:Nat):Int)/\1<=c/\c<=X.length+1/\St F0 w0 w' (qcc 2 s (pks (P++(qxd wt (X.take c)++X.drop c)++S))::ps)) (λc=>X.length+1-c) 1 ⟨rfl,by omega,by omega,by rw[e1];exact h⟩ ?_
 clear h e1
 rintro c i' wL I μ ⟨rfl,hc1,hc2,h⟩ hin
 unfold qi.b1
 refine quc (λg=>?_) (λg=>?_)
 ·have hcX:c<X.length:=by omega
  have eX:X.drop c=X[c]::X.drop (c+1):=drop_eq_getElem_cons hcX
  have lS:(qxd wt (X.take c)).length=c:=by rw[qpd,length_take];omega
  have hS:=qek (k:=wt) (X.take c)
  have hnx:qxd wt (X.take (c+1))=insR wt X[c] (qxd wt (X.take c)):=by rw[List.take_succ_eq_append_getElem hcX,quj]
  rw[eX]at h
  generalize X[c]=x at h hnx
  generalize qxd wt (X.take c)=T at h hnx lS hS
  unfold qi.j2 qi.j4
  have h0:St F0 w0 wL (qcc 2 s (pks (P++T++x::([]++(X.drop (c+1)++S))))::ps):=by
   simp only[append_assoc,cons_append,nil_append]at h|-
   exact h
  have done:∀(T1 T2:List Pk) (w:World),T1++T2=T->(∀y∈T1,¬wt x<wt y)->(∀y∈T2,wt x<wt y)->St F0 w0 w (qcc 2 s (pks (P++T1++x::(T2++(X.drop (c+1)++S))))::ps)->
   qi.j3 s (P.length:Int) ((P.length+X.length:Nat):Int) ((P.length+c:Nat):Int) (λv w'=>K (.returned v) w') (λd' a' b' i' w'=>(d'=s/\a'=(P.length:Int)/\b'=((P.length+X.length:Nat):Int))/\I i' w'/\μ i' w'<μ ((P.length+c:Nat):Int) wL) w:=by
   intro T1 T2 w hT h1 h2 h
   unfold qi.j3
   refine qm (show i64.wrap (((P.length+c:Nat):Int)+1)=((P.length+(c+1):Nat):Int)by rw[qd (by omega) (by omega)];omega) ?_
   refine⟨⟨rfl,rfl,rfl⟩,hin (c+1) _ _ ⟨rfl,by omega,by omega,?_⟩ (by omega)⟩
   rw[hnx,<-hT,qvjb h1 h2]
   simp only[append_assoc,cons_append]at h|-
   exact h
  refine qjf (λ(a:List Pk×List Pk) (j':Int) w'=>j'=((P.length+a.1.length:Nat):Int)/\a.1++a.2=T/\(∀y∈a.2,wt x<wt y)/\St F0 w0 w' (qcc 2 s (pks (P++a.1++x::(a.2++(X.drop (c+1)++S))))::ps)) (λa=>a.1.length) (T,[]) ⟨by rw[lS],append_nil _,by simp,h0⟩ ?_
  clear h h0
  rintro⟨T1,T2⟩ j' w2 I2 μ2 ⟨rfl,hT,h2,h⟩ hin2
  simp only at hT h2 h hin2|-
  have lT:T1.length+T2.length=c:=by rw[<-lS,<-hT,length_append]
  unfold qi.b2
  refine h.drewK λw h=>?_
  refine quc (λg1=>?_) (λg1=>?_)
  ·have hne:T1≠[]:=by intro e;subst e;simp at g1
   obtain⟨T0,y,rfl⟩:∃T0 y,T1=T0++[y]:=⟨T1.dropLast,T1.getLast hne,(List.dropLast_concat_getLast hne).symm⟩
   rw[length_append,length_singleton]at lT
   have eD:P++(T0++[y])++x::(T2++(X.drop (c+1)++S))=(P++T0)++y::x::(T2++(X.drop (c+1)++S)):=by simp only[append_assoc,cons_append,nil_append]
   have ejy:i64.wrap (((P.length+(T0++[y]).length:Nat):Int)-1)=((P++T0).length:Int):=by rw[length_append,length_append,length_singleton,qd (by omega) (by omega)];omega
   have ejx:((P.length+(T0++[y]).length:Nat):Int)=((P++(T0++[y])).length:Int):=by rw[@length_append _ P]
   refine h.lpk (s:=s) (P++(T0++[y])) x (T2++(X.drop (c+1)++S)) rfl ejx ?_
   refine qm ejy ?_
   refine h.lpk (s:=s) (P++T0) y (x::(T2++(X.drop (c+1)++S))) eD rfl ?_
   refine qpp.c (x:=x) (y:=y) h λr w hr h=>⟨_,rfl,?_⟩
   refine quc (λg2=>?_) (λg2=>?_)
   ·refine h.drewK λw h=>?_
    refine qm ejy (qm ejy ?_)
    refine h.lpk (s:=s) (P++T0) y (x::(T2++(X.drop (c+1)++S))) eD rfl ?_
    refine h.lpk (s:=s) (P++(T0++[y])) x (T2++(X.drop (c+1)++S)) rfl ejx ?_
    refine h.spk (P++(T0++[y])) x (T2++(X.drop (c+1)++S)) y rfl ejx λw h=>?_
    refine h.spk (P++T0) y (y::(T2++(X.drop (c+1)++S))) x (by simp only[append_assoc,cons_append,nil_append]) rfl λw h=>?_
    refine qm (ejy.trans (show((P++T0).length:Int)=((P.length+T0.length:Nat):Int)by rw[length_append])) ?_
    refine⟨⟨rfl,rfl,rfl,rfl⟩,hin2 (T0,y::T2) _ _ ⟨rfl,by rw[<-hT];simp,?_,?_⟩ (by simp)⟩
    ·intro z hz
     rcases mem_cons.1 hz with rfl|hz
     ·exact hr.1 g2
     ·exact h2 z hz
    ·simp only[append_assoc,cons_append]at h|-
     exact h
   ·refine done (T0++[y]) T2 w hT ?_ h2 h
    intro z hz
    have hxy:¬wt x<wt y:=λe=>g2 (hr.2 e)
    rw[<-hT]at hS
    have hS:=(List.pairwise_append.1 (List.pairwise_append.1 hS).1).2.2
    rcases mem_append.1 hz with hz|hz
    ·have:=hS z hz y (by simp)
     omega
    ·rw[mem_singleton.1 hz];exact hxy
  ·have hne:T1=[]:=by
    cases T1 with
    |nil=>rfl
    |cons y T1=>exfalso;simp only[length_cons]at g1;omega
   subst hne
   exact done [] T2 w hT (by simp) h2 h
 ·refine hk wL ?_
  rw[List.take_of_length_le (by omega),List.drop_of_length_le (by omega),append_nil]at h
  exact h
end
end
section
attribute [local irreducible] apK cpK mkK br
theorem qwdb{α:Type}{k:α->Int}{l:List α}(h:srt k l)(n:Nat):srt k (l.take n):=Pairwise.sublist (List.take_sublist n l) h
theorem qxdb{α:Type}{k:α->Int}{l:List α}(h:srt k l)(n:Nat):srt k (l.drop n):=Pairwise.sublist (List.drop_sublist n l) h
theorem qks{α:Type}{k:α->Int}{l:List α}(h:srt k l){i j:Nat}(hij:i<=j)(hj:j<l.length):k (l[i]'(by omega))<=k l[j]:=by
 rcases Nat.eq_or_lt_of_le hij with e|e
 ·subst e;exact Int.le_refl _
 ·exact List.pairwise_iff_getElem.1 h i j (by omega) hj e
theorem qtn{α:Type}{l:List α}{n:Nat}{x:α}(h:x∈l.take n):∃i,∃(hi:i<l.length),i<n/\l[i]=x:=by
 obtain⟨i,hi,e⟩:=List.mem_iff_getElem.1 h;rw[length_take]at hi;exact⟨i,by omega,by omega,by rw[<-e,List.getElem_take]⟩
theorem qun{α:Type}{l:List α}{n:Nat}{x:α}(h:x∈l.drop n):∃i,∃(hi:i<l.length),n<=i/\l[i]=x:=by
 obtain⟨i,hi,e⟩:=List.mem_iff_getElem.1 h;rw[length_drop]at hi;exact⟨n+i,by omega,by omega,by rw[<-e,List.getElem_drop]⟩
theorem qseb{lo hi:Nat}{K:Int->Prop}(h:lo+hi<4611686018427387904)(hk:K (((lo+hi)/2:Nat):Int)):
 lt (i64.wrap ((lo:Int)+(hi:Int))) λx8=>lt (u64.wrap x8) λx9=>(0:Int)<=1/\lt (qal .u64 x9 1) λx10=>lt (i64.wrap x10) λx11=>K x11:=by
 refine qm (qd (by omega) (by omega)) ?_
 have e1:u64.wrap ((lo:Int)+hi)=(lo:Int)+hi:=by
  have e:∀x,u64.wrap x=x%18446744073709551616:=λx=>by simp[IntKind.wrap,IntKind.bits,IntKind.signed]
  rw[e];omega
 refine qm e1 ⟨by decide,?_⟩
 have e2:qal .u64 ((lo:Int)+hi) 1=(((lo+hi)/2:Nat):Int):=by
  unfold qal;have:((lo:Int)+(hi:Int))=((lo+hi:Nat):Int):=by omega
  rw[this];show Int.fdiv ((lo+hi:Nat):Int) 2=_;rw[Int.fdiv_eq_ediv_of_nonneg _ (by decide)];omega
 refine qm e2 ?_
 exact qm (qd (by omega) (by omega)) hk
section
variable {F0:List Nat}{w0 w:World}{ps rest:List As}{s:Sl}
theorem qfob{D:List Pk}{i:Nat}(h:i<D.length):D=D.take i++D[i]::D.drop (i+1):=by
 rw[<-drop_eq_getElem_cons h,take_append_drop]
theorem St.lpi{D:List Pk}{i:Int}{K:Array Value->Prop}(h:St F0 w0 w ps)[Rdb F0 w0 s ps 2 (pks D)](j:Nat)(hi:i=j)(hj:j<D.length)(hk:K ⟨pkC D[j]⟩):ixS s.a s.len i 2 λa=>ldA w a 2 K:=
 h.lpk (D.take j) D[j] (D.drop (j+1)) (qfob hj) (by rw[length_take];omega) hk
theorem getA{P A B S:List Pk}{i:Nat}(h:i<A.length)(h2:P.length+i<(P++A++B++S).length):(P++A++B++S)[P.length+i]=A[i]:=by
 simp only[append_assoc];rw[List.getElem_append_right (by omega)];simp[List.getElem_append_left,h]
theorem getB{P A B S:List Pk}{i:Nat}(h:i<B.length)(h2:P.length+A.length+i<(P++A++B++S).length):(P++A++B++S)[P.length+A.length+i]=B[i]:=by
 have e:P++A++B++S=(P++A)++B++[]++S:=by simp
 have h3:(P++A).length+i<((P++A)++B++[]++S).length:=by simp only[length_append]at h2|-;simp;omega
 have:=getA (P:=P++A) (A:=B) (B:=[]) (S:=S) h h3;rw[<-this];congr 1;simp
theorem up.c{P B1 R:List Pk}{x:Pk}{K:Ending->World->Prop}(h:St F0 w0 w (qcc 2 s (pks (P++x::(B1++R)))::ps))(hlen:(P++x::(B1++R)).length<=1000000)
 (hk:∀w',St F0 w0 w' (qcc 2 s (pks (P++B1++x::R))::ps)->K (.returned (.tuple ⟨[]⟩)) w'):
 qa.j16 s (P.length:Int) ((P.length+1+B1.length:Nat):Int) (λv w'=>K (.returned v) w') w:=by
 simp only[length_append,length_cons]at hlen
 unfold qa.j16 qa.j18
 refine qjf (λ(c:Nat) (k':Int) w'=>k'=((P.length+c:Nat):Int)/\c<=B1.length/\St F0 w0 w' (qcc 2 s (pks (P++B1.take c++x::(B1.drop c++R)))::ps)) (λc=>B1.length-c) 0 ⟨by simp,by omega,by simpa using h⟩ ?_
 clear h
 rintro c k' wL I μ ⟨rfl,hc,h⟩ hin
 unfold qa.b4
 refine qm (qd (by omega) (by omega)) ?_
 refine quc (λg=>?_) (λg=>?_)
 ·have hcB:c<B1.length:=by omega
  have eB:B1.drop c=B1[c]::B1.drop (c+1):=drop_eq_getElem_cons hcB
  have lT:(B1.take c).length=c:=by rw[length_take];omega
  rw[eB]at h
  refine h.drewK λw h=>?_
  have e1:i64.wrap (((P.length+c:Nat):Int)+1)=((P++B1.take c++[x]).length:Int):=by simp only[length_append,length_singleton,lT];rw[qd (by omega) (by omega)];omega
  have e2:((P.length+c:Nat):Int)=((P++B1.take c).length:Int):=by rw[@length_append _ P,lT]
  refine qm e1 (qm e1 ?_)
  refine h.lpk (s:=s) (P++B1.take c++[x]) B1[c] (B1.drop (c+1)++R) (by simp only[append_assoc,cons_append,nil_append]) rfl ?_
  refine h.lpk (s:=s) (P++B1.take c) x (B1[c]::B1.drop (c+1)++R) rfl e2 ?_
  refine h.spk (P++B1.take c) x (B1[c]::B1.drop (c+1)++R) B1[c] rfl e2 λw h=>?_
  refine h.spk (P++B1.take c++[B1[c]]) B1[c] (B1.drop (c+1)++R) x (by simp only[append_assoc,cons_append,nil_append]) (by simp only[length_append,length_singleton]) λw h=>?_
  refine qm (show i64.wrap (((P.length+c:Nat):Int)+1)=((P.length+(c+1):Nat):Int)by rw[qd (by omega) (by omega)];omega) ?_
  refine⟨⟨rfl,rfl⟩,hin (c+1) _ _ ⟨rfl,by omega,?_⟩ (by omega)⟩
  rw[List.take_succ_eq_append_getElem hcB]
  simp only[append_assoc,cons_append,nil_append]at h|-
  exact h
 ·have:c=B1.length:=by omega
  subst this
  rw[take_length,List.drop_length,nil_append]at h
  unfold qa.j17
  exact hk wL h
theorem down.c{P A2 R:List Pk}{y:Pk}{K:Ending->World->Prop}(h:St F0 w0 w (qcc 2 s (pks (P++A2++y::R))::ps))(hlen:(P++A2++y::R).length<=1000000)
 (hk:∀w',St F0 w0 w' (qcc 2 s (pks (P++y::(A2++R)))::ps)->K (.returned (.tuple ⟨[]⟩)) w'):
 qa.j11 s ((P.length+A2.length:Nat):Int) (P.length:Int) (λv w'=>K (.returned v) w') w:=by
 simp only[length_append,length_cons]at hlen
 unfold qa.j11 qa.j13
 refine qjf (λ(a:List Pk×List Pk) (k':Int) w'=>k'=((P.length+a.1.length:Nat):Int)/\a.1++a.2=A2/\St F0 w0 w' (qcc 2 s (pks (P++a.1++y::(a.2++R)))::ps)) (λa=>a.1.length) (A2,[]) ⟨rfl,by simp,by simpa using h⟩ ?_
 clear h
 rintro⟨T1,T2⟩ k' wL I μ ⟨rfl,hT,h⟩ hin
 simp only at hT h hin|-
 have lT:T1.length+T2.length=A2.length:=by rw[<-hT,length_append]
 unfold qa.b2
 refine quc (λg=>?_) (λg=>?_)
 ·have hne:T1≠[]:=by intro e;subst e;simp at g
  obtain⟨T0,z,rfl⟩:∃T0 z,T1=T0++[z]:=⟨T1.dropLast,T1.getLast hne,(List.dropLast_concat_getLast hne).symm⟩
  rw[length_append,length_singleton]at lT
  refine h.drewK λw h=>?_
  have e1:i64.wrap (((P.length+(T0++[z]).length:Nat):Int)-1)=((P++T0).length:Int):=by rw[length_append,length_append,length_singleton,qd (by omega) (by omega)];omega
  have e2:((P.length+(T0++[z]).length:Nat):Int)=((P++(T0++[z])).length:Int):=by rw[@length_append _ P]
  refine qm e1 (qm e1 ?_)
  refine h.lpk (s:=s) (P++T0) z (y::(T2++R)) (by simp only[append_assoc,cons_append,nil_append]) rfl ?_
  refine h.lpk (s:=s) (P++(T0++[z])) y (T2++R) rfl e2 ?_
  refine h.spk (P++(T0++[z])) y (T2++R) z rfl e2 λw h=>?_
  refine h.spk (P++T0) z (z::(T2++R)) y (by simp only[append_assoc,cons_append,nil_append]) rfl λw h=>?_
  refine qm (e1.trans (show((P++T0).length:Int)=((P.length+T0.length:Nat):Int)by rw[length_append])) ?_
  refine⟨⟨rfl,rfl⟩,hin (T0,z::T2) _ _ ⟨rfl,by rw[<-hT];simp,?_⟩ (by simp)⟩
  simp only[append_assoc,cons_append]at h|-
  exact h
 ·have hne:T1=[]:=by
   cases T1 with
   |nil=>rfl
   |cons z T1=>exfalso;simp only[length_cons]at g;omega
  subst hne
  rw[nil_append]at hT
  subst hT
  rw[append_nil]at h
  unfold qa.j12
  exact hk wL h
end
end
section
attribute [local irreducible] apK cpK mkK br
section
variable {F0:List Nat}{w0 w:World}{ps rest:List As}{s:Sl}
theorem qjp.one{P B S:List Pk}{x:Pk}{K:Ending->World->Prop}(h:St F0 w0 w (qcc 2 s (pks (P++[x]++B++S))::ps))(hB:srt wt B)(hlen:(P++[x]++B++S).length<=1000000)
 (hk:∀w',St F0 w0 w' (qcc 2 s (pks (P++mrg wt [x] B++S))::ps)->K (.returned (.tuple ⟨[]⟩)) w'):
 qa.j15 s (P.length:Int) ((P.length+1:Nat):Int) ((P.length+1+B.length:Nat):Int) (λv w'=>K (.returned v) w') w:=by
 have hlen2:=hlen
 simp only[length_append,length_singleton]at hlen
 unfold qa.j15
 refine qug (λ(a:Nat×Nat) (i j:Int) w'=>i=((P.length+1+a.1:Nat):Int)/\j=((P.length+1+a.2:Nat):Int)/\a.1<=a.2/\a.2<=B.length/\(∀y∈B.take a.1,wt y<wt x)/\(∀y∈B.drop a.2,¬wt y<wt x)/\St F0 w0 w' (qcc 2 s (pks (P++[x]++B++S))::ps)) (λa=>a.2-a.1) (0,B.length) ⟨rfl,rfl,by simp,by simp,by simp,by simp,h⟩ ?_
 clear h
 rintro⟨lo,hi⟩ i j wL I μ ⟨rfl,rfl,hlh,hhB,h1,h2,h⟩ hin
 simp only at hlh hhB h1 h2 h hin|-
 unfold qa.b5
 refine quc (λg=>?_) (λg=>?_)
 ·refine qseb (by omega) ?_
  obtain⟨q,hq⟩:∃q,(P.length+1+lo+(P.length+1+hi))/2=P.length+1+q:=⟨(lo+hi)/2,by omega⟩
  rw[hq]
  have hqB:q<B.length:=by omega
  refine h.drewK λw h=>?_
  refine h.lpi (s:=s) (P.length+1+q) rfl (by simp only[length_append,length_singleton];omega) ?_
  have eg:=getB (P:=P) (A:=[x]) (B:=B) (S:=S) hqB (by simp only[length_append,length_singleton];omega)
  simp only[length_singleton]at eg
  rw[eg]
  refine h.lpi (s:=s) P.length rfl (by simp only[length_append,length_singleton];omega) ?_
  have eg2:=getA (P:=P) (A:=[x]) (B:=B) (S:=S) (i:=0) (by simp) (by simp only[length_append,length_singleton];omega)
  simp only[add_zero,List.getElem_cons_zero]at eg2
  rw[eg2]
  refine qpp.c (x:=B[q]) (y:=x) h λr w hr h=>⟨_,rfl,?_⟩
  refine quc (λg2=>?_) (λg2=>?_)
  ·refine qm (show i64.wrap (((P.length+1+q:Nat):Int)+1)=((P.length+1+(q+1):Nat):Int)by rw[qd (by omega) (by omega)];omega) ?_
   refine⟨⟨rfl,rfl⟩,hin (q+1,hi) _ _ _ ⟨rfl,rfl,by simp only;omega,hhB,?_,h2,h⟩ (by simp only;omega)⟩
   intro y hy
   obtain⟨i,hi1,hi2,rfl⟩:=qtn hy
   have:=qks hB (show i<=q by omega) hqB
   have h3:wt B[q]<wt x:=hr.1 g2
   omega
  ·refine⟨⟨rfl,rfl⟩,hin (lo,q) _ _ _ ⟨rfl,rfl,by simp only;omega,by simp only;omega,h1,?_,h⟩ (by simp only;omega)⟩
   intro y hy
   obtain⟨i,hi1,hi2,rfl⟩:=qun hy
   have:=qks hB (show q<=i by omega) hi1
   have h3:¬wt B[q]<wt x:=λe=>g2 (hr.2 e)
   omega
 ·have:lo=hi:=by omega
  subst this
  have lT:(B.take lo).length=lo:=by rw[length_take];omega
  have hu:=up.c (P:=P) (B1:=B.take lo) (R:=B.drop lo++S) (x:=x) (K:=K) (s:=s) (F0:=F0) (w0:=w0) (ps:=ps) (w:=wL) (by
   rw[<-append_assoc (B.take lo),take_append_drop];simpa using h) (by rw[<-append_assoc (B.take lo),take_append_drop];simpa using hlen2) λw h=>hk w (by
    have e:=qzx (k:=wt) _ [] [x] (B.take lo) (B.drop lo) rfl (by intro a ha b hb;rw[mem_singleton.1 ha];exact h1 b hb) (by simp);rw[nil_append,take_append_drop,qti,qheb [x] (B.drop lo) (by intro a ha b hb;rw[mem_singleton.1 ha];have:=h2 b hb;omega)]at e;rw[e];simpa using h)
  rw[lT]at hu
  exact hu
theorem qjp.last{P A S:List Pk}{y:Pk}{K:Ending->World->Prop}(h:St F0 w0 w (qcc 2 s (pks (P++A++[y]++S))::ps))(hA:srt wt A)(hlen:(P++A++[y]++S).length<=1000000)
 (hk:∀w',St F0 w0 w' (qcc 2 s (pks (P++mrg wt A [y]++S))::ps)->K (.returned (.tuple ⟨[]⟩)) w'):
 qa.j10 s ((P.length+A.length:Nat):Int) (P.length:Int) ((P.length+A.length:Nat):Int) (λv w'=>K (.returned v) w') w:=by
 have hlen2:=hlen
 simp only[length_append,length_singleton]at hlen
 unfold qa.j10
 refine qug (λ(a:Nat×Nat) (i j:Int) w'=>i=((P.length+a.1:Nat):Int)/\j=((P.length+a.2:Nat):Int)/\a.1<=a.2/\a.2<=A.length/\(∀z∈A.take a.1,¬wt y<wt z)/\(∀z∈A.drop a.2,wt y<wt z)/\St F0 w0 w' (qcc 2 s (pks (P++A++[y]++S))::ps)) (λa=>a.2-a.1) (0,A.length) ⟨by simp,rfl,by simp,by simp,by simp,by simp,h⟩ ?_
 clear h
 rintro⟨lo,hi⟩ i j wL I μ ⟨rfl,rfl,hlh,hhA,h1,h2,h⟩ hin
 simp only at hlh hhA h1 h2 h hin|-
 unfold qa.b3
 refine quc (λg=>?_) (λg=>?_)
 ·refine qseb (by omega) ?_
  obtain⟨q,hq⟩:∃q,(P.length+lo+(P.length+hi))/2=P.length+q:=⟨(lo+hi)/2,by omega⟩
  rw[hq]
  have hqA:q<A.length:=by omega
  refine h.drewK λw h=>?_
  refine h.lpi (s:=s) (P.length+A.length) rfl (by simp only[length_append,length_singleton];omega) ?_
  have eg:=getB (P:=P) (A:=A) (B:=[y]) (S:=S) (i:=0) (by simp) (by simp only[length_append,length_singleton];omega)
  simp only[add_zero,List.getElem_cons_zero]at eg
  rw[eg]
  refine h.lpi (s:=s) (P.length+q) rfl (by simp only[length_append,length_singleton];omega) ?_
  rw[getA (P:=P) (A:=A) (B:=[y]) (S:=S) hqA]
  refine qpp.c (x:=y) (y:=A[q]) h λr w hr h=>⟨_,rfl,?_⟩
  refine qye (λg2=>?_) (λg2=>?_)
  ·have g2:¬r<0:=by simpa using g2
   refine qm (show i64.wrap (((P.length+q:Nat):Int)+1)=((P.length+(q+1):Nat):Int)by rw[qd (by omega) (by omega)];omega) ?_
   refine⟨⟨rfl,rfl⟩,hin (q+1,hi) _ _ _ ⟨rfl,rfl,by simp only;omega,hhA,?_,h2,h⟩ (by simp only;omega)⟩
   intro z hz
   obtain⟨i,hi1,hi2,rfl⟩:=qtn hz
   have:=qks hA (show i<=q by omega) hqA
   have h3:¬wt y<wt A[q]:=λe=>g2 (hr.2 e)
   omega
  ·have g2:r<0:=by simpa using g2
   refine⟨⟨rfl,rfl⟩,hin (lo,q) _ _ _ ⟨rfl,rfl,by simp only;omega,by simp only;omega,h1,?_,h⟩ (by simp only;omega)⟩
   intro z hz
   obtain⟨i,hi1,hi2,rfl⟩:=qun hz
   have:=qks hA (show q<=i by omega) hi1
   have h3:wt y<wt A[q]:=hr.1 g2
   omega
 ·have:lo=hi:=by omega
  subst this
  have lT:(A.take lo).length=lo:=by rw[length_take];omega
  have lD:(A.drop lo).length=A.length-lo:=length_drop
  have hu:=down.c (P:=P++A.take lo) (A2:=A.drop lo) (R:=S) (y:=y) (K:=K) (s:=s) (F0:=F0) (w0:=w0) (ps:=ps) (w:=wL) (by
   rw[append_assoc P,take_append_drop];simpa using h) (by rw[append_assoc P,take_append_drop];simpa using hlen2) λw h=>hk w (by
    have e:=qzx (k:=wt) _ (A.take lo) (A.drop lo) [y] [] rfl (by intro a ha b hb;rw[mem_singleton.1 hb];exact h2 a ha) (by simp);rw[append_nil,take_append_drop,qni,qheb (A.take lo) [y] (by intro a ha b hb;rw[mem_singleton.1 hb];have:=h1 a ha;omega)]at e;rw[e];simpa using h)
  rw[length_append,lT,lD,show P.length+lo+(A.length-lo)=P.length+A.length by omega]at hu
  exact hu
end
end
section
attribute [local irreducible] apK cpK mkK br
theorem qjp.c:∀(n:Nat) {F0:List Nat} {w0 w:World} {ps:List As} {s:Sl} {P A B S:List Pk} {K:Ending->World->Prop},A.length+B.length<=n->St F0 w0 w (qcc 2 s (pks (P++A++B++S))::ps)->srt wt A->srt wt B->0<A.length->0<B.length->(P++A++B++S).length<=1000000->
 (∀w',St F0 w0 w' (qcc 2 s (pks (P++mrg wt A B++S))::ps)->K (.returned (.tuple ⟨[]⟩)) w')->
 Calls prog 163 ⟨[.slice s.a s.len s.cap,.int .i64 (P.length:Int),.int .i64 ((P.length+A.length:Nat):Int),.int .i64 ((P.length+A.length+B.length:Nat):Int),.func (.func 131) ⟨[]⟩ ⟨[]⟩]⟩ w K:=by
 intro n
 induction n with
 |zero=>intro F0 w0 w ps s P A B S K hn _ _ _ hA0 _ _ _;omega
 |succ n ih=>
  intro F0 w0 w ps s P A B S K hn h hA hB hA0 hB0 hlen2 hk
  have hlen:=hlen2
  simp only[length_append]at hlen
  refine qdc (qa.ok _ _ _ _ _ _ ?_)
  unfold qa qa.j14
  refine qm (show i64.wrap (((P.length+A.length:Nat):Int)-(P.length:Int))=(A.length:Int)by rw[qd (by omega) (by omega)];omega) ?_
  refine qye (λg=>?_) (λg=>?_)
  ·have g:(A.length:Int)=1:=by simpa using g
   obtain⟨x,rfl⟩:∃x,A=[x]:=List.length_eq_one_iff.1 (by omega)
   exact qjp.one h hB hlen2 hk
  have gA:¬(A.length:Int)=1:=by simpa using g
  unfold qa.j1 qa.j9
  refine qm (show i64.wrap (((P.length+A.length+B.length:Nat):Int)-((P.length+A.length:Nat):Int))=(B.length:Int)by rw[qd (by omega) (by omega)];omega) ?_
  refine qye (λg=>?_) (λg=>?_)
  ·have g:(B.length:Int)=1:=by simpa using g
   obtain⟨y,rfl⟩:∃y,B=[y]:=List.length_eq_one_iff.1 (by omega)
   exact qjp.last h hA hlen2 hk
  have gB:¬(B.length:Int)=1:=by simpa using g
  unfold qa.j2
  refine qseb (by omega) ?_
  obtain⟨md,hmd⟩:∃md,(A.length+B.length)/2=md:=⟨_,rfl⟩
  rw[show(P.length+(P.length+A.length+B.length))/2=P.length+md by omega]
  refine qm (show i64.wrap (((P.length+md:Nat):Int)+((P.length+A.length:Nat):Int))=((P.length+md+(P.length+A.length):Nat):Int)by rw[qd (by omega) (by omega)];omega) ?_
  have j6:∀(t:Nat) (w:World),t<=A.length->t<=md->md-t<=B.length->(∀(h1:t<A.length) (h2:0<md-t) (h3:md-t-1<B.length),wt B[md-t-1]<wt A[t])->(∀(h1:0<t) (h2:md-t<B.length) (h3:t-1<A.length),¬wt B[md-t]<wt A[t-1])->St F0 w0 w (qcc 2 s (pks (P++A++B++S))::ps)->
   qa.j6 s (P.length:Int) ((P.length+A.length:Nat):Int) ((P.length+A.length+B.length:Nat):Int) ((P.length+md:Nat):Int) ((P.length+md+(P.length+A.length):Nat):Int) ((P.length+t:Nat):Int) (λv w'=>K (.returned v) w') w:=by
   intro t w ht1 ht2 ht3 hlt hge h
   have lA1:(A.take t).length=t:=by rw[length_take];omega
   have lA2:(A.drop t).length=A.length-t:=length_drop
   have lB1:(B.take (md-t)).length=md-t:=by rw[length_take];omega
   have lB2:(B.drop (md-t)).length=B.length-(md-t):=length_drop
   have c1:∀a∈A.drop t,∀b∈B.take (md-t),wt b<wt a:=by
    intro a ha b hb;obtain⟨i,hi1,hi2,rfl⟩:=qun ha;obtain⟨j,hj1,hj2,rfl⟩:=qtn hb;have h1:=hlt (by omega) (by omega) (by omega);have h2:=qks hA (show t<=i by omega) hi1;have h3:=qks hB (show j<=md-t-1 by omega) (by omega);omega
   have c2:∀a∈A.take t,∀b∈B.drop (md-t),wt a<=wt b:=by
    intro a ha b hb;obtain⟨i,hi1,hi2,rfl⟩:=qtn ha;obtain⟨j,hj1,hj2,rfl⟩:=qun hb;have h1:=hge (by omega) (by omega) (by omega);have h2:=qks hA (show i<=t-1 by omega) (by omega);have h3:=qks hB (show md-t<=j by omega) hj1;omega
   have hm:=qzx (k:=wt) _ (A.take t) (A.drop t) (B.take (md-t)) (B.drop (md-t)) rfl c1 c2
   rw[take_append_drop,take_append_drop]at hm
   rw[hm]at hk
   have hA1:=qwdb hA t
   have hA2:=qxdb hA t
   have hB1:=qwdb hB (md-t)
   have hB2:=qxdb hB (md-t)
   have hsA:A=A.take t++A.drop t:=(take_append_drop t A).symm
   have hsB:B=B.take (md-t)++B.drop (md-t):=(take_append_drop (md-t) B).symm
   have hAl:A.length=(A.take t).length+(A.drop t).length:=by rw[lA1,lA2];omega
   have hBl:B.length=(B.take (md-t)).length+(B.drop (md-t)).length:=by rw[lB1,lB2];omega
   have h:St F0 w0 w (qcc 2 s (pks (P++(A.take t++A.drop t)++(B.take (md-t)++B.drop (md-t))++S))::ps):=by rw[take_append_drop,take_append_drop];exact h
   clear hm c1 c2 hlt hge hsA hsB hA hB
   generalize A.take t=A1 at*
   generalize A.drop t=A2 at*
   generalize B.take (md-t)=B1 at*
   generalize B.drop (md-t)=B2 at*
   have j8:∀(C:List Pk) (w:World),C.length=A1.length+B1.length->C=mrg wt A1 B1->St F0 w0 w (qcc 2 s (pks (P++C++A2++B2++S))::ps)->qa.j8 s ((P.length+A.length+B.length:Nat):Int) ((P.length+md:Nat):Int) ((P.length+A.length+(md-t):Nat):Int) (λv w'=>K (.returned v) w') w:=by
    intro C w hC hCe h;subst hCe;have fin:(A2=[]\/B2=[])->K (.returned (.tuple ⟨[]⟩)) w:=by
     intro e;refine hk w ?_;have:mrg wt A2 B2=A2++B2:=by
      rcases e with e|e
      ·subst e;rw[qti];rfl
      ·subst e;rw[qni,append_nil]
     rw[this];simp only[append_assoc]at h|-
     exact h
    unfold qa.j8;refine quc (λg1=>?_) (λg1=>fin (Or.inl (length_eq_zero_iff.1 (by omega))));refine quc (λg2=>?_) (λg2=>fin (Or.inr (length_eq_zero_iff.1 (by omega))));have hc:=ih (P:=P++mrg wt A1 B1) (A:=A2) (B:=B2) (S:=S) (K:=λe w'=>e= .returned (.tuple ⟨[]⟩)/\K (.returned (.tuple ⟨[]⟩)) w') (by omega) h hA2 hB2 (by omega) (by omega) (by simp only[length_append,hC];omega) λw h=>⟨rfl,hk w (by simp only[append_assoc]at h|-;exact h)⟩;rw[length_append,hC,show P.length+(A1.length+B1.length)=P.length+md by omega,show P.length+md+A2.length=P.length+A.length+(md-t)by omega,show P.length+A.length+(md-t)+B2.length=P.length+A.length+B.length by omega]at hc;exact hc
   have j7:∀(w:World),St F0 w0 w (qcc 2 s (pks (P++A1++B1++(A2++B2++S)))::ps)->qa.j7 s (P.length:Int) ((P.length+A.length+B.length:Nat):Int) ((P.length+md:Nat):Int) ((P.length+t:Nat):Int) ((P.length+A.length+(md-t):Nat):Int) (λv w'=>K (.returned v) w') w:=by
    intro w h;have fin:(A1=[]\/B1=[])->qa.j8 s ((P.length+A.length+B.length:Nat):Int) ((P.length+md:Nat):Int) ((P.length+A.length+(md-t):Nat):Int) (λv w'=>K (.returned v) w') w:=by
     intro e;have:mrg wt A1 B1=A1++B1:=by
      rcases e with e|e
      ·subst e;rw[qti];rfl
      ·subst e;rw[qni,append_nil]
     refine j8 (A1++B1) w (by rw[length_append]) this.symm ?_;simp only[append_assoc]at h|-
     exact h
    unfold qa.j7;refine quc (λg1=>?_) (λg1=>fin (Or.inl (length_eq_zero_iff.1 (by omega))));refine quc (λg2=>?_) (λg2=>fin (Or.inr (length_eq_zero_iff.1 (by omega))));have hc:=ih (P:=P) (A:=A1) (B:=B1) (S:=A2++B2++S) (K:=λe w'=>e= .returned (.tuple ⟨[]⟩)/\qa.j8 s ((P.length+A.length+B.length:Nat):Int) ((P.length+md:Nat):Int) ((P.length+A.length+(md-t):Nat):Int) (λv w'=>K (.returned v) w') w') (by omega) h hA1 hB1 (by omega) (by omega) (by simp only[length_append];omega) λw h=>⟨rfl,j8 _ w (qyv _ _ _ rfl) rfl (by simp only[append_assoc]at h|-;exact h)⟩;rw[show P.length+A1.length=P.length+t by omega,show P.length+t+B1.length=P.length+md by omega]at hc;exact hc
   have same:(A2=[]\/B1=[])->St F0 w0 w (qcc 2 s (pks (P++A1++B1++(A2++B2++S)))::ps):=by
    intro e;rcases e with e|e
    ·subst e;simp only[append_assoc,append_nil,nil_append]at h|-
     exact h
    ·subst e;simp only[append_assoc,append_nil,nil_append]at h|-
     exact h
   unfold qa.j6
   refine qm (show i64.wrap (((P.length+md+(P.length+A.length):Nat):Int)-((P.length+t:Nat):Int))=((P.length+A.length+(md-t):Nat):Int)by rw[qd (by omega) (by omega)];omega) ?_
   refine quc (λg1=>?_) (λg1=>j7 w (same (Or.inl (length_eq_zero_iff.1 (by omega)))))
   refine quc (λg2=>?_) (λg2=>j7 w (same (Or.inr (length_eq_zero_iff.1 (by omega)))))
   have hc:=rotate.c (P:=P++A1) (A:=A2) (B:=B1) (S:=B2++S) (s:=s) (F0:=F0) (w0:=w0) (w:=w) (ps:=ps) (K:=λe w'=>e= .returned (.tuple ⟨[]⟩)/\qa.j7 s (P.length:Int) ((P.length+A.length+B.length:Nat):Int) ((P.length+md:Nat):Int) ((P.length+t:Nat):Int) ((P.length+A.length+(md-t):Nat):Int) (λv w'=>K (.returned v) w') w') (by simp only[append_assoc]at h|-;exact h) (by omega) (by omega) (by simp only[length_append];omega) λw h=>⟨rfl,j7 w (by simp only[append_assoc]at h|-;exact h)⟩
   rw[length_append,show P.length+A1.length=P.length+t by omega,show P.length+t+A2.length=P.length+A.length by omega,show P.length+A.length+B1.length=P.length+A.length+(md-t)by omega]at hc
   exact hc
  have j4:∀(lo0 hi0:Nat),lo0<=hi0->hi0<=md->hi0<=A.length->md-lo0<=B.length->(hi0=md\/hi0=A.length)->(lo0=0\/md-lo0=B.length)->
   qa.j4 s (P.length:Int) ((P.length+A.length:Nat):Int) ((P.length+A.length+B.length:Nat):Int) ((P.length+md:Nat):Int) ((P.length+md+(P.length+A.length):Nat):Int) ((P.length+lo0:Nat):Int) ((P.length+hi0:Nat):Int) (λv w'=>K (.returned v) w') w:=by
   intro lo0 hi0 h1 h2 h3 h4 h5 h6
   unfold qa.j4 qa.j5
   refine qm (show i64.wrap (((P.length+md+(P.length+A.length):Nat):Int)-1)=((P.length+md+(P.length+A.length)-1:Nat):Int)by rw[qd (by omega) (by omega)];omega) ?_
   refine qug (λ(a:Nat×Nat) (i j:Int) w'=>i=((P.length+a.1:Nat):Int)/\j=((P.length+a.2:Nat):Int)/\lo0<=a.1/\a.1<=a.2/\a.2<=hi0/\(a.1=lo0\/∀(h2:md-a.1<B.length) (h3:a.1-1<A.length),¬wt B[md-a.1]<wt A[a.1-1])/\(a.2=hi0\/∀(h2:md-a.2-1<B.length) (h3:a.2<A.length),wt B[md-a.2-1]<wt A[a.2])/\St F0 w0 w' (qcc 2 s (pks (P++A++B++S))::ps)) (λa=>a.2-a.1) (lo0,hi0) ⟨rfl,rfl,le_refl _,h1,le_refl _,Or.inl rfl,Or.inl rfl,h⟩ ?_
   clear h
   rintro⟨lo,hi⟩ i j wL I μ ⟨rfl,rfl,hl0,hlh,hh0,hq1,hq2,h⟩ hin
   simp only at hl0 hlh hh0 hq1 hq2 h hin|-
   unfold qa.b1
   refine quc (λg=>?_) (λg=>?_)
   ·refine qseb (by omega) ?_
    obtain⟨q,hq⟩:∃q,(P.length+lo+(P.length+hi))/2=P.length+q:=⟨(lo+hi)/2,by omega⟩
    rw[hq]
    have hqA:q<A.length:=by omega
    have hqB:md-1-q<B.length:=by omega
    refine h.drewK λw h=>?_
    refine qm (show i64.wrap (((P.length+md+(P.length+A.length)-1:Nat):Int)-((P.length+q:Nat):Int))=((P.length+A.length+(md-1-q):Nat):Int)by rw[qd (by omega) (by omega)];omega) ?_
    refine h.lpi (s:=s) (P.length+A.length+(md-1-q)) rfl (by simp only[length_append];omega) ?_
    rw[getB (P:=P) (A:=A) (B:=B) (S:=S) hqB]
    refine h.lpi (s:=s) (P.length+q) rfl (by simp only[length_append];omega) ?_
    rw[getA (P:=P) (A:=A) (B:=B) (S:=S) hqA]
    refine qpp.c (x:=B[md-1-q]) (y:=A[q]) h λr w hr h=>⟨_,rfl,?_⟩
    refine qye (λg2=>?_) (λg2=>?_)
    ·have g2:¬r<0:=by simpa using g2
     refine qm (show i64.wrap (((P.length+q:Nat):Int)+1)=((P.length+(q+1):Nat):Int)by rw[qd (by omega) (by omega)];omega) ?_
     refine⟨⟨rfl,rfl,rfl,rfl,rfl,rfl,rfl⟩,hin (q+1,hi) _ _ _ ⟨rfl,rfl,by simp only;omega,by simp only;omega,hh0,Or.inr λk1 k2 e=>g2 (hr.2 ?_),hq2,h⟩ (by simp only;omega)⟩
     simp only[Nat.add_sub_cancel,show md-(q+1)=md-1-q by omega]at e
     exact e
    ·have g2:r<0:=by simpa using g2
     refine⟨⟨rfl,rfl,rfl,rfl,rfl,rfl,rfl⟩,hin (lo,q) _ _ _ ⟨rfl,rfl,hl0,by simp only;omega,by simp only;omega,hq1,Or.inr λk1 k2=>?_,h⟩ (by simp only;omega)⟩
     have h3:wt B[md-1-q]<wt A[q]:=hr.1 g2
     simp only[show md-q-1=md-1-q by omega]
     exact h3
   ·have:lo=hi:=by omega
    subst this
    refine j6 lo wL (by omega) (by omega) (by omega) (λk1 k2 k3=>?_) (λk1 k2 k3=>?_) h
    ·rcases hq2 with e|e
     ·exfalso;omega
     ·exact e k3 k1
    ·rcases hq1 with e|e
     ·exfalso;omega
     ·exact e k2 k3
  unfold qa.j3
  refine quc (λg=>?_) (λg=>?_)
  ·refine qm (show i64.wrap (((P.length+md+(P.length+A.length):Nat):Int)-((P.length+A.length+B.length:Nat):Int))=((P.length+(md-B.length):Nat):Int)by rw[qd (by omega) (by omega)];omega) ?_
   exact j4 (md-B.length) md (by omega) (by omega) (by omega) (by omega) (Or.inl rfl) (Or.inr (by omega))
  ·have:=j4 0 A.length (by omega) (by omega) (by omega) (by omega) (Or.inr rfl) (Or.inl rfl)
   exact this
end
section
attribute [local irreducible] apK cpK mkK br
def sb(c:Nat)(l:List Pk):List Pk:=bsort wt c l.length l
theorem qghb{c:Nat}(hc:0<c):∀(f g:Nat) (l:List Pk),l.length<=f->l.length<=g->bsort wt c f l=bsort wt c g l:=by
 intro f;induction f with
 |zero=>
  intro g l h1 h2;cases g with
  |zero=>rfl
  |succ g=>rw[bsort,bsort,if_pos (by omega)]
 |succ f ih=>
  intro g l h1 h2;cases g with
  |zero=>rw[bsort,bsort,if_pos (by omega)]
  |succ g=>
   rw[bsort,bsort];split
   ·rfl
   ·rw[ih g (l.drop c) (by rw[length_drop];omega) (by rw[length_drop];omega)]
theorem qvbb{c:Nat}{l:List Pk}(h:l.length<=c):sb c l=qxd wt l:=by
 unfold sb;cases hl:l.length with
 |zero=>rfl
 |succ f=>rw[bsort,if_pos h]
theorem qvz{c:Nat}{l:List Pk}(hc:0<c)(h:c<=l.length):sb c l=qxd wt (l.take c)++sb c (l.drop c):=by
 rcases Nat.eq_or_lt_of_le h with e|e
 ·have h2:l.drop c=[]:=List.drop_of_length_le (by omega);rw[qvbb (by omega),h2,List.take_of_length_le (by omega),qvbb (by simp)];exact(append_nil _).symm
 ·unfold sb;cases hl:l.length with
  |zero=>omega
  |succ f=>
   rw[bsort,if_neg (by omega),qghb hc f (l.drop c).length _ (by rw[length_drop];omega) (le_refl _)]
section
variable {F0:List Nat}{w0 w:World}{ps rest:List As}{s:Sl}
theorem stable.c{L:List Pk}{K:Ending->World->Prop}(h:St F0 w0 w (qcc 2 s (pks L)::ps))(hlen:L.length<=1000000)
 (hk:∀w',St F0 w0 w' (qcc 2 s (pks (qxd wt L))::ps)->K (.returned (.tuple ⟨[]⟩)) w'):
 Calls prog 149 ⟨[.slice s.a s.len s.cap,.int .i64 (L.length:Int),.func (.func 131) ⟨[]⟩ ⟨[]⟩]⟩ w K:=by
 refine qdc (qf.ok _ _ _ _ ?_)
 unfold qf qf.j1
 have j3:∀w,St F0 w0 w (qcc 2 s (pks (sb 20 L))::ps)->qf.j3 s (L.length:Int) 20 (λv w'=>K (.returned v) w') w:=by
  intro w h;unfold qf.j3;refine qjf (λ(c:Nat) (b:Int) w'=>b=(c:Int)/\0<c/\c<=2000000/\St F0 w0 w' (qcc 2 s (pks (sb c L))::ps)) (λc=>L.length-c) 20 ⟨rfl,by decide,by decide,h⟩ ?_;clear h;rintro c b wL I μ ⟨rfl,hc0,hc1,h⟩ hin;unfold qf.b1;refine quc (λg=>?_) (λg=>?_)
  ·unfold qf.j4 qf.j5;refine qm (show i64.wrap (2*(c:Int))=((0+2*c:Nat):Int)by rw[qd (by omega) (by omega)];omega) ?_;refine qug (λ(a:List Pk×List Pk) (x y:Int) w'=>x=(a.1.length:Int)/\y=((a.1.length+2*c:Nat):Int)/\a.1.length+a.2.length=L.length/\a.1++sb (2*c) a.2=sb (2*c) L/\St F0 w0 w' (qcc 2 s (pks (a.1++sb c a.2))::ps)) (λa=>a.2.length) ([],L) ⟨rfl,by simp,by simp,rfl,h⟩ ?_;clear h;rintro⟨R,Y⟩ x y w2 I2 μ2 ⟨rfl,rfl,hl,hT,h⟩ hin2;simp only at hl hT h hin2|-
   unfold qf.b2;refine quc (λg2=>?_) (λg2=>?_)
   ·have hY:2*c<=Y.length:=by omega
    have l1:(Y.take c).length=c:=by rw[length_take];omega
    have l2:((Y.drop c).take c).length=c:=by rw[length_take,length_drop];omega
    have e1:sb c Y=qxd wt (Y.take c)++(qxd wt ((Y.drop c).take c)++sb c (Y.drop (2*c))):=by
     rw[qvz hc0 (by omega),qvz hc0 (l:=Y.drop c) (by rw[length_drop];omega),List.drop_drop,show c+c=2*c by omega]
    have e2:mrg wt (qxd wt (Y.take c)) (qxd wt ((Y.drop c).take c))=qxd wt (Y.take (2*c)):=by
     rw[<-qoo];congr 1;rw[show 2*c=c+c by omega,List.take_add]
    rw[e1]at h;refine qm (show i64.wrap ((R.length:Int)+(c:Int))=((R.length+c:Nat):Int)by rw[qd (by omega) (by omega)];omega) ?_;have hS:(sb c (Y.drop (2*c))).length<=1000000->True:=λ_=>trivial;have hlT:(R++qxd wt (Y.take c)++qxd wt ((Y.drop c).take c)++sb c (Y.drop (2*c))).length=L.length:=by
     have hsl:∀(f:Nat) (l:List Pk),(bsort wt c f l).length=l.length:=by
      intro f;induction f with
      |zero=>intro l;exact qpd l
      |succ f ih=>
       intro l;rw[bsort];split
       ·exact qpd l
       ·rw[length_append,qpd,ih,length_take,length_drop];omega
     simp only[length_append,qpd,l1,l2];unfold sb;rw[hsl,length_drop];omega
    have hc:=qjp.c _ (P:=R) (A:=qxd wt (Y.take c)) (B:=qxd wt ((Y.drop c).take c)) (S:=sb c (Y.drop (2*c))) (s:=s) (F0:=F0) (w0:=w0) (w:=w2) (ps:=ps)
     (K:=λe w'=>e= .returned (.tuple ⟨[]⟩)/\lt (i64.wrap (2*(c:Int))) λx9=>lt (i64.wrap (((R.length+2*c:Nat):Int)+x9)) λx10=>((s=s/\(L.length:Int)=(L.length:Int)/\(c:Int)=(c:Int))/\I2 ((R.length+2*c:Nat):Int) x10 w'/\μ2 ((R.length+2*c:Nat):Int) x10 w'<μ2 (R.length:Int) ((R.length+2*c:Nat):Int) w2)) (le_refl _) (by simp only[append_assoc]at h|-;exact h) (qek _) (qek _) (by rw[qpd];omega) (by rw[qpd];omega) (by rw[hlT];exact hlen) λw h=>⟨rfl,?_⟩
    ·rw[qpd,qpd,l1,l2,show R.length+c+c=R.length+2*c by omega]at hc;exact hc
    ·have lR:(R++qxd wt (Y.take (2*c))).length=R.length+2*c:=by rw[length_append,qpd,length_take];omega
     refine qm (qd (by omega) (by omega)) ?_;refine qm (qd (by omega) (by omega)) ?_;refine⟨⟨rfl,rfl,rfl⟩,hin2 (R++qxd wt (Y.take (2*c)),Y.drop (2*c)) _ _ _ ⟨by rw[lR],by rw[lR];omega,by rw[lR,length_drop];omega,?_,by rw[<-e2];exact h⟩ (by rw[length_drop];omega)⟩;rw[<-hT,qvz (by omega) hY,append_assoc]
   ·have hY:Y.length<2*c:=by omega
    have nx:∀w,St F0 w0 w (qcc 2 s (pks (R++qxd wt Y))::ps)->lt (i64.wrap ((c:Int)*2)) λx4=>((s=s/\(L.length:Int)=(L.length:Int))/\I x4 w/\μ x4 w<μ (c:Int) wL):=by
     intro w h;refine qm (show i64.wrap ((c:Int)*2)=((2*c:Nat):Int)by rw[qd (by omega) (by omega)];omega) ?_;refine⟨⟨rfl,rfl⟩,hin (2*c) _ _ ⟨rfl,by omega,by omega,?_⟩ (by omega)⟩;rw[<-hT,qvbb (by omega)];exact h
    unfold qf.j6;refine qm (show i64.wrap ((R.length:Int)+(c:Int))=((R.length+c:Nat):Int)by rw[qd (by omega) (by omega)];omega) ?_;refine quc (λg3=>?_) (λg3=>?_)
    ·have l1:(Y.take c).length=c:=by rw[length_take];omega
     have l2:(Y.drop c).length=Y.length-c:=length_drop;rw[qvz hc0 (by omega),qvbb (l:=Y.drop c) (by omega)]at h;have e2:mrg wt (qxd wt (Y.take c)) (qxd wt (Y.drop c))=qxd wt Y:=by rw[<-qoo,take_append_drop]
     have hc:=qjp.c _ (P:=R) (A:=qxd wt (Y.take c)) (B:=qxd wt (Y.drop c)) (S:=[]) (s:=s) (F0:=F0) (w0:=w0) (w:=w2) (ps:=ps)
      (K:=λe w'=>e= .returned (.tuple ⟨[]⟩)/\lt (i64.wrap ((c:Int)*2)) λx4=>((s=s/\(L.length:Int)=(L.length:Int))/\I x4 w'/\μ x4 w'<μ (c:Int) wL)) (le_refl _) (by simp only[append_assoc,append_nil]at h|-;exact h) (qek _) (qek _) (by rw[qpd];omega) (by rw[qpd];omega) (by simp only[length_append,qpd,length_nil];omega) λw h=>⟨rfl,nx w (by rw[e2,append_nil]at h;exact h)⟩
     rw[qpd,qpd,l1,l2,show R.length+c+(Y.length-c)=L.length by omega]at hc;exact hc
    ·rw[qvbb (by omega)]at h;exact nx w2 h
  ·refine hk wL ?_;rw[qvbb (by omega)]at h;exact h
 refine qug (λ(a:List Pk×List Pk) (x y:Int) w'=>x=(a.1.length:Int)/\y=((a.1.length+20:Nat):Int)/\a.1.length+a.2.length=L.length/\a.1++sb 20 a.2=sb 20 L/\St F0 w0 w' (qcc 2 s (pks (a.1++a.2))::ps)) (λa=>a.2.length) ([],L) ⟨rfl,rfl,by simp,rfl,h⟩ ?_
 clear h
 rintro⟨R,Y⟩ x y w2 I2 μ2 ⟨rfl,rfl,hl,hT,h⟩ hin2
 simp only at hl hT h hin2|-
 unfold qf.b3
 refine quc (λg2=>?_) (λg2=>?_)
 ·have hY:20<=Y.length:=by omega
  have l1:(Y.take 20).length=20:=by rw[length_take];omega
  have l2:(Y.drop 20).length=Y.length-20:=length_drop
  have hc:=qgab.c (P:=R) (X:=Y.take 20) (S:=Y.drop 20) (s:=s) (F0:=F0) (w0:=w0) (w:=w2) (ps:=ps)
   (K:=λe w'=>e= .returned (.tuple ⟨[]⟩)/\lt (i64.wrap (((R.length+20:Nat):Int)+20)) λx16=>((s=s/\(L.length:Int)=(L.length:Int)/\(20:Int)=20)/\I2 ((R.length+20:Nat):Int) x16 w'/\μ2 ((R.length+20:Nat):Int) x16 w'<μ2 (R.length:Int) ((R.length+20:Nat):Int) w2)) (by rw[append_assoc,take_append_drop];exact h) (by simp only[length_append,l1,l2];omega) λw h=>⟨rfl,?_⟩
  ·rw[l1]at hc
   exact hc
  ·have lR:(R++qxd wt (Y.take 20)).length=R.length+20:=by rw[length_append,qpd,l1]
   refine qm (qd (by omega) (by omega)) ?_
   refine⟨⟨rfl,rfl,rfl⟩,hin2 (R++qxd wt (Y.take 20),Y.drop 20) _ _ _ ⟨by rw[lR],by rw[lR];omega,by rw[lR,l2];omega,?_,h⟩ (by rw[l2];omega)⟩
   rw[<-hT,qvz (by decide) hY,append_assoc]
 ·unfold qf.j2
  have hc:=qgab.c (P:=R) (X:=Y) (S:=[]) (s:=s) (F0:=F0) (w0:=w0) (w:=w2) (ps:=ps)
   (K:=λe w'=>e= .returned (.tuple ⟨[]⟩)/\qf.j3 s (L.length:Int) 20 (λv w'=>K (.returned v) w') w') (by rw[append_nil];exact h) (by simp only[length_append,length_nil];omega) λw h=>⟨rfl,j3 w (by rw[<-hT,qvbb (by omega)];rw[append_nil]at h;exact h)⟩
  rw[hl]at hc
  exact hc
theorem SortStable.c{L:List Pk}{K:Ending->World->Prop}(h:St F0 w0 w ps)[PkO s ps 2 (pks L) rest](hlen:L.length<=1000000)
 (hk:∀w',St F0 w0 w' (qcc 2 s (pks (qxd wt L))::rest)->K (.returned (.tuple ⟨[]⟩)) w'):
 Calls prog 130 ⟨[.slice s.a s.len s.cap,.func (.func 131) ⟨[]⟩ ⟨[]⟩]⟩ w K:=by
 have h:=h.toO s
 have hl:=h.len
 rw[qhi]at hl
 refine qdc (qle.ok _ _ _ ?_)
 unfold qle
 have hc:=stable.c (K:=λe w'=>e= .returned (.tuple ⟨[]⟩)/\K (.returned (.tuple ⟨[]⟩)) w') h hlen λw h=>⟨rfl,hk w h⟩
 rw[show L.length=s.len by omega]at hc
 exact hc
end
end
section
set_option maxRecDepth 100000
def qwn(n_0:Int)(Q:VWP)(w:World):Prop:=br (decide (n_0<0)) (Q (.bool true) w) (Q (.bool (decide (n_0>16777216))) w)
theorem qwn.ok(n_0:Int)(Q:VWP)(w:World)(h:qwn n_0 Q w):Calls prog 148 ⟨[.int .i64 n_0]⟩ w (Ret Q):=
 qhc [.tmp 2] qde Tryz.func148 rfl rfl rfl rfl .lf (by kernel_rfl) h
def qtb.j2(Q:VWP)(w:World):Prop:=Q (.int .i64 (-1)) w
def qtb.b1(s_0:Sl)(t7:Int)(t8:Int)(Q:VWP)(nx1:Sl->Int->Int->WP)(w:World):Prop:=br (decide (t8<t7)) (ixS s_0.a s_0.len t8 1 λa1=>ldI .i64 w a1 λx2=>qzcb 148 [.int .i64 x2] w λr5 w4=>br r5 (Q (.int .i64 t8) w4) (lt (i64.wrap (t8+1)) λx6=>nx1 s_0 t7 x6 w4)) (qtb.j2 Q w)
def qtb.l1(s_0:Sl)(t7:Int)(t8:Int)(Q:VWP)(w:World):Prop:=∃(I:Int->WP) (μ:Int->World->Nat),I t8 w/\∀t8:Int,∀w:World,I t8 w->qtb.b1 s_0 t7 t8 Q (λs_0' t7' t8' w'=>(s_0'=s_0/\t7'=t7)/\I t8' w'/\μ t8' w'<μ t8 w) w
def qtb.j3(s_0:Sl)(t7:Int)(t8:Int)(Q:VWP)(w:World):Prop:=qtb.l1 s_0 t7 t8 Q w
def qtb.j1(s_0:Sl)(Q:VWP)(w:World):Prop:=qtb.j3 s_0 (s_0.len:Int) 0 Q w
def qtb(s_0:Sl)(Q:VWP)(w:World):Prop:=qtb.j1 s_0 Q w
theorem qtb.ok(s_0:Sl)(Q:VWP)(w:World)(h:qtb s_0 Q w):Calls prog 161 ⟨[sV s_0,.func (.func 148) ⟨[]⟩ ⟨[]⟩]⟩ w (Ret Q):=
 qhc [.tmp 4] qde Tryz.func161 rfl rfl rfl rfl (.sq [sL 0,(1,.c0 148)] (λa _ w=>qtb.j1 a Q w) .lf (.sq [] (λ w=>qtb.j2 Q w) (.sq [sL 0,(1,.c0 148),sI 7,sI 8] (λa _ b c w=>qtb.j3 a b c Q w) .lf (.bk (.lo [sL 0,(1,.c0 148),sI 7] [sI 8] (λa _ b c w=>qtb.l1 a b c Q w) (λnx1 a _ b c w=>qtb.b1 a b c Q (λx0 x7 x8 w=>nx1 x0 () x7 x8 w) w) λnx1=> .lf))) .lf)) (by kernel_rfl) h
def qdg(s_0:Sl)(Q:VWP)(w:World):Prop:=qbk 161 [sV s_0,.func (.func 148) ⟨[]⟩ ⟨[]⟩] w λr3 w2=>Q (.bool (decide (r3>=0))) w2
theorem qdg.ok(s_0:Sl)(Q:VWP)(w:World)(h:qdg s_0 Q w):Calls prog 147 ⟨[sV s_0,.func (.func 148) ⟨[]⟩ ⟨[]⟩]⟩ w (Ret Q):=
 qhc [.tmp 4] qde Tryz.func147 rfl rfl rfl rfl .lf (by kernel_rfl) h
def qfn(counts_0:Sl)(Q:VWP)(w:World):Prop:=br (decide ((counts_0.len:Int)>288)) (Q (.bool true) w) (qzcb 147 [sV counts_0,.func (.func 148) ⟨[]⟩ ⟨[]⟩] w λr3 w2=>Q (.bool r3) w2)
theorem qfn.ok(counts_0:Sl)(Q:VWP)(w:World)(h:qfn counts_0 Q w):Calls prog 126 ⟨[sV counts_0]⟩ w (Ret Q):=
 qhc [.tmp 2] qde Tryz.func126 rfl rfl rfl rfl .lf (by kernel_rfl) h
def qwd.j2(out_3:Sl)(Q:VWP)(w:World):Prop:=Q (sV out_3) w
def qwd.b1(t6:Sl)(t7:Int)(out_3:Sl)(t8:Int)(Q:VWP)(nx1:Sl->Int->Sl->Int->WP)(w:World):Prop:=br (decide (t8<t7)) (ixS t6.a t6.len t8 1 λa1=>ldI .i64 w a1 λx2=>br (decide (x2>0)) (nw w ⟨[.int .i64 t8]⟩ 3 λa3 w4=>rdO w4 (some a3) (1*1) λc5=>apK prog 3 w4 out_3.a out_3.len out_3.cap 1 c5 λs6 w7=>lt (i64.wrap (t8+1)) λx8=>nx1 t6 t7 s6 x8 w7) (lt (i64.wrap (t8+1)) λx9=>nx1 t6 t7 out_3 x9 w)) (qwd.j2 out_3 Q w)
def qwd.l1(t6:Sl)(t7:Int)(out_3:Sl)(t8:Int)(Q:VWP)(w:World):Prop:=∃(I:Sl->Int->WP) (μ:Sl->Int->World->Nat),I out_3 t8 w/\∀out_3:Sl,∀t8:Int,∀w:World,I out_3 t8 w->qwd.b1 t6 t7 out_3 t8 Q (λt6' t7' out_3' t8' w'=>(t6'=t6/\t7'=t7)/\I out_3' t8' w'/\μ out_3' t8' w'<μ out_3 t8 w) w
def qwd.j3(out_3 t6:Sl)(t7:Int)(t8:Int)(Q:VWP)(w:World):Prop:=qwd.l1 t6 t7 out_3 t8 Q w
def qwd.j1(counts_0 out_3:Sl)(Q:VWP)(w:World):Prop:=qwd.j3 out_3 counts_0 (counts_0.len:Int) 0 Q w
def qwd(counts_0:Sl)(Q:VWP)(w:World):Prop:=qwd.j1 counts_0 ⟨none,0,0⟩ Q w
theorem qwd.ok(counts_0:Sl)(Q:VWP)(w:World)(h:qwd counts_0 Q w):Calls prog 127 ⟨[sV counts_0]⟩ w (Ret Q):=
 qhc [.tmp 2] qde Tryz.func127 rfl rfl rfl rfl (.pr 1 [sL 0,sL 3] (λa b w=>qwd.j1 a b Q w) (.sq [sL 3] (λa w=>qwd.j2 a Q w) (.sq [sL 3,sL 6,sI 7,sI 8] (λa b c d w=>qwd.j3 a b c d Q w) .lf (.bk (.lo [sL 6,sI 7] [sL 3,sI 8] (λa b c d w=>qwd.l1 a b c d Q w) (λnx1 a b c d w=>qwd.b1 a b c d Q nx1 w) λnx1=> .lf))) .lf)) (by kernel_rfl) h
def qph(s_0:Sl)(n_1:Int)(Q:VWP)(w:World):Prop:=br (decide (n_1<0)) (False) (lt (i64.wrap ((s_0.cap:Int)-(s_0.len:Int))) λx1=>lt (i64.wrap (n_1-x1)) λx2=>br (decide (x2>0)) (bd (s_0.cap:Int) s_0.cap λn3=>lt (⟨qnf s_0.a s_0.cap 0 1,n3-0,s_0.cap-0⟩:Sl) λs4=>zrK prog 3 s4.len x2 λc5=>apK prog 3 w s4.a s4.len s4.cap (toNat x2) c5 λs6 w7=>bd (s_0.len:Int) s6.cap λn8=>lt (⟨qnf s6.a s6.cap 0 1,n8-0,s6.cap-0⟩:Sl) λs9=>Q (sV s9) w7) (Q (sV s_0) w))
theorem qph.ok(s_0:Sl)(n_1:Int)(Q:VWP)(w:World)(h:qph s_0 n_1 Q w):Calls prog 133 ⟨[sV s_0,.int .i64 n_1]⟩ w (Ret Q):=
 qhc [.tmp 4] qde Tryz.func133 rfl rfl rfl rfl .lf (by kernel_rfl) h
def qx.j4(newslice_6:Sl)(Q:VWP)(w:World):Prop:=Q (sV newslice_6) w
def qx.b1(t25:Sl)(t26:Int)(newslice_6:Sl)(t27:Int)(Q:VWP)(nx1:Sl->Int->Sl->Int->WP)(w:World):Prop:=br (decide (t27<t26)) (ixS t25.a t25.len t27 1 λa1=>ldL w a1 λx2=>rdO w x2.a (x2.len*1) λc3=>apK prog 3 w newslice_6.a newslice_6.len newslice_6.cap x2.len c3 λs4 w5=>lt (i64.wrap (t27+1)) λx6=>nx1 t25 t26 s4 x6 w5) (qx.j4 newslice_6 Q w)
def qx.l1(t25:Sl)(t26:Int)(newslice_6:Sl)(t27:Int)(Q:VWP)(w:World):Prop:=∃(I:Sl->Int->WP) (μ:Sl->Int->World->Nat),I newslice_6 t27 w/\∀newslice_6:Sl,∀t27:Int,∀w:World,I newslice_6 t27 w->qx.b1 t25 t26 newslice_6 t27 Q (λt25' t26' newslice_6' t27' w'=>(t25'=t25/\t26'=t26)/\I newslice_6' t27' w'/\μ newslice_6' t27' w'<μ newslice_6 t27 w) w
def qx.j5(newslice_6 t25:Sl)(t26:Int)(t27:Int)(Q:VWP)(w:World):Prop:=qx.l1 t25 t26 newslice_6 t27 Q w
def qx.j3(slices_0 newslice_6:Sl)(Q:VWP)(w:World):Prop:=qx.j5 newslice_6 slices_0 (slices_0.len:Int) 0 Q w
def qx.j2(slices_0:Sl)(size_3:Int)(Q:VWP)(w:World):Prop:=qak 133 [.slice none 0 0,.int .i64 size_3] w λr9 w8=>qx.j3 slices_0 r9 Q w8
def qx.b2(slices_0 t9:Sl)(t10:Int)(size_3 t11:Int)(Q:VWP)(nx2:Sl->Sl->Int->Int->Int->WP)(w:World):Prop:=br (decide (t11<t10)) (ixS t9.a t9.len t11 1 λa10=>ldL w a10 λx11=>lt (i64.wrap (size_3+(x11.len:Int))) λx12=>br (decide (x12<0)) (False) (lt (i64.wrap (t11+1)) λx13=>nx2 slices_0 t9 t10 x12 x13 w)) (qx.j2 slices_0 size_3 Q w)
def qx.l2(slices_0 t9:Sl)(t10:Int)(size_3 t11:Int)(Q:VWP)(w:World):Prop:=∃(I:Int->Int->WP) (μ:Int->Int->World->Nat),I size_3 t11 w/\∀size_3:Int,∀t11:Int,∀w:World,I size_3 t11 w->qx.b2 slices_0 t9 t10 size_3 t11 Q (λslices_0' t9' t10' size_3' t11' w'=>(slices_0'=slices_0/\t9'=t9/\t10'=t10)/\I size_3' t11' w'/\μ size_3' t11' w'<μ size_3 t11 w) w
def qx.j6(slices_0:Sl)(size_3:Int)(t9:Sl)(t10:Int)(t11:Int)(Q:VWP)(w:World):Prop:=qx.l2 slices_0 t9 t10 size_3 t11 Q w
def qx.j1(slices_0:Sl)(size_3:Int)(Q:VWP)(w:World):Prop:=qx.j6 slices_0 size_3 slices_0 (slices_0.len:Int) 0 Q w
def qx(slices_0:Sl)(Q:VWP)(w:World):Prop:=qx.j1 slices_0 0 Q w
theorem qx.ok(slices_0:Sl)(Q:VWP)(w:World)(h:qx slices_0 Q w):Calls prog 105 ⟨[sV slices_0]⟩ w (Ret Q):=
 qhc [.tmp 2] qde Tryz.func105 rfl rfl rfl rfl (.pr 1 [sL 0,sI 3] (λa b w=>qx.j1 a b Q w) (.sq [sL 0,sI 3] (λa b w=>qx.j2 a b Q w) (.sq [sL 0,sI 3,sL 9,sI 10,sI 11] (λa b c d e w=>qx.j6 a b c d e Q w) .lf (.bk (.lo [sL 0,sL 9,sI 10] [sI 3,sI 11] (λa b c d e w=>qx.l2 a b c d e Q w) (λnx2 a b c d e w=>qx.b2 a b c d e Q nx2 w) λnx2=> .lf))) (.sq [sL 0,sL 6] (λa b w=>qx.j3 a b Q w) .lf (.sq [sL 6] (λa w=>qx.j4 a Q w) (.sq [sL 6,sL 25,sI 26,sI 27] (λa b c d w=>qx.j5 a b c d Q w) .lf (.bk (.lo [sL 25,sI 26] [sL 6,sI 27] (λa b c d w=>qx.l1 a b c d Q w) (λnx1 a b c d w=>qx.b1 a b c d Q nx1 w) λnx1=> .lf))) .lf)))) (by kernel_rfl) h
def qld.j2(out_3:Sl)(Q:VWP)(w:World):Prop:=Q (sV out_3) w
def qld.b1(l_0 out_3:Sl)(i_4:Int)(Q:VWP)(nx1:Sl->Sl->Int->WP)(w:World):Prop:=br (decide (i_4<(l_0.len:Int))) (lt (World.drew w) λw1=>lt (i64.wrap (i_4-1)) λx2=>ixS l_0.a l_0.len x2 2 λa3=>ixS l_0.a l_0.len i_4 2 λa4=>lt (i64.wrap (i_4-1)) λx5=>ixS l_0.a l_0.len x5 2 λa6=>ldL w1 (Addr.add a6 1) λx7=>ixS l_0.a l_0.len i_4 2 λa8=>ldL w1 (Addr.add a8 1) λx9=>(ldI .i64 w1 (Addr.add a3 0) λx10=>(ldI .i64 w1 (Addr.add a4 0) λx11=>lt (i64.wrap (x10+x11)) λx12=>nw w1 ⟨[sV x7,sV x9]⟩ 26 λa13 w14=>qak 105 [.slice (some a13) 2 2] w14 λr17 w16=>((⟨[.int .i64 x12,sV r17]⟩:Array Value)).size=2/\nw w16 ⟨(spl [.int .i64 0,.slice none 0 0] 0 (⟨[.int .i64 x12,sV r17]⟩:Array Value))⟩ 198 λa18 w19=>rdO w19 (some a18) (1*2) λc20=>apK prog 198 w19 out_3.a out_3.len out_3.cap 1 c20 λs21 w22=>lt (i64.wrap (i_4+2)) λx23=>nx1 l_0 s21 x23 w22)/\(nw w1 ⟨[sV x7,sV x9]⟩ 26 λa24 w25=>(ldI .i64 w25 (Addr.add a4 0) λx26=>lt (i64.wrap (x10+x26)) λx27=>qak 105 [.slice (some a24) 2 2] w25 λr30 w29=>((⟨[.int .i64 x27,sV r30]⟩:Array Value)).size=2/\nw w29 ⟨(spl [.int .i64 0,.slice none 0 0] 0 (⟨[.int .i64 x27,sV r30]⟩:Array Value))⟩ 198 λa31 w32=>rdO w32 (some a31) (1*2) λc33=>apK prog 198 w32 out_3.a out_3.len out_3.cap 1 c33 λs34 w35=>lt (i64.wrap (i_4+2)) λx36=>nx1 l_0 s34 x36 w35)/\(qak 105 [.slice (some a24) 2 2] w25 λr39 w38=>ldI .i64 w38 (Addr.add a4 0) λx40=>lt (i64.wrap (x10+x40)) λx41=>((⟨[.int .i64 x41,sV r39]⟩:Array Value)).size=2/\nw w38 ⟨(spl [.int .i64 0,.slice none 0 0] 0 (⟨[.int .i64 x41,sV r39]⟩:Array Value))⟩ 198 λa42 w43=>rdO w43 (some a42) (1*2) λc44=>apK prog 198 w43 out_3.a out_3.len out_3.cap 1 c44 λs45 w46=>lt (i64.wrap (i_4+2)) λx47=>nx1 l_0 s45 x47 w46)))/\(ldI .i64 w1 (Addr.add a4 0) λx48=>(ldI .i64 w1 (Addr.add a3 0) λx49=>lt (i64.wrap (x49+x48)) λx50=>nw w1 ⟨[sV x7,sV x9]⟩ 26 λa51 w52=>qak 105 [.slice (some a51) 2 2] w52 λr55 w54=>((⟨[.int .i64 x50,sV r55]⟩:Array Value)).size=2/\nw w54 ⟨(spl [.int .i64 0,.slice none 0 0] 0 (⟨[.int .i64 x50,sV r55]⟩:Array Value))⟩ 198 λa56 w57=>rdO w57 (some a56) (1*2) λc58=>apK prog 198 w57 out_3.a out_3.len out_3.cap 1 c58 λs59 w60=>lt (i64.wrap (i_4+2)) λx61=>nx1 l_0 s59 x61 w60)/\(nw w1 ⟨[sV x7,sV x9]⟩ 26 λa62 w63=>(ldI .i64 w63 (Addr.add a3 0) λx64=>lt (i64.wrap (x64+x48)) λx65=>qak 105 [.slice (some a62) 2 2] w63 λr68 w67=>((⟨[.int .i64 x65,sV r68]⟩:Array Value)).size=2/\nw w67 ⟨(spl [.int .i64 0,.slice none 0 0] 0 (⟨[.int .i64 x65,sV r68]⟩:Array Value))⟩ 198 λa69 w70=>rdO w70 (some a69) (1*2) λc71=>apK prog 198 w70 out_3.a out_3.len out_3.cap 1 c71 λs72 w73=>lt (i64.wrap (i_4+2)) λx74=>nx1 l_0 s72 x74 w73)/\(qak 105 [.slice (some a62) 2 2] w63 λr77 w76=>ldI .i64 w76 (Addr.add a3 0) λx78=>lt (i64.wrap (x78+x48)) λx79=>((⟨[.int .i64 x79,sV r77]⟩:Array Value)).size=2/\nw w76 ⟨(spl [.int .i64 0,.slice none 0 0] 0 (⟨[.int .i64 x79,sV r77]⟩:Array Value))⟩ 198 λa80 w81=>rdO w81 (some a80) (1*2) λc82=>apK prog 198 w81 out_3.a out_3.len out_3.cap 1 c82 λs83 w84=>lt (i64.wrap (i_4+2)) λx85=>nx1 l_0 s83 x85 w84)))/\(nw w1 ⟨[sV x7,sV x9]⟩ 26 λa86 w87=>(ldI .i64 w87 (Addr.add a3 0) λx88=>(ldI .i64 w87 (Addr.add a4 0) λx89=>lt (i64.wrap (x88+x89)) λx90=>qak 105 [.slice (some a86) 2 2] w87 λr93 w92=>((⟨[.int .i64 x90,sV r93]⟩:Array Value)).size=2/\nw w92 ⟨(spl [.int .i64 0,.slice none 0 0] 0 (⟨[.int .i64 x90,sV r93]⟩:Array Value))⟩ 198 λa94 w95=>rdO w95 (some a94) (1*2) λc96=>apK prog 198 w95 out_3.a out_3.len out_3.cap 1 c96 λs97 w98=>lt (i64.wrap (i_4+2)) λx99=>nx1 l_0 s97 x99 w98)/\(qak 105 [.slice (some a86) 2 2] w87 λr102 w101=>ldI .i64 w101 (Addr.add a4 0) λx103=>lt (i64.wrap (x88+x103)) λx104=>((⟨[.int .i64 x104,sV r102]⟩:Array Value)).size=2/\nw w101 ⟨(spl [.int .i64 0,.slice none 0 0] 0 (⟨[.int .i64 x104,sV r102]⟩:Array Value))⟩ 198 λa105 w106=>rdO w106 (some a105) (1*2) λc107=>apK prog 198 w106 out_3.a out_3.len out_3.cap 1 c107 λs108 w109=>lt (i64.wrap (i_4+2)) λx110=>nx1 l_0 s108 x110 w109))/\(ldI .i64 w87 (Addr.add a4 0) λx111=>(ldI .i64 w87 (Addr.add a3 0) λx112=>lt (i64.wrap (x112+x111)) λx113=>qak 105 [.slice (some a86) 2 2] w87 λr116 w115=>((⟨[.int .i64 x113,sV r116]⟩:Array Value)).size=2/\nw w115 ⟨(spl [.int .i64 0,.slice none 0 0] 0 (⟨[.int .i64 x113,sV r116]⟩:Array Value))⟩ 198 λa117 w118=>rdO w118 (some a117) (1*2) λc119=>apK prog 198 w118 out_3.a out_3.len out_3.cap 1 c119 λs120 w121=>lt (i64.wrap (i_4+2)) λx122=>nx1 l_0 s120 x122 w121)/\(qak 105 [.slice (some a86) 2 2] w87 λr125 w124=>ldI .i64 w124 (Addr.add a3 0) λx126=>lt (i64.wrap (x126+x111)) λx127=>((⟨[.int .i64 x127,sV r125]⟩:Array Value)).size=2/\nw w124 ⟨(spl [.int .i64 0,.slice none 0 0] 0 (⟨[.int .i64 x127,sV r125]⟩:Array Value))⟩ 198 λa128 w129=>rdO w129 (some a128) (1*2) λc130=>apK prog 198 w129 out_3.a out_3.len out_3.cap 1 c130 λs131 w132=>lt (i64.wrap (i_4+2)) λx133=>nx1 l_0 s131 x133 w132))/\(qak 105 [.slice (some a86) 2 2] w87 λr136 w135=>(ldI .i64 w135 (Addr.add a3 0) λx137=>ldI .i64 w135 (Addr.add a4 0) λx138=>lt (i64.wrap (x137+x138)) λx139=>((⟨[.int .i64 x139,sV r136]⟩:Array Value)).size=2/\nw w135 ⟨(spl [.int .i64 0,.slice none 0 0] 0 (⟨[.int .i64 x139,sV r136]⟩:Array Value))⟩ 198 λa140 w141=>rdO w141 (some a140) (1*2) λc142=>apK prog 198 w141 out_3.a out_3.len out_3.cap 1 c142 λs143 w144=>lt (i64.wrap (i_4+2)) λx145=>nx1 l_0 s143 x145 w144)/\(ldI .i64 w135 (Addr.add a4 0) λx146=>ldI .i64 w135 (Addr.add a3 0) λx147=>lt (i64.wrap (x147+x146)) λx148=>((⟨[.int .i64 x148,sV r136]⟩:Array Value)).size=2/\nw w135 ⟨(spl [.int .i64 0,.slice none 0 0] 0 (⟨[.int .i64 x148,sV r136]⟩:Array Value))⟩ 198 λa149 w150=>rdO w150 (some a149) (1*2) λc151=>apK prog 198 w150 out_3.a out_3.len out_3.cap 1 c151 λs152 w153=>lt (i64.wrap (i_4+2)) λx154=>nx1 l_0 s152 x154 w153)))) (qld.j2 out_3 Q w)
def qld.l1(l_0 out_3:Sl)(i_4:Int)(Q:VWP)(w:World):Prop:=∃(I:Sl->Int->WP) (μ:Sl->Int->World->Nat),I out_3 i_4 w/\∀out_3:Sl,∀i_4:Int,∀w:World,I out_3 i_4 w->qld.b1 l_0 out_3 i_4 Q (λl_0' out_3' i_4' w'=>(l_0'=l_0)/\I out_3' i_4' w'/\μ out_3' i_4' w'<μ out_3 i_4 w) w
def qld.j3(l_0 out_3:Sl)(i_4:Int)(Q:VWP)(w:World):Prop:=qld.l1 l_0 out_3 i_4 Q w
def qld.j1(l_0 out_3:Sl)(Q:VWP)(w:World):Prop:=qld.j3 l_0 out_3 1 Q w
def qld(l_0:Sl)(Q:VWP)(w:World):Prop:=qld.j1 l_0 ⟨none,0,0⟩ Q w
theorem qld.ok(l_0:Sl)(Q:VWP)(w:World)(h:qld l_0 Q w):Calls prog 129 ⟨[sV l_0]⟩ w (Ret Q):=
 qhc [.tmp 2] qde Tryz.func129 rfl rfl rfl rfl (.pr 1 [sL 0,sL 3] (λa b w=>qld.j1 a b Q w) (.sq [sL 3] (λa w=>qld.j2 a Q w) (.sq [sL 0,sL 3,sI 4] (λa b c w=>qld.j3 a b c Q w) .lf (.bk (.lo [sL 0] [sL 3,sI 4] (λa b c w=>qld.l1 a b c Q w) (λnx1 a b c w=>qld.b1 a b c Q nx1 w) λnx1=> .lf))) .lf)) (by kernel_rfl) h
def qeg(s_0:Sl)(Q:VWP)(w:World):Prop:=br (Option.isNone s_0.a) (Q (.slice none 0 0) w) (nw w ⟨[]⟩ 198 λa1 w2=>rdO w2 s_0.a (s_0.len*2) λc3=>apK prog 198 w2 (some a1) 0 0 s_0.len c3 λs4 w5=>Q (sV s4) w5)
theorem qeg.ok(s_0:Sl)(Q:VWP)(w:World)(h:qeg s_0 Q w):Calls prog 128 ⟨[sV s_0]⟩ w (Ret Q):=
 qhc [.tmp 2] qde Tryz.func128 rfl rfl rfl rfl .lf (by kernel_rfl) h
def qn.j6(out_7:Sl)(Q:VWP)(w:World):Prop:=Q (.tuple ⟨[sV out_7,.int .i64 0]⟩) w
def qn.j9(out_7 t85:Sl)(t86:Int)(t87:Int)(Q:VWP)(nx1:Sl->Sl->Int->Int->WP)(w:World):Prop:=lt (i64.wrap (t87+1)) λx1=>nx1 out_7 t85 t86 x1 w
def qn.b2(out_7 t85:Sl)(t86:Int)(t87:Int)(t92:Sl)(t93 t94:Int)(Q:VWP)(nx1:Sl->Sl->Int->Int->WP)(nx2:Sl->Sl->Int->Int->Sl->Int->Int->WP)(w:World):Prop:=br (decide (t94<t93)) (ixS t92.a t92.len t94 1 λa2=>ldI .i64 w a2 λx3=>ixS out_7.a out_7.len x3 1 λa4=>ldI .i64 w a4 λx5=>lt (i64.wrap (x5+1)) λx6=>ixS out_7.a out_7.len x3 1 λa7=>st w a7 (.int .i64 x6) λw8=>lt (i64.wrap (t94+1)) λx9=>nx2 out_7 t85 t86 t87 t92 t93 x9 w8) (qn.j9 out_7 t85 t86 t87 Q nx1 w)
def qn.l2(out_7 t85:Sl)(t86:Int)(t87:Int)(t92:Sl)(t93 t94:Int)(Q:VWP)(nx1:Sl->Sl->Int->Int->WP)(w:World):Prop:=∃(I:Int->WP) (μ:Int->World->Nat),I t94 w/\∀t94:Int,∀w:World,I t94 w->qn.b2 out_7 t85 t86 t87 t92 t93 t94 Q nx1 (λout_7' t85' t86' t87' t92' t93' t94' w'=>(out_7'=out_7/\t85'=t85/\t86'=t86/\t87'=t87/\t92'=t92/\t93'=t93)/\I t94' w'/\μ t94' w'<μ t94 w) w
def qn.j10(out_7 t85:Sl)(t86:Int)(t87:Int)(t92:Sl)(t93 t94:Int)(Q:VWP)(nx1:Sl->Sl->Int->Int->WP)(w:World):Prop:=qn.l2 out_7 t85 t86 t87 t92 t93 t94 Q nx1 w
def qn.j8(out_7 t85:Sl)(t86:Int)(t87:Int)(Q:VWP)(nx1:Sl->Sl->Int->Int->WP)(w:World):Prop:=ixS t85.a t85.len t87 2 λa10=>ldA w a10 2 λc11=>nw w (zc prog 198) 198 λa12 w13=>(c11).size=2/\stA w13 a12 c11 λw14=>ldL w14 (Addr.add a12 1) λx15=>qn.j10 out_7 t85 t86 t87 x15 (x15.len:Int) 0 Q nx1 w14
def qn.b1(out_7 t85:Sl)(t86:Int)(t87:Int)(Q:VWP)(nx1:Sl->Sl->Int->Int->WP)(w:World):Prop:=br (decide (t87<t86)) (qn.j8 out_7 t85 t86 t87 Q nx1 w) (qn.j6 out_7 Q w)
def qn.l1(out_7 t85:Sl)(t86:Int)(t87:Int)(Q:VWP)(w:World):Prop:=∃(I:Int->WP) (μ:Int->World->Nat),I t87 w/\∀t87:Int,∀w:World,I t87 w->qn.b1 out_7 t85 t86 t87 Q (λout_7' t85' t86' t87' w'=>(out_7'=out_7/\t85'=t85/\t86'=t86)/\I t87' w'/\μ t87' w'<μ t87 w) w
def qn.j7(out_7 t85:Sl)(t86:Int)(t87:Int)(Q:VWP)(w:World):Prop:=qn.l1 out_7 t85 t86 t87 Q w
def qn.j5(l_6 out_7 row_9:Sl)(Q:VWP)(w:World):Prop:=lt (i64.wrap (2*(l_6.len:Int))) λx16=>lt (i64.wrap (x16-2)) λx17=>bd x17 row_9.cap λn18=>lt (⟨qnf row_9.a row_9.cap 0 2,n18-0,row_9.cap-0⟩:Sl) λs19=>qn.j7 out_7 s19 (s19.len:Int) 0 Q w
def qn.b3(l_6 out_7 coins_8:Sl)(t69:Int)(row_9:Sl)(t70:Int)(Q:VWP)(nx3:Sl->Sl->Sl->Int->Sl->Int->WP)(w:World):Prop:=br (decide (t70<t69)) (qak 128 [sV coins_8] w λr22 w21=>qak 129 [sV row_9] w21 λr25 w24=>rdO w24 r25.a (r25.len*2) λc26=>apK prog 198 w24 r22.a r22.len r22.cap r25.len c26 λs27 w28=>ct_ 130 [sV s27,.func (.func 131) ⟨[]⟩ ⟨[]⟩] w28 λw30=>lt (i64.wrap (t70+1)) λx31=>nx3 l_6 out_7 coins_8 t69 s27 x31 w30) (qn.j5 l_6 out_7 row_9 Q w)
def qn.l3(l_6 out_7 coins_8:Sl)(t69:Int)(row_9:Sl)(t70:Int)(Q:VWP)(w:World):Prop:=∃(I:Sl->Int->WP) (μ:Sl->Int->World->Nat),I row_9 t70 w/\∀row_9:Sl,∀t70:Int,∀w:World,I row_9 t70 w->qn.b3 l_6 out_7 coins_8 t69 row_9 t70 Q (λl_6' out_7' coins_8' t69' row_9' t70' w'=>(l_6'=l_6/\out_7'=out_7/\coins_8'=coins_8/\t69'=t69)/\I row_9' t70' w'/\μ row_9' t70' w'<μ row_9 t70 w) w
def qn.j11(l_6 out_7 coins_8 row_9:Sl)(t69:Int)(t70:Int)(Q:VWP)(w:World):Prop:=qn.l3 l_6 out_7 coins_8 t69 row_9 t70 Q w
def qn.j4(most_1:Int)(l_6:Sl)(out_7 coins_8 row_9:Sl)(Q:VWP)(w:World):Prop:=qn.j11 l_6 out_7 coins_8 row_9 most_1 0 Q w
def qn.b4(counts_0:Sl)(most_1:Int)(l_6 out_7 row_9 t52:Sl)(t53:Int)(coins_8:Sl)(t54:Int)(Q:VWP)(nx4:Sl->Int->Sl->Sl->Sl->Sl->Int->Sl->Int->WP)(w:World):Prop:=br (decide (t54<t53)) (ixS t52.a t52.len t54 1 λa32=>ldI .i64 w a32 λx33=>ixS counts_0.a counts_0.len x33 1 λa34=>ldI .i64 w a34 λx35=>nw w ⟨[.int .i64 x33]⟩ 3 λa36 w37=>((⟨[.int .i64 x35,.slice (some a36) 1 1]⟩:Array Value)).size=2/\nw w37 ⟨(spl [.int .i64 0,.slice none 0 0] 0 (⟨[.int .i64 x35,.slice (some a36) 1 1]⟩:Array Value))⟩ 198 λa38 w39=>rdO w39 (some a38) (1*2) λc40=>apK prog 198 w39 coins_8.a coins_8.len coins_8.cap 1 c40 λs41 w42=>lt (i64.wrap (t54+1)) λx43=>nx4 counts_0 most_1 l_6 out_7 row_9 t52 t53 s41 x43 w42) (qn.j4 most_1 l_6 out_7 coins_8 row_9 Q w)
def qn.l4(counts_0:Sl)(most_1:Int)(l_6 out_7 row_9 t52:Sl)(t53:Int)(coins_8:Sl)(t54:Int)(Q:VWP)(w:World):Prop:=∃(I:Sl->Int->WP) (μ:Sl->Int->World->Nat),I coins_8 t54 w/\∀coins_8:Sl,∀t54:Int,∀w:World,I coins_8 t54 w->qn.b4 counts_0 most_1 l_6 out_7 row_9 t52 t53 coins_8 t54 Q (λcounts_0' most_1' l_6' out_7' row_9' t52' t53' coins_8' t54' w'=>(counts_0'=counts_0/\most_1'=most_1/\l_6'=l_6/\out_7'=out_7/\row_9'=row_9/\t52'=t52/\t53'=t53)/\I coins_8' t54' w'/\μ coins_8' t54' w'<μ coins_8 t54 w) w
def qn.j12(counts_0:Sl)(most_1:Int)(l_6 out_7 coins_8 row_9 t52:Sl)(t53:Int)(t54:Int)(Q:VWP)(w:World):Prop:=qn.l4 counts_0 most_1 l_6 out_7 row_9 t52 t53 coins_8 t54 Q w
def qn.j3(counts_0:Sl)(most_1:Int)(l_6 out_7 coins_8 row_9:Sl)(Q:VWP)(w:World):Prop:=qn.j12 counts_0 most_1 l_6 out_7 coins_8 row_9 l_6 (l_6.len:Int) 0 Q w
def qn.j2(counts_0:Sl)(most_1:Int)(l_6 out_7:Sl)(Q:VWP)(w:World):Prop:=(0:Int)<=most_1/\lt (qzi .i64 1 most_1) λx44=>br (decide ((l_6.len:Int)>x44)) (Q (.tuple ⟨[.slice none 0 0,.int .i64 7]⟩) w) (br ((l_6.len:Int)==0) (Q (.tuple ⟨[sV out_7,.int .i64 0]⟩) w) (br ((l_6.len:Int)==1) (ixS l_6.a l_6.len 0 1 λa45=>ldI .i64 w a45 λx46=>ixS out_7.a out_7.len x46 1 λa47=>st w a47 (.int .i64 1) λw48=>Q (.tuple ⟨[sV out_7,.int .i64 0]⟩) w48) (qn.j3 counts_0 most_1 l_6 out_7 ⟨none,0,0⟩ ⟨none,0,0⟩ Q w)))
def qn.j1(counts_0:Sl)(most_1:Int)(Q:VWP)(w:World):Prop:=qak 127 [sV counts_0] w λr51 w50=>mkK prog 3 w50 (counts_0.len:Int) (counts_0.len:Int) λs52 w53=>qn.j2 counts_0 most_1 r51 s52 Q w53
def qn(counts_0:Sl)(most_1:Int)(Q:VWP)(w:World):Prop:=qzcb 126 [sV counts_0] w λr56 w55=>br r56 (Q (.tuple ⟨[.slice none 0 0,.int .i64 1]⟩) w55) (br (decide (most_1<1)) (Q (.tuple ⟨[.slice none 0 0,.int .i64 1]⟩) w55) (br (decide (most_1>15)) (Q (.tuple ⟨[.slice none 0 0,.int .i64 1]⟩) w55) (qn.j1 counts_0 most_1 Q w55)))
theorem qn.ok(counts_0:Sl)(most_1:Int)(Q:VWP)(w:World)(h:qn counts_0 most_1 Q w):Calls prog 102 ⟨[sV counts_0,.int .i64 most_1]⟩ w (Ret Q):=
 qhc [.tmp 4,.tmp 5] qde Tryz.func102 rfl rfl rfl rfl (.pr 1 [sL 0,sI 1] (λa b w=>qn.j1 a b Q w) (.pr 1 [sL 0,sI 1,sL 6,sL 7] (λa b c d w=>qn.j2 a b c d Q w) (.pr 1 [sL 0,sI 1,sL 6,sL 7,sL 8,sL 9] (λa b c d e f w=>qn.j3 a b c d e f Q w) (.sq [sI 1,sL 6,sL 7,sL 8,sL 9] (λa b c d e w=>qn.j4 a b c d e Q w) (.sq [sL 0,sI 1,sL 6,sL 7,sL 8,sL 9,sL 52,sI 53,sI 54] (λa b c d e f g h i w=>qn.j12 a b c d e f g h i Q w) .lf (.bk (.lo [sL 0,sI 1,sL 6,sL 7,sL 9,sL 52,sI 53] [sL 8,sI 54] (λa b c d e f g h i w=>qn.l4 a b c d e f g h i Q w) (λnx4 a b c d e f g h i w=>qn.b4 a b c d e f g h i Q nx4 w) λnx4=> .lf))) (.sq [sL 6,sL 7,sL 9] (λa b c w=>qn.j5 a b c Q w) (.sq [sL 6,sL 7,sL 8,sL 9,sI 69,sI 70] (λa b c d e f w=>qn.j11 a b c d e f Q w) .lf (.bk (.lo [sL 6,sL 7,sL 8,sI 69] [sL 9,sI 70] (λa b c d e f w=>qn.l3 a b c d e f Q w) (λnx3 a b c d e f w=>qn.b3 a b c d e f Q nx3 w) λnx3=> .lf))) (.sq [sL 7] (λa w=>qn.j6 a Q w) (.sq [sL 7,sL 85,sI 86,sI 87] (λa b c d w=>qn.j7 a b c d Q w) .lf (.bk (.lo [sL 7,sL 85,sI 86] [sI 87] (λa b c d w=>qn.l1 a b c d Q w) (λnx1 a b c d w=>qn.b1 a b c d Q nx1 w) λnx1=>(.pr 1 [sL 7,sL 85,sI 86,sI 87] (λa b c d w=>qn.j8 a b c d Q nx1 w) (.sq [sL 7,sL 85,sI 86,sI 87] (λa b c d w=>qn.j9 a b c d Q nx1 w) (.bk (.pr 1 [sL 7,sL 85,sI 86,sI 87,sL 92,sI 93,sI 94] (λa b c d e f g w=>qn.j10 a b c d e f g Q nx1 w) (.bk (.lo [sL 7,sL 85,sI 86,sI 87,sL 92,sI 93] [sI 94] (λa b c d e f g w=>qn.l2 a b c d e f g Q nx1 w) (λnx2 a b c d e f g w=>qn.b2 a b c d e f g Q nx1 nx2 w) λnx2=> .lf)))) .lf))))) .lf)))))) (by kernel_rfl) h
end
section
attribute [local irreducible] apK cpK mkK br
def badN(n:Int):Prop:=n<0\/16777216<n
instance (n:Int):Decidable (badN n):=inferInstanceAs (Decidable (_\/_))
def que(xs:List Int):List Nat:=(range xs.length).filter λi=>0<xs.getD i 0
section
variable {F0:List Nat}{w0 w:World}{ps rest:List As}{s:Sl}{xs:List Int}
theorem qigb.c{n:Int}{K:Ending->World->Prop}(hk:K (.returned (.bool (decide (badN n)))) w):Calls prog 148 ⟨[.int .i64 n]⟩ w K:=by
 refine qdc (qwn.ok _ _ _ ?_);unfold qwn;refine quc (λg=>?_) (λg=>?_)
 ·rw[decide_eq_true (show badN n from Or.inl g)]at hk;exact hk
 ·rw[show decide (badN n)=decide (n>16777216)from decide_eq_decide.2 ⟨λe=>by rcases e with e|e;omega;exact e,λe=>Or.inr e⟩]at hk;exact hk
theorem qfn.c{K:Ending->World->Prop}(h:St F0 w0 w ps)[Rdb F0 w0 s ps 1 (ivs .i64 xs)]
 (hk:∀(b:Bool) w',(b=false->xs.length<=288/\∀x∈xs,¬badN x)->(b=true->288<xs.length\/∃x∈xs,badN x)->St F0 w0 w' ps->K (.returned (.bool b)) w'):Calls prog 126 ⟨[.slice s.a s.len s.cap]⟩ w K:=by
 have hl:=(h.rdb s).1
 rw[qk]at hl
 refine qdc (qfn.ok _ _ _ ?_)
 unfold qfn
 refine quc (λg=>?_) (λg=>?_)
 ·exact hk true w (λe=>by cases e) (λ_=>Or.inl (by omega)) h
 refine qdc (qdg.ok _ _ _ ?_)
 unfold qdg
 refine qdc (qtb.ok _ _ _ ?_)
 unfold qtb qtb.j1 qtb.j3
 refine qjf (λ(i:Nat) (i':Int) w'=>i'=i/\i<=xs.length/\(∀j,j<i->¬badN (xs.getD j 0))/\St F0 w0 w' ps) (λi=>xs.length-i) 0 ⟨rfl,by omega,λj hj=>by omega,h⟩ ?_
 clear h
 rintro i i' wL I μ ⟨rfl,hi,hb,h⟩ hin
 unfold qtb.b1
 refine quc (λg1=>?_) (λg1=>?_)
 ·have hix:i<xs.length:=by omega
  refine h.lx (s:=s) i rfl hix ?_
  refine qigb.c ⟨_,rfl,?_⟩
  refine quc (λg2=>?_) (λg2=>?_)
  ·refine⟨_,rfl,?_⟩
   dsimp only
   rw[decide_eq_true (show((i:Nat):Int)>=0 by omega)]
   refine⟨_,rfl,hk true wL (λe=>by cases e) (λ_=>Or.inr ⟨xs[i],getElem_mem hix,?_⟩) h⟩
   rw[getD,List.getElem?_eq_getElem hix]at g2
   exact g2
  ·refine qm (qd (by omega) (by omega)) ?_
   refine⟨⟨rfl,rfl⟩,hin (i+1) _ _ ⟨by omega,by omega,?_,h⟩ (by omega)⟩
   intro j hj
   rcases lt_or_ge j i with h1|h1
   ·exact hb j h1
   ·rw[show j=i by omega];exact g2
 ·unfold qtb.j2
  refine⟨_,rfl,?_⟩
  dsimp only
  rw[decide_eq_false (show ¬(-1:Int)>=0 by decide)]
  refine⟨_,rfl,hk false wL (λ_=>⟨by omega,λx hx=>?_⟩) (λe=>by cases e) h⟩
  obtain⟨j,hj,rfl⟩:=List.mem_iff_getElem.1 hx
  have:=hb j (by omega)
  rw[getD,List.getElem?_eq_getElem hj]at this
  exact this
theorem qwd.c{K:Ending->World->Prop}(h:St F0 w0 w ps)[Rdb F0 w0 s ps 1 (ivs .i64 xs)](hlen:xs.length<=1000000)
 (hk:∀t w',t.len=(que xs).length->St F0 w0 w' (qcc 1 t (ivs .i64 ((que xs).map λ(i:Nat)=>(i:Int)))::ps)->K (.returned (.slice t.a t.len t.cap)) w'):Calls prog 127 ⟨[.slice s.a s.len s.cap]⟩ w K:=by
 have hl:=(h.rdb s).1
 rw[qk]at hl
 refine qdc (qwd.ok _ _ _ ?_)
 unfold qwd qwd.j1 qwd.j3
 have cl:∀i,((range i).filter λi=>decide (0<xs.getD i 0)).length<=i:=λi=>Nat.le_trans (List.length_filter_le _ _) (by simp)
 refine qug (λ(i:Nat) (o:Sl) (i':Int) w'=>i'=i/\i<=xs.length/\St F0 w0 w' (qcc 1 o (ivs .i64 (((range i).filter λi=>decide (0<xs.getD i 0)).map λ(i:Nat)=>(i:Int)))::ps)) (λi=>xs.length-i) 0 ⟨rfl,by omega,h.nil 1⟩ ?_
 clear h
 rintro i o i' wL I μ ⟨rfl,hi,h⟩ hin
 unfold qwd.b1
 refine quc (λg1=>?_) (λg1=>?_)
 ·have hix:i<xs.length:=by omega
  refine h.lx (s:=s) i rfl hix ?_
  have hcl:=cl i
  refine quc (λg2=>?_) (λg2=>?_)
  ·refine h.pushI (s:=o) (by rw[List.length_map];omega) λo2 w h=>?_
   refine qm (qd (by omega) (by omega)) ?_
   refine⟨⟨rfl,rfl⟩,hin (i+1) _ _ _ ⟨by omega,by omega,?_⟩ (by omega)⟩
   rw[List.range_succ,List.filter_append,map_append]
   rw[show([i].filter λi=>decide (0<xs.getD i 0))=[i]by simp only[filter_cons,List.filter_nil];rw[if_pos (decide_eq_true g2)]]
   exact h
  ·refine qm (qd (by omega) (by omega)) ?_
   refine⟨⟨rfl,rfl⟩,hin (i+1) _ _ _ ⟨by omega,by omega,?_⟩ (by omega)⟩
   rw[List.range_succ,List.filter_append,map_append]
   rw[show([i].filter λi=>decide (0<xs.getD i 0))=[]by simp only[filter_cons,List.filter_nil];rw[if_neg (by simpa using g2)]]
   rw[List.map_nil,append_nil]
   exact h
 ·have:i=xs.length:=by omega
  subst this
  unfold qwd.j2
  have hol:=h.len
  rw[qk,List.length_map]at hol
  refine hk o wL ?_ h
  unfold que
  omega
end
end
section
theorem qpm{α:Type}{Q:List α->Prop}(h0:Q [])(h1:∀a,Q [a])(h2:∀a b r,Q r->Q (a::b::r)):∀l,Q l
 |[]=>h0
 |[a]=>h1 a
 |a::b::r=>h2 a b r (qpm h0 h1 h2 r)
section
variable {α β:Type}{k:α->Int}
theorem qrz{l:List α}(h:srt k l):qxd k l=l:=by
 have:∀(l:List α),srt k l->qxd k l=l:=qzq (Q:=λl=>srt k l->qxd k l=l) (λ_=>rfl) (λl x ih h=>by
  have h':=List.pairwise_append.1 h;rw[quj,ih h'.1];have:=qvjb (k:=k) (x:=x) (T1:=l) (T2:=[]) (λy hy=>by have:=h'.2.2 y hy x (by simp);omega) (by simp);rwa[append_nil]at this)
 exact this l h
theorem qiob{k':β->Int}{f:α->β}(hf:∀a,k' (f a)=k a)(x:α)(l:List α):(insR k x l).map f=insR k' (f x) (l.map f):=by
 induction l with
 |nil=>rfl
 |cons y l ih=>
  rw[insR,map_cons,insR,hf,hf];split
  ·rfl
  ·rw[map_cons,ih]
theorem qsz{k':β->Int}{f:α->β}(hf:∀a,k' (f a)=k a)(l:List α):(qxd k l).map f=qxd k' (l.map f):=
 qzq (Q:=λl=>(qxd k l).map f=qxd k' (l.map f)) rfl (λl x ih=>by
  rw[quj,qiob hf,ih,map_append,map_cons,List.map_nil,quj]) l
theorem qxnb:∀(m:Nat) (A B:List α),srt k A->m<=A.length+B.length->∃c p,c+p=m/\c<=A.length/\p<=B.length/\((mrg k A B).take m).Perm (A.take c++B.take p)/\∀(h:c<A.length),∀b∈B.take p,k b<k A[c]:=by
 intro m;induction m with
 |zero=>intro A B _ _;exact⟨0,0,rfl,by omega,by omega,by simp,by simp⟩
 |succ m ih=>
  intro A B hA hm;cases A with
  |nil=>
   rw[qti];exact⟨0,m+1,by omega,by omega,by simpa using hm,by simp,λh=>by simp at h⟩
  |cons x A=>
   cases B with
   |nil=>
    rw[qni];exact⟨m+1,0,by omega,by simpa using hm,by omega,by simp,λh b hb=>by simp at hb⟩
   |cons y B=>
    simp only[length_cons]at hm;rw[qbi];by_cases hxy:k y<k x
    ·rw[if_pos hxy];obtain⟨c,p,h1,h2,h3,h4,h5⟩:=ih (x::A) B hA (by simp only[length_cons];omega);refine⟨c,p+1,by omega,h2,by simp only[length_cons];omega,?_,?_⟩
     ·rw[take_succ_cons,take_succ_cons];exact(h4.cons y).trans (List.perm_middle).symm
     ·intro h b hb;rw[take_succ_cons]at hb;rcases mem_cons.1 hb with rfl|hb
      ·have hx:k x<=k (x::A)[c]:=by
        cases c with
        |zero=>exact Int.le_refl _
        |succ c=>
         have:=(pairwise_cons.1 hA).1 ((x::A)[c+1]) (by rw[List.getElem_cons_succ];exact getElem_mem _);exact this
       omega
      ·exact h5 h b hb
    ·rw[if_neg hxy];obtain⟨c,p,h1,h2,h3,h4,h5⟩:=ih A (y::B) (pairwise_cons.1 hA).2 (by simp only[length_cons];omega);refine⟨c+1,p,by omega,by simp only[length_cons];omega,h3,?_,?_⟩
     ·rw[take_succ_cons,take_succ_cons];exact h4.cons x
     ·intro h b hb;rw[List.getElem_cons_succ];exact h5 (by simpa using h) b hb
end
abbrev Pg:=Int×List Nat
def gw(x:Pg):Int:=x.1
def qzm:List Pg->List Pg
 |a::b::r=>(a.1+b.1,a.2++b.2)::qzm r
 |_=>[]
def qil(cs:List Pg):Nat->List Pg
 |0=>[]
 |i+1=>qxd gw (cs++qzm (qil cs i))
def qmg(l:List Pg):List Nat:=l.flatMap (·.2)
theorem qou(a b:List Pg):qmg (a++b)=qmg a++qmg b:=by simp[qmg]
theorem qwk(a:Pg)(b:List Pg):qmg (a::b)=a.2++qmg b:=rfl
theorem qnu{a b:List Pg}(h:a.Perm b):(qmg a).Perm (qmg b):=by
 induction h with
 |nil=>exact Perm.refl _
 |cons x _ ih=>exact ih.append_left _
 |swap x y l=>
  show(y.2++(x.2++qmg l)).Perm (x.2++(y.2++qmg l));rw[<-append_assoc,<-append_assoc];exact List.perm_append_comm.append_right _
 |trans _ _ h1 h2=>exact h1.trans h2
theorem qul:∀l:List Pg,(qzm l).length=l.length/2:=qpm rfl (λa=>by simp[qzm]) (λa b r ih=>by
 show(qzm r).length+1=(r.length+1+1)/2;omega)
theorem qbu:∀(l:List Pg) (p:Nat),(qzm l).take p=qzm (l.take (2*p)):=qpm (λp=>by simp[qzm]) (λa p=>by cases p<;>simp[qzm,show ∀p,2*(p+1)=2*p+1+1 by omega]) (λa b r ih p=>by
 cases p with
 |zero=>rfl
 |succ p=>
  rw[show 2*(p+1)=2*p+1+1 by omega,take_succ_cons,take_succ_cons,qzm,qzm,take_succ_cons,ih])
theorem qmkb:∀l:List Pg,l.length%2=0->qmg (qzm l)=qmg l:=qpm (λ_=>rfl) (λa h=>by simp at h) (λa b r ih h=>by
 simp only[length_cons]at h;rw[qzm,qwk,qwk,qwk,ih (by omega),append_assoc])
theorem qdsb:∀l:List Pg,l.length%2=0->(∀y∈l,0<gw y)->∀x∈l,∃b∈qzm l,gw x<gw b:=qpm (λ_ _ x hx=>by cases hx) (λa h=>by simp at h) (λa b r ih h hp x hx=>by
 simp only[length_cons]at h;have ha:=hp a (by simp);have hb:=hp b (by simp);rcases mem_cons.1 hx with rfl|hx
 ·exact⟨_,by rw[qzm];exact mem_cons_self,by show gw x<gw x+gw b;omega⟩
 ·rcases mem_cons.1 hx with rfl|hx
  ·exact⟨_,by rw[qzm];exact mem_cons_self,by show gw x<gw a+gw x;omega⟩
  ·obtain⟨c,h1,h2⟩:=ih (by omega) (λy hy=>hp y (by simp[hy])) x hx;exact⟨c,by rw[qzm];exact mem_cons_of_mem _ h1,h2⟩)
theorem qnnb:∀l:List Pg,(∀y∈l,0<gw y)->∀x∈qzm l,0<gw x:=qpm (λ_ x hx=>by cases hx) (λa _ x hx=>by cases hx) (λa b r ih hp x hx=>by
 rw[qzm]at hx;have ha:=hp a (by simp);have hb:=hp b (by simp);rcases mem_cons.1 hx with rfl|hx
 ·show 0<gw a+gw b;omega
 ·exact ih (λy hy=>hp y (by simp[hy])) x hx)
theorem qesb(m:Int):∀l:List Pg,(∀y∈l,m<=gw y)->∀x∈qzm l,m+m<=gw x:=qpm (λ_ x hx=>by cases hx) (λa _ x hx=>by cases hx) (λa b r ih hp x hx=>by
 rw[qzm]at hx;have ha:=hp a (by simp);have hb:=hp b (by simp);rcases mem_cons.1 hx with rfl|hx
 ·show m+m<=gw a+gw b;omega
 ·exact ih (λy hy=>hp y (by simp[hy])) x hx)
theorem qmnb:∀l:List Pg,srt gw l->srt gw (qzm l):=qpm (λ_=>Pairwise.nil) (λ_ _=>Pairwise.nil) (λa b r ih h=>by
 have h1:=pairwise_cons.1 h;have h2:=pairwise_cons.1 h1.2;rw[qzm];refine pairwise_cons.2 ⟨λy hy=>?_,ih h2.2⟩;have:=qesb (gw b) r h2.1 y hy;have hab:=h1.1 b (by simp);show gw a+gw b<=gw y;omega)
section
variable {cs:List Pg}
theorem qgnb:∀i,srt gw (qil cs i):=by
 intro i;cases i with
 |zero=>exact Pairwise.nil
 |succ i=>exact qek _
theorem qix(i:Nat):qil cs (i+1)=mrg gw (qxd gw cs) (qzm (qil cs i)):=by
 rw[qil,qoo,qrz (qmnb _ (qgnb i))]
theorem qhnb(hp:∀x∈cs,0<gw x):∀i,∀x∈qil cs i,0<gw x:=by
 intro i;induction i with
 |zero=>intro x hx;cases hx
 |succ i ih=>
  intro x hx;rcases mem_append.1 ((qvj _).mem_iff.1 hx)with hx|hx
  ·exact hp x hx
  ·exact qnnb _ ih x hx
theorem qxt(i:Nat):(qil cs (i+1)).length=cs.length+(qil cs i).length/2:=by
 rw[qil,qpd,length_append,qul]
theorem qjx(h:1<=cs.length):∀i,(qil cs i).length<2*cs.length:=by
 intro i;induction i with
 |zero=>simp only[qil,length_nil];omega
 |succ i ih=>rw[qxt];omega
theorem qnib(h:1<=cs.length):∀i,(2*cs.length-(qil cs i).length)*2^i<2*cs.length+2^i:=by
 intro i;induction i with
 |zero=>simp[qil]
 |succ i ih=>
  have:=qjx h i;rw[qxt,pow_succ];generalize (qil cs i).length=r at this ih;have h2:2*(2*cs.length-(cs.length+r/2))<=(2*cs.length-r)+1:=by omega
  have h3:=Nat.mul_le_mul_right (2^i) h2;rw[add_mul,one_mul,mul_assoc,mul_comm 2,mul_assoc]at h3;omega
theorem qyt(h:1<=cs.length){L:Nat}(hL:cs.length<=2^L):2*cs.length-2<=(qil cs L).length:=by
 have h1:=qnib h L;have h2:(2*cs.length-(qil cs L).length)*2^L<3*2^L:=by omega
 have:=Nat.lt_of_mul_lt_mul_right h2;omega
theorem qprb{α:Type}(q:Nat)(g h:α->Nat):∀(A:List α),(∀s∈A,g s=q+h s)->(A.map g).sum=A.length*q+(A.map h).sum:=by
 intro A;induction A with
 |nil=>intro _;simp
 |cons a A ih=>
  intro hA;rw[map_cons,sum_cons,map_cons,sum_cons,ih (λs hs=>hA s (by simp[hs])),hA a (by simp),length_cons,add_mul,one_mul];omega
theorem qtdb{α:Type}(g h:α->Nat)(A:List α)(e:∀s∈A,g s=h s):(A.map g).sum=(A.map h).sum:=by
 rw[map_congr_left e]
theorem qadb{s:Nat}:∀{l:List Nat},l.Nodup->s∈l->l.count s=1:=by
 intro l;induction l with
 |nil=>intro _ h;cases h
 |cons a l ih=>
  intro hn h;have hn:=List.nodup_cons.1 hn;rcases mem_cons.1 h with rfl|h
  ·rw[List.count_cons_self,List.count_eq_zero.2 hn.1]
  ·rw[List.count_cons_of_ne (λe=>hn.1 (by rw[e];exact h)),ih hn.2 h]
theorem qlkb:∀{l:List Pg} (c:Nat),(∀x∈l,x.2.length=1)->qmg (l.take c)=(qmg l).take c:=by
 intro l;induction l with
 |nil=>intro c _;simp[qmg]
 |cons a l ih=>
  intro c h;cases c with
  |zero=>rfl
  |succ c=>
   obtain⟨s,hs⟩:=List.length_eq_one_iff.1 (h a (by simp));rw[take_succ_cons,qwk,qwk,ih c (λx hx=>h x (by simp[hx])),hs];rfl
theorem qxeb:∀{l:List Pg},(∀x∈l,x.2.length=1)->(qmg l).length=l.length:=by
 intro l;induction l with
 |nil=>intro _;rfl
 |cons a l ih=>
  intro h;rw[qwk,length_append,h a (by simp),ih (λx hx=>h x (by simp[hx])),length_cons];omega
def Tk3(cs:List Pg)(i m:Nat):Prop:=∃c,c<=cs.length/\(2*cs.length-2<=m->c=cs.length)/\(∀x∈(qxd gw cs).take c,x∈(qil cs i).take m)/\
 (∀s∈(qmg (qxd gw cs)).take c,0<(qmg ((qil cs i).take m)).count s/\(qmg ((qil cs i).take m)).count s<=i)/\
 (∀s,s∉(qmg (qxd gw cs)).take c->(qmg ((qil cs i).take m)).count s=0)/\
 ((qmg (qxd gw cs)).map λs=>2^(i+1)-2^(i+1-(qmg ((qil cs i).take m)).count s)).sum=m*2^i
theorem takes(hn:2<=cs.length)(hp:∀x∈cs,0<gw x)(h1:∀x∈cs,x.2.length=1)(hd:(qmg cs).Nodup):∀i m,m<=(qil cs i).length->Tk3 cs i m:=by
 have hS:∀x∈qxd gw cs,x.2.length=1:=λx hx=>h1 x ((qvj _).mem_iff.1 hx);have hSd:(qmg (qxd gw cs)).Nodup:=(qnu (qvj cs)).symm.nodup hd;have hSl:(qmg (qxd gw cs)).length=cs.length:=by rw[qxeb hS,qpd]
 intro i;induction i with
 |zero=>
  intro m hm;have:m=0:=by simpa [qil]using hm
  subst this
  refine⟨0,by omega,λh=>by omega,by simp,by simp,by simp[qil,qmg],?_⟩;rw[Nat.zero_mul,qtdb _ (λ_=>0) _ (λs _=>by simp[qil,qmg])];generalize qmg (qxd gw cs)=l;induction l with
  |nil=>rfl
  |cons a l ih=>simpa using ih
 |succ i ih=>
  intro m hm;rw[qix,qyv _ _ _ rfl]at hm;obtain⟨c,p,hcp,hc,hpB,hperm,hlt⟩:=qxnb (k:=gw) m (qxd gw cs) (qzm (qil cs i)) (qek _) hm;rw[qpd]at hc;have hpB':=hpB;rw[qul]at hpB';obtain⟨c',hc',hall,hmem,hcnt,hno,hsum⟩:=ih (2*p) (by omega);have hl2:((qil cs i).take (2*p)).length=2*p:=by rw[length_take];omega
  have hcc:c'<=c:=by
   rcases lt_or_ge c c' with hlt2|hge
   ·exfalso;have hcS:c<(qxd gw cs).length:=by rw[qpd];omega
    have hx:(qxd gw cs)[c]∈(qil cs i).take (2*p):=hmem _ (List.mem_take_iff_getElem.2 ⟨c,by omega,rfl⟩);obtain⟨b,hb,hlt3⟩:=qdsb _ (by rw[hl2];omega) (λy hy=>qhnb hp i y (List.mem_of_mem_take hy)) _ hx;rw[<-qbu]at hb;have:=hlt hcS b hb;omega
   ·exact hge
  have hF:∀s,(qmg ((qil cs (i+1)).take m)).count s=((qmg (qxd gw cs)).take c).count s+(qmg ((qil cs i).take (2*p))).count s:=by
   intro s;rw[qix,(qnu hperm).count_eq,qou,List.count_append,qlkb _ hS,qbu,qmkb _ (by rw[hl2];omega)]
  have hin:∀s,s∈(qmg (qxd gw cs)).take c->((qmg (qxd gw cs)).take c).count s=1:=λs hs=>qadb (hSd.sublist (List.take_sublist _ _)) hs;have hbd:∀s,(qmg ((qil cs i).take (2*p))).count s<=i:=by
   intro s;by_cases hs:s∈(qmg (qxd gw cs)).take c'
   ·exact(hcnt s hs).2
   ·rw[hno s hs];omega
  have hno2:∀s,s∉(qmg (qxd gw cs)).take c->(qmg ((qil cs i).take (2*p))).count s=0:=λs hs=>hno s λh=>hs (by
   have:(qmg (qxd gw cs)).take c'=((qmg (qxd gw cs)).take c).take c':=by rw[List.take_take,Nat.min_eq_left hcc]
   rw[this]at h;exact List.mem_of_mem_take h)
  refine⟨c,hc,?_,?_,?_,?_,?_⟩
  ·intro h2;have hrl:=qjx (cs:=cs) (by omega) i;rcases lt_or_ge c cs.length with hlt2|hge
   ·have:p=cs.length-1:=by omega
    have:=hall (by omega);omega
   ·omega
  ·intro x hx;rw[qix];exact hperm.mem_iff.2 (List.mem_append_left _ hx)
  ·intro s hs;rw[hF,hin s hs];have:=hbd s;omega
  ·intro s hs;rw[hF,List.count_eq_zero.2 hs,hno2 s hs]
  ·have e:=take_append_drop c (qmg (qxd gw cs));have hdis:∀s∈(qmg (qxd gw cs)).drop c,s∉(qmg (qxd gw cs)).take c:=by
    intro s hs hs2;rw[<-e]at hSd;exact(List.nodup_append.1 hSd).2.2 s hs2 s hs rfl
   have hcl:((qmg (qxd gw cs)).take c).length=c:=by rw[length_take,hSl];omega
   rw[<-e,map_append,List.sum_append]at hsum|-
   rw[qprb (2^(i+1)) _ (λs=>2^(i+1)-2^(i+1-(qmg ((qil cs i).take (2*p))).count s)) ((qmg (qxd gw cs)).take c) (λs hs=>?_),
    qtdb _ (λs=>2^(i+1)-2^(i+1-(qmg ((qil cs i).take (2*p))).count s)) ((qmg (qxd gw cs)).drop c) (λs hs=>?_),add_assoc,hsum,hcl]
   ·rw[<-hcp,pow_succ,add_mul,mul_comm 2 p,mul_assoc p,mul_comm 2]
   rotate_left
   ·rw[hF,hin s hs];have hb:=hbd s;generalize (qmg ((qil cs i).take (2*p))).count s=f at hb;rw[show i+1+1-(1+f)=i+1-f by omega];have h3:2^(i+1-f)<=2^(i+1):=Nat.pow_le_pow_right (by omega) (by omega);rw[pow_succ 2 (i+1)];omega
   ·rw[hF,List.count_eq_zero.2 (hdis s hs),hno2 s (hdis s hs)];simp
theorem full(hn:2<=cs.length)(hp:∀x∈cs,0<gw x)(h1:∀x∈cs,x.2.length=1)(hd:(qmg cs).Nodup){L:Nat}(hL:cs.length<=2^L):
 (∀s∈qmg cs,0<(qmg ((qil cs L).take (2*cs.length-2))).count s/\(qmg ((qil cs L).take (2*cs.length-2))).count s<=L)/\
 (∀s,s∉qmg cs->(qmg ((qil cs L).take (2*cs.length-2))).count s=0)/\
 ∀K,L<=K->((qmg cs).map λs=>2^(K-(qmg ((qil cs L).take (2*cs.length-2))).count s)).sum=2^K:=by
 have hS:∀x∈qxd gw cs,x.2.length=1:=λx hx=>h1 x ((qvj _).mem_iff.1 hx)
 have hSl:(qmg (qxd gw cs)).length=cs.length:=by rw[qxeb hS,qpd]
 have hpm:(qmg (qxd gw cs)).Perm (qmg cs):=qnu (qvj cs)
 obtain⟨c,hc,hall,hmem,hcnt,hno,hsum⟩:=takes hn hp h1 hd L (2*cs.length-2) (qyt (by omega) hL)
 have hc:=hall (le_refl _)
 rw[hc,<-hSl,take_length,hSl]at hcnt hno
 generalize (qil cs L).take (2*cs.length-2)=R at*
 refine⟨λs hs=>hcnt s (hpm.mem_iff.2 hs),λs hs=>hno s (λh=>hs (hpm.mem_iff.1 h)),λK hK=>?_⟩
 rw[<-(hpm.map _).sum_nat]
 have e1:∀(l:List Nat),(∀s∈l,(qmg R).count s<=L/\0<(qmg R).count s)->(l.map λs=>2^(L+1)-2^(L+1-(qmg R).count s)).sum+2*(l.map λs=>2^(L-(qmg R).count s)).sum=l.length*2^(L+1):=by
  intro l;induction l with
  |nil=>intro _;simp
  |cons a l ih=>
   intro h;have ha:=h a (by simp);have:=ih (λs hs=>h s (by simp[hs]));simp only[map_cons,sum_cons,length_cons];have h3:2^(L+1-(qmg R).count a)=2*2^(L-(qmg R).count a):=by
    rw[show L+1-(qmg R).count a=(L-(qmg R).count a)+1 by omega,pow_succ,mul_comm]
   have h4:2^(L+1-(qmg R).count a)<=2^(L+1):=Nat.pow_le_pow_right (by omega) (by omega);rw[add_mul,one_mul];omega
 have e2:=e1 _ (λs hs=>⟨(hcnt s hs).2,(hcnt s hs).1⟩)
 rw[hsum,hSl,pow_succ]at e2
 have e3:((qmg (qxd gw cs)).map λs=>2^(L-(qmg R).count s)).sum=2^L:=by
  have:(2*cs.length-2)*2^L+2*2^L=cs.length*(2^L*2):=by
   rw[<-add_mul,show 2*cs.length-2+2=cs.length*2 by omega,mul_assoc,mul_comm 2]
  omega
 have e4:∀(l:List Nat),(∀s∈l,(qmg R).count s<=L)->(l.map λs=>2^(K-(qmg R).count s)).sum=2^(K-L)*(l.map λs=>2^(L-(qmg R).count s)).sum:=by
  intro l;induction l with
  |nil=>intro _;simp
  |cons a l ih=>
   intro h;have ha:=h a (by simp);simp only[map_cons,sum_cons];rw[ih (λs hs=>h s (by simp[hs])),Nat.mul_add,<-Nat.pow_add,show K-L+(L-(qmg R).count a)=K-(qmg R).count a by omega]
 rw[e4 _ (λs hs=>(hcnt s hs).2),e3,<-Nat.pow_add,show K-L+L=K by omega]
end
end
def qzj(xs:List Int):List Pg:=(que xs).map λi=>(xs.getD i 0,[i])
def lenF(xs:List Int)(m:Nat)(i:Nat):Nat:=
 if(que xs).length<2 then(if 0<xs.getD i 0 then 1 else 0)else(qmg ((qil (qzj xs) m).take (2*(que xs).length-2))).count i
def lenP(xs:List Int)(m:Nat):List Int:=qzl xs.length λi=>lenF xs m i
theorem qup(xs:List Int):qmg (qzj xs)=que xs:=by
 unfold qzj;generalize que xs=l;induction l with
 |nil=>rfl
 |cons a l ih=>rw[map_cons,qwk,ih];rfl
theorem qqe(xs:List Int):(qzj xs).length=(que xs).length:=by simp[qzj]
theorem qnj{xs:List Int}{i:Nat}:i∈que xs↔i<xs.length/\0<xs.getD i 0:=by
 unfold que;simp
theorem qjw(xs:List Int):(que xs).Nodup:=List.nodup_range.sublist List.filter_sublist
theorem qtab(xs:List Int):∀x∈qzj xs,x.2.length=1:=by
 intro x hx;obtain⟨i,_,rfl⟩:=mem_map.1 hx;rfl
theorem qsab(xs:List Int):∀x∈qzj xs,0<gw x:=by
 intro x hx;obtain⟨i,h,rfl⟩:=mem_map.1 hx;exact(qnj.1 h).2
theorem qok(xs:List Int)(m:Nat):(lenP xs m).length=xs.length:=qod _ _
theorem qeu{xs:List Int}{m i:Nat}(h:i<xs.length):(lenP xs m).getD i 0=lenF xs m i:=qqg (f:=λi=>(lenF xs m i:Int)) h
theorem qetb{cs:List Pg}{n:Nat}(h:∀x∈cs,∀s∈x.2,s<n):∀i,∀x∈qil cs i,∀s∈x.2,s<n:=by
 have hp:∀l:List Pg,(∀x∈l,∀s∈x.2,s<n)->∀x∈qzm l,∀s∈x.2,s<n:=qpm (λ_ x hx=>by cases hx) (λa _ x hx=>by cases hx) (λa b r ih h x hx=>by
  rw[qzm]at hx;have ha:=h a (by simp);have hb:=h b (by simp);rcases mem_cons.1 hx with rfl|hx
  ·intro s hs;rcases mem_append.1 hs with hs|hs
   ·exact ha s hs
   ·exact hb s hs
  ·exact ih (λy hy=>h y (by simp[hy])) x hx)
 intro i;induction i with
 |zero=>intro x hx;cases hx
 |succ i ih=>
  intro x hx;rcases mem_append.1 ((qvj _).mem_iff.1 hx)with hx|hx
  ·exact h x hx
  ·exact hp _ ih x hx
theorem qcy{xs:List Int}{m:Nat}(h:(que xs).length<=2^m)(hm:1<=m){i:Nat}(hi:i<xs.length):lenF xs m i<=m/\(0<lenF xs m i↔0<xs.getD i 0):=by
 unfold lenF;by_cases hc:(que xs).length<2
 ·rw[if_pos hc];split<;>omega
 ·rw[if_neg hc];obtain⟨h1,h2,_⟩:=full (cs:=qzj xs) (by rw[qqe];omega) (qsab xs) (qtab xs) (by rw[qup];exact qjw xs) (L:=m) (by rw[qqe];exact h);rw[qqe,qup]at h1 h2;by_cases hx:0<xs.getD i 0
  ·have:=h1 i (qnj.2 ⟨hi,hx⟩);omega
  ·have:=h2 i (λh=>hx (qnj.1 h).2);omega
theorem qojb{xs:List Int}{m:Nat}(h:(que xs).length<=2^m)(hc:2<=(que xs).length)(K:Nat)(hK:m<=K):((que xs).map λi=>2^(K-lenF xs m i)).sum=2^K:=by
 obtain⟨_,_,h3⟩:=full (cs:=qzj xs) (by rw[qqe];omega) (qsab xs) (qtab xs) (by rw[qup];exact qjw xs) (L:=m) (by rw[qqe];exact h);rw[qqe,qup]at h3;rw[<-h3 K hK];congr 1;refine map_congr_left λi hi=>?_;unfold lenF;rw[if_neg (by omega)]
theorem qyob(xs:List Int)(p:Nat->Bool)(g:Nat->Nat)(n:Nat):((range n).map λi=>if p i then g i else 0).sum=(((range n).filter p).map g).sum:=by
 generalize range n=l;induction l with
 |nil=>rfl
 |cons a l ih=>
  rw[map_cons,sum_cons,ih,filter_cons];cases p a<;>simp
section
attribute [local irreducible] apK cpK mkK br
section
variable {F0:List Nat}{w0 w:World}{ps rest:List As}{s:Sl}{l:List Int}
def goodX(xs:List Int):Prop:=xs.length<=288/\∀x∈xs,¬badN x
instance (xs:List Int):Decidable (goodX xs):=inferInstanceAs (Decidable (_/\_))
def qvl(xs:List Int)(m:Int):Int:=if ¬goodX xs\/m<1\/15<m then 1 else if 2^m.toNat<(que xs).length then 7 else 0
theorem qds(xs:List Int):(que xs).length<=xs.length:=Nat.le_trans (List.length_filter_le _ _) (by simp)
end
end
end Go.Proofs.YtdccpphmkfaioaaGreat
