/- Own texts as one, only what is reached (shake2.py). -/
import Derived.Test.YtdccpphmkfaioaaGreatPbc
import Derived.ChangeSlices
import Derived.Deep.Slices
import Derived.DeepKeys4
import Derived.Maps.Keyed
import Derived.ProofKit
import Derived.Test.YtdccpphmkfaioaaGreatProg
import Derived.Test.YtdccpphmkfaioaaGreatRows
set_option linter.unusedSectionVars false
set_option linter.unusedVariables false
set_option linter.unusedSimpArgs false
namespace Go.Proofs.YtdccpphmkfaioaaGreat
open Go Go.Proofs
open Int (tdiv tmod toNat_natCast)
open Go.IntKind (i64 u64)
open List (append_nil getD getElem?_map getElem?_replicate getElem?_set length_append length_cons length_drop length_nil length_replicate length_singleton length_take mem_map mem_of_getElem? replicate take_left' take_length take_zero)
open Nat (add_zero le_refl lt_or_ge mul_le_mul mul_one sub_self)
open Option (map_some)
open Go.Proofs.Tryz (prog)
section
attribute [local irreducible] apK cpK mkK
section
variable {F0:List Nat}{w0 w:World}{ps rest:List As}{ls:List Int}
theorem kr_sn{i:Nat}(h:i<ls.length):kr (ls.take (i+1))=kr (ls.take i)+if 0<ls.getD i 0 then 2^(15-(ls.getD i 0).toNat)else 0:=by rw[qpj h,qdy]
theorem qbc.c{s:Sl}{K:Ending->World->Prop}(h:St F0 w0 w ps)[Rdb F0 w0 s ps 1 (ivs .i64 ls)]
 (hk:∀w',St F0 w0 w' ps->K (.returned (.tuple ⟨[.bool (qzn ls).1,.int .i64 (qzn ls).2]⟩)) w'):Calls prog 153 ⟨[.slice s.a s.len s.cap]⟩ w K:=by
 have hl:=(h.rdb s).1
 rw[qk]at hl
 refine qdc (qbc.ok _ _ _ ?_)
 unfold qbc qbc.j1
 unfold qzn at hk
 refine quc (λg=>?_) (λg=>?_)
 ·rw[if_pos (by omega)]at hk
  exact hk w h
 rw[if_neg (by omega)]at hk
 unfold qbc.j2 qbc.j4
 have hkl:=kr_le ls
 refine qug (λ(i:Nat) (r i':Int) w'=>i'=i/\i<=ls.length/\okL (ls.take i)/\r=(kr (ls.take i):Int)/\St F0 w0 w' ps) (λi=>ls.length-i) 0 ⟨rfl,by omega,λx hx=>by simp at hx,by simp[kr],h⟩ ?_
 clear h
 rintro i r i' w I μ ⟨rfl,hi,hok,rfl,h⟩ hin
 unfold qbc.b1
 have hkt:=qtjb ls i
 refine quc (λg2=>?_) (λg2=>?_)
 ·have hil:i<ls.length:=by omega
  have bad:¬(0<=ls.getD i 0/\ls.getD i 0<=15)->K (.returned (.tuple ⟨[.bool false,.int .i64 1]⟩)) w:=λhn=>by
   rw[if_pos (λe=>hn (e _ (qme hil)))]at hk;exact hk w h
  have hks:=kr_sn hil
  have hkt2:=qtjb ls (i+1)
  refine h.lx i rfl hil ?_
  refine quc (λg3=>bad (by omega)) (λg3=>?_)
  refine h.lx i rfl hil ?_
  refine quc (λg4=>bad (by omega)) (λg4=>?_)
  have okn:okL (ls.take (i+1)):=by
   rw[qpj hil];intro x hx;rcases List.mem_append.1 hx with hx|hx
   ·exact hok x hx
   ·rw[List.mem_singleton.1 hx];omega
  refine h.lx i rfl hil ?_
  refine quc (λg5=>?_) (λg5=>?_)
  ·refine h.lx i rfl hil ?_
   rw[if_pos (by omega)]at hks
   obtain⟨m,hm⟩:∃m:Nat,ls.getD i 0=m:=⟨(ls.getD i 0).toNat,by omega⟩
   rw[hm]at hks g4 g5|-
   rw[toNat_natCast]at hks
   refine qm (qd (by omega) (by omega)) ?_
   refine qm (show u64.wrap (15-(m:Int))=((15-m:Nat):Int)by rw[qgh];omega) ?_
   refine⟨by omega,qm (qzdb (c:=1) (by decide) (show 15-m<=15 by omega)) ?_⟩
   rw[Nat.one_mul]
   refine qm (qd (by omega) (by omega)) ?_
   refine qm (qd (by omega) (by omega)) ?_
   exact⟨rfl,hin (i+1) _ _ _ ⟨by omega,by omega,okn,by omega,h⟩ (by omega)⟩
  ·rw[if_neg (by omega)]at hks
   refine qm (qd (by omega) (by omega)) ?_
   exact⟨rfl,hin (i+1) _ _ _ ⟨by omega,by omega,okn,by omega,h⟩ (by omega)⟩
 ·have:i=ls.length:=by omega
  subst this
  rw[take_length]at hok
  rw[take_length]
  rw[if_neg (λe=>e hok)]at hk
  unfold qbc.j3
  refine quc (λg4=>?_) (λg4=>?_)
  ·rw[if_pos (by omega)]at hk
   exact hk w h
  ·rw[if_neg (by omega)]at hk
   have e:((kr ls:Int)==32768)=decide (kr ls=32768):=by
    apply Bool.eq_iff_iff.2;rw[beq_iff_eq,decide_eq_true_eq];omega
   rw[e]
   exact hk w h
def ocL(l:List Int)(n i:Nat):List Int:=qzl l.length λj=>if 0<l.getD j 0/\(l.getD j 0<n\/(l.getD j 0=n/\j<i))then(qpg l j:Int)else 0
theorem qv.c{s:Sl}{K:Ending->World->Prop}(h:St F0 w0 w ps)[Rdb F0 w0 s ps 1 (ivs .i64 ls)]
 (hk:∀s' w',(qzn ls).2=0->St F0 w0 w' (qcc 1 s' (ivs .i64 (qwl ls))::ps)->K (.returned (.tuple ⟨[.slice s'.a s'.len s'.cap,.int .i64 0]⟩)) w')
 (hk2:∀w',(qzn ls).2≠0->St F0 w0 w' ps->K (.returned (.tuple ⟨[.slice none 0 0,.int .i64 (qzn ls).2]⟩)) w'):Calls prog 154 ⟨[.slice s.a s.len s.cap]⟩ w K:=by
 have hl:=(h.rdb s).1
 rw[qk]at hl
 refine qdc (qv.ok _ _ _ ?_)
 unfold qv qv.j1
 refine qbc.c h λw h=>⟨_,_,rfl,?_⟩
 refine qye (λg=>?_) (λg=>?_)
 ·exact hk2 w (by simpa using g) h
 have g:(qzn ls).2=0:=by simpa using g
 obtain⟨hok,hkr,hlen,_⟩:=qku g
 unfold qv.j2
 refine h.makeI (n:=ls.length) (by omega) (by omega) (by omega) λo w ho1 ho2 h=>?_
 unfold qv.j3 qv.j5
 have oc0:replicate ls.length 0=ocL ls 1 0:=by
  rw[qjm];exact qvd λi hi=>by rw[if_neg (by omega)]
 rw[oc0]at h
 refine qug (λ(n:Nat) (c n':Int) w'=>n'=n/\1<=n/\n<=16/\c=(hf ls n:Int)/\St F0 w0 w' (qcc 1 o (ivs .i64 (ocL ls n 0))::ps)) (λn=>16-n) 1 ⟨rfl,by omega,by omega,rfl,h⟩ ?_
 clear h
 rintro n c n' w I μ ⟨rfl,hn1,hn,rfl,h⟩ hin
 unfold qv.b1
 refine quc (λg3=>?_) (λg3=>?_)
 ·have hb:=qml ls hok hkr (n:=n) (by omega)
  unfold qv.j6 qv.j9
  refine qug (λ(i:Nat) (c i':Int) w'=>i'=i/\i<=ls.length/\c=((hf ls n+hc (ls.take i) n:Nat):Int)/\St F0 w0 w' (qcc 1 o (ivs .i64 (ocL ls n i))::ps)) (λi=>ls.length-i) 0 ⟨rfl,by omega,by rw[take_zero];simp[hc],h⟩ ?_
  clear h
  rintro i c i' w I2 μ2 ⟨rfl,hi,rfl,h⟩ hin2
  unfold qv.b2
  refine quc (λg4=>?_) (λg4=>?_)
  ·have hil:i<ls.length:=by omega
   have hcs:hc (ls.take (i+1)) n=hc (ls.take i) n+if 0<n/\ls.getD i 0=n then 1 else 0:=by rw[qpj hil,qwo]
   have hcl:=qoob (ls.take i) n
   rw[length_take]at hcl
   refine h.lx (s:=s) i rfl hil ?_
   refine qye (λg5=>?_) (λg5=>?_)
   ·have g5:ls.getD i 0=n:=by simpa using g5
    rw[if_pos ⟨by omega,g5⟩]at hcs
    have hce:=qjy g5 (by omega)
    refine h.sx (s:=o) i rfl (by unfold ocL;rw[qod];exact hil) λw h=>?_
    refine qm (qd (by omega) (by omega)) ?_
    refine qm (qd (by omega) (by omega)) ?_
    have e:(ocL ls n i).set i ((hf ls n+hc (ls.take i) n:Nat):Int)=ocL ls n (i+1):=by
     unfold ocL;rw[qhl];refine qvd λj hj=>?_;by_cases h1:j=i
     ·rw[if_pos h1,h1,if_pos ⟨by omega,Or.inr ⟨g5,by omega⟩⟩,hce]
     ·rw[if_neg h1];by_cases h2:0<ls.getD j 0/\(ls.getD j 0<n\/(ls.getD j 0=n/\j<i))
      ·rw[if_pos h2,if_pos (by omega)]
      ·rw[if_neg h2,if_neg (by omega)]
    rw[e]at h
    exact⟨⟨rfl,rfl,rfl⟩,hin2 (i+1) _ _ _ ⟨by omega,by omega,by omega,h⟩ (by omega)⟩
   ·have g5:¬ls.getD i 0=n:=by simpa using g5
    rw[if_neg (λe=>g5 e.2)]at hcs
    refine qm (qd (by omega) (by omega)) ?_
    have e:ocL ls n i=ocL ls n (i+1):=by
     refine qvd λj hj=>?_;by_cases h1:j=i
     ·rw[h1];by_cases h2:0<ls.getD i 0/\ls.getD i 0<n
      ·rw[if_pos ⟨h2.1,Or.inl h2.2⟩,if_pos ⟨h2.1,Or.inl h2.2⟩]
      ·rw[if_neg (by omega),if_neg (by omega)]
     ·by_cases h2:0<ls.getD j 0/\(ls.getD j 0<n\/(ls.getD j 0=n/\j<i))
      ·rw[if_pos h2,if_pos (by omega)]
      ·rw[if_neg h2,if_neg (by omega)]
    rw[e]at h
    exact⟨⟨rfl,rfl,rfl⟩,hin2 (i+1) _ _ _ ⟨by omega,by omega,by omega,h⟩ (by omega)⟩
  ·have:i=ls.length:=by omega
   subst this
   rw[take_length]
   unfold qv.j8
   refine⟨by decide,qm (shl1 (by omega)) ?_⟩
   unfold qv.j7
   refine qm (qd (by omega) (by omega)) ?_
   have e:ocL ls n ls.length=ocL ls (n+1) 0:=by
    refine qvd λj hj=>?_;by_cases h2:0<ls.getD j 0/\(ls.getD j 0<n\/(ls.getD j 0=n/\j<ls.length))
    ·rw[if_pos h2,if_pos (by omega)]
    ·rw[if_neg h2,if_neg (by omega)]
   rw[e]at h
   have e2:hf ls (n+1)=2*(hf ls n+hc ls n):=rfl
   exact⟨⟨rfl,rfl⟩,hin (n+1) _ _ _ ⟨by omega,by omega,by omega,by omega,h⟩ (by omega)⟩
 ·have:n=16:=by omega
  subst this
  have e:ocL ls 16 0=qwl ls:=by
   show qzl _ _=qzl _ λi=>(qpg ls i:Int);refine qvd λj hj=>?_;have hx:=hok _ (qme hj);by_cases h2:0<ls.getD j 0
   ·rw[if_pos ⟨h2,Or.inl (by omega)⟩]
   ·rw[if_neg (by omega),qreb (by omega)];rfl
  rw[e]at h
  unfold qv.j4
  exact hk o w g h
def hrA(cb:Nat)(ls:List Int):As:=exA λs:Sl×Sl=>ifA (okL ls/\kr ls<=32768/\ls.length<=288)<|andA (qqb cb [.slice s.1.a s.1.len s.1.cap,.slice s.2.a s.2.len s.2.cap])<|andA (qcc 1 s.1 (ivs .i64 ls)) (qcc 1 s.2 (ivs .i64 (qwl ls)))
theorem qyjb(cb:Nat)(h:St F0 w0 w ps)[PkF hrA cb ps ls rest]:okL ls/\kr ls<=32768/\ls.length<=288/\∃s1 s2:Sl,Blk w cb [.slice s1.a s1.len s1.cap,.slice s2.a s2.len s2.cap]/\Rd w 1 s1 (ivs .i64 ls)/\Rd w 1 s2 (ivs .i64 (qwl ls)):=by
 obtain⟨s,h⟩:=(h.toF hrA cb).exE;obtain⟨⟨h1,h2,h3⟩,h⟩:=h.ifE;have h:=h.split;have g:=h.drop.split;exact⟨h1,h2,h3,s.1,s.2,h.blk,g.ord,g.drop.ord⟩
theorem hrA_i{cb:Nat}{s1 s2:Sl}(h1:okL ls)(h2:kr ls<=32768)(h3:ls.length<=288)(h:St F0 w0 w (qqb cb [.slice s1.a s1.len s1.cap,.slice s2.a s2.len s2.cap]::qcc 1 s1 (ivs .i64 ls)::qcc 1 s2 (ivs .i64 (qwl ls))::rest)):St F0 w0 w (hrA cb ls::rest):=by
 have h:=(h.tail λ_ _ _ h=>h.join).join;exact(h.ifI (c:=okL ls/\kr ls<=32768/\ls.length<=288) ⟨h1,h2,h3⟩).exI (p:=λs:Sl×Sl=>ifA (okL ls/\kr ls<=32768/\ls.length<=288)<|andA (qqb cb [.slice s.1.a s.1.len s.1.cap,.slice s.2.a s.2.len s.2.cap])<|andA (qcc 1 s.1 (ivs .i64 ls)) (qcc 1 s.2 (ivs .i64 (qwl ls)))) (s1,s2)
theorem qtv{i:Nat}(h:i<ls.length):((ls.take (i+1)).filter (0<·)).sum=((ls.take i).filter (0<·)).sum+if 0<ls.getD i 0 then ls.getD i 0 else 0:=by
 rw[qpj h,List.filter_append,List.sum_append];by_cases h0:0<ls.getD i 0
 ·rw[if_pos h0];have:[ls.getD i 0].filter (0<·)=[ls.getD i 0]:=List.filter_eq_self.2 λa ha=>by rw[List.mem_singleton.1 ha];simpa using h0
  rw[this];simp
 ·rw[if_neg h0];have:[ls.getD i 0].filter (0<·)=[]:=List.filter_eq_nil_iff.2 λa ha=>by rw[List.mem_singleton.1 ha];simpa using h0
  rw[this];simp
theorem qmb.c{s:Sl}{half:Bool}{K:Ending->World->Prop}(h:St F0 w0 w ps)[Rdb F0 w0 s ps 1 (ivs .i64 ls)]
 (hk:∀cb w',qqk ls half=0->St F0 w0 w' (hrA cb ls::ps)->K (.returned (.tuple ⟨[.pointer (some ⟨cb,0,none⟩),.int .i64 0]⟩)) w')
 (hk2:∀w',qqk ls half≠0->St F0 w0 w' ps->K (.returned (.tuple ⟨[.pointer none,.int .i64 (qqk ls half)]⟩)) w'):Calls prog 138 ⟨[.slice s.a s.len s.cap,.bool half]⟩ w K:=by
 have hl:=(h.rdb s).1
 rw[qk]at hl
 refine qdc (qmb.ok _ _ _ _ ?_)
 unfold qmb qmb.j1
 refine qbc.c h λw h=>⟨_,_,rfl,?_⟩
 refine qye (λg=>?_) (λg=>?_)
 ·have g:(qzn ls).2≠0:=by simpa using g
  have e:qqk ls half=(qzn ls).2:=by unfold qqk;rw[if_pos g]
  rw[e]at hk2
  exact hk2 w g h
 have g:(qzn ls).2=0:=by simpa using g
 obtain⟨hok,hkr,hlen,hfull⟩:=qku g
 have hnw:qqk ls half=if(qzn ls).1=false/\(half&&hhalf ls)=false then 2 else 0:=by unfold qqk;rw[if_neg (by rw[g];decide)]
 have fin:∀{w},St F0 w0 w ps->qqk ls half=0->qmb.j3 s (λv w'=>K (.returned v) w') w:=by
  intro w h hn0;unfold qmb.j3;refine qv.c h (λs2 w _ h=>⟨s2,_,rfl,?_⟩) (λw hne _=>absurd g hne);refine h.clone (k:= .i64) (s2:=s) (by omega) λs1 w h=>?_;refine h.new λnb w h=>?_;exact hk nb w hn0 (hrA_i (s1:=s1) (s2:=s2) hok hkr hlen h)
 unfold qmb.j2 qmb.j4
 refine qye (λg5=>?_) (λg5=>?_)
 ·have g5:(qzn ls).1=false:=by simpa using g5
  unfold qmb.j5 qmb.j7
  have hsl:∀i,i<=ls.length->0<=((ls.take i).filter (0<·)).sum/\((ls.take i).filter (0<·)).sum<=15*i:=by
   intro i;induction i with
   |zero=>intro _;simp
   |succ i ih=>
    intro hi;have h1:=ih (by omega);have h2:=hok _ (qme (show i<ls.length by omega));rw[qtv (by omega)];split<;>omega
  refine qug (λ(i:Nat) (c i':Int) w'=>i'=i/\i<=ls.length/\c=((ls.take i).filter (0<·)).sum/\St F0 w0 w' ps) (λi=>ls.length-i) 0 ⟨rfl,by omega,rfl,h⟩ ?_
  clear h
  rintro i c i' w I μ ⟨rfl,hi,rfl,h⟩ hin
  have hs1:=hsl i hi
  unfold qmb.b1
  refine quc (λg4=>?_) (λg4=>?_)
  ·have hil:i<ls.length:=by omega
   have h2:=hok _ (qme hil)
   have hsn:=qtv hil
   refine h.lx i rfl hil ?_
   refine quc (λg6=>?_) (λg6=>?_)
   ·rw[if_pos (by omega)]at hsn
    refine h.lx i rfl hil ?_
    refine qm (qd (by omega) (by omega)) ?_
    refine qm (qd (by omega) (by omega)) ?_
    exact⟨⟨rfl,rfl⟩,hin (i+1) _ _ _ ⟨by omega,by omega,hsn.symm,h⟩ (by omega)⟩
   ·rw[if_neg (by omega),Int.add_zero]at hsn
    refine qm (qd (by omega) (by omega)) ?_
    exact⟨⟨rfl,rfl⟩,hin (i+1) _ _ _ ⟨by omega,by omega,hsn.symm,h⟩ (by omega)⟩
  ·have:i=ls.length:=by omega
   subst this
   rw[take_length]
   have hh:=qat hok
   unfold qmb.j6
   refine qye (λg6=>?_) (λg6=>?_)
   ·have g6:half=false:=by simpa using g6
    rw[if_pos ⟨g5,by rw[g6];rfl⟩]at hnw
    rw[hnw]at hk2
    exact hk2 w (by decide) h
   ·have g6:half=true:=by simpa using g6
    refine quc (λg7=>?_) (λg7=>?_)
    ·rw[decide_eq_false (by omega)]at hh
     rw[if_pos ⟨g5,by rw[hh];simp⟩]at hnw
     rw[hnw]at hk2
     exact hk2 w (by decide) h
    ·rw[decide_eq_true (by omega)]at hh
     rw[if_neg (λe=>by rw[hh,g6]at e;exact absurd e.2 (by decide))]at hnw
     exact fin h hnw
 ·have g5:(qzn ls).1=true:=by simpa using g5
  exact fin h (by rw[hnw,if_neg (λe=>by rw[g5]at e;exact absurd e.1 (by decide))])
def bitR(rb:Nat)(x:Sl×Nat):As:=rfA rb x.1 x.2
theorem qcb.one{rb V N p:Nat}{s:Sl}{K:Ending->World->Prop}(h:St F0 w0 w (bitR rb (s,p)::ps))[Rdb F0 w0 s ps 1 (u8s (byt V N))](hN:N<=137438953472)(hp:p<=8*N)
 (hk:p<8*N->∀w',St F0 w0 w' (bitR rb (s,p+1)::ps)->K (.returned (.tuple ⟨[.int .i64 ((bt V p).toNat:Nat),.bool true]⟩)) w')
 (hk':¬p<8*N->∀w',St F0 w0 w' (bitR rb (s,p)::ps)->K (.returned (.tuple ⟨[.int .i64 0,.bool false]⟩)) w'):
 Calls prog 135 ⟨[.pointer (some ⟨rb,0,none⟩),.int .i64 1]⟩ w K:=by
 refine qcb.c (V:=V) (N:=N) (at':=p) (s:=s) h (λw h=>h.rdb s) hN hp (λg w h=>?_) (λg w h=>?_)
 ·have g:p<8*N:=by simp[getOk]at g;omega
  have e:=qgt V p
  have e2:((V/2^p%2^(1:Int).toNat:Nat):Int)=(((bt V p).toNat:Nat):Int):=by
   rw[e,show(1:Int).toNat=1 by decide,Nat.pow_one];simp
  rw[e2]
  exact hk g w h
 ·have g:¬p<8*N:=by simp[getOk]at g;omega
  exact hk' g w h
theorem qj.c{cb rb V N p:Nat}{s:Sl}{K:Ending->World->Prop}(h:St F0 w0 w (bitR rb (s,p)::ps))[PkF hrA cb ps ls rest][Rdb F0 w0 s ps 1 (u8s (byt V N))](hN:N<=137438953472)(hp:p<=8*N)
 (hk:∀w',(hnext ls (ql V (8*N)) p).2.2<=8*N->St F0 w0 w' (bitR rb (s,(hnext ls (ql V (8*N)) p).2.2)::ps)->K (.returned (.tuple ⟨[.int .i64 (hnext ls (ql V (8*N)) p).1,.int .i64 (hnext ls (ql V (8*N)) p).2.1]⟩)) w'):
 Calls prog 155 ⟨[.pointer (some ⟨cb,0,none⟩),.pointer (some ⟨rb,0,none⟩)]⟩ w K:=by
 refine qdc (qj.ok _ _ _ _ ?_)
 unfold qj qj.j1 qj.j3
 obtain⟨hok,hkr,hlen,_⟩:=qyjb cb h
 have hlg:=qqeb ls 15 (by decide)
 refine qug (λ(a:Nat×Nat×Nat) (t6 t7:Int) w'=>t6=a.2.1/\t7=a.1/\1<=a.1/\a.1<=qcj ls 15/\hf ls (a.1-1)+hc ls (a.1-1)<=a.2.1/\a.2.1<2^(a.1-1)/\a.2.2<=8*N/\
  hdec ls (ql V (8*N)) (qcj ls 15+1-a.1) a.1 a.2.1 a.2.2=hnext ls (ql V (8*N)) p/\St F0 w0 w' (bitR rb (s,a.2.2)::ps)) (λa=>17-a.1) (1,0,p) ⟨rfl,rfl,by simp,by simp only;omega,by simp[hf,hc],by simp,hp,by simp[hnext],h⟩ ?_
 clear h
 rintro⟨n,v,q⟩ t6 t7 wO I μ ⟨rfl,rfl,hn1,hn,hge,hv,hq,hd,h⟩ hin
 simp only at hn1 hn hge hv hq hd h hin|-
 obtain⟨m,rfl⟩:∃m,n=m+1:=⟨n-1,by omega⟩
 rw[Nat.add_sub_cancel]at hge hv
 unfold qj.b1
 refine quc (λg=>?_) (λg=>by omega)
 have hm15:m+1<=15:=by omega
 have hv2:v<32768:=Nat.lt_of_lt_of_le hv (Nat.le_trans (Nat.pow_le_pow_right (by decide) (show m<=15 by omega)) (by decide))
 obtain⟨f,hf1⟩:∃f,qcj ls 15+1-(m+1)=f+1:=⟨qcj ls 15-(m+1),by omega⟩
 rw[hf1,hdec,qlw]at hd
 unfold qj.j4
 refine qcb.one (s:=s) h hN hq (λgk w h=>⟨_,_,rfl,?_⟩) (λgk w h=>⟨_,_,rfl,?_⟩)
 ·rw[if_pos gk]at hd
  simp only at hd
  refine qcq ?_
  unfold qj.j6
  refine⟨by decide,qm (shl1 (by omega)) ?_⟩
  refine qm (or1 _ (by omega)) ?_
  have hb1:=qml ls hok hkr (n:=m) (by omega)
  have hb2:=qml ls hok hkr (n:=m+1) hm15
  have hx:(bt V q).toNat<2:=by cases bt V q<;>decide
  generalize (bt V q).toNat=x at hd hx|-
  have hfe:hf ls (m+1)=2*(hf ls m+hc ls m):=rfl
  unfold qj.j7 qj.j9
  refine qug (λ(i:Nat) (t10:Bool) (i':Int) w'=>i'=i/\i<=ls.length/\(∀j,j<i->¬(ls.getD j 0=((m+1:Nat):Int)/\qpg ls j=2*v+x))/\(t10=true↔∃j,j<i/\((m+1:Nat):Int)<ls.getD j 0)/\St F0 w0 w' (bitR rb (s,q+1)::ps)) (λi=>ls.length-i) 0
   ⟨rfl,by omega,λj hj=>by omega,⟨λe=>by(cases e),λ⟨j,hj,_⟩=>absurd hj (Nat.not_lt_zero _)⟩,h⟩ ?_
  clear h
  rintro i t10 i' w I2 μ2 ⟨rfl,hi,hno,hsome,h⟩ hin2
  unfold qj.b2
  obtain⟨_,_,_,s1,s2,hb,r1,r2⟩:=qyjb cb h
  have l1:=r1.1
  rw[qk]at l1
  refine qkd (hb.ldL (o:=0) (n:=s1) rfl ?_)
  refine quc (λg2=>?_) (λg2=>?_)
  ·have hil:i<ls.length:=by omega
   have step:¬(ls.getD i 0=((m+1:Nat):Int)/\qpg ls i=2*v+x)->qj.j12 (some ⟨cb,0,none⟩) (some ⟨rb,0,none⟩) ((2*v+x:Nat):Int) ((m+1:Nat):Int) t10 (i:Int) (λv w'=>K (.returned v) w')
    (λd_0' i_1' t6' t7' w'=>(d_0'=some ⟨cb,0,none⟩/\i_1'=some ⟨rb,0,none⟩)/\I t6' t7' w'/\μ t6' t7' w'<μ (v:Int) ((m+1:Nat):Int) wO)
    (λd_0' i_1' t6' t7' t10' t11' w'=>(d_0'=some ⟨cb,0,none⟩/\i_1'=some ⟨rb,0,none⟩/\t6'=((2*v+x:Nat):Int)/\t7'=((m+1:Nat):Int))/\I2 t10' t11' w'/\μ2 t10' t11' w'<μ2 t10 (i:Int) w) w:=by
    intro hn3
    have hno2:∀j,j<i+1->¬(ls.getD j 0=((m+1:Nat):Int)/\qpg ls j=2*v+x):=λj hj=>by
     by_cases e:j=i
     ·rw[e];exact hn3
     ·exact hno j (by omega)
    unfold qj.j12
    refine qye (λg5=>?_) (λg5=>?_)
    ·unfold qj.j11
     refine qm (qd (by omega) (by omega)) ?_
     obtain⟨j,hj1,hj2⟩:=hsome.1 g5
     exact⟨⟨rfl,rfl,rfl,rfl⟩,hin2 (i+1) _ _ _ ⟨by omega,by omega,hno2,⟨λ_=>⟨j,by omega,hj2⟩,λ_=>rfl⟩,h⟩ (by omega)⟩
    ·refine qkd (hb.ldL (o:=0) (n:=s1) rfl ?_)
     refine r1.at i rfl hil ?_
     unfold qj.j11
     refine qm (qd (by omega) (by omega)) ?_
     refine⟨⟨rfl,rfl,rfl,rfl⟩,hin2 (i+1) _ _ _ ⟨by omega,by omega,hno2,⟨λe=>⟨i,by omega,by simpa using e⟩,λ⟨j,hj1,hj2⟩=>?_⟩,h⟩ (by omega)⟩
     by_cases e:j=i
     ·subst e;simpa using hj2
     ·have:=hsome.2 ⟨j,by omega,hj2⟩
      rw[this]at g5;cases g5
   unfold qj.j10
   refine qkd (hb.ldL (o:=0) (n:=s1) rfl ?_)
   refine r1.at i rfl hil ?_
   refine qye (λg3=>?_) (λg3=>?_)
   ·have g3:ls.getD i 0=((m+1:Nat):Int):=by simpa using g3
    refine qkd (hb.ldL (o:=1) (n:=s2) rfl ?_)
    refine r2.at i rfl (by rw[qdr];exact hil) ?_
    rw[qju _ hil]
    refine qye (λg4=>?_) (λg4=>?_)
    ·have g4:qpg ls i=2*v+x:=by have:(qpg ls i:Int)=((2*v+x:Nat):Int):=by simpa using g4
                                omega
     obtain⟨e1,e2⟩:=qiy hil g3 (by omega)
     rw[if_pos (by omega)]at hd
     have e3:2*v+x-hf ls (m+1)=(ls.take i).count ((m+1:Nat):Int):=by
      have:=qjy g3 (by omega);unfold hc at this
      rw[if_neg (by omega)]at this
      omega
     have e4:=qncb ls hil (m+1) g3
     rw[e3,List.getD_eq_getElem?_getD,e4]at hd
     rw[<-hd]at hk
     exact hk w (by simp only;omega) h
    ·exact step (λe=>by rw[e.2]at g4;simp at g4)
   ·exact step (λe=>by rw[e.1]at g3;simp at g3)
  ·have:i=ls.length:=by omega
   subst this
   clear hin2
   have hno3:¬2*v+x<hf ls (m+1)+hc ls (m+1):=by
    intro hlt;have hcn:hc ls (m+1)=ls.count ((m+1:Nat):Int):=by unfold hc;rw[if_neg (by omega)]
    have hpl:=qog ls (m+1);have hkk:2*v+x-hf ls (m+1)<(qgn ls (m+1)).length:=by omega
    have hg:=List.getElem?_eq_getElem hkk;obtain⟨p1,p2,_⟩:=qzs ls (m+1) hg;have p3:=qzjb (l:=ls) (by omega) hg;exact hno _ p1 ⟨p2,by omega⟩
   rw[if_neg hno3]at hd
   have hls:(∃y∈ls,((m+1:Nat):Int)<y)↔m+1<qcj ls 15:=qogb hok (by omega)
   have hmem:(∃j,j<ls.length/\((m+1:Nat):Int)<ls.getD j 0)↔∃y∈ls,((m+1:Nat):Int)<y:=by
    constructor
    ·rintro⟨j,h1,h2⟩;exact⟨_,qme h1,h2⟩
    ·rintro⟨y,h1,h2⟩;obtain⟨j,hj⟩:=List.getElem?_of_mem h1;have hj2:=(List.getElem?_eq_some_iff.1 hj).1;refine⟨j,hj2,?_⟩;rw[List.getD_eq_getElem?_getD,hj];exact h2
   unfold qj.j8
   refine qye (λg5=>?_) (λg5=>?_)
   ·have g5:t10=false:=by simpa using g5
    have:¬m+1<qcj ls 15:=λe=>by
     have:=hsome.2 (hmem.2 (hls.2 e));rw[this]at g5;cases g5
    have hf0:f=0:=by clear hls hmem hsome;omega
    rw[hf0,hdec]at hd
    rw[<-hd]at hk
    exact hk w (by simp only;omega) h
   ·have g5:t10=true:=by simpa using g5
    have hlt:=hls.1 (hmem.1 (hsome.1 g5))
    clear hls hmem hsome
    unfold qj.j5
    refine qm (qd (by omega) (by omega)) ?_
    refine⟨⟨rfl,rfl⟩,hin (m+1+1,2*v+x,q+1) _ _ _ ⟨rfl,by simp,by simp,by simp only;omega,?_,?_,by simp only;omega,?_,h⟩ (by simp only;omega)⟩
    ·simp only[Nat.add_sub_cancel];omega
    ·simp only[Nat.add_sub_cancel]
     rw[Nat.pow_succ];omega
    ·simp only
     rw[show qcj ls 15+1-(m+1+1)=f by omega]
     exact hd
 ·rw[if_neg gk]at hd
  simp only at hd
  refine qgp ?_
  rw[<-hd]at hk
  exact hk w hq h
end
end
section
open Go Go.Proofs Go.ChangeShapes Go.WideShapes Go.Deep
def tri(k0 k1 k2:IntKind)(xs:List (Int×Int×Int)):List Value:=xs.flatMap λa=>[.int k0 a.1,.int k1 a.2.1,.int k2 a.2.2]
theorem qtj(k0 k1 k2:IntKind)(xs:List (Int×Int×Int)):(tri k0 k1 k2 xs).length=xs.length*3:=by
 induction xs with
 |nil=>rfl
 |cons a xs ih=>
  have e:tri k0 k1 k2 (a::xs)=[.int k0 a.1,.int k1 a.2.1,.int k2 a.2.2]++tri k0 k1 k2 xs:=by simp[tri]
  rw[e,length_append,ih,length_cons];simp;omega
theorem qlrb(k0 k1 k2:IntKind)(xs:List (Int×Int×Int)):∀(i:Nat) (h:i<xs.length),(tri k0 k1 k2 xs)[i*3]?=some (.int k0 xs[i].1)/\(tri k0 k1 k2 xs)[i*3+1]?=some (.int k1 xs[i].2.1)/\(tri k0 k1 k2 xs)[i*3+2]?=some (.int k2 xs[i].2.2):=by
 induction xs with
 |nil=>intro i h;simp at h
 |cons a xs ih=>
  intro i h;have e:tri k0 k1 k2 (a::xs)= .int k0 a.1:: .int k1 a.2.1:: .int k2 a.2.2::tri k0 k1 k2 xs:=by simp[tri]
  rw[e];cases i with
  |zero=>simp
  |succ i=>
   have:=ih i (by simpa using h);rw[show(i+1)*3=i*3+1+1+1 by omega];simpa using this
section
variable {H:Type}{enc:TypeId×Value->H}{P:Program}{w:World}{base:Nat}{spare:Nat->Bool}{held:Bool}
def sls(L:List (Sl×List Int)):List Value:=L.map λx=> .slice x.1.a x.1.len x.1.cap
end
end
section
set_option maxRecDepth 100000
def qy.j3(lit_0 dist_1:Sl)(Q:VWP)(w:World):Prop:=qak 21 [sV lit_0] w λr3 w2=>qak 21 [sV dist_1] w2 λr6 w5=>Q (.tuple ⟨[sV r3,sV r6]⟩) w5
def qy.b1(lit_0 dist_1:Sl)(t26:Int)(Q:VWP)(nx1:Sl->Sl->Int->WP)(w:World):Prop:=br (decide (t26<32)) (nw w ⟨[.int .i64 5]⟩ 3 λa7 w8=>rdO w8 (some a7) (1*1) λc9=>apK prog 3 w8 dist_1.a dist_1.len dist_1.cap 1 c9 λs10 w11=>lt (i64.wrap (t26+1)) λx12=>nx1 lit_0 s10 x12 w11) (qy.j3 lit_0 dist_1 Q w)
def qy.l1(lit_0 dist_1:Sl)(t26:Int)(Q:VWP)(w:World):Prop:=∃(I:Sl->Int->WP) (μ:Sl->Int->World->Nat),I dist_1 t26 w/\∀dist_1:Sl,∀t26:Int,∀w:World,I dist_1 t26 w->qy.b1 lit_0 dist_1 t26 Q (λlit_0' dist_1' t26' w'=>(lit_0'=lit_0)/\I dist_1' t26' w'/\μ dist_1' t26' w'<μ dist_1 t26 w) w
def qy.j4(lit_0 dist_1:Sl)(t26:Int)(Q:VWP)(w:World):Prop:=qy.l1 lit_0 dist_1 t26 Q w
def qy.j2(lit_0 dist_1:Sl)(Q:VWP)(w:World):Prop:=qy.j4 lit_0 dist_1 0 Q w
def qy.j7(lit_0 dist_1:Sl)(t4:Int)(Q:VWP)(nx2:Sl->Sl->Int->WP)(w:World):Prop:=lt (i64.wrap (t4+1)) λx13=>nx2 dist_1 lit_0 x13 w
def qy.j9(lit_0 dist_1:Sl)(n_3:Int)(t4:Int)(Q:VWP)(nx2:Sl->Sl->Int->WP)(w:World):Prop:=nw w ⟨[.int .i64 n_3]⟩ 3 λa14 w15=>rdO w15 (some a14) (1*1) λc16=>apK prog 3 w15 lit_0.a lit_0.len lit_0.cap 1 c16 λs17 w18=>qy.j7 s17 dist_1 t4 Q nx2 w18
def qy.j10(lit_0 dist_1:Sl)(i_2:Int)(n_3 t4:Int)(t7:Bool)(Q:VWP)(nx2:Sl->Sl->Int->WP)(w:World):Prop:=br t7 (qy.j9 lit_0 dist_1 9 t4 Q nx2 w) (br (decide (i_2>=256)) (br (decide (i_2<280)) (qy.j9 lit_0 dist_1 7 t4 Q nx2 w) (qy.j9 lit_0 dist_1 n_3 t4 Q nx2 w)) (qy.j9 lit_0 dist_1 n_3 t4 Q nx2 w))
def qy.j8(lit_0 dist_1:Sl)(i_2:Int)(n_3 t4:Int)(Q:VWP)(nx2:Sl->Sl->Int->WP)(w:World):Prop:=br (decide (i_2>=144)) (qy.j10 lit_0 dist_1 i_2 n_3 t4 (decide (i_2<256)) Q nx2 w) (qy.j10 lit_0 dist_1 i_2 n_3 t4 false Q nx2 w)
def qy.j6(lit_0 dist_1:Sl)(t4:Int)(Q:VWP)(nx2:Sl->Sl->Int->WP)(w:World):Prop:=qy.j8 lit_0 dist_1 t4 8 t4 Q nx2 w
def qy.b2(dist_1 lit_0:Sl)(t4:Int)(Q:VWP)(nx2:Sl->Sl->Int->WP)(w:World):Prop:=br (decide (t4<288)) (qy.j6 lit_0 dist_1 t4 Q nx2 w) (qy.j2 lit_0 dist_1 Q w)
def qy.l2(dist_1 lit_0:Sl)(t4:Int)(Q:VWP)(w:World):Prop:=∃(I:Sl->Int->WP) (μ:Sl->Int->World->Nat),I lit_0 t4 w/\∀lit_0:Sl,∀t4:Int,∀w:World,I lit_0 t4 w->qy.b2 dist_1 lit_0 t4 Q (λdist_1' lit_0' t4' w'=>(dist_1'=dist_1)/\I lit_0' t4' w'/\μ lit_0' t4' w'<μ lit_0 t4 w) w
def qy.j5(lit_0 dist_1:Sl)(t4:Int)(Q:VWP)(w:World):Prop:=qy.l2 dist_1 lit_0 t4 Q w
def qy.j1(lit_0 dist_1:Sl)(Q:VWP)(w:World):Prop:=qy.j5 lit_0 dist_1 0 Q w
def qy(Q:VWP)(w:World):Prop:=qy.j1 ⟨none,0,0⟩ ⟨none,0,0⟩ Q w
theorem qy.ok(Q:VWP)(w:World)(h:qy Q w):Calls prog 99 ⟨[]⟩ w (Ret Q):=
 qhc [.tmp 0,.tmp 1] qde Tryz.func99 rfl rfl rfl rfl (.sq [sL 0,sL 1] (λa b w=>qy.j1 a b Q w) .lf (.sq [sL 0,sL 1] (λa b w=>qy.j2 a b Q w) (.sq [sL 0,sL 1,sI 4] (λa b c w=>qy.j5 a b c Q w) .lf (.bk (.lo [sL 1] [sL 0,sI 4] (λa b c w=>qy.l2 a b c Q w) (λnx2 a b c w=>qy.b2 a b c Q nx2 w) λnx2=>(.pr 1 [sL 0,sL 1,sI 4] (λa b c w=>qy.j6 a b c Q nx2 w) (.sq [sL 0,sL 1,sI 4] (λa b c w=>qy.j7 a b c Q nx2 w) (.bk (.pr 1 [sL 0,sL 1,sI 2,sI 3,sI 4] (λa b c d e w=>qy.j8 a b c d e Q nx2 w) (.sq [sL 0,sL 1,sI 3,sI 4] (λa b c d w=>qy.j9 a b c d Q nx2 w) (.bk (.sq [sL 0,sL 1,sI 2,sI 3,sI 4,sB 7] (λa b c d e f w=>qy.j10 a b c d e f Q nx2 w) .lf .lf)) .lf))) .lf))))) (.sq [sL 0,sL 1] (λa b w=>qy.j3 a b Q w) (.sq [sL 0,sL 1,sI 26] (λa b c w=>qy.j4 a b c Q w) .lf (.bk (.lo [sL 0] [sL 1,sI 26] (λa b c w=>qy.l1 a b c Q w) (λnx1 a b c w=>qy.b1 a b c Q nx1 w) λnx1=> .lf))) .lf))) (by kernel_rfl) h
def qcd.j2(k_5:Int)(Q:VWP)(w:World):Prop:=(4:Int)≠0/\lt (i64.wrap (tdiv k_5 4)) λx1=>lt (i64.wrap (x1-1)) λx2=>(4:Int)≠0/\lt (tmod k_5 4) λx3=>lt (i64.wrap (4+x3)) λx4=>(0:Int)<=x2/\lt (qzi .i64 x4 x2) λx5=>lt (i64.wrap (3+x5)) λx6=>Q (.tuple ⟨[.int .i64 x6,.int .i64 x2,.bool true]⟩) w
def qcd.j3(sym_0 k_5:Int)(t8:Bool)(Q:VWP)(w:World):Prop:=br t8 (Q (.tuple ⟨[.int .i64 0,.int .i64 0,.bool false]⟩) w) (br (sym_0==285) (Q (.tuple ⟨[.int .i64 258,.int .i64 0,.bool true]⟩) w) (br (decide (k_5<8)) (lt (i64.wrap (3+k_5)) λx7=>Q (.tuple ⟨[.int .i64 x7,.int .i64 0,.bool true]⟩) w) (qcd.j2 k_5 Q w)))
def qcd.j1(sym_0 k_5:Int)(Q:VWP)(w:World):Prop:=br (decide (sym_0<257)) (qcd.j3 sym_0 k_5 true Q w) (qcd.j3 sym_0 k_5 (decide (sym_0>285)) Q w)
def qcd(sym_0:Int)(Q:VWP)(w:World):Prop:=lt (i64.wrap (sym_0-257)) λx8=>qcd.j1 sym_0 x8 Q w
theorem qcd.ok(sym_0:Int)(Q:VWP)(w:World)(h:qcd sym_0 Q w):Calls prog 119 ⟨[.int .i64 sym_0]⟩ w (Ret Q):=
 qhc [.tmp 2,.tmp 3,.tmp 4] qde Tryz.func119 rfl rfl rfl rfl (.pr 1 [sI 0,sI 5] (λa b w=>qcd.j1 a b Q w) (.sq [sI 5] (λa w=>qcd.j2 a Q w) (.bk (.sq [sI 0,sI 5,sB 8] (λa b c w=>qcd.j3 a b c Q w) .lf .lf)) .lf)) (by kernel_rfl) h
def qwc.j2(sym_0:Int)(Q:VWP)(w:World):Prop:=(2:Int)≠0/\lt (i64.wrap (tdiv sym_0 2)) λx1=>lt (i64.wrap (x1-1)) λx2=>(2:Int)≠0/\lt (tmod sym_0 2) λx3=>lt (i64.wrap (2+x3)) λx4=>(0:Int)<=x2/\lt (qzi .i64 x4 x2) λx5=>lt (i64.wrap (1+x5)) λx6=>Q (.tuple ⟨[.int .i64 x6,.int .i64 x2,.bool true]⟩) w
def qwc.j3(sym_0:Int)(t5:Bool)(Q:VWP)(w:World):Prop:=br t5 (Q (.tuple ⟨[.int .i64 0,.int .i64 0,.bool false]⟩) w) (br (decide (sym_0<4)) (lt (i64.wrap (1+sym_0)) λx7=>Q (.tuple ⟨[.int .i64 x7,.int .i64 0,.bool true]⟩) w) (qwc.j2 sym_0 Q w))
def qwc.j1(sym_0:Int)(Q:VWP)(w:World):Prop:=br (decide (sym_0<0)) (qwc.j3 sym_0 true Q w) (qwc.j3 sym_0 (decide (sym_0>=30)) Q w)
def qwc(sym_0:Int)(Q:VWP)(w:World):Prop:=qwc.j1 sym_0 Q w
theorem qwc.ok(sym_0:Int)(Q:VWP)(w:World)(h:qwc sym_0 Q w):Calls prog 120 ⟨[.int .i64 sym_0]⟩ w (Ret Q):=
 qhc [.tmp 2,.tmp 3,.tmp 4] qde Tryz.func120 rfl rfl rfl rfl (.sq [sI 0] (λa w=>qwc.j1 a Q w) .lf (.sq [sI 0] (λa w=>qwc.j2 a Q w) (.bk (.sq [sI 0,sB 5] (λa b w=>qwc.j3 a b Q w) .lf .lf)) .lf)) (by kernel_rfl) h
def qmc(s_0:OAd)(err_1:Int)(Q:VWP)(w:World):Prop:=nz s_0 λa1=>ldI .i64 w (Addr.add a1 3) λx2=>br (x2==0) (nz s_0 λa3=>st w (Addr.add a3 3) (.int .i64 err_1) λw4=>Q (.tuple ⟨[]⟩) w4) (Q (.tuple ⟨[]⟩) w)
theorem qmc.ok(s_0:OAd)(err_1:Int)(Q:VWP)(w:World)(h:qmc s_0 err_1 Q w):Calls prog 160 ⟨[.pointer s_0,.int .i64 err_1]⟩ w (Ret Q):=
 qhc [] qde Tryz.func160 rfl rfl rfl rfl .lf (by kernel_rfl) h
def qtc(s_0:OAd)(n_1:Int)(Q:VWP)(w:World):Prop:=nz s_0 λa1=>ldI .i64 w (Addr.add a1 3) λx2=>br (x2 !=0) (Q (.int .i64 0) w) (nz s_0 λa3=>ldP w (Addr.add a3 0) λx4=>qwob 164 [.pointer x4,.int .i64 n_1] w λr7 r8 w6=>br (!r8) (ct_ 160 [.pointer s_0,.int .i64 3] w6 λw10=>Q (.int .i64 r7) w10) (Q (.int .i64 r7) w6))
theorem qtc.ok(s_0:OAd)(n_1:Int)(Q:VWP)(w:World)(h:qtc s_0 n_1 Q w):Calls prog 156 ⟨[.pointer s_0,.int .i64 n_1]⟩ w (Ret Q):=
 qhc [.tmp 4] qde Tryz.func156 rfl rfl rfl rfl .lf (by kernel_rfl) h
def qcf(s_0:OAd)(b_1:Int)(Q:VWP)(w:World):Prop:=nz s_0 λa1=>ldI .i64 w (Addr.add a1 3) λx2=>br (x2 !=0) (Q (.tuple ⟨[]⟩) w) (lt (World.drew w) λw3=>nz s_0 λa4=>ldL w3 (Addr.add a4 1) λx5=>nz s_0 λa6=>ldI .i64 w3 (Addr.add a6 2) λx7=>br (decide ((x5.len:Int)>=x7)) (ct_ 160 [.pointer s_0,.int .i64 5] w3 λw9=>Q (.tuple ⟨[]⟩) w9) (nz s_0 λa10=>ldL w3 (Addr.add a10 1) λx11=>nw w3 ⟨[.int .u8 b_1]⟩ 5 λa12 w13=>rdO w13 (some a12) (1*1) λc14=>apK prog 5 w13 x11.a x11.len x11.cap 1 c14 λs15 w16=>nz s_0 λa17=>st w16 (Addr.add a17 1) (sV s15) λw18=>Q (.tuple ⟨[]⟩) w18))
theorem qcf.ok(s_0:OAd)(b_1:Int)(Q:VWP)(w:World)(h:qcf s_0 b_1 Q w):Calls prog 166 ⟨[.pointer s_0,.int .u8 b_1]⟩ w (Ret Q):=
 qhc [] qde Tryz.func166 rfl rfl rfl rfl .lf (by kernel_rfl) h
def qac.b1(s_0:OAd)(t41:Int)(t42:Int)(Q:VWP)(nx1:OAd->Int->Int->WP)(w:World):Prop:=br (decide (t42<t41)) (qbk 156 [.pointer s_0,.int .i64 8] w λr3 w2=>lt (IntKind.u8.wrap r3) λx4=>ct_ 166 [.pointer s_0,.int .u8 x4] w2 λw6=>lt (i64.wrap (t42+1)) λx7=>nx1 s_0 t41 x7 w6) (Q (.tuple ⟨[]⟩) w)
def qac.l1(s_0:OAd)(t41:Int)(t42:Int)(Q:VWP)(w:World):Prop:=∃(I:Int->WP) (μ:Int->World->Nat),I t42 w/\∀t42:Int,∀w:World,I t42 w->qac.b1 s_0 t41 t42 Q (λs_0' t41' t42' w'=>(s_0'=s_0/\t41'=t41)/\I t42' w'/\μ t42' w'<μ t42 w) w
def qac.j2(s_0:OAd)(t41:Int)(t42:Int)(Q:VWP)(w:World):Prop:=qac.l1 s_0 t41 t42 Q w
def qac.j1(s_0:OAd)(n_2:Int)(m_3:Int)(Q:VWP)(w:World):Prop:=nz s_0 λa8=>ldI .i64 w (Addr.add a8 3) λx9=>br (x9 !=0) (Q (.tuple ⟨[]⟩) w) (lt (qlk .i64 n_2 m_3) λx10=>br (x10 !=65535) (ct_ 160 [.pointer s_0,.int .i64 2] w λw12=>Q (.tuple ⟨[]⟩) w12) (lt (World.drew w) λw13=>nz s_0 λa14=>ldI .i64 w13 (Addr.add a14 2) λx15=>nz s_0 λa16=>ldL w13 (Addr.add a16 1) λx17=>lt (i64.wrap (x15-(x17.len:Int))) λx18=>br (decide (n_2>x18)) (ct_ 160 [.pointer s_0,.int .i64 5] w13 λw20=>Q (.tuple ⟨[]⟩) w20) (qac.j2 s_0 n_2 0 Q w13)))
def qac(s_0:OAd)(Q:VWP)(w:World):Prop:=nz s_0 λa21=>ldP w (Addr.add a21 0) λx22=>ct_ 165 [.pointer x22] w λw24=>qbk 156 [.pointer s_0,.int .i64 16] w24 λr27 w26=>qbk 156 [.pointer s_0,.int .i64 16] w26 λr30 w29=>qac.j1 s_0 r27 r30 Q w29
theorem qac.ok(s_0:OAd)(Q:VWP)(w:World)(h:qac s_0 Q w):Calls prog 157 ⟨[.pointer s_0]⟩ w (Ret Q):=
 qhc [] qde Tryz.func157 rfl rfl rfl rfl (.pr 1 [sP 0,sI 2,sI 3] (λa b c w=>qac.j1 a b c Q w) (.pr 1 [sP 0,sI 41,sI 42] (λa b c w=>qac.j2 a b c Q w) (.bk (.lo [sP 0,sI 41] [sI 42] (λa b c w=>qac.l1 a b c Q w) (λnx1 a b c w=>qac.b1 a b c Q nx1 w) λnx1=> .lf)))) (by kernel_rfl) h
def qqd(s_0:OAd)(lens_1:Sl)(half_2:Bool)(Q:VWP)(w:World):Prop:=nz s_0 λa1=>ldI .i64 w (Addr.add a1 3) λx2=>br (x2 !=0) (Q (.pointer none) w) (qsy 100 [sV lens_1,.bool half_2] w λr5 r6 w4=>br (r6 !=0) (ct_ 160 [.pointer s_0,.int .i64 2] w4 λw8=>Q (.pointer r5) w8) (Q (.pointer r5) w4))
theorem qqd.ok(s_0:OAd)(lens_1:Sl)(half_2:Bool)(Q:VWP)(w:World)(h:qqd s_0 lens_1 half_2 Q w):Calls prog 167 ⟨[.pointer s_0,sV lens_1,.bool half_2]⟩ w (Ret Q):=
 qhc [.tmp 6] qde Tryz.func167 rfl rfl rfl rfl .lf (by kernel_rfl) h
def qbf(s_0 cap1:OAd)(Q:VWP)(w:World):Prop:=nz s_0 λa1=>ldI .i64 w (Addr.add a1 3) λx2=>br (x2 !=0) (Q (.int .i64 0) w) (nz s_0 λa3=>ldP w (Addr.add a3 0) λx4=>qhlb 169 [.pointer cap1,.pointer x4] w λr7 r8 w6=>ct_ 160 [.pointer s_0,.int .i64 r8] w6 λw10=>Q (.int .i64 r7) w10)
theorem qbf.ok(s_0:OAd)(cap1:OAd)(Q:VWP)(w:World)(h:qbf s_0 cap1 Q w):Calls prog 168 ⟨[.pointer s_0,.func (.func 169) ⟨[.pointer cap1]⟩ ⟨[]⟩]⟩ w (Ret Q):=
 qhc [.tmp 4] qde Tryz.func168 rfl rfl rfl rfl .lf (by kernel_rfl) h
def qw.b1(s_0:OAd)(n_6:Int)(d_9 i_11:Int)(Q:VWP)(nx1:OAd->Int->Int->Int->WP)(w:World):Prop:=br (decide (i_11<n_6)) (nz s_0 λa1=>ldI .i64 w (Addr.add a1 3) λx2=>br (x2==0) (lt (World.drew w) λw3=>nz s_0 λa4=>ldL w3 (Addr.add a4 1) λx5=>nz s_0 λa6=>ldL w3 (Addr.add a6 1) λx7=>lt (i64.wrap ((x7.len:Int)-d_9)) λx8=>ixS x5.a x5.len x8 1 λa9=>ldI .u8 w3 a9 λx10=>ct_ 166 [.pointer s_0,.int .u8 x10] w3 λw12=>lt (i64.wrap (i_11+1)) λx13=>nx1 s_0 n_6 d_9 x13 w12) (Q (.tuple ⟨[]⟩) w)) (Q (.tuple ⟨[]⟩) w)
def qw.l1(s_0:OAd)(n_6:Int)(d_9 i_11:Int)(Q:VWP)(w:World):Prop:=∃(I:Int->WP) (μ:Int->World->Nat),I i_11 w/\∀i_11:Int,∀w:World,I i_11 w->qw.b1 s_0 n_6 d_9 i_11 Q (λs_0' n_6' d_9' i_11' w'=>(s_0'=s_0/\n_6'=n_6/\d_9'=d_9)/\I i_11' w'/\μ i_11' w'<μ i_11 w) w
def qw.j5(s_0:OAd)(n_6:Int)(d_9 i_11:Int)(Q:VWP)(w:World):Prop:=qw.l1 s_0 n_6 d_9 i_11 Q w
def qw.j4(s_0:OAd)(n_6:Int)(d_9:Int)(Q:VWP)(w:World):Prop:=qw.j5 s_0 n_6 d_9 0 Q w
def qw.j3(s_0:OAd)(n_6:Int)(d_9 y_10:Int)(Q:VWP)(w:World):Prop:=qbk 156 [.pointer s_0,.int .i64 y_10] w λr16 w15=>lt (i64.wrap (d_9+r16)) λx17=>nz s_0 λa18=>ldL w15 (Addr.add a18 1) λx19=>br (decide (x17>(x19.len:Int))) (ct_ 160 [.pointer s_0,.int .i64 2] w15 λw21=>qw.j4 s_0 n_6 x17 Q w21) (qw.j4 s_0 n_6 x17 Q w15)
def qw.j2(s_0 next_2:OAd)(n_6:Int)(Q:VWP)(w:World):Prop:=qbk 168 [.pointer s_0,.func (.func 169) ⟨[.pointer next_2]⟩ ⟨[]⟩] w λr24 w23=>qhw 120 [.int .i64 r24] w23 λr27 r28 r29 w26=>br (!r29) (ct_ 160 [.pointer s_0,.int .i64 2] w26 λw31=>qw.j3 s_0 n_6 r27 r28 Q w31) (qw.j3 s_0 n_6 r27 r28 Q w26)
def qw.j1(s_0 next_2:OAd)(n_6:Int)(x_7:Int)(Q:VWP)(w:World):Prop:=qbk 156 [.pointer s_0,.int .i64 x_7] w λr34 w33=>lt (i64.wrap (n_6+r34)) λx35=>qw.j2 s_0 next_2 x35 Q w33
def qw(s_0:OAd)(v_1:Int)(cap2:OAd)(Q:VWP)(w:World):Prop:=qhw 119 [.int .i64 v_1] w λr38 r39 r40 w37=>br (!r40) (ct_ 160 [.pointer s_0,.int .i64 2] w37 λw42=>qw.j1 s_0 cap2 r38 r39 Q w42) (qw.j1 s_0 cap2 r38 r39 Q w37)
theorem qw.ok(s_0:OAd)(v_1:Int)(cap2:OAd)(Q:VWP)(w:World)(h:qw s_0 v_1 cap2 Q w):Calls prog 170 ⟨[.pointer s_0,.int .i64 v_1,.func (.func 169) ⟨[.pointer cap2]⟩ ⟨[]⟩]⟩ w (Ret Q):=
 qhc [] qde Tryz.func170 rfl rfl rfl rfl (.pr 1 [sP 0,(2,.c1 169),sI 6,sI 7] (λa b c d w=>qw.j1 a b c d Q w) (.sq [sP 0,(2,.c1 169),sI 6] (λa b c w=>qw.j2 a b c Q w) .lf (.pr 1 [sP 0,sI 6,sI 9,sI 10] (λa b c d w=>qw.j3 a b c d Q w) (.pr 1 [sP 0,sI 6,sI 9] (λa b c w=>qw.j4 a b c Q w) (.sq [sP 0,sI 6,sI 9,sI 11] (λa b c d w=>qw.j5 a b c d Q w) .lf (.bk (.lo [sP 0,sI 6,sI 9] [sI 11] (λa b c d w=>qw.l1 a b c d Q w) (λnx1 a b c d w=>qw.b1 a b c d Q nx1 w) λnx1=> .lf))))))) (by kernel_rfl) h
def qr.j5(s_0 a_6 b_7:OAd)(v_8:Int)(t47:Bool)(Q:VWP)(nx1:OAd->OAd->OAd->WP)(w:World):Prop:=br t47 (Q (.tuple ⟨[]⟩) w) (br (decide (v_8<256)) (lt (IntKind.u8.wrap v_8) λx1=>ct_ 166 [.pointer s_0,.int .u8 x1] w λw3=>nx1 s_0 a_6 b_7 w3) (ct_ 170 [.pointer s_0,.int .i64 v_8,.func (.func 169) ⟨[.pointer b_7]⟩ ⟨[]⟩] w λw5=>nx1 s_0 a_6 b_7 w5))
def qr.j4(s_0 a_6 b_7:OAd)(v_8:Int)(Q:VWP)(nx1:OAd->OAd->OAd->WP)(w:World):Prop:=nz s_0 λa6=>ldI .i64 w (Addr.add a6 3) λx7=>br (x7 !=0) (qr.j5 s_0 a_6 b_7 v_8 true Q nx1 w) (qr.j5 s_0 a_6 b_7 v_8 (v_8==256) Q nx1 w)
def qr.j3(s_0 a_6 b_7:OAd)(Q:VWP)(nx1:OAd->OAd->OAd->WP)(w:World):Prop:=qbk 168 [.pointer s_0,.func (.func 169) ⟨[.pointer a_6]⟩ ⟨[]⟩] w λr10 w9=>qr.j4 s_0 a_6 b_7 r10 Q nx1 w9
def qr.b1(s_0 a_6 b_7:OAd)(Q:VWP)(nx1:OAd->OAd->OAd->WP)(w:World):Prop:=nz s_0 λa11=>ldI .i64 w (Addr.add a11 3) λx12=>br (x12==0) (qr.j3 s_0 a_6 b_7 Q nx1 w) (Q (.tuple ⟨[]⟩) w)
def qr.l1(s_0 a_6 b_7:OAd)(Q:VWP)(w:World):Prop:=∃(I:WP) (μ:World->Nat),I w/\∀w:World,I w->qr.b1 s_0 a_6 b_7 Q (λs_0' a_6' b_7' w'=>(s_0'=s_0/\a_6'=a_6/\b_7'=b_7)/\I w'/\μ w'<μ w) w
def qr.j2(s_0 a_6 b_7:OAd)(Q:VWP)(w:World):Prop:=qr.l1 s_0 a_6 b_7 Q w
def qr.j1(s_0:OAd)(lit_1:Sl)(dist_2:Sl)(Q:VWP)(w:World):Prop:=qchb 167 [.pointer s_0,sV lit_1,.bool true] w λr15 w14=>qchb 167 [.pointer s_0,sV dist_2,.bool true] w14 λr18 w17=>nz s_0 λa19=>ldI .i64 w17 (Addr.add a19 3) λx20=>br (x20 !=0) (Q (.tuple ⟨[]⟩) w17) (qr.j2 s_0 r15 r18 Q w17)
def qr(s_0:OAd)(lit_1:Sl)(dist_2:Sl)(Q:VWP)(w:World):Prop:=nz s_0 λa21=>ldI .i64 w (Addr.add a21 3) λx22=>br (x22==0) (ixS lit_1.a lit_1.len 256 1 λa23=>ldI .i64 w a23 λx24=>br (x24==0) (ct_ 160 [.pointer s_0,.int .i64 2] w λw26=>qr.j1 s_0 lit_1 dist_2 Q w26) (qr.j1 s_0 lit_1 dist_2 Q w)) (qr.j1 s_0 lit_1 dist_2 Q w)
theorem qr.ok(s_0:OAd)(lit_1:Sl)(dist_2:Sl)(Q:VWP)(w:World)(h:qr s_0 lit_1 dist_2 Q w):Calls prog 158 ⟨[.pointer s_0,sV lit_1,sV dist_2]⟩ w (Ret Q):=
 qhc [] qde Tryz.func158 rfl rfl rfl rfl (.sq [sP 0,sL 1,sL 2] (λa b c w=>qr.j1 a b c Q w) .lf (.pr 1 [sP 0,sP 6,sP 7] (λa b c w=>qr.j2 a b c Q w) (.bk (.lo [sP 0,sP 6,sP 7] [] (λa b c w=>qr.l1 a b c Q w) (λnx1 a b c w=>qr.b1 a b c Q nx1 w) λnx1=>(.sq [sP 0,sP 6,sP 7] (λa b c w=>qr.j3 a b c Q nx1 w) .lf (.bk (.sq [sP 0,sP 6,sP 7,sI 8] (λa b c d w=>qr.j4 a b c d Q nx1 w) .lf (.bk (.sq [sP 0,sP 6,sP 7,sI 8,sB 47] (λa b c d e w=>qr.j5 a b c d e Q nx1 w) .lf .lf))))))))) (by kernel_rfl) h
def qpf(s_0:OAd)(Q:VWP)(w:World):Prop:=qbk 156 [.pointer s_0,.int .i64 1] w λr3 w2=>qbk 156 [.pointer s_0,.int .i64 2] w2 λr6 w5=>nz s_0 λa7=>ldI .i64 w5 (Addr.add a7 3) λx8=>br (x8 !=0) (Q (.bool false) w5) (br (r6==0) (ct_ 157 [.pointer s_0] w5 λw10=>Q (.bool (r3==1)) w10) (br (r6==1) (qflb 99 [] w5 λr13 r14 w12=>ct_ 158 [.pointer s_0,sV r13,sV r14] w12 λw16=>Q (.bool (r3==1)) w16) (br (r6==2) (qflb 159 [.pointer s_0] w5 λr19 r20 w18=>ct_ 158 [.pointer s_0,sV r19,sV r20] w18 λw22=>Q (.bool (r3==1)) w22) (ct_ 160 [.pointer s_0,.int .i64 2] w5 λw24=>Q (.bool (r3==1)) w24))))
theorem qpf.ok(s_0:OAd)(Q:VWP)(w:World)(h:qpf s_0 Q w):Calls prog 143 ⟨[.pointer s_0]⟩ w (Ret Q):=
 qhc [.tmp 2] qde Tryz.func143 rfl rfl rfl rfl .lf (by kernel_rfl) h
def qxb.j3(s_7:OAd)(Q:VWP)(w:World):Prop:=lt (World.drew w) λw1=>nz s_7 λa2=>ldL w1 (Addr.add a2 1) λx3=>nz s_7 λa4=>(qak 20 [sV x3] w1 λr7 w6=>ldP w6 (Addr.add a4 0) λx8=>qbk 144 [.pointer x8] w6 λr11 w10=>Q (.tuple ⟨[sV r7,.int .i64 r11,.int .i64 0]⟩) w10)/\(ldP w1 (Addr.add a4 0) λx12=>qak 20 [sV x3] w1 λr15 w14=>qbk 144 [.pointer x12] w14 λr18 w17=>Q (.tuple ⟨[sV r15,.int .i64 r18,.int .i64 0]⟩) w17)
def qxb.b1(s_7:OAd)(last_8:Bool)(Q:VWP)(nx1:OAd->Bool->WP)(w:World):Prop:=br (!last_8) (qzcb 143 [.pointer s_7] w λr21 w20=>nz s_7 λa22=>ldI .i64 w20 (Addr.add a22 3) λx23=>br (x23 !=0) (lt (World.drew w20) λw24=>nz s_7 λa25=>ldI .i64 w24 (Addr.add a25 3) λx26=>Q (.tuple ⟨[.slice none 0 0,.int .i64 0,.int .i64 x26]⟩) w24) (nx1 s_7 r21 w20)) (qxb.j3 s_7 Q w)
def qxb.l1(s_7:OAd)(last_8:Bool)(Q:VWP)(w:World):Prop:=∃(I:Bool->WP) (μ:Bool->World->Nat),I last_8 w/\∀last_8:Bool,∀w:World,I last_8 w->qxb.b1 s_7 last_8 Q (λs_7' last_8' w'=>(s_7'=s_7)/\I last_8' w'/\μ last_8' w'<μ last_8 w) w
def qxb.j4(s_7:OAd)(last_8:Bool)(Q:VWP)(w:World):Prop:=qxb.l1 s_7 last_8 Q w
def qxb.j2(s_7:OAd)(Q:VWP)(w:World):Prop:=qxb.j4 s_7 false Q w
def qxb.j1(b_0:Sl)(most_1:Int)(Q:VWP)(w:World):Prop:=br (decide (most_1<0)) (Q (.tuple ⟨[.slice none 0 0,.int .i64 0,.int .i64 1]⟩) w) (br (decide (most_1>262144)) (Q (.tuple ⟨[.slice none 0 0,.int .i64 0,.int .i64 1]⟩) w) (qchb 142 [sV b_0] w λr29 w28=>nw w28 (⟨[.pointer r29,.slice none 0 0,.int .i64 most_1,.int .i64 0]⟩:Array Value) 213 λa30 w31=>qxb.j2 (some a30) Q w31))
def qxb(b_0:Sl)(most_1:Int)(Q:VWP)(w:World):Prop:=qxb.j1 b_0 most_1 Q w
theorem qxb.ok(b_0:Sl)(most_1:Int)(Q:VWP)(w:World)(h:qxb b_0 most_1 Q w):Calls prog 115 ⟨[sV b_0,.int .i64 most_1]⟩ w (Ret Q):=
 qhc [.tmp 4,.tmp 5,.tmp 6] qde Tryz.func115 rfl rfl rfl rfl (.sq [sL 0,sI 1] (λa b w=>qxb.j1 a b Q w) .lf (.pr 1 [sP 7] (λa w=>qxb.j2 a Q w) (.sq [sP 7] (λa w=>qxb.j3 a Q w) (.sq [sP 7,sB 8] (λa b w=>qxb.j4 a b Q w) .lf (.bk (.lo [sP 7] [sB 8] (λa b w=>qxb.l1 a b Q w) (λnx1 a b w=>qxb.b1 a b Q nx1 w) λnx1=> .lf))) .lf))) (by kernel_rfl) h
end
section
attribute [local irreducible] apK cpK mkK br
def ztA(sb rb V N:Nat)(most:Int)(z:Z):As:=exA λo:Sl=>andA (qqb sb [.pointer (some ⟨rb,0,none⟩),.slice o.a o.len o.cap,.int .i64 most,.int .i64 z.2.2]) (andA (bitA rb (V,N,z.1)) (qcc 1 o (u8s z.2.1)))
section
variable {F0:List Nat}{w0 w:World}{ps rest:List As}{sb rb V N:Nat}{most:Int}{z:Z}
theorem qmv(h:St F0 w0 w (ztA sb rb V N most z::ps)):∃o:Sl,St F0 w0 w (qqb sb [.pointer (some ⟨rb,0,none⟩),.slice o.a o.len o.cap,.int .i64 most,.int .i64 z.2.2]::bitA rb (V,N,z.1)::qcc 1 o (u8s z.2.1)::ps):=by
 unfold ztA at h;obtain⟨o,h⟩:=h.exE;exact⟨o,h.split.tail λ_ _ _ h=>h.split⟩
theorem qpfb{o:Sl}{p:Nat}{out:List Int}{err:Int}(h:St F0 w0 w (qqb sb [.pointer (some ⟨rb,0,none⟩),.slice o.a o.len o.cap,.int .i64 most,.int .i64 err]::bitA rb (V,N,p)::qcc 1 o (u8s out)::ps)):St F0 w0 w (ztA sb rb V N most (p,out,err)::ps):=by
 unfold ztA;exact St.exI o (St.join (h.tail λ_ _ _ h=>h.join))
theorem qcd.c{v:Int}{K:Ending->World->Prop}(h:St F0 w0 w ps)(hk:K (.returned (.tuple ⟨[.int .i64 (qdl v).1,.int .i64 (qdl v).2.1,.bool (qdl v).2.2]⟩)) w):
 Calls prog 119 ⟨[.int .i64 v]⟩ w K:=by
 refine qdc (qcd.ok _ _ _ ?_)
 unfold qcd qcd.j1 qdl at*
 refine qbe ?_
 refine quc (λg=>?_) (λg=>?_)
 ·rw[if_pos (Or.inl g)]at hk
  unfold qcd.j3
  exact qgp hk
 unfold qcd.j3
 refine quc (λg2=>?_) (λg2=>?_)
 ·rw[if_pos (Or.inr g2)]at hk
  exact hk
 rw[if_neg (by omega)]at hk
 rw[qd (by omega) (by omega)]
 refine qye (λg3=>?_) (λg3=>?_)
 ·rw[if_pos (by simpa using g3)]at hk
  exact hk
 rw[if_neg (by simpa using g3)]at hk
 refine quc (λg4=>?_) (λg4=>?_)
 ·rw[if_pos g4]at hk
  exact qm (qd (by omega) (by omega)) hk
 rw[if_neg g4]at hk
 unfold qcd.j2
 obtain⟨k,rfl⟩:∃k:Nat,v=257+k:=⟨(v-257).toNat,by omega⟩
 have e0:(257+(k:Int))-257=k:=by omega
 rw[e0]at g4 hk|-
 have hk27:k<=28:=by omega
 refine⟨by decide,?_⟩
 refine qm (show i64.wrap (tdiv (k:Int) 4)=((k/4:Nat):Int)by rw[show tdiv (k:Int) 4=((k/4:Nat):Int)from rfl,qd (by omega) (by omega)]) ?_
 refine qm (show i64.wrap (((k/4:Nat):Int)-1)=((k/4-1:Nat):Int)by rw[qd (by omega) (by omega)];omega) ?_
 refine⟨by decide,?_⟩
 refine qm (show tmod (k:Int) 4=((k%4:Nat):Int)from rfl) ?_
 refine qm (show i64.wrap (4+((k%4:Nat):Int))=((4+k%4:Nat):Int)by rw[qd (by omega) (by omega)];omega) ?_
 refine⟨by omega,?_⟩
 have hp:(4+k%4)*2^(k/4-1)<=7*2^6:=mul_le_mul (by omega) (Nat.pow_le_pow_right (by decide) (by omega))
 have hp2:(4+k%4)*2^(k/4-1)<=448:=hp
 refine qm (show qzi .i64 ((4+k%4:Nat):Int) ((k/4-1:Nat):Int)=(((4+k%4)*2^(k/4-1):Nat):Int)by
  unfold qzi;rw[toNat_natCast,show min (k/4-1) i64.bits=k/4-1 by show min (k/4-1) 64=_;omega];rw[show((4+k%4:Nat):Int)*2^(k/4-1)=(((4+k%4)*2^(k/4-1):Nat):Int)by push_cast;rfl];exact qd (by omega) (by omega)) ?_
 refine qm (qd (by omega) (by omega)) ?_
 have e5:(3:Int)+(4+(k:Int)%4)*2^((k:Int)/4-1).toNat=3+(((4+k%4)*2^(k/4-1):Nat):Int):=by
  rw[show((k:Int)/4-1).toNat=k/4-1 by omega];push_cast;rfl
 have e6:(k:Int)/4-1=((k/4-1:Nat):Int):=by omega
 simp only[e5,e6]at hk
 exact hk
theorem qwc.c{v:Int}{K:Ending->World->Prop}(h:St F0 w0 w ps)(hk:K (.returned (.tuple ⟨[.int .i64 (qik v).1,.int .i64 (qik v).2.1,.bool (qik v).2.2]⟩)) w):
 Calls prog 120 ⟨[.int .i64 v]⟩ w K:=by
 refine qdc (qwc.ok _ _ _ ?_)
 unfold qwc qwc.j1 qik at*
 refine quc (λg=>?_) (λg=>?_)
 ·rw[if_pos (Or.inl g)]at hk
  unfold qwc.j3
  exact qgp hk
 unfold qwc.j3
 refine quc (λg2=>?_) (λg2=>?_)
 ·rw[if_pos (Or.inr g2)]at hk
  exact hk
 rw[if_neg (by omega)]at hk
 refine quc (λg4=>?_) (λg4=>?_)
 ·rw[if_pos g4]at hk
  exact qm (qd (by omega) (by omega)) hk
 rw[if_neg g4]at hk
 unfold qwc.j2
 obtain⟨k,rfl⟩:∃k:Nat,v=k:=⟨v.toNat,by omega⟩
 refine⟨by decide,?_⟩
 refine qm (show i64.wrap (tdiv (k:Int) 2)=((k/2:Nat):Int)by rw[show tdiv (k:Int) 2=((k/2:Nat):Int)from rfl,qd (by omega) (by omega)]) ?_
 refine qm (show i64.wrap (((k/2:Nat):Int)-1)=((k/2-1:Nat):Int)by rw[qd (by omega) (by omega)];omega) ?_
 refine⟨by decide,?_⟩
 refine qm (show tmod (k:Int) 2=((k%2:Nat):Int)from rfl) ?_
 refine qm (show i64.wrap (2+((k%2:Nat):Int))=((2+k%2:Nat):Int)by rw[qd (by omega) (by omega)];omega) ?_
 refine⟨by omega,?_⟩
 have hp:(2+k%2)*2^(k/2-1)<=3*2^14:=mul_le_mul (by omega) (Nat.pow_le_pow_right (by decide) (by omega))
 have hp2:(2+k%2)*2^(k/2-1)<=49152:=hp
 refine qm (show qzi .i64 ((2+k%2:Nat):Int) ((k/2-1:Nat):Int)=(((2+k%2)*2^(k/2-1):Nat):Int)by
  unfold qzi;rw[toNat_natCast,show min (k/2-1) i64.bits=k/2-1 by show min (k/2-1) 64=_;omega];rw[show((2+k%2:Nat):Int)*2^(k/2-1)=(((2+k%2)*2^(k/2-1):Nat):Int)by push_cast;rfl];exact qd (by omega) (by omega)) ?_
 refine qm (qd (by omega) (by omega)) ?_
 have e5:(1:Int)+(2+(k:Int)%2)*2^((k:Int)/2-1).toNat=1+(((2+k%2)*2^(k/2-1):Nat):Int):=by
  rw[show((k:Int)/2-1).toNat=k/2-1 by omega];push_cast;rfl
 have e6:(k:Int)/2-1=((k/2-1:Nat):Int):=by omega
 simp only[e5,e6]at hk
 exact hk
theorem qmc.c{e:Int}{K:Ending->World->Prop}(h:St F0 w0 w (ztA sb rb V N most z::ps))
 (hk:∀w',St F0 w0 w' (ztA sb rb V N most (qtd e z)::ps)->K (.returned (.tuple ⟨[]⟩)) w'):Calls prog 160 ⟨[.pointer (some ⟨sb,0,none⟩),.int .i64 e]⟩ w K:=by
 obtain⟨p,out,err⟩:=z
 refine qdc (qmc.ok _ _ _ _ ?_)
 unfold qmc
 unfold qtd at hk
 obtain⟨o,h⟩:=qmv h
 simp only at h hk
 refine qkd (h.fI ?_)
 refine qye (λg=>?_) (λg=>?_)
 ·rw[if_pos (by simpa using g)]at hk
  refine qkd (h.fst trivial λw h=>?_)
  exact hk w (qpfb h)
 ·rw[if_neg (by simpa using g)]at hk
  exact hk w (qpfb h)
theorem qtc.c{n:Int}{K:Ending->World->Prop}(h:St F0 w0 w (ztA sb rb V N most z::ps))(hN:N<=137438953472)(hp:z.1<=8*N)
 (hk:∀w',(qff (ql V (8*N)) n z).2.1<=8*N->St F0 w0 w' (ztA sb rb V N most (qff (ql V (8*N)) n z).2::ps)->K (.returned (.int .i64 (qff (ql V (8*N)) n z).1)) w'):Calls prog 156 ⟨[.pointer (some ⟨sb,0,none⟩),.int .i64 n]⟩ w K:=by
 have hf:=(qsq (B:=ql V (8*N)) n (z:=z) (by rw[qq];exact hp)).2
 rw[qq]at hf
 have hk:=λw'=>hk w' hf
 clear hf
 obtain⟨p,out,err⟩:=z
 simp only at hp
 refine qdc (qtc.ok _ _ _ _ ?_)
 unfold qtc
 unfold qff at hk
 have h0:=h
 obtain⟨o,h⟩:=qmv h
 simp only at h hk
 refine qkd (h.fI ?_)
 refine qye (λg=>?_) (λg=>?_)
 ·rw[if_pos (by simpa using g)]at hk
  exact hk w h0
 ·have g:err=0:=by simpa using g
  subst g
  rw[if_neg (by simp),qq]at hk
  refine qkd (h.fP ?_)
  refine qwb.c (rb:=rb) (V:=V) (N:=N) (at':=p) h.at1 hN (by omega) (λg w h=>⟨_,_,rfl,?_⟩) (λg w h=>⟨_,_,rfl,?_⟩)
  ·have g:=of_decide_eq_true g
   rw[if_pos ⟨g.1,g.2.1,by omega⟩]at hk
   simp only at hk
   rw[qmdb (by omega)]at hk
   refine qcq ?_
   exact hk w (qpfb h.at1)
  ·have g:=of_decide_eq_false g
   rw[if_neg (λe=>g ⟨e.1,e.2.1,by have:=e.2.2;omega⟩)]at hk
   refine qgp ?_
   have h:=qpfb (p:=p) (out:=out) (err:=0) h.at1
   refine qmc.c h λw h=>⟨rfl,?_⟩
   exact hk w h
theorem qcf.c{b:Int}{K:Ending->World->Prop}(h:St F0 w0 w (ztA sb rb V N most z::ps))(hL:z.2.1.length<=1000000000)
 (hk:∀w',St F0 w0 w' (ztA sb rb V N most (zput most b z)::ps)->K (.returned (.tuple ⟨[]⟩)) w'):Calls prog 166 ⟨[.pointer (some ⟨sb,0,none⟩),.int .u8 b]⟩ w K:=by
 obtain⟨p,out,err⟩:=z
 simp only at hL
 refine qdc (qcf.ok _ _ _ _ ?_)
 unfold qcf
 unfold zput at hk
 have h0:=h
 obtain⟨o,h⟩:=qmv h
 simp only at h hk
 have hol:=h.at2.len
 rw[qk]at hol
 refine qkd (h.fI ?_)
 refine qye (λg=>?_) (λg=>?_)
 ·rw[if_pos (by simpa using g)]at hk
  exact hk w h0
 have g:err=0:=by simpa using g
 subst g
 rw[if_neg (by simp)]at hk
 refine h.drewK λw h=>?_
 refine qkd (h.fL (qkd (h.fI ?_)))
 refine quc (λg2=>?_) (λg2=>?_)
 ·have g2:((o.len:Nat):Int)>=most:=g2
  rw[if_pos (by omega)]at hk
  exact qmc.c (qpfb h) λw h=>⟨rfl,hk w h⟩
 ·have g2:¬((o.len:Nat):Int)>=most:=g2
  rw[if_neg (by omega)]at hk
  refine qkd (h.fL ?_)
  refine h.pushI (s:=o) (by omega) λo2 w h=>?_
  refine qkd (h.fst trivial λw h=>?_)
  exact hk w (qpfb (o:=o2) h.sub)
theorem qqd.c{s:Sl}{ls:List Int}{half:Bool}{K:Ending->World->Prop}(h:St F0 w0 w (ztA sb rb V N most z::ps))[Rdb F0 w0 s ps 1 (ivs .i64 ls)]
 (hk0:∀cb w',z.2.2=0->qqk ls half=0->St F0 w0 w' (ztA sb rb V N most z::hcA cb ls::ps)->K (.returned (.pointer (some ⟨cb,0,none⟩))) w')
 (hk1:∀w',z.2.2=0->qqk ls half≠0->St F0 w0 w' (ztA sb rb V N most (qtd 2 z)::ps)->K (.returned (.pointer none)) w')
 (hk2:z.2.2≠0->K (.returned (.pointer none)) w):Calls prog 167 ⟨[.pointer (some ⟨sb,0,none⟩),.slice s.a s.len s.cap,.bool half]⟩ w K:=by
 obtain⟨p,out,err⟩:=z
 refine qdc (qqd.ok _ _ _ _ _ ?_)
 unfold qqd
 obtain⟨o,h⟩:=qmv h
 simp only at h hk0 hk1 hk2
 refine qkd (h.fI ?_)
 refine qye (λg=>hk2 (by simpa using g)) (λg=>?_)
 have g:err=0:=by simpa using g
 subst g
 refine qnc.c (s:=s) (half:=half) h (λcb w g h=>⟨_,_,rfl,qcq ?_⟩) (λw g h=>⟨_,_,rfl,qjh (by simpa using g) ?_⟩)
 ·exact hk0 cb w rfl g (qpfb (o:=o) h.sub)
 ·exact qmc.c (qpfb h) λw h=>⟨rfl,hk1 w rfl g h⟩
theorem qbf.c{cb:Nat}{ls:List Int}{K:Ending->World->Prop}(h:St F0 w0 w (ztA sb rb V N most z::ps))[PkF hcA cb ps ls rest](hN:N<=137438953472)(hp:z.1<=8*N)
 (hk:∀w',(qyl ls (ql V (8*N)) z).2.1<=8*N->St F0 w0 w' (ztA sb rb V N most (qyl ls (ql V (8*N)) z).2::ps)->K (.returned (.int .i64 (qyl ls (ql V (8*N)) z).1)) w'):
 Calls prog 168 ⟨[.pointer (some ⟨sb,0,none⟩),.func (.func 169) ⟨[.pointer (some ⟨cb,0,none⟩)]⟩ ⟨[]⟩]⟩ w K:=by
 obtain⟨p,out,err⟩:=z
 simp only at hp
 refine qdc (qbf.ok _ _ _ _ ?_)
 unfold qbf
 unfold qyl at hk
 have h0:=h
 obtain⟨o,h⟩:=qmv h
 simp only at h hk
 refine qkd (h.fI ?_)
 refine qye (λg=>?_) (λg=>?_)
 ·rw[if_pos (by simpa using g)]at hk
  exact hk w hp h0
 have g:err=0:=by simpa using g
 subst g
 rw[if_neg (by simp)]at hk
 refine qkd (h.fP ?_)
 refine qjc.c (ls:=ls) (cb:=cb) (rb:=rb) (V:=V) (N:=N) (p:=p) h.at1 hN hp λw hle h=>⟨_,_,rfl,?_⟩
 refine qmc.c (qpfb h.at1) λw h=>⟨rfl,?_⟩
 refine hk w hle ?_
 exact h
end
end
section
attribute [local irreducible] apK cpK mkK br
theorem quib{a b:Nat}(h:a<=b):(2:Nat)^a<=2^b:=Nat.pow_le_pow_right (by decide) h
theorem qcu{a b c:Nat}(h:a<=b)(e:2^b=c):(2:Int)^a<=(c:Int):=by
 rw[show(2:Int)^a=((2^a:Nat):Int)by simp,<-e];exact Int.ofNat_le.2 (quib h)
theorem qkdb(v:Int):0<=(qdl v).1/\(qdl v).1<=1000/\(qdl v).2.1.toNat<=6:=by
 unfold qdl;split
 ·decide
 ·split
  ·decide
  ·split
   ·simp only;omega
   ·simp only
    have h1:((v-257)/4-1).toNat<=6:=by omega
    have h2:=quib h1;have h3:(4+(v-257)%4).toNat*2^((v-257)/4-1).toNat<=7*2^6:=mul_le_mul (by omega) h2;have h4:(4+(v-257)%4)*2^((v-257)/4-1).toNat=(((4+(v-257)%4).toNat*2^((v-257)/4-1).toNat:Nat):Int):=by
     rw[Int.natCast_mul,Int.toNat_of_nonneg (by omega)];simp
    rw[h4];have h5:(7:Nat)*2^6=448:=by decide
    refine⟨?_,?_,h1⟩<;>omega
theorem qndb(v:Int):0<=(qik v).1/\(qik v).1<=100000/\(qik v).2.1.toNat<=14/\((qik v).2.2=true->1<=(qik v).1):=by
 unfold qik;split
 ·decide
 ·split
  ·simp only;refine⟨?_,?_,?_,λ_=>?_⟩<;>omega
  ·simp only
   have h1:(v/2-1).toNat<=14:=by omega
   have h2:=quib h1;have h3:(2+v%2).toNat*2^(v/2-1).toNat<=3*2^14:=mul_le_mul (by omega) h2;have h4:(2+v%2)*2^(v/2-1).toNat=(((2+v%2).toNat*2^(v/2-1).toNat:Nat):Int):=by
    rw[Int.natCast_mul,Int.toNat_of_nonneg (by omega)];simp
   rw[h4];have h5:(3:Nat)*2^14=49152:=by decide
   refine⟨?_,?_,h1,λ_=>?_⟩<;>omega
section pure
variable {B:List Bool}{most:Int}{z:Z}
theorem qtw{n:Int}(h:(qff B n z).2.2.2=0):z.2.2=0:=by
 unfold qff at h;split at h
 ·exact h
 ·rename_i h1;exact Decidable.not_not.1 h1
theorem qrd(n:Int):(qff B n z).2.2.1=z.2.1:=by
 unfold qff;split
 ·rfl
 ·split<;>rfl
theorem qnhb{ok:Bool}(h:(zok ok z).2.2=0):ok=true/\z.2.2=0:=by
 unfold zok at h;split at h
 ·rename_i h1;exact⟨h1,h⟩
 ·exfalso;unfold qtd at h;simp only at h;split at h
  ·cases h
  ·contradiction
theorem qln(ok:Bool):(zok ok z).2.1=z.2.1:=by unfold zok;split<;>rfl
theorem qwi(ls:List Int):(qyl ls B z).2.2.1=z.2.1:=by unfold qyl;split<;>rfl
theorem qfl(b:Int)(hm:most<=1000000)(h:z.2.1.length<=1000000):(zput most b z).2.1.length<=1000000:=by
 unfold zput;split
 ·exact h
 ·split
  ·exact h
  ·simp only[length_append,length_singleton];omega
theorem qwqb(d:Int)(hm:most<=1000000):∀n (z:Z),z.2.1.length<=1000000->(zcp most d n z).2.1.length<=1000000:=by
 intro n;induction n with
 |zero=>intro z h;exact h
 |succ n ih=>
  intro z h;rw[zcp];split
  ·exact h
  ·exact ih _ (qfl _ hm h)
theorem qgq(dl:List Int)(v:Int)(hm:most<=1000000)(h:z.2.1.length<=1000000):(qli dl B most v z).2.1.length<=1000000:=by
 unfold qli;simp only
 refine qwqb _ hm _ _ ?_;split
 ·show(qff B _ _).2.2.1.length<=_;rw[qrd,qln,qwi,qrd,qln];exact h
 ·rw[qrd,qln,qwi,qrd,qln];exact h
theorem qvh{e:Int}(h:e≠0):(qtd e z).2.2≠0:=by
 unfold qtd;simp only
 split<;>assumption
end pure
section
variable {F0:List Nat}{w0 w:World}{ps rest rest2:List As}{sb rb V N:Nat}{most:Int}{z:Z}
theorem qw.c{v:Int}{cb:Nat}{dl:List Int}{K:Ending->World->Prop}(h:St F0 w0 w (ztA sb rb V N most z::ps))[PkF hcA cb ps dl rest](hN:N<=137438953472)(hp:z.1<=8*N)(hm:most<=1000000)(hL:z.2.1.length<=1000000)
 (hk:∀w',St F0 w0 w' (ztA sb rb V N most (qli dl (ql V (8*N)) most v z)::ps)->K (.returned (.tuple ⟨[]⟩)) w'):
 Calls prog 170 ⟨[.pointer (some ⟨sb,0,none⟩),.int .i64 v,.func (.func 169) ⟨[.pointer (some ⟨cb,0,none⟩)]⟩ ⟨[]⟩]⟩ w K:=by
 refine qdc (qw.ok _ _ _ _ _ ?_)
 unfold qw
 unfold qli at hk
 simp only at hk
 have b1:=qkdb v
 refine qcd.c h ⟨_,_,_,rfl,?_⟩
 have j1:∀w,St F0 w0 w (ztA sb rb V N most (zok (qdl v).2.2 z)::ps)->qw.j1 (some ⟨sb,0,none⟩) (some ⟨cb,0,none⟩) (qdl v).1 (qdl v).2.1 (λv w'=>K (.returned v) w') w:=by
  intro w h;unfold qw.j1;have hzp:(zok (qdl v).2.2 z).1<=8*N:=by rw[qqfb];exact hp
  have hzo:(zok (qdl v).2.2 z).2.1.length<=1000000:=by rw[qln];exact hL
  generalize zok (qdl v).2.2 z=z1 at h hk hzp hzo;generalize (qdl v).1=l1 at hk b1|-
  generalize (qdl v).2.1=l2 at hk b1|-
  refine qtc.c h hN hzp λw hg h=>⟨_,rfl,?_⟩;have gl:=qyk (B:=ql V (8*N)) (z:=z1) l2;have go:=qrd (B:=ql V (8*N)) (z:=z1) l2;have ge:=qtw (B:=ql V (8*N)) (z:=z1) (n:=l2);generalize qff (ql V (8*N)) l2 z1=g at h hk hg gl go ge|-
  have pl:(2:Int)^l2.toNat<=64:=qcu (c:=64) b1.2.2 rfl;refine qm (qd (by omega) (by omega)) ?_;unfold qw.j2;refine qbf.c (ls:=dl) (cb:=cb) h hN hg λw hs h=>⟨_,rfl,?_⟩;have so:=qwi (B:=ql V (8*N)) (z:=g.2) dl;generalize qyl dl (ql V (8*N)) g.2=s at h hk hs so|-
  have b2:=qndb s.1;refine qwc.c h ⟨_,_,_,rfl,?_⟩;have j3:∀w,St F0 w0 w (ztA sb rb V N most (zok (qik s.1).2.2 s.2)::ps)->qw.j3 (some ⟨sb,0,none⟩) (l1+g.1) (qik s.1).1 (qik s.1).2.1 (λv w'=>K (.returned v) w') w:=by
   intro w h;unfold qw.j3;have hzp2:(zok (qik s.1).2.2 s.2).1<=8*N:=by rw[qqfb];exact hs
   have ho2:(zok (qik s.1).2.2 s.2).2.1=z1.2.1:=by rw[qln,so,go]
   have he2:=qnhb (ok:=(qik s.1).2.2) (z:=s.2);generalize zok (qik s.1).2.2 s.2=z4 at h hk hzp2 ho2 he2;have b2':z4.2.2=0->1<=(qik s.1).1:=λe=>b2.2.2.2 (he2 e).1;generalize (qik s.1).1=d1 at hk b2 b2'|-
   generalize (qik s.1).2.1=d2 at hk b2|-
   refine qtc.c h hN hzp2 λw hg2 h=>⟨_,rfl,?_⟩;have gl2:=qyk (B:=ql V (8*N)) (z:=z4) d2;have go2:=qrd (B:=ql V (8*N)) (z:=z4) d2;have ge2:=qtw (B:=ql V (8*N)) (z:=z4) (n:=d2);generalize qff (ql V (8*N)) d2 z4=g2 at h hk hg2 gl2 go2 ge2|-
   have pl2:(2:Int)^d2.toNat<=16384:=qcu (c:=16384) b2.2.2.1 rfl;refine qm (qd (by omega) (by omega)) ?_;have j4:∀(z5:Z) w,zcp most (d1+g2.1) (l1+g.1).toNat z5=zcp most (d1+g2.1) (l1+g.1).toNat (if(g2.2.2.1.length:Int)<d1+g2.1 then qtd 2 g2.2 else g2.2)->z5.2.1.length<=1000000->(z5.2.2=0->1<=d1+g2.1/\d1+g2.1<=(z5.2.1.length:Int))->
    St F0 w0 w (ztA sb rb V N most z5::ps)->qw.j4 (some ⟨sb,0,none⟩) (l1+g.1) (d1+g2.1) (λv w'=>K (.returned v) w') w:=by
    intro z5 w he hl5 hd5 h
    rw[<-he]at hk
    clear he
    unfold qw.j4 qw.j5
    have hn0:0<=l1+g.1:=by omega
    generalize hnn:l1+g.1=n at hk hn0|-
    have hn1:n<=2000:=by omega
    obtain⟨n,rfl⟩:∃k:Nat,n=k:=⟨n.toNat,by omega⟩
    rw[toNat_natCast]at hk
    generalize hdd:d1+g2.1=d at hk hd5|-
    have hdb:d<=200000/\0<=d:=by omega
    refine qjf (λ(a:Nat×Z) (i':Int) w'=>i'=a.1/\a.1<=n/\zcp most d (n-a.1) a.2=zcp most d n z5/\a.2.2.1.length<=1000000/\(a.2.2.2=0->1<=d/\d<=(a.2.2.1.length:Int))/\St F0 w0 w' (ztA sb rb V N most a.2::ps)) (λa=>n-a.1) (0,z5) ⟨rfl,by simp,rfl,hl5,hd5,h⟩ ?_
    clear h hl5 hd5
    rintro⟨i,p,out,err⟩ i' wL I μ ⟨rfl,hi,hz,hl5,hd5,h⟩ hin
    simp only at hi hz hl5 hd5 h hin|-
    unfold qw.b1
    have h0:=h
    obtain⟨o,h⟩:=qmv h
    simp only at h
    have hol:=h.at2.len
    rw[qk]at hol
    refine quc (λg1=>?_) (λg1=>?_)
    ·obtain⟨f,hf⟩:∃f,n-i=f+1:=⟨n-i-1,by omega⟩
     rw[hf,zcp]at hz
     refine qkd (h.fI ?_)
     refine qye (λg3=>?_) (λg3=>?_)
     ·have g3:err=0:=by simpa using g3
      subst g3
      have hd5:=hd5 rfl
      rw[if_neg (by simp)]at hz
      simp only at hz
      refine h.drewK λw h=>?_
      refine qkd (h.fL (qkd (h.fL ?_)))
      refine qm (show i64.wrap (((o.len:Nat):Int)-d)=((out.length-d.toNat:Nat):Int)by rw[qd (by omega) (by omega)];omega) ?_
      refine h.lx (s:=o) (out.length-d.toNat) rfl (by omega) ?_
      refine qcf.c (qpfb h) (by simp only;omega) λw h=>⟨rfl,?_⟩
      refine qm (qd (by omega) (by omega)) ?_
      refine⟨⟨rfl,rfl,rfl⟩,hin (i+1,zput most (out.getD (out.length-d.toNat) 0) (p,out,0)) _ _ ⟨by simp,by simp only;omega,?_,qfl _ hm hl5,?_,h⟩ (by simp only;omega)⟩
      ·simp only
       rw[show n-(i+1)=f by omega]
       exact hz
      ·intro e
       refine⟨hd5.1,?_⟩
       unfold zput
       simp only
       rw[if_neg (by simp)]
       split
       ·exact hd5.2
       ·simp only[length_append,length_singleton];omega
     ·have g3:err≠0:=by simpa using g3
      rw[if_pos g3]at hz
      rw[<-hz]at hk
      exact hk wL h0
    ·have:i=n:=by omega
     subst this
     rw[sub_self,zcp]at hz
     rw[<-hz]at hk
     exact hk wL h0
   have h0:=h;obtain⟨o,h⟩:=qmv h;have hol:=h.at2.len;rw[qk]at hol;have hgo:g2.2.2.1.length<=1000000:=by rw[go2,ho2];exact hzo
   refine qkd (h.fL ?_);refine quc (λg5=>?_) (λg5=>?_)
   ·have g5:d1+g2.1>((o.len:Nat):Int):=g5;refine qmc.c h0 λw h=>⟨rfl,?_⟩;exact j4 (qtd 2 g2.2) w (by rw[if_pos (by omega)]) hgo (λe=>absurd e (qvh (by decide))) h
   ·have g5:¬d1+g2.1>((o.len:Nat):Int):=g5;exact j4 g2.2 w (by rw[if_neg (by omega)]) hgo (λe=>⟨by have:=b2' (ge2 e);omega,by omega⟩) h0
  refine qye (λg5=>?_) (λg5=>?_)
  ·have g5:(qik s.1).2.2=false:=by simpa using g5
   refine qmc.c h λw h=>⟨rfl,?_⟩;refine j3 w ?_;rw[g5];exact h
  ·have g5:(qik s.1).2.2=true:=by simpa using g5
   refine j3 w ?_;rw[g5];exact h
 refine qye (λg5=>?_) (λg5=>?_)
 ·have g5:(qdl v).2.2=false:=by simpa using g5
  refine qmc.c h λw h=>⟨rfl,?_⟩
  refine j1 w ?_
  rw[g5];exact h
 ·have g5:(qdl v).2.2=true:=by simpa using g5
  refine j1 w ?_
  rw[g5];exact h
end
end
section
attribute [local irreducible] apK cpK mkK br
section
variable {F0:List Nat}{w0 w:World}{ps rest rest2:List As}{sb rb V N:Nat}{most:Int}{z:Z}
theorem qdtb(l:List Int)(b:List Bool):∀f n v p,0<=(hdec l b f n v p).1:=by
 intro f;induction f with
 |zero=>intro n v p;exact Int.le_refl _
 |succ f ih=>
  intro n v p;rw[hdec];split
  ·exact Int.le_refl _
  ·split
   ·exact Int.natCast_nonneg _
   ·exact ih _ _ _
theorem qgbb{B:List Bool}(ls:List Int):0<=(qyl ls B z).1:=by
 unfold qyl;split
 ·exact Int.le_refl _
 ·exact qdtb _ _ _ _ _ _
theorem qr.loop{ca cb:Nat}{ll dl:List Int}{K:Ending->World->Prop}(h:St F0 w0 w (ztA sb rb V N most z::ps))[PkF hcA ca ps ll rest][PkF hcA cb ps dl rest2](hN:N<=137438953472)(hp:z.1<=8*N)(hm:most<=1000000)(hL:z.2.1.length<=1000000)
 (hk:∀w',St F0 w0 w' (ztA sb rb V N most (qcg ll dl (ql V (8*N)) most (8*N+1) z)::ps)->K (.returned (.tuple ⟨[]⟩)) w'):
 qr.j2 (some ⟨sb,0,none⟩) (some ⟨ca,0,none⟩) (some ⟨cb,0,none⟩) (λv w'=>K (.returned v) w') w:=by
 unfold qr.j2
 have hBl:(ql (V:Int) (8*N)).length=8*N:=qq _ _
 refine loop0 (λ(a:Nat×Z) w'=>8*N-a.2.1<a.1/\a.2.1<=8*N/\a.2.2.1.length<=1000000/\qcg ll dl (ql V (8*N)) most a.1 a.2=qcg ll dl (ql V (8*N)) most (8*N+1) z/\St F0 w0 w' (ztA sb rb V N most a.2::ps)) (λa=>a.1) (8*N+1,z) ⟨by simp only;omega,hp,hL,rfl,h⟩ ?_
 clear h hp hL
 rintro⟨f,z1⟩ wL I μ ⟨hf,hp,hL,hz,h⟩ hin
 simp only at hf hp hL hz h hin|-
 unfold qr.b1
 obtain⟨f,rfl⟩:∃g,f=g+1:=⟨f-1,by omega⟩
 rw[qcg]at hz
 have h0:=h
 obtain⟨o,h⟩:=qmv h
 refine qkd (h.fI ?_)
 refine qye (λg1=>?_) (λg1=>?_)
 ·have g1:z1.2.2=0:=by simpa using g1
  rw[if_neg (by simpa using g1)]at hz
  simp only at hz
  unfold qr.j3
  refine qbf.c (ls:=ll) (cb:=ca) h0 hN hp λw hs h=>⟨_,rfl,?_⟩
  have so:=qwi (B:=ql V (8*N)) (z:=z1) ll
  have sp:(qyl ll (ql V (8*N)) z1).2.2.2=0->z1.1<(qyl ll (ql V (8*N)) z1).2.1:=by
   unfold qyl;rw[if_neg (by simpa using g1)];exact(qpcb ll (ql V (8*N)) (qcj ll 15) 1 0 z1.1 (by rw[hBl];exact hp)).2.2
  have sn:=qgbb (B:=ql V (8*N)) (z:=z1) ll
  generalize qyl ll (ql V (8*N)) z1=s at h hz hs so sp sn|-
  obtain⟨v,z2⟩:=s
  simp only at h hz hs so sp sn|-
  unfold qr.j4
  have h1:=h
  obtain⟨o,h⟩:=qmv h
  refine qkd (h.fI ?_)
  refine qye (λg2=>?_) (λg2=>?_)
  ·have g2:z2.2.2≠0:=by simpa using g2
   rw[if_pos (Or.inl g2)]at hz
   rw[<-hz]at hk
   unfold qr.j5
   exact qgp (hk w h1)
  have g2:z2.2.2=0:=by simpa using g2
  have sp:=sp g2
  unfold qr.j5
  refine qye (λg3=>?_) (λg3=>?_)
  ·rw[if_pos (Or.inr (by simpa using g3))]at hz
   rw[<-hz]at hk
   exact hk w h1
  have g3:v≠256:=by simpa using g3
  rw[if_neg (by rintro(e|e);exact e g2;exact g3 e)]at hz
  refine quc (λg4=>?_) (λg4=>?_)
  ·rw[if_pos g4]at hz
   refine qbe ?_
   rw[qmk,show v%256=v by omega]
   refine qcf.c h1 (by rw[so];omega) λw h=>⟨rfl,?_⟩
   refine⟨⟨rfl,rfl,rfl⟩,hin (f,zput most v z2) _ ⟨?_,?_,qfl _ hm (by rw[so];exact hL),?_,h⟩ (by simp only;omega)⟩
   ·simp only;rw[qjo];omega
   ·simp only;rw[qjo];exact hs
   ·exact hz
  ·rw[if_neg g4]at hz
   have hfw:=qhq (most:=most) (B:=ql V (8*N)) dl v (z:=z2) (by rw[hBl];exact hs)
   rw[zfwd,hBl]at hfw
   refine qw.c (cb:=cb) (dl:=dl) h1 hN hs hm (by rw[so];exact hL) λw h=>⟨rfl,?_⟩
   refine⟨⟨rfl,rfl,rfl⟩,hin (f,qli dl (ql V (8*N)) most v z2) _ ⟨?_,hfw.2,qgq dl v hm (by rw[so];exact hL),?_,h⟩ (by simp only;omega)⟩
   ·simp only;omega
   ·exact hz
 ·have g1:z1.2.2≠0:=by simpa using g1
  rw[if_pos g1]at hz
  rw[<-hz]at hk
  exact hk wL h0
theorem qrhb(ls:List Int):(qwh ls z).1=z.1:=by unfold qwh;split<;>rfl
theorem quq(ls:List Int):(qwh ls z).2.1=z.2.1:=by unfold qwh;split<;>rfl
theorem qcm(ls:List Int)(h:z.2.2≠0):qwh ls z=z:=by unfold qwh;rw[if_neg (λe=>h e.1)]
theorem qr.c{s t:Sl}{ll dl:List Int}{K:Ending->World->Prop}(h:St F0 w0 w (ztA sb rb V N most z::ps))[Rdb F0 w0 s ps 1 (ivs .i64 ll)][Rdb F0 w0 t ps 1 (ivs .i64 dl)](hll:256<ll.length)(hN:N<=137438953472)(hp:z.1<=8*N)(hm:most<=1000000)(hL:z.2.1.length<=1000000)
 (hk:∀w',St F0 w0 w' (ztA sb rb V N most (zblk ll dl (ql V (8*N)) most z)::ps)->K (.returned (.tuple ⟨[]⟩)) w'):
 Calls prog 158 ⟨[.pointer (some ⟨sb,0,none⟩),.slice s.a s.len s.cap,.slice t.a t.len t.cap]⟩ w K:=by
 refine qdc (qr.ok _ _ _ _ _ ?_)
 unfold qr
 unfold zblk at hk
 simp only[qq]at hk
 have j1:∀(z1:Z) w,z1=(if z.2.2=0/\ll.getD 256 0=0 then qtd 2 z else z)->St F0 w0 w (ztA sb rb V N most z1::ps)->qr.j1 (some ⟨sb,0,none⟩) s t (λv w'=>K (.returned v) w') w:=by
  intro z1 w e h;have hp1:z1.1<=8*N:=by rw[e];split;exact hp;exact hp
  have hL1:z1.2.1.length<=1000000:=by rw[e];split;exact hL;exact hL
  rw[<-e]at hk;clear e;unfold qr.j1;have bad:∀(z2:Z) w,qwh dl (qwh ll z1)=z2->z2.2.2≠0->St F0 w0 w (ztA sb rb V N most z2::ps)->∀pa pb,nz (some (⟨sb,0,none⟩:Addr)) λa19=>ldI .i64 w (Addr.add a19 3) λx20=>br ((x20:Int) !=0) (K (.returned (.tuple ⟨[]⟩)) w) (qr.j2 (some ⟨sb,0,none⟩) pa pb (λv w'=>K (.returned v) w') w):=by
   intro z2 w e h2 h pa pb;rw[e,if_pos h2]at hk;have h0:=h;obtain⟨o,h⟩:=qmv h;exact qkd (h.fI (qjh (by simpa using h2) (hk w h0)))
  refine qqd.c (s:=s) (ls:=ll) (half:=true) h (λca w e1 e2 h=>⟨_,rfl,?_⟩) (λw e1 e2 h=>⟨_,rfl,?_⟩) (λe1=>⟨_,rfl,?_⟩)
  ·have ec:qwh ll z1=z1:=by unfold qwh;rw[if_neg (λe=>e.2 e2)]
   refine qqd.c (s:=t) (ls:=dl) (half:=true) h (λcb w e1 e3 h=>⟨_,rfl,?_⟩) (λw e1 e3 h=>⟨_,rfl,?_⟩) (λe3=>absurd e1 e3)
   ·have ec2:qwh dl z1=z1:=by unfold qwh;rw[if_neg (λe=>e.2 e3)]
    rw[ec,ec2,if_neg (by simpa using e1)]at hk;have h0:=h;obtain⟨o,h⟩:=qmv h;refine qkd (h.fI (qze (by simpa using e1) ?_));exact qr.loop (ca:=ca) (cb:=cb) (ll:=ll) (dl:=dl) h0 hN hp1 hm hL1 λw h=>hk w (h.tail λ_ _ _ h=>h.drop.drop)
   ·refine bad (qtd 2 z1) w ?_ (qvh (by decide)) (h.tail λ_ _ _ h=>h.drop) _ _;rw[ec];unfold qwh;rw[if_pos ⟨e1,e3⟩]
  ·have ec:qwh ll z1=qtd 2 z1:=by unfold qwh;rw[if_pos ⟨e1,e2⟩]
   have hne:(qtd 2 z1).2.2≠0:=qvh (by decide);refine qqd.c (s:=t) (ls:=dl) (half:=true) h (λcb w e1 e3 h=>absurd e1 hne) (λw e1 e3 h=>absurd e1 hne) (λe3=>⟨_,rfl,?_⟩);exact bad _ w (by rw[ec,qcm _ hne]) hne h _ _
  ·refine qqd.c (s:=t) (ls:=dl) (half:=true) h (λcb w e2 e3 h=>absurd e2 e1) (λw e2 e3 h=>absurd e2 e1) (λe3=>⟨_,rfl,?_⟩);exact bad _ w (by rw[qcm ll e1,qcm _ e1]) e1 h _ _
 have h0:=h
 obtain⟨o,h⟩:=qmv h
 refine qkd (h.fI ?_)
 refine qye (λg=>?_) (λg=>?_)
 ·have g:z.2.2=0:=by simpa using g
  refine h.lx (s:=s) 256 rfl hll ?_
  refine qye (λg2=>?_) (λg2=>?_)
  ·refine qmc.c h0 λw h=>⟨rfl,?_⟩
   exact j1 _ w (by rw[if_pos ⟨g,by simpa using g2⟩]) h
  ·have g3:ll.getD 256 0≠0:=by intro e;rw[e]at g2;simp at g2
   exact j1 _ w (by rw[if_neg (λe=>g3 e.2)]) h0
 ·exact j1 _ w (by rw[if_neg (λe=>by simp[e.1]at g)]) h0
theorem qtqb(hm:most<=1000000){B:List Bool}:∀n (z:Z),z.2.1.length<=1000000->(zst B most n z).2.1.length<=1000000:=by
 intro n;induction n with
 |zero=>intro z h;exact h
 |succ n ih=>intro z h;rw[zst];exact ih _ (qfl _ hm (by rw[qrd];exact h))
theorem qac.c{K:Ending->World->Prop}(h:St F0 w0 w (ztA sb rb V N most z::ps))(hN:N<=137438953472)(hp:z.1<=8*N)(hm:most<=1000000)(hm0:0<=most)(hL:z.2.1.length<=1000000)
 (hk:∀w',(qck (ql V (8*N)) most z).1<=8*N->St F0 w0 w' (ztA sb rb V N most (qck (ql V (8*N)) most z)::ps)->K (.returned (.tuple ⟨[]⟩)) w'):
 Calls prog 157 ⟨[.pointer (some ⟨sb,0,none⟩)]⟩ w K:=by
 refine qdc (qac.ok _ _ _ ?_)
 unfold qac
 unfold qck at hk
 simp only at hk
 obtain⟨o,h⟩:=qmv h
 refine qkd (h.fP ?_)
 have h:St F0 w0 w (rrA rb V N z.1::qqb sb [.pointer (some ⟨rb,0,none⟩),.slice o.a o.len o.cap,.int .i64 most,.int .i64 z.2.2]::qcc 1 o (u8s z.2.1)::ps):=h.at1
 refine qlg.c h (by omega) λw h=>⟨rfl,?_⟩
 have h:St F0 w0 w (bitA rb (V,N,8*((z.1+7)/8))::qqb sb [.pointer (some ⟨rb,0,none⟩),.slice o.a o.len o.cap,.int .i64 most,.int .i64 z.2.2]::qcc 1 o (u8s z.2.1)::ps):=h
 have h:=qpfb (p:=8*((z.1+7)/8)) (out:=z.2.1) h.at1
 have hz0:(8*((z.1+7)/8),z.2.1,z.2.2).1<=8*N:=by simp only;omega
 have hz0L:((8*((z.1+7)/8),z.2.1,z.2.2):Z).2.1.length<=1000000:=hL
 generalize ((8*((z.1+7)/8),z.2.1,z.2.2):Z)=z0 at h hk hz0 hz0L
 refine qtc.c h hN hz0 λw hg h=>⟨_,rfl,?_⟩
 have gl:=qyk (B:=ql V (8*N)) (z:=z0) 16
 have go:=qrd (B:=ql V (8*N)) (z:=z0) 16
 generalize qff (ql V (8*N)) 16 z0=g at h hk hg gl go|-
 refine qtc.c h hN hg λw hg2 h=>⟨_,rfl,?_⟩
 have go2:=qrd (B:=ql V (8*N)) (z:=g.2) 16
 generalize qff (ql V (8*N)) 16 g.2=g2 at h hk hg2 go2|-
 have hgL:g2.2.2.1.length<=1000000:=by rw[go2,go];exact hz0L
 unfold qac.j1
 have h0:=h
 obtain⟨o,h⟩:=qmv h
 refine qkd (h.fI ?_)
 refine qye (λg3=>?_) (λg3=>?_)
 ·have g3:g2.2.2.2≠0:=by simpa using g3
  rw[if_pos g3]at hk
  exact hk w hg2 h0
 have g3:g2.2.2.2=0:=by simpa using g3
 rw[if_neg (by simpa using g3)]at hk
 refine qbe ?_
 refine qye (λg4=>?_) (λg4=>?_)
 ·rw[if_pos (by simpa using g4)]at hk
  exact qmc.c h0 λw h=>⟨rfl,hk w hg2 h⟩
 rw[if_neg (by simpa using g4)]at hk
 have hol:=h.at2.len
 rw[qk]at hol
 have pl:(2:Int)^(16:Int).toNat=65536:=by decide
 rw[pl]at gl
 have h00:=h0.drew
 refine h.drewK λw h=>?_
 have h0:=qpfb (p:=g2.2.1) h
 refine qkd (h.fI (qkd (h.fL ?_)))
 refine qm (qd (by simp only;omega) (by simp only;omega)) ?_
 refine quc (λg5=>?_) (λg5=>?_)
 ·have g5:g.1>most-((o.len:Nat):Int):=g5
  rw[if_pos (by omega)]at hk
  exact qmc.c h0 λw h=>⟨rfl,hk w hg2 h⟩
 have g5:¬g.1>most-((o.len:Nat):Int):=g5
 rw[if_neg (by omega)]at hk
 have h0:St F0 w0 w (ztA sb rb V N most g2.2::ps):=h0
 clear h hol g4 g5
 obtain⟨n,hn⟩:∃k:Nat,g.1=k:=⟨g.1.toNat,by omega⟩
 rw[hn]at hk gl|-
 rw[toNat_natCast]at hk
 generalize g2.2=z2 at hk h0 hg2 hgL
 unfold qac.j2
 refine qjf (λ(a:Nat×Z) (i':Int) w'=>i'=a.1/\a.1<=n/\a.2.1<=8*N/\a.2.2.1.length<=1000000/\zst (ql V (8*N)) most (n-a.1) a.2=zst (ql V (8*N)) most n z2/\St F0 w0 w' (ztA sb rb V N most a.2::ps)) (λa=>n-a.1) (0,z2) ⟨rfl,by simp,hg2,hgL,rfl,h0⟩ ?_
 clear h0 hg2 hgL
 rintro⟨i,z3⟩ i' wL I μ ⟨rfl,hi,hp3,hL3,hz,h⟩ hin
 simp only at hi hp3 hL3 hz h hin|-
 unfold qac.b1
 refine quc (λg1=>?_) (λg1=>?_)
 ·obtain⟨f,hf⟩:∃f,n-i=f+1:=⟨n-i-1,by omega⟩
  rw[hf,zst]at hz
  refine qtc.c h hN hp3 λw hg h=>⟨_,rfl,?_⟩
  have gl:=qyk (B:=ql V (8*N)) (z:=z3) 8
  have go:=qrd (B:=ql V (8*N)) (z:=z3) 8
  generalize qff (ql V (8*N)) 8 z3=g at h hz hg gl go|-
  have pl:(2:Int)^(8:Int).toNat=256:=by decide
  rw[pl]at gl
  refine qbe ?_
  rw[qmk,show g.1%256=g.1 by omega]
  refine qcf.c h (by rw[go];omega) λw h=>⟨rfl,?_⟩
  refine qm (qd (by omega) (by omega)) ?_
  refine⟨⟨rfl,rfl⟩,hin (i+1,zput most g.1 g.2) _ _ ⟨by simp,by simp only;omega,by simp only;rw[qjo];exact hg,qfl _ hm (by rw[go];exact hL3),?_,h⟩ (by simp only;omega)⟩
  simp only
  rw[show n-(i+1)=f by omega]
  exact hz
 ·have:i=n:=by omega
  subst this
  rw[sub_self,zst]at hz
  rw[<-hz]at hk
  exact hk wL hp3 h
end
end
abbrev Tk:=Int×Int×Int
def tkN(t:Tk):Nat:=if t.2.1=0 then 1 else t.2.1.toNat
def qxq(d:Int):Nat->List Int->List Int
 |0,out=>out
 |k+1,out=>qxq d k (out++[out.getD (out.length-d.toNat) 0])
def tkExp(out:List Int)(t:Tk):List Int:=if t.2.1=0 then out++[t.1]else qxq t.2.2 t.2.1.toNat out
def tkAll(most:Int):List Int->List Tk->List Int×Int
 |out,[]=>(out,0)
 |out,t::r=>if most-out.length<(tkN t:Int)then([],5)else tkAll most (tkExp out t) r
def tkK(t:Tk):Nat:=if t.2.1=0 then 1 else if t.2.1<0\/258<t.2.1 then 0 else t.2.1.toNat
theorem qwq(d:Int):∀(k:Nat) (out:List Int),(qxq d k out).length=out.length+k:=by
 intro k;induction k with
 |zero=>intro out;rfl
 |succ k ih=>intro out;rw[qxq,ih];simp;omega
inductive Makes(b:List Int):Nat->List Tk->Nat->Prop
 |nil (n:Nat):Makes b n [] n
 |lit {n m:Nat} {r:List Tk} (h:n<b.length):Makes b (n+1) r m->Makes b n ((b.getD n 0,0,0)::r) m
 |copy {n m k d:Nat} {r:List Tk} (h3:3<=k) (h258:k<=258) (hd:1<=d) (hdn:d<=n) (hdf:d<=32768) (hk:n+k<=b.length) (hs:∀j,j<k->b.getD (n-d+j) 0=b.getD (n+j) 0):
   Makes b (n+k) r m->Makes b n ((0,(k:Int),(d:Int))::r) m
theorem Makes.le{b:List Int}{n m:Nat}{l:List Tk}(h:Makes b n l m)(hn:n<=b.length):n<=m/\m<=b.length/\l.length<=m-n:=by
 induction h with
 |nil n=>exact⟨le_refl _,hn,by simp⟩
 |lit h _ ih=>have:=ih (by omega);simp only[length_cons];omega
 |copy h3 _ _ _ _ hk _ _ ih=>have:=ih hk;simp only[length_cons];omega
theorem qrt{b:List Int}{n i:Nat}(h:i<n):(b.take n).getD i 0=b.getD i 0:=by simp[getD,List.getElem?_take,h]
theorem qdi{b:List Int}{n:Nat}(h:n<b.length):b.take (n+1)=b.take n++[b.getD n 0]:=by
 rw[List.take_succ_eq_append_getElem h];simp[getD,h]
theorem qiw{b:List Int}{d:Nat}(hd:1<=d):∀(k n:Nat),d<=n->n+k<=b.length->(∀j,j<k->b.getD (n-d+j) 0=b.getD (n+j) 0)->qxq d k (b.take n)=b.take (n+k):=by
 intro k;induction k with
 |zero=>intro n _ _ _;rfl
 |succ k ih=>
  intro n hn hk hs;have hl:(b.take n).length=n:=by rw[length_take];omega
  rw[qxq,hl,toNat_natCast,qrt (by omega)];have h0:=hs 0 (by omega);rw[add_zero,add_zero]at h0;rw[h0,<-qdi (by omega),ih (n+1) (by omega) (by omega) (λj hj=>?_)]
  ·rw[show n+1+k=n+(k+1)by omega]
  ·have:=hs (j+1) (by omega);rw[show n+1-d+j=n-d+(j+1)by omega,show n+1+j=n+(j+1)by omega];exact this
theorem Makes.all{b:List Int}{n m:Nat}{l:List Tk}(h:Makes b n l m){most:Int}(hm:(b.length:Int)<=most):n<=b.length->∀r,tkAll most (b.take n) (l++r)=tkAll most (b.take m) r:=by
 induction h with
 |nil n=>intro _ r;rfl
 |@lit n m r0 h _ ih=>
  intro hn r;have e:tkN (b.getD n 0,0,0)=1:=rfl;rw[List.cons_append,tkAll,e,if_neg (by rw[length_take];omega)];have:tkExp (b.take n) (b.getD n 0,0,0)=b.take (n+1):=by unfold tkExp;rw[if_pos rfl,qdi h]
  rw[this];exact ih (by omega) r
 |@copy n m k d r0 h3 h258 hd hdn hdf hk hs _ ih=>
  intro hn r;have e:tkN (0,(k:Int),(d:Int))=k:=by unfold tkN;simp;omega
  rw[List.cons_append,tkAll,e,if_neg (by rw[length_take];omega)];have:tkExp (b.take n) (0,(k:Int),(d:Int))=b.take (n+k):=by
   unfold tkExp;rw[if_neg (by simp;omega)];exact qiw hd k n hdn hk hs
  rw[this];exact ih hk r
theorem Makes.size{b:List Int}{n m:Nat}{l:List Tk}(h:Makes b n l m):n+(l.map tkK).sum=m:=by
 induction h with
 |nil n=>rfl
 |@lit n m r0 h _ ih=>
  have e:tkK (b.getD n 0,0,0)=1:=rfl;rw[List.map_cons,List.sum_cons,e];omega
 |@copy n m k d r0 h3 h258 hd hdn hdf hk hs _ ih=>
  have e:tkK (0,(k:Int),(d:Int))=k:=by
   unfold tkK;rw[if_neg (by simp;omega),if_neg (by simp;omega)];simp
  rw[List.map_cons,List.sum_cons,e];omega
section
attribute [local irreducible] apK cpK mkK br
theorem qvi:qho.length=288:=by unfold qho;simp only[length_append,length_replicate]
theorem qweb{i:Nat}(h:i<288):qho.getD i 0=if i<144 then 8 else if i<256 then 9 else if i<280 then 7 else 8:=by
 unfold qho;rw[getD,List.getElem?_append,length_replicate];by_cases h1:i<144
 ·rw[if_pos h1,if_pos h1,getElem?_replicate,if_pos h1];rfl
 rw[if_neg h1,if_neg h1,List.getElem?_append,length_replicate];by_cases h2:i<256
 ·rw[if_pos (by omega),if_pos h2,getElem?_replicate,if_pos (by omega)];rfl
 rw[if_neg (by omega),if_neg h2,List.getElem?_append,length_replicate];by_cases h3:i<280
 ·rw[if_pos (by omega),if_pos h3,getElem?_replicate,if_pos (by omega)];rfl
 rw[if_neg (by omega),if_neg h3,getElem?_replicate,if_pos (by omega)];rfl
theorem qxj:qsj.length=32:=by unfold qsj;simp only[length_replicate]
theorem qmab{i:Nat}(h:i<32):qsj.getD i 0=5:=by
 unfold qsj;rw[getD,getElem?_replicate,if_pos h];rfl
section
variable {F0:List Nat}{w0 w:World}{ps rest rest2:List As}{sb rb V N:Nat}{most:Int}{z:Z}
theorem qeo.c{s:Sl}{cs:List Value}{K:Ending->World->Prop}(h:St F0 w0 w (rdA 1 s cs::ps))(hc:s.len<=s.cap)
 (hk:∀s':Sl,s'.len=s.len->s'.cap=s.len->St F0 w0 w (rdA 1 s' cs::ps)->K (.returned (.slice s'.a s'.len s'.cap)) w):Calls prog 21 ⟨[.slice s.a s.len s.cap]⟩ w K:=by
 refine qdc (qsf.ok _ _ _ ?_)
 unfold qsf
 refine⟨⟨by omega,by omega⟩,⟨by omega,by omega⟩,qbe ?_⟩
 refine hk ⟨_,_,_⟩ (by simp) (by simp) (h.recap ?_ (by simp))
 show qnf s.a _ 0 1=s.a
 unfold qnf
 split
 ·rfl
 ·cases s.a with
  |none=>rfl
  |some a=>simp[Addr.add]
theorem qy.c{K:Ending->World->Prop}(h:St F0 w0 w ps)
 (hk:∀s t w',s.len=288->t.len=32->St F0 w0 w' (rdA 1 s (ivs .i64 qho)::rdA 1 t (ivs .i64 qsj)::ps)->K (.returned (.tuple ⟨[.slice s.a s.len s.cap,.slice t.a t.len t.cap]⟩)) w'):Calls prog 99 ⟨[]⟩ w K:=by
 refine qdc (qy.ok _ _ ?_)
 unfold qy qy.j1 qy.j5
 have e0:qcc 1 ⟨none,0,0⟩ []=qcc 1 ⟨none,0,0⟩ (ivs .i64 (qho.take 0)):=rfl
 refine qug (λ(i:Nat) (o:Sl) (i':Int) w'=>i'=i/\i<=288/\St F0 w0 w' (qcc 1 o (ivs .i64 (qho.take i))::ps)) (λi=>288-i) 0 ⟨rfl,by omega,h.nil 1⟩ ?_
 clear h
 rintro i o i' wL I μ ⟨rfl,hi,h⟩ hin
 unfold qy.b2
 refine quc (λg=>?_) (λg=>?_)
 ·have hi2:i<288:=by omega
  have j9:∀n:Int,n=qho.getD i 0->qy.j9 o ⟨none,0,0⟩ n (i:Int) (λv w'=>K (.returned v) w') (λd' o' i' w'=>d'=⟨none,0,0⟩/\I o' i' w'/\μ o' i' w'<μ o (i:Int) wL) wL:=by
   intro n hn;unfold qy.j9;refine h.pushI (s:=o) (by rw[length_take];omega) λo2 w h=>?_;unfold qy.j7;refine qm (qd (by omega) (by omega)) ?_;rw[hn,<-qdi (by rw[qvi];exact hi2)]at h;exact⟨rfl,hin (i+1) _ _ _ ⟨by omega,by omega,h⟩ (by omega)⟩
  have hg:=qweb hi2
  unfold qy.j6 qy.j8 qy.j10
  refine quc (λg1=>?_) (λg1=>?_)
  ·rw[if_neg (by omega)]at hg
   refine quc (λg2=>?_) (λg2=>?_)
   ·exact j9 9 (by rw[hg,if_pos (by omega)])
   ·rw[if_neg (by omega)]at hg
    refine quc (λg3=>?_) (λg3=>by omega)
    refine quc (λg4=>?_) (λg4=>?_)
    ·exact j9 7 (by rw[hg,if_pos (by omega)])
    ·exact j9 8 (by rw[hg,if_neg (by omega)])
  ·rw[if_pos (by omega)]at hg
   refine qcq ?_
   refine quc (λg3=>by omega) (λg3=>?_)
   exact j9 8 hg.symm
 ·have:i=288:=by omega
  subst this
  rw[List.take_of_length_le (by rw[qvi];omega)]at h
  unfold qy.j2 qy.j4
  refine qug (λ(i:Nat) (d:Sl) (i':Int) w'=>i'=i/\i<=32/\St F0 w0 w' (qcc 1 d (ivs .i64 (qsj.take i))::qcc 1 o (ivs .i64 qho)::ps)) (λi=>32-i) 0 ⟨rfl,by omega,h.nil 1⟩ ?_
  clear h hin
  rintro i d i' wL2 I2 μ2 ⟨rfl,hi,h⟩ hin
  unfold qy.b1
  refine quc (λg=>?_) (λg=>?_)
  ·have hi2:i<32:=by omega
   refine h.pushI (s:=d) (by rw[length_take];omega) λd2 w h=>?_
   refine qm (qd (by omega) (by omega)) ?_
   rw[show(5:Int)=qsj.getD i 0 by rw[qmab hi2],<-qdi (by rw[qxj];exact hi2)]at h
   exact⟨rfl,hin (i+1) _ _ _ ⟨by omega,by omega,h⟩ (by omega)⟩
  ·have:i=32:=by omega
   subst this
   rw[List.take_of_length_le (by rw[qxj];omega)]at h
   unfold qy.j3
   have c1:=h.cap (by decide)
   have c2:=h.at1.cap (by decide)
   have l1:=h.len
   have l2:=h.at1.len
   rw[qk,qxj]at l1
   rw[qk,qvi]at l2
   refine qeo.c h.at1.ro c2 λs h1 h2 h=>⟨s,rfl,?_⟩
   refine qeo.c h.at1.ro c1 λt h3 h4 h=>⟨t,rfl,?_⟩
   exact hk s t wL2 (by omega) (by omega) h.at1
theorem qrfb{ll dl:List Int}{B:List Bool}(hm:most<=1000000):∀f (z:Z),z.2.1.length<=1000000->(qcg ll dl B most f z).2.1.length<=1000000:=by
 intro f;induction f with
 |zero=>intro z h;exact h
 |succ f ih=>
  intro z h;rw[qcg];split
  ·exact h
  ·simp only
   split
   ·rw[qwi];exact h
   ·split
    ·exact ih _ (qfl _ hm (by rw[qwi];exact h))
    ·exact ih _ (qgq dl _ hm (by rw[qwi];exact h))
end
end
section
set_option maxRecDepth 100000
def qeb.j4(lit_2 dist_4:Sl)(Q:VWP)(w:World):Prop:=Q (.tuple ⟨[sV lit_2,sV dist_4]⟩) w
def qeb.b1(lit_2 dist_4:Sl)(i_5:Int)(Q:VWP)(nx1:Sl->Sl->Int->WP)(w:World):Prop:=br (decide (i_5<32)) (ixS dist_4.a dist_4.len i_5 1 λa1=>st w a1 (.int .i64 5) λw2=>lt (i64.wrap (i_5+1)) λx3=>nx1 lit_2 dist_4 x3 w2) (qeb.j4 lit_2 dist_4 Q w)
def qeb.l1(lit_2 dist_4:Sl)(i_5:Int)(Q:VWP)(w:World):Prop:=∃(I:Int->WP) (μ:Int->World->Nat),I i_5 w/\∀i_5:Int,∀w:World,I i_5 w->qeb.b1 lit_2 dist_4 i_5 Q (λlit_2' dist_4' i_5' w'=>(lit_2'=lit_2/\dist_4'=dist_4)/\I i_5' w'/\μ i_5' w'<μ i_5 w) w
def qeb.j5(lit_2 dist_4:Sl)(i_5:Int)(Q:VWP)(w:World):Prop:=qeb.l1 lit_2 dist_4 i_5 Q w
def qeb.j3(lit_2 dist_4:Sl)(Q:VWP)(w:World):Prop:=qeb.j5 lit_2 dist_4 0 Q w
def qeb.j2(lit_2:Sl)(Q:VWP)(w:World):Prop:=mkK prog 3 w 32 32 λs4 w5=>qeb.j3 lit_2 s4 Q w5
def qeb.b2(lit_2:Sl)(i_3:Int)(Q:VWP)(nx2:Sl->Int->WP)(w:World):Prop:=br (decide (i_3<288)) (br (decide (i_3<144)) (ixS lit_2.a lit_2.len i_3 1 λa6=>st w a6 (.int .i64 8) λw7=>lt (i64.wrap (i_3+1)) λx8=>nx2 lit_2 x8 w7) (br (decide (i_3<256)) (ixS lit_2.a lit_2.len i_3 1 λa9=>st w a9 (.int .i64 9) λw10=>lt (i64.wrap (i_3+1)) λx11=>nx2 lit_2 x11 w10) (br (decide (i_3<280)) (ixS lit_2.a lit_2.len i_3 1 λa12=>st w a12 (.int .i64 7) λw13=>lt (i64.wrap (i_3+1)) λx14=>nx2 lit_2 x14 w13) (ixS lit_2.a lit_2.len i_3 1 λa15=>st w a15 (.int .i64 8) λw16=>lt (i64.wrap (i_3+1)) λx17=>nx2 lit_2 x17 w16)))) (qeb.j2 lit_2 Q w)
def qeb.l2(lit_2:Sl)(i_3:Int)(Q:VWP)(w:World):Prop:=∃(I:Int->WP) (μ:Int->World->Nat),I i_3 w/\∀i_3:Int,∀w:World,I i_3 w->qeb.b2 lit_2 i_3 Q (λlit_2' i_3' w'=>(lit_2'=lit_2)/\I i_3' w'/\μ i_3' w'<μ i_3 w) w
def qeb.j6(lit_2:Sl)(i_3:Int)(Q:VWP)(w:World):Prop:=qeb.l2 lit_2 i_3 Q w
def qeb.j1(lit_2:Sl)(Q:VWP)(w:World):Prop:=qeb.j6 lit_2 0 Q w
def qeb(Q:VWP)(w:World):Prop:=mkK prog 3 w 288 288 λs18 w19=>qeb.j1 s18 Q w19
theorem qeb.ok(Q:VWP)(w:World)(h:qeb Q w):Calls prog 110 ⟨[]⟩ w (Ret Q):=
 qhc [.tmp 0,.tmp 1] qde Tryz.func110 rfl rfl rfl rfl (.pr 1 [sL 2] (λa w=>qeb.j1 a Q w) (.sq [sL 2] (λa w=>qeb.j2 a Q w) (.sq [sL 2,sI 3] (λa b w=>qeb.j6 a b Q w) .lf (.bk (.lo [sL 2] [sI 3] (λa b w=>qeb.l2 a b Q w) (λnx2 a b w=>qeb.b2 a b Q nx2 w) λnx2=> .lf))) (.sq [sL 2,sL 4] (λa b w=>qeb.j3 a b Q w) .lf (.sq [sL 2,sL 4] (λa b w=>qeb.j4 a b Q w) (.sq [sL 2,sL 4,sI 5] (λa b c w=>qeb.j5 a b c Q w) .lf (.bk (.lo [sL 2,sL 4] [sI 5] (λa b c w=>qeb.l1 a b c Q w) (λnx1 a b c w=>qeb.b1 a b c Q nx1 w) λnx1=> .lf))) .lf)))) (by kernel_rfl) h
def qzg(sym_0:Int)(Q:VWP)(w:World):Prop:=nw w ⟨[.int .i64 3,.int .i64 4,.int .i64 5,.int .i64 6,.int .i64 7,.int .i64 8,.int .i64 9,.int .i64 10,.int .i64 11,.int .i64 13,.int .i64 15,.int .i64 17,.int .i64 19,.int .i64 23,.int .i64 27,.int .i64 31,.int .i64 35,.int .i64 43,.int .i64 51,.int .i64 59,.int .i64 67,.int .i64 83,.int .i64 99,.int .i64 115,.int .i64 131,.int .i64 163,.int .i64 195,.int .i64 227,.int .i64 258]⟩ 3 λa1 w2=>nw w2 ⟨[.int .i64 0,.int .i64 0,.int .i64 0,.int .i64 0,.int .i64 0,.int .i64 0,.int .i64 0,.int .i64 0,.int .i64 1,.int .i64 1,.int .i64 1,.int .i64 1,.int .i64 2,.int .i64 2,.int .i64 2,.int .i64 2,.int .i64 3,.int .i64 3,.int .i64 3,.int .i64 3,.int .i64 4,.int .i64 4,.int .i64 4,.int .i64 4,.int .i64 5,.int .i64 5,.int .i64 5,.int .i64 5,.int .i64 0]⟩ 3 λa3 w4=>br (decide (sym_0<257)) (Q (.tuple ⟨[.int .i64 0,.int .i64 0,.bool false]⟩) w4) (br (decide (sym_0>285)) (Q (.tuple ⟨[.int .i64 0,.int .i64 0,.bool false]⟩) w4) (lt (World.drew w4) λw5=>lt (i64.wrap (sym_0-257)) λx6=>ixS (some a1) 29 x6 1 λa7=>ldI .i64 w5 a7 λx8=>lt (i64.wrap (sym_0-257)) λx9=>ixS (some a3) 29 x9 1 λa10=>ldI .i64 w5 a10 λx11=>Q (.tuple ⟨[.int .i64 x8,.int .i64 x11,.bool true]⟩) w5))
theorem qzg.ok(sym_0:Int)(Q:VWP)(w:World)(h:qzg sym_0 Q w):Calls prog 140 ⟨[.int .i64 sym_0]⟩ w (Ret Q):=
 qhc [.tmp 2,.tmp 3,.tmp 4] qde Tryz.func140 rfl rfl rfl rfl .lf (by kernel_rfl) h
def quf(sym_0:Int)(Q:VWP)(w:World):Prop:=nw w ⟨[.int .i64 1,.int .i64 2,.int .i64 3,.int .i64 4,.int .i64 5,.int .i64 7,.int .i64 9,.int .i64 13,.int .i64 17,.int .i64 25,.int .i64 33,.int .i64 49,.int .i64 65,.int .i64 97,.int .i64 129,.int .i64 193,.int .i64 257,.int .i64 385,.int .i64 513,.int .i64 769,.int .i64 1025,.int .i64 1537,.int .i64 2049,.int .i64 3073,.int .i64 4097,.int .i64 6145,.int .i64 8193,.int .i64 12289,.int .i64 16385,.int .i64 24577]⟩ 3 λa1 w2=>nw w2 ⟨[.int .i64 0,.int .i64 0,.int .i64 0,.int .i64 0,.int .i64 1,.int .i64 1,.int .i64 2,.int .i64 2,.int .i64 3,.int .i64 3,.int .i64 4,.int .i64 4,.int .i64 5,.int .i64 5,.int .i64 6,.int .i64 6,.int .i64 7,.int .i64 7,.int .i64 8,.int .i64 8,.int .i64 9,.int .i64 9,.int .i64 10,.int .i64 10,.int .i64 11,.int .i64 11,.int .i64 12,.int .i64 12,.int .i64 13,.int .i64 13]⟩ 3 λa3 w4=>br (decide (sym_0<0)) (Q (.tuple ⟨[.int .i64 0,.int .i64 0,.bool false]⟩) w4) (br (decide (sym_0>29)) (Q (.tuple ⟨[.int .i64 0,.int .i64 0,.bool false]⟩) w4) (lt (World.drew w4) λw5=>ixS (some a1) 30 sym_0 1 λa6=>ldI .i64 w5 a6 λx7=>ixS (some a3) 30 sym_0 1 λa8=>ldI .i64 w5 a8 λx9=>Q (.tuple ⟨[.int .i64 x7,.int .i64 x9,.bool true]⟩) w5))
theorem quf.ok(sym_0:Int)(Q:VWP)(w:World)(h:quf sym_0 Q w):Calls prog 141 ⟨[.int .i64 sym_0]⟩ w (Ret Q):=
 qhc [.tmp 2,.tmp 3,.tmp 4] qde Tryz.func141 rfl rfl rfl rfl .lf (by kernel_rfl) h
end
section
attribute [local irreducible] apK cpK mkK br
def tLenB:List Int:=[3,4,5,6,7,8,9,10,11,13,15,17,19,23,27,31,35,43,51,59,67,83,99,115,131,163,195,227,258]
def tLenX:List Int:=[0,0,0,0,0,0,0,0,1,1,1,1,2,2,2,2,3,3,3,3,4,4,4,4,5,5,5,5,0]
def tDisB:List Int:=[1,2,3,4,5,7,9,13,17,25,33,49,65,97,129,193,257,385,513,769,1025,1537,2049,3073,4097,6145,8193,12289,16385,24577]
def tDisX:List Int:=[0,0,0,0,1,1,2,2,3,3,4,4,5,5,6,6,7,7,8,8,9,9,10,10,11,11,12,12,13,13]
theorem qohb{v:Int}(h0:257<=v)(h1:v<=285):qdl v=(tLenB.getD (v-257).toNat 0,tLenX.getD (v-257).toNat 0,true):=by
 have:∀k:Nat,k<29->qdl (257+(k:Int))=(tLenB.getD k 0,tLenX.getD k 0,true):=by decide
 have h:=this (v-257).toNat (by omega);rwa[show(257:Int)+((v-257).toNat:Int)=v by omega]at h
theorem qphb{v:Int}(h0:0<=v)(h1:v<=29):qik v=(tDisB.getD v.toNat 0,tDisX.getD v.toNat 0,true):=by
 have:∀k:Nat,k<30->qik (k:Int)=(tDisB.getD k 0,tDisX.getD k 0,true):=by decide
 have h:=this v.toNat (by omega);rwa[show((v.toNat:Nat):Int)=v by omega]at h
section
variable {F0:List Nat}{w0 w:World}{ps rest rest2:List As}
theorem qzg.c{v:Int}{K:Ending->World->Prop}(h:St F0 w0 w ps)(hk:∀w',St F0 w0 w' ps->K (.returned (.tuple ⟨[.int .i64 (qdl v).1,.int .i64 (qdl v).2.1,.bool (qdl v).2.2]⟩)) w'):
 Calls prog 140 ⟨[.int .i64 v]⟩ w K:=by
 refine qdc (qzg.ok _ _ _ ?_)
 unfold qzg
 refine h.new λna w h=>?_
 refine h.new λnb w h=>?_
 have h:St F0 w0 w (qqb nb (ivs .i64 tLenX)::qqb na (ivs .i64 tLenB)::ps):=h
 have no:¬(257<=v/\v<=285)->K (.returned (.tuple ⟨[.int .i64 0,.int .i64 0,.bool false]⟩)) w:=λe=>by
  have:=hk w h.drop.drop;unfold qdl at this
  rw[if_pos (by omega)]at this
  exact this
 refine quc (λg=>no (by omega)) (λg=>?_)
 refine quc (λg2=>no (by omega)) (λg2=>?_)
 have h:=h.ownB (n:=29) rfl
 have h:=h.at1.ownB (n:=29) rfl
 refine h.drewK λw h=>?_
 refine qm (qd (by omega) (by omega)) ?_
 refine h.lx (s:=⟨some ⟨na,0,none⟩,29,29⟩) (zs:=tLenB) (k:= .i64) (v-257).toNat (by omega) (by show _<29;omega) ?_
 refine qm (qd (by omega) (by omega)) ?_
 refine h.lx (s:=⟨some ⟨nb,0,none⟩,29,29⟩) (zs:=tLenX) (k:= .i64) (v-257).toNat (by omega) (by show _<29;omega) ?_
 have:=hk w h.drop.drop
 rw[qohb (by omega) (by omega)]at this
 exact this
theorem quf.c{v:Int}{K:Ending->World->Prop}(h:St F0 w0 w ps)(hk:∀w',St F0 w0 w' ps->K (.returned (.tuple ⟨[.int .i64 (qik v).1,.int .i64 (qik v).2.1,.bool (qik v).2.2]⟩)) w'):
 Calls prog 141 ⟨[.int .i64 v]⟩ w K:=by
 refine qdc (quf.ok _ _ _ ?_)
 unfold quf
 refine h.new λna w h=>?_
 refine h.new λnb w h=>?_
 have h:St F0 w0 w (qqb nb (ivs .i64 tDisX)::qqb na (ivs .i64 tDisB)::ps):=h
 have no:¬(0<=v/\v<=29)->K (.returned (.tuple ⟨[.int .i64 0,.int .i64 0,.bool false]⟩)) w:=λe=>by
  have:=hk w h.drop.drop;unfold qik at this
  rw[if_pos (by omega)]at this
  exact this
 refine quc (λg=>no (by omega)) (λg=>?_)
 refine quc (λg2=>no (by omega)) (λg2=>?_)
 have h:=h.ownB (n:=30) rfl
 have h:=h.at1.ownB (n:=30) rfl
 refine h.drewK λw h=>?_
 refine h.lx (s:=⟨some ⟨na,0,none⟩,30,30⟩) (zs:=tDisB) (k:= .i64) v.toNat (by omega) (by show _<30;omega) ?_
 refine h.lx (s:=⟨some ⟨nb,0,none⟩,30,30⟩) (zs:=tDisX) (k:= .i64) v.toNat (by omega) (by show _<30;omega) ?_
 have:=hk w h.drop.drop
 rw[qphb (by omega) (by omega)]at this
 exact this
theorem qeb.c{K:Ending->World->Prop}(h:St F0 w0 w ps)
 (hk:∀s t w',s.len=288->t.len=32->St F0 w0 w' (qcc 1 t (ivs .i64 qsj)::qcc 1 s (ivs .i64 qho)::ps)->K (.returned (.tuple ⟨[.slice s.a s.len s.cap,.slice t.a t.len t.cap]⟩)) w'):Calls prog 110 ⟨[]⟩ w K:=by
 refine qdc (qeb.ok _ _ ?_)
 unfold qeb
 have step:∀(l:List Int) (n i:Nat) (v:Int),l.length=n->i<n->v=l.getD i 0->(l.take i++replicate (n-i) (0:Int)).set i v=l.take (i+1)++replicate (n-(i+1)) 0:=by
  intro l n i v hn hi hv;rw[qdi (by omega),<-hv,List.set_append_right _ _ (by rw[length_take];omega),length_take,show i-min i l.length=0 by omega,show n-i=(n-(i+1))+1 by omega,List.replicate_succ,List.set_cons_zero,List.append_assoc];rfl
 refine h.makeI (n:=288) rfl rfl (by decide) λs w hs _ h=>?_
 unfold qeb.j1 qeb.j6
 refine qjf (λ(i:Nat) (i':Int) w'=>i'=i/\i<=288/\St F0 w0 w' (qcc 1 s (ivs .i64 (qho.take i++replicate (288-i) 0))::ps)) (λi=>288-i) 0 ⟨rfl,by omega,h⟩ ?_
 clear h
 rintro i i' wL I μ ⟨rfl,hi,h⟩ hin
 unfold qeb.b2
 refine quc (λg=>?_) (λg=>?_)
 ·have hi2:i<288:=by omega
  have hg:=qweb hi2
  have fin:∀v:Int,v=qho.getD i 0->ixS s.a s.len (i:Int) 1 λa=>Go.Proofs.YtdccpphmkfaioaaGreat.st wL a (.int .i64 v) λw=>lt (i64.wrap ((i:Int)+1)) λx=>(s=s/\I x w/\μ x w<μ (i:Int) wL):=by
   intro v hv;refine h.sx (s:=s) i rfl (by rw[length_append,length_take,length_replicate,qvi];omega) λw h=>?_;rw[step qho 288 i v qvi hi2 hv]at h;refine qm (qd (by omega) (by omega)) ?_;exact⟨rfl,hin (i+1) _ _ ⟨by omega,by omega,h⟩ (by omega)⟩
  refine quc (λg1=>?_) (λg1=>?_)
  ·exact fin 8 (by rw[hg,if_pos (by omega)])
  rw[if_neg (by omega)]at hg
  refine quc (λg2=>?_) (λg2=>?_)
  ·exact fin 9 (by rw[hg,if_pos (by omega)])
  rw[if_neg (by omega)]at hg
  refine quc (λg3=>?_) (λg3=>?_)
  ·exact fin 7 (by rw[hg,if_pos (by omega)])
  ·exact fin 8 (by rw[hg,if_neg (by omega)])
 ·have:i=288:=by omega
  subst this
  rw[List.take_of_length_le (by rw[qvi];omega),sub_self,List.replicate_zero,append_nil]at h
  unfold qeb.j2
  clear hin
  refine h.makeI (n:=32) rfl rfl (by decide) λt w ht _ h=>?_
  unfold qeb.j3 qeb.j5
  refine qjf (λ(i:Nat) (i':Int) w'=>i'=i/\i<=32/\St F0 w0 w' (qcc 1 t (ivs .i64 (qsj.take i++replicate (32-i) 0))::qcc 1 s (ivs .i64 qho)::ps)) (λi=>32-i) 0 ⟨rfl,by omega,h⟩ ?_
  clear h
  rintro i i' wL I μ ⟨rfl,hi,h⟩ hin
  unfold qeb.b1
  refine quc (λg=>?_) (λg=>?_)
  ·have hi2:i<32:=by omega
   refine h.sx (s:=t) i rfl (by rw[length_append,length_take,length_replicate,qxj];omega) λw h=>?_
   rw[step qsj 32 i 5 qxj hi2 (qmab hi2).symm]at h
   refine qm (qd (by omega) (by omega)) ?_
   exact⟨⟨rfl,rfl⟩,hin (i+1) _ _ ⟨by omega,by omega,h⟩ (by omega)⟩
  ·have:i=32:=by omega
   subst this
   rw[List.take_of_length_le (by rw[qxj];omega),sub_self,List.replicate_zero,append_nil]at h
   unfold qeb.j4
   exact hk s t wL hs ht h
end
end
section
def qhe(ls:List Int)(s:Nat):List Bool:=cbits (qpg ls s) (ls.getD s 0).toNat
theorem qhm(ls:List Int)(s:Nat):(qhe ls s).length=(ls.getD s 0).toNat:=qdp _ _
section
variable {B:List Bool}{most:Int}
theorem qae{p:Nat}{l r:List Bool}(h:B.drop p=l++r):B.drop (p+l.length)=r:=by
 rw[<-List.drop_drop,h,List.drop_left' rfl]
theorem qke{p:Nat}{l r:List Bool}(h:B.drop p=l++r):l.length<=B.length-p:=by
 have:=congrArg List.length h;rw[length_drop,length_append]at this
 omega
theorem qdk{p:Nat}{l r:List Bool}{out:List Int}{n:Int}(h:B.drop p=l++r)(hn:n=l.length)(hl:l.length<=24)(hp:p<=B.length):qff B n (p,out,0)=((val l:Int),(p+l.length,out,0)):=by
 have:=qke h;unfold qff;rw[if_neg (by simp),if_pos (by simp only;omega),h,hn,toNat_natCast,take_left' rfl]
theorem qsqb{ls:List Int}{p s:Nat}{r:List Bool}{out:List Int}(hok:okL ls)(hkr:kr ls<=32768)(hs:s<ls.length)(h0:0<ls.getD s 0)(h:B.drop p=qhe ls s++r):qyl ls B (p,out,0)=((s:Int),(p+(qhe ls s).length,out,0)):=by
 have hm:ls.getD s 0=(((ls.getD s 0).toNat:Nat):Int):=by omega
 have h1:=qngb hok hs hm (by omega) (b:=B) (p:=p) (by rw[h];exact take_left' (qhm ls s)) (qcw hok hkr hs hm (by omega));unfold qyl;rw[if_neg (by simp),h1,qhm]
theorem qjmb(p:Nat)(d:Int):∀(n:Nat) (out:List Int),(out.length+n:Int)<=most->zcp most d n (p,out,0)=(p,qxq d n out,0):=by
 intro n;induction n with
 |zero=>intro out _;rfl
 |succ n ih=>
  intro out h;rw[zcp,if_neg (by simp),qxq];simp only
  unfold zput;rw[if_neg (by simp),if_neg (by simp only;omega)];simp only
  exact ih _ (by rw[length_append,length_singleton];omega)
theorem qibb(d:Int)(n:Nat){z:Z}(h:z.2.2≠0):zcp most d n z=z:=by
 cases n with
 |zero=>rfl
 |succ n=>rw[zcp,if_pos h]
theorem qqhb(p:Nat)(d:Int):∀(n:Nat) (out:List Int),(out.length:Int)<=most->most<(out.length+n:Int)->(zcp most d n (p,out,0)).2.2=5:=by
 intro n;induction n with
 |zero=>intro out h1 h2;omega
 |succ n ih=>
  intro out h1 h2;rw[zcp,if_neg (by simp)];simp only
  unfold zput;rw[if_neg (by simp)];by_cases h3:most<=(out.length:Int)
  ·rw[if_pos h3,qibb _ _ (by simp)]
  ·rw[if_neg h3];simp only
   exact ih _ (by rw[length_append,length_singleton];omega) (by rw[length_append,length_singleton];omega)
def symP(v:Int)(dist:Bool)(n e x:Int):Prop:=(dist=true/\0<=n/\n<30/\∃b,qik n=(b,x,true)/\e=v-b/\b<=v/\v<b+2^x.toNat/\0<=x)\/(dist=false/\257<=n/\n<=285/\∃b,qdl n=(b,x,true)/\e=v-b/\b<=v/\v<b+2^x.toNat/\0<=x)
theorem qci{e x:Int}(h0:0<=e)(h1:e<2^x.toNat):((val (ql e x.toNat):Nat):Int)=e:=by
 rw[qvm];exact Int.emod_eq_of_lt h0 h1
theorem qkpb(v:Int):(qdl v).2.1<=6:=by
 have:=(qkdb v).2.2;omega
theorem qmpb(v:Int):(qik v).2.1<=14:=by
 have:=(qndb v).2.2.1;omega
theorem qvs{n s e x:Int}(h:symP n false s e x):257<=s/\s<=285:=by
 rcases h with⟨h1,_⟩|⟨_,h1,h2,_⟩
 ·cases h1
 ·exact⟨h1,h2⟩
end
end
section
open Go Go.ChangeShapes Go.WideShapes Go.ChangeAt Go.RowKit
set_option maxRecDepth 100000
theorem qqz (rest : List (List Char)) : stripLifts liftWords ("cut".toList :: rest) = ([], "cut".toList :: rest) := by rfl
theorem qtsb (P : Program) (rest : List (List Char)) (h : behindMainWord (wordsSigns P.initOrder.toList) = "cut".toList :: rest) : P.make = some .cut := by
 unfold Program.make;rw[h];rfl
theorem qcob (P : Program) (rest : List (List Char)) (h : behindMainWord (wordsSigns P.initOrder.toList) = "cut".toList :: rest) : P.liftsFinal = false := by
 unfold Program.liftsFinal Program.headLifts;rw[h,qqz];rfl
theorem qsob (P : Program) (rest : List (List Char)) (h : behindMainWord (wordsSigns P.initOrder.toList) = "cut".toList :: rest) (h1 : P.laysLater = false) (h2 : P.bearsReflect = false) (h3 : P.doorRows = []) : P.mayEnter = true := by
 unfold Program.mayEnter;rw[h];simp only[qqz,h1,h2];unfold Program.doorFits;rw[h3];rfl
theorem joined_of{P:Program}{f:FuncId}{fn:Func}{s:ChangeSpec}{c:OpenClaim}
 (k1:c.wf (OpenSpec.ofChange s)=true) (k2:laidOutB P=true) (k3:mapsRowed P=true) (k4:fn.params.all (P.readableRec ·)=true) (k5:namedTie P c.named s.vars=true)
 (k6:(c.stops==[])=true) (k7:(P.stops==[])=true) (k8:(c.knobs==[])=true) (k9:(P.stopKnobs==[])=true)
 (k10:(c.inPlace==P.inPlace f)=true) (k11:(c.unfollowed==P.unfollowed f)=true) (k12:(c.recurses==P.recurses f)=true) (k13:(c.named==P.varsNamed f)=true)
 (k14:(c.maps==(fn.params.toList++s.plain.varTypes P).any (P.mapsRec ·))=true) (k15:(c.ifaces==(fn.params.toList++s.plain.varTypes P).any (P.ifacesRec ·))=true) (k16:(c.mapsOut==P.mapsAmong fn.resultTypes.toList)=true)
 (k17:(c.loops==(fn.params.toList++s.plain.varTypes P).any (P.loopsFrom ·))=true) (k18:(c.wideKeys==(fn.params.toList++s.plain.varTypes P++fn.resultTypes.toList).any (P.wideKeysFrom ·))=true)
 (k19:s.vars.all (P.varReadable ·)=true) (k20:fn.resultTypes.all (λt=>P.readableRec t&&decide (t<P.types.size))=true) (k21:(c.ifacesOut==fn.resultTypes.toList.any (P.ifacesRec ·))=true) (k22:(c.loopsOut==fn.resultTypes.toList.any (P.loopsFrom ·))=true)
 (k23:(c.plainKeys==P.plainKeys)=true) (k24:c.shortTexts.isNone=true) (k25:P.stopsHeard=true) (k26:P.mayEnter=true) (k27:(c.lifted==P.liftsFinal)=true) (k28:(P.make==some c.make)=true)
 (k29:(c.kinds==(if c.domain.isEmpty then[]else fn.params.toList.map λt=>match P.underlying t with|some (.int k)=>some k|_=>none))=true) (k30:(c.pinned==c.pinnedBy)=true)
 (k31:(c.veiled==(fn.params.toList++s.plain.varTypes P++fn.resultTypes.toList).any (P.veiledRec ·))=true) (k32:c.veiledFits P fn.params.toList (fn.params.toList++s.plain.varTypes P++fn.resultTypes.toList)=true):joinedFacts P f fn s c=true:=by
 unfold joinedFacts
 rw[k1,k2,k3,k4,k5,k6,k7,k8,k9,k10,k11,k12,k13,k14,k15,k16,k17,k18,k19,k20,k21,k22,k23,k24,k25,k26,k27,k28,k30,k31,k32]
 simp only[Bool.true_and,Bool.and_true]
 exact k29
theorem qctb{α:Type}{a:α}{l:List α}(h:l.head?=some a):∃r,l=a::r:=by
 cases l with
 |nil=>cases h
 |cons b r=>simp at h;subst h;exact⟨r,rfl⟩
theorem qatb:prog.initOrder=String.ofList (List.map Char.ofNat [104,97,114,110,101,115,115,32,99,52,101,102,53,101,54,50,56,97,53,100,98,98,48,98,52,57,101,50,51,57,102,56,56,52,102,102,57,102,57,50,52,53,54,53,102,54,98,98,98,51,51,55,52,50,54,57,55,51,102,50,98,54,55,49,100,55,102,51,55,50,102,100,32,99,117,116,32,97,116,32,116,114,111,118,101,47,116,114,111,118,101,108,97,119,49,53,46,80,97,99,107,66,97,99,107,32,116,114,111,118,101,47,116,114,111,118,101,108,97,119,49,53,46,80,97,99,107,67,111,117,110,116,115]):=by kernel_rfl
theorem qyr : ∃ rest, behindMainWord (wordsSigns prog.initOrder.toList) = "cut".toList :: rest := by
 rw[qatb,String.toList_ofList];exact qctb (by kernel_rfl)
theorem f_make:prog.make=some .cut:=by
 obtain⟨r,h⟩:=qyr;exact qtsb _ r h
theorem f_lifts:prog.liftsFinal=false:=by
 obtain⟨r,h⟩:=qyr;exact qcob _ r h
theorem qgtb:prog.laysLater=false:=by kernel_rfl
theorem f_refl:prog.bearsReflect=false:=by kernel_rfl
theorem qhtb:prog.doorRows=[]:=by kernel_rfl
theorem f_enter:prog.mayEnter=true:=by
 obtain⟨r,h⟩:=qyr;exact qsob _ r h qgtb f_refl qhtb
theorem f_laid:laidOutB prog=true:=by kernel_rfl
theorem f_maps:mapsRowed prog=true:=by kernel_rfl
theorem f_stops:(prog.stops==[])=true:=by kernel_rfl
theorem f_knobs:(prog.stopKnobs==[])=true:=by kernel_rfl
theorem f_heard:prog.stopsHeard=true:=by kernel_rfl
theorem f_own:ownKnob prog.godebug=none:=by kernel_rfl
end
section
open Go Go.Proofs Go.ChangeShapes Go.WideShapes Go.MapKept Go.Maps
theorem qjgb{P:Program}(hl:laidOutB P=true){m:Nat}(hm:m+1<=10000){k:TypeId}(hrow:k<P.types.size)(hk:P.keyTypeAt m k=true)(hwide:(match P.underlying k with|some (.array _ _)|some (.struct _)=>true|_=>false)=true):Keyed P k:=
 Keyed.of_law (deep_law_laid hl hm hrow hk hwide)
def kvs(es:Array MapEntry):List (Value×Value):=es.toList.map λe=>(e.key,e.val)
section
variable {P:Program}{w:World}{k e t:TypeId}{b:Nat}{es:Array MapEntry}{clock:Nat}
theorem qznb(K:Keyed P k)(ht:P.underlying t=some (.map k e))(hb:w.heap[b]?=some (.map es clock))(hks:∀p∈kvs es,∃l,keyOf P k p.1=some l){z key:Value}(c:Bool)(hz:(zeroValue e).run P w= .ok z w)(hkey:∃l,keyOf P k key=some l):
 ((Instr.lookup t (.map (some b)) key c).run P w= .ok (if c then .tuple #[z,.bool false]else z) w/\∀p∈kvs es,p.1≠key)\/
 ∃(j:Nat) (p:Value×Value),(kvs es)[j]?=some p/\p.1=key/\(Instr.lookup t (.map (some b)) key c).run P w= .ok (if c then .tuple #[p.2,.bool true]else p.2) w:=by
 obtain⟨l,hkey⟩:=hkey
 have hks':∀x∈es.toList,∃l,keyOf P k x.key=some l:=λx hx=>hks (x.key,x.val) (mem_map.2 ⟨x,hx,rfl⟩)
 rcases K.find w hkey es.toList hks' with⟨h1,h2⟩|⟨j,e0,h1,h2,h3⟩
 ·refine Or.inl ⟨by simp[Instr.lookup,qz ht,MapKept.run_getObj_map hb,K.check w _ hkey,h1,hz,Result.andThen],λp hp=>?_⟩
  obtain⟨x,hx,rfl⟩:=mem_map.1 hp
  exact h2 x hx
 ·refine Or.inr ⟨j,(e0.key,e0.val),?_,h3,by simp[Instr.lookup,qz ht,MapKept.run_getObj_map hb,K.check w _ hkey,h1,Result.andThen]⟩
  unfold kvs
  rw[getElem?_map,h2]
  rfl
theorem map_set(K:Keyed P k)(ht:P.underlying t=some (.map k e))(hb:w.heap[b]?=some (.map es clock))(hks:∀p∈kvs es,∃l,keyOf P k p.1=some l){key val:Value}(hkey:∃l,keyOf P k key=some l):
 ∃es' clock',(Instr.mapUpdate t (.map (some b)) key val).run P w= .ok () {w with heap:=w.heap.setIfInBounds b (.map es' clock')}/\
  ((kvs es'=kvs es++[(key,val)]/\∀p∈kvs es,p.1≠key)\/∃(j:Nat) (p:Value×Value),(kvs es)[j]?=some p/\p.1=key/\kvs es'=(kvs es).set j (key,val)):=by
 obtain⟨l,hkey⟩:=hkey
 have hks':∀x∈es.toList,∃l,keyOf P k x.key=some l:=λx hx=>hks (x.key,x.val) (mem_map.2 ⟨x,hx,rfl⟩)
 rcases K.find w hkey es.toList hks' with⟨h1,h2⟩|⟨j,e0,h1,h2,h3⟩
 ·refine⟨es.push ⟨key,val,clock⟩,clock+1,?_,Or.inl ⟨by simp[kvs],λp hp=>?_⟩⟩
  ·simp[Instr.mapUpdate,qz ht,MapKept.run_getObj_map hb,K.check w false hkey,h1,MapKept.run_setObj_map _ hb,Result.andThen]
  ·obtain⟨x,hx,rfl⟩:=mem_map.1 hp
   exact h2 x hx
 ·have hj:es[j]?=some e0:=by simpa using h2
  refine⟨es.modify j λe=>{e with key,val},clock,?_,Or.inr ⟨j,(e0.key,e0.val),?_,h3,?_⟩⟩
  ·simp[Instr.mapUpdate,qz ht,MapKept.run_getObj_map hb,K.check w false hkey,h1,hj,h3,K.stays w hkey,MapKept.run_setObj_map _ hb,Result.andThen]
  ·unfold kvs
   rw[getElem?_map,h2]
   rfl
  ·unfold kvs
   apply List.ext_getElem?
   intro i
   simp only[getElem?_map,Array.getElem?_toList,Array.getElem?_modify,getElem?_set,List.length_map,Array.length_toList]
   by_cases hij:j=i
   ·subst hij
    have hlt:j<es.size:=(Array.getElem?_eq_some_iff.1 hj).1
    simp[hj,hlt]
   ·simp[hij]
theorem qynb(w:World)(ht:True):(Instr.makeMap t none).run P w= .ok (.map (some w.heap.size)) (w.alloc (.map #[] 0)):=by
 simp[Instr.makeMap,newObj,Sem.run,Result.andThen]
end
def mpA(b:Nat)(kv:List (Value×Value)):As where
 hd w F:=(∃es clock,w.heap[b]?=some (.map es clock)/\kvs es=kv)/\F=[b]
 keep:=by
  rintro w w' F G ⟨⟨es,c,h,e⟩,rfl⟩ m hd
  have hl:b<w.heap.size:=(Array.getElem?_eq_some_iff.1 h).1
  exact⟨⟨es,c,by rw[m.frame b hl (hd b (by simp))];exact h,e⟩,rfl⟩
 lt:=by
  rintro w F ⟨⟨es,c,h,e⟩,rfl⟩ x hx
  have:x=b:=by simpa using hx
  subst this
  exact(Array.getElem?_eq_some_iff.1 h).1
section
variable {F0:List Nat}{w0 w:World}{ps rest:List As}{P:Program}{k e t:TypeId}{b:Nat}{kv:List (Value×Value)}
theorem St.mget(h:St F0 w0 w (mpA b kv::ps)):∃es clock,w.heap[b]?=some (.map es clock)/\kvs es=kv:=by
 obtain⟨F,h,_⟩:=h.get;exact h
theorem St.mlook(h:St F0 w0 w (mpA b kv::ps))(K:Keyed P k)(ht:P.underlying t=some (.map k e))(hks:∀p∈kv,∃l,keyOf P k p.1=some l){z key:Value}(c:Bool)(hz:(zeroValue e).run P w= .ok z w)(hkey:∃l,keyOf P k key=some l):
 (lkR P t (.map (some b)) key c w (if c then .tuple #[z,.bool false]else z)/\∀p∈kv,p.1≠key)\/
 ∃(j:Nat) (p:Value×Value),kv[j]?=some p/\p.1=key/\lkR P t (.map (some b)) key c w (if c then .tuple #[p.2,.bool true]else p.2):=by
 obtain⟨es,clock,hb,rfl⟩:=h.mget
 exact qznb K ht hb hks c hz hkey
theorem St.mset{key val:Value}{X:World->Prop}(h:St F0 w0 w (mpA b kv::ps))(K:Keyed P k)(ht:P.underlying t=some (.map k e))(hks:∀p∈kv,∃l,keyOf P k p.1=some l)(hkey:∃l,keyOf P k key=some l)
 (hk:∀kv' w',St F0 w0 w' (mpA b kv'::ps)->((kv'=kv++[(key,val)]/\∀p∈kv,p.1≠key)\/∃(j:Nat) (p:Value×Value),kv[j]?=some p/\p.1=key/\kv'=kv.set j (key,val))->X w'):
 ∃w',muR P t (.map (some b)) key val w w'/\X w':=by
 obtain⟨f,⟨⟨es,clock,hb,rfl⟩,rfl⟩,hst⟩:=h.step
 obtain⟨es',clock',h1,h2⟩:=map_set (val:=val) K ht hb hks hkey
 refine⟨_,h1,hk (kvs es') _ (hst _ [b] _ ⟨rfl,rfl,rfl,by simp,λx hx hF=>?_⟩ (Gr.refl _ _) ⟨⟨es',clock',?_,rfl⟩,rfl⟩) h2⟩
 ·simp only[Array.getElem?_setIfInBounds]
  rw[if_neg (λe=>hF (by simp[e]))]
 ·have hl:b<w.heap.size:=(Array.getElem?_eq_some_iff.1 hb).1
  simp[Array.getElem?_setIfInBounds,hl]
theorem St.mmake{X:Nat->World->Prop}(h:St F0 w0 w ps)(hk:∀mb w',St F0 w0 w' (mpA mb []::ps)->X mb w'):∃n:Nat,∃w':World,mmR P t none w n w'/\X n w':=by
 refine⟨_,_,qynb w trivial,hk _ _ (h.add (f':=[w.heap.size]) (Mod.alloc w _) ⟨⟨#[],0,?_,rfl⟩,rfl⟩ ?_)⟩
 ·show(w.heap.push _)[w.heap.size]?=_;rw[Array.getElem?_push_size]
 ·intro x hx;have:x=w.heap.size:=by simpa using hx
  exact Or.inr (by omega)
end
end
section
set_option maxRecDepth 100000
def qef(f_0:OAd)(at_1:Int)(Q:VWP)(w:World):Prop:=nw w (zc prog 183) 183 λa1 w2=>nz f_0 λa3=>ldL w2 (Addr.add a3 0) λx4=>bd at_1 x4.len λn5=>lt (⟨qnf x4.a x4.cap n5 1,x4.len-n5,x4.cap-n5⟩:Sl) λs6=>3<=s6.len/\nz s6.a λa7=>ldA w2 a7 3 λc8=>(c8).size=3/\stA w2 a1 c8 λw9=>ldA w9 a1 3 λc10=>Q (.agg c10) w9
theorem qef.ok(f_0:OAd)(at_1:Int)(Q:VWP)(w:World)(h:qef f_0 at_1 Q w):Calls prog 121 ⟨[.pointer f_0,.int .i64 at_1]⟩ w (Ret Q):=
 qhc [.cell 4 183] qde Tryz.func121 rfl rfl rfl rfl .lf (by kernel_rfl) h
def qed.j2(f_0:OAd)(at_1:Int)(Q:VWP)(w:World):Prop:=lt (World.drew w) λw1=>nz f_0 λa2=>(ldM w1 (Addr.add a2 1) λx3=>qgv 121 [.pointer f_0,.int .i64 at_1] w1 λr6 w5=>∃w7:World,muR prog 150 (.map x3) (.agg r6) (.int .i64 at_1) w5 w7/\Q (.tuple ⟨[]⟩) w7)/\(qgv 121 [.pointer f_0,.int .i64 at_1] w1 λr10 w9=>ldM w9 (Addr.add a2 1) λx11=>∃w12:World,muR prog 150 (.map x11) (.agg r10) (.int .i64 at_1) w9 w12/\Q (.tuple ⟨[]⟩) w12)
def qed.j3(f_0:OAd)(at_1:Int)(i_4:Int)(is_5:Bool)(Q:VWP)(w:World):Prop:=br is_5 (nz f_0 λa13=>ldL w (Addr.add a13 2) λx14=>ixS x14.a x14.len at_1 1 λa15=>st w a15 (.int .i64 i_4) λw16=>qed.j2 f_0 at_1 Q w16) (qed.j2 f_0 at_1 Q w)
def qed.j1(f_0:OAd)(at_1:Int)(Q:VWP)(w:World):Prop:=lt (World.drew w) λw17=>nz f_0 λa18=>(ldM w17 (Addr.add a18 1) λx19=>qgv 121 [.pointer f_0,.int .i64 at_1] w17 λr22 w21=>∃r23:Int,∃r24:Bool,lkR prog 150 (.map x19) (.agg r22) true w21 (.tuple ⟨[.int .i64 r23,.bool r24]⟩)/\qed.j3 f_0 at_1 r23 r24 Q w21)/\(qgv 121 [.pointer f_0,.int .i64 at_1] w17 λr27 w26=>ldM w26 (Addr.add a18 1) λx28=>∃r29:Int,∃r30:Bool,lkR prog 150 (.map x28) (.agg r27) true w26 (.tuple ⟨[.int .i64 r29,.bool r30]⟩)/\qed.j3 f_0 at_1 r29 r30 Q w26)
def qed(f_0:OAd)(at_1:Int)(Q:VWP)(w:World):Prop:=nz f_0 λa31=>ldL w (Addr.add a31 2) λx32=>nw w ⟨[.int .i64 (-1)]⟩ 3 λa33 w34=>rdO w34 (some a33) (1*1) λc35=>apK prog 3 w34 x32.a x32.len x32.cap 1 c35 λs36 w37=>nz f_0 λa38=>st w37 (Addr.add a38 2) (sV s36) λw39=>lt (i64.wrap (at_1+3)) λx40=>nz f_0 λa41=>ldL w39 (Addr.add a41 0) λx42=>br (decide (x40>(x42.len:Int))) (Q (.tuple ⟨[]⟩) w39) (qed.j1 f_0 at_1 Q w39)
theorem qed.ok(f_0:OAd)(at_1:Int)(Q:VWP)(w:World)(h:qed f_0 at_1 Q w):Calls prog 92 ⟨[.pointer f_0,.int .i64 at_1]⟩ w (Ret Q):=
 qhc [] qde Tryz.func92 rfl rfl rfl rfl (.pr 1 [sP 0,sI 1] (λa b w=>qed.j1 a b Q w) (.sq [sP 0,sI 1] (λa b w=>qed.j2 a b Q w) (.sq [sP 0,sI 1,sI 4,sB 5] (λa b c d w=>qed.j3 a b c d Q w) .lf .lf) .lf)) (by kernel_rfl) h
def qyc.j2(n_7:Int)(Q:VWP)(w:World):Prop:=Q (.int .i64 n_7) w
def qyc.b1(f_0:OAd)(i_1:Int)(k_2 n_7:Int)(Q:VWP)(nx1:OAd->Int->Int->Int->WP)(w:World):Prop:=lt (World.drew w) λw1=>br (decide (n_7<258)) (lt (i64.wrap (k_2+n_7)) λx2=>nz f_0 λa3=>ldL w1 (Addr.add a3 0) λx4=>br (decide (x2<(x4.len:Int))) (nz f_0 λa5=>ldL w1 (Addr.add a5 0) λx6=>lt (i64.wrap (i_1+n_7)) λx7=>ixS x6.a x6.len x7 1 λa8=>ldI .u8 w1 a8 λx9=>nz f_0 λa10=>ldL w1 (Addr.add a10 0) λx11=>lt (i64.wrap (k_2+n_7)) λx12=>ixS x11.a x11.len x12 1 λa13=>ldI .u8 w1 a13 λx14=>br (x9==x14) (lt (i64.wrap (n_7+1)) λx15=>nx1 f_0 i_1 k_2 x15 w1) (qyc.j2 n_7 Q w1)) (qyc.j2 n_7 Q w1)) (qyc.j2 n_7 Q w1)
def qyc.l1(f_0:OAd)(i_1:Int)(k_2 n_7:Int)(Q:VWP)(w:World):Prop:=∃(I:Int->WP) (μ:Int->World->Nat),I n_7 w/\∀n_7:Int,∀w:World,I n_7 w->qyc.b1 f_0 i_1 k_2 n_7 Q (λf_0' i_1' k_2' n_7' w'=>(f_0'=f_0/\i_1'=i_1/\k_2'=k_2)/\I n_7' w'/\μ n_7' w'<μ n_7 w) w
def qyc.j1(f_0:OAd)(i_1:Int)(k_2 n_7:Int)(Q:VWP)(w:World):Prop:=qyc.l1 f_0 i_1 k_2 n_7 Q w
def qyc(f_0:OAd)(i_1:Int)(k_2:Int)(Q:VWP)(w:World):Prop:=qyc.j1 f_0 i_1 k_2 0 Q w
theorem qyc.ok(f_0:OAd)(i_1:Int)(k_2:Int)(Q:VWP)(w:World)(h:qyc f_0 i_1 k_2 Q w):Calls prog 122 ⟨[.pointer f_0,.int .i64 i_1,.int .i64 k_2]⟩ w (Ret Q):=
 qhc [.tmp 6] qde Tryz.func122 rfl rfl rfl rfl (.pr 1 [sP 0,sI 1,sI 2,sI 7] (λa b c d w=>qyc.j1 a b c d Q w) (.sq [sI 7] (λa w=>qyc.j2 a Q w) (.bk (.lo [sP 0,sI 1,sI 2] [sI 7] (λa b c d w=>qyc.l1 a b c d Q w) (λnx1 a b c d w=>qyc.b1 a b c d Q nx1 w) λnx1=> .lf)) .lf)) (by kernel_rfl) h
def qjb.j3(length_6 dist_7:Int)(Q:VWP)(w:World):Prop:=Q (.tuple ⟨[.int .i64 length_6,.int .i64 dist_7]⟩) w
def qjb.j5(f_0:OAd)(at_1:Int)(looks_2 length_6 dist_7 i_8:Int)(is_9:Bool)(Q:VWP)(nx1:OAd->Int->Bool->Int->Int->Int->Int->WP)(w:World):Prop:=lt (i64.wrap (looks_2-1)) λx1=>nx1 f_0 at_1 is_9 x1 length_6 dist_7 i_8 w
def qjb.j6(f_0:OAd)(at_1:Int)(looks_2 length_6 dist_7 i_8:Int)(is_9:Bool)(Q:VWP)(nx1:OAd->Int->Bool->Int->Int->Int->Int->WP)(w:World):Prop:=nz f_0 λa2=>ldL w (Addr.add a2 2) λx3=>ixS x3.a x3.len i_8 1 λa4=>ldI .i64 w a4 λx5=>br (decide (x5<0)) (qjb.j3 length_6 dist_7 Q w) (br (length_6==258) (qjb.j3 length_6 dist_7 Q w) (qjb.j5 f_0 at_1 looks_2 length_6 dist_7 x5 is_9 Q nx1 w))
def qjb.j4(f_0:OAd)(at_1:Int)(looks_2 length_6 dist_7 i_8:Int)(is_9:Bool)(Q:VWP)(nx1:OAd->Int->Bool->Int->Int->Int->Int->WP)(w:World):Prop:=qbk 122 [.pointer f_0,.int .i64 i_8,.int .i64 at_1] w λr8 w7=>br (decide (r8>length_6)) (lt (i64.wrap (at_1-i_8)) λx9=>qjb.j6 f_0 at_1 looks_2 r8 x9 i_8 is_9 Q nx1 w7) (qjb.j6 f_0 at_1 looks_2 length_6 dist_7 i_8 is_9 Q nx1 w7)
def qjb.b1(f_0:OAd)(at_1:Int)(is_9:Bool)(looks_2:Int)(length_6 dist_7 i_8:Int)(Q:VWP)(nx1:OAd->Int->Bool->Int->Int->Int->Int->WP)(w:World):Prop:=br is_9 (br (decide (looks_2>0)) (lt (i64.wrap (at_1-i_8)) λx10=>br (decide (x10<=32768)) (qjb.j4 f_0 at_1 looks_2 length_6 dist_7 i_8 is_9 Q nx1 w) (qjb.j3 length_6 dist_7 Q w)) (qjb.j3 length_6 dist_7 Q w)) (qjb.j3 length_6 dist_7 Q w)
def qjb.l1(f_0:OAd)(at_1:Int)(is_9:Bool)(looks_2:Int)(length_6 dist_7 i_8:Int)(Q:VWP)(w:World):Prop:=∃(I:Int->Int->Int->Int->WP) (μ:Int->Int->Int->Int->World->Nat),I looks_2 length_6 dist_7 i_8 w/\∀looks_2:Int,∀length_6:Int,∀dist_7:Int,∀i_8:Int,∀w:World,I looks_2 length_6 dist_7 i_8 w->qjb.b1 f_0 at_1 is_9 looks_2 length_6 dist_7 i_8 Q (λf_0' at_1' is_9' looks_2' length_6' dist_7' i_8' w'=>(f_0'=f_0/\at_1'=at_1/\is_9'=is_9)/\I looks_2' length_6' dist_7' i_8' w'/\μ looks_2' length_6' dist_7' i_8' w'<μ looks_2 length_6 dist_7 i_8 w) w
def qjb.j2(f_0:OAd)(at_1:Int)(looks_2 length_6 dist_7 i_8:Int)(is_9:Bool)(Q:VWP)(w:World):Prop:=qjb.l1 f_0 at_1 is_9 looks_2 length_6 dist_7 i_8 Q w
def qjb.j1(f_0:OAd)(at_1:Int)(looks_2 length_6 dist_7:Int)(Q:VWP)(w:World):Prop:=lt (i64.wrap (at_1+3)) λx11=>nz f_0 λa12=>ldL w (Addr.add a12 0) λx13=>br (decide (x11>(x13.len:Int))) (Q (.tuple ⟨[.int .i64 0,.int .i64 0]⟩) w) (lt (World.drew w) λw14=>nz f_0 λa15=>(ldM w14 (Addr.add a15 1) λx16=>qgv 121 [.pointer f_0,.int .i64 at_1] w14 λr19 w18=>∃r20:Int,∃r21:Bool,lkR prog 150 (.map x16) (.agg r19) true w18 (.tuple ⟨[.int .i64 r20,.bool r21]⟩)/\qjb.j2 f_0 at_1 looks_2 length_6 dist_7 r20 r21 Q w18)/\(qgv 121 [.pointer f_0,.int .i64 at_1] w14 λr24 w23=>ldM w23 (Addr.add a15 1) λx25=>∃r26:Int,∃r27:Bool,lkR prog 150 (.map x25) (.agg r24) true w23 (.tuple ⟨[.int .i64 r26,.bool r27]⟩)/\qjb.j2 f_0 at_1 looks_2 length_6 dist_7 r26 r27 Q w23))
def qjb(f_0:OAd)(at_1:Int)(looks_2:Int)(Q:VWP)(w:World):Prop:=qjb.j1 f_0 at_1 looks_2 0 0 Q w
theorem qjb.ok(f_0:OAd)(at_1:Int)(looks_2:Int)(Q:VWP)(w:World)(h:qjb f_0 at_1 looks_2 Q w):Calls prog 91 ⟨[.pointer f_0,.int .i64 at_1,.int .i64 looks_2]⟩ w (Ret Q):=
 qhc [.tmp 6,.tmp 7] qde Tryz.func91 rfl rfl rfl rfl (.sq [sP 0,sI 1,sI 2,sI 6,sI 7] (λa b c d e w=>qjb.j1 a b c d e Q w) .lf (.pr 1 [sP 0,sI 1,sI 2,sI 6,sI 7,sI 8,sB 9] (λa b c d e f g w=>qjb.j2 a b c d e f g Q w) (.sq [sI 6,sI 7] (λa b w=>qjb.j3 a b Q w) (.bk (.lo [sP 0,sI 1,sB 9] [sI 2,sI 6,sI 7,sI 8] (λa b c d e f g w=>qjb.l1 a b c d e f g Q w) (λnx1 a b c d e f g w=>qjb.b1 a b c d e f g Q nx1 w) λnx1=>(.sq [sP 0,sI 1,sI 2,sI 6,sI 7,sI 8,sB 9] (λa b c d e f g w=>qjb.j4 a b c d e f g Q nx1 w) .lf (.sq [sP 0,sI 1,sI 2,sI 6,sI 7,sI 8,sB 9] (λa b c d e f g w=>qjb.j5 a b c d e f g Q nx1 w) (.bk (.sq [sP 0,sI 1,sI 2,sI 6,sI 7,sI 8,sB 9] (λa b c d e f g w=>qjb.j6 a b c d e f g Q nx1 w) .lf .lf)) .lf)))) .lf))) (by kernel_rfl) h
def qfd.j4(out_7:Sl)(Q:VWP)(w:World):Prop:=qak 93 [sV out_7] w λr3 w2=>Q (sV r3) w2
def qfd.b2(b_0:Sl)(f_5:OAd)(looks_6:Int)(out_7:Sl)(t47 at_8 t48:Int)(Q:VWP)(nx1:Sl->OAd->Int->Sl->Int->WP)(nx2:Sl->OAd->Int->Sl->Int->Int->Int->WP)(w:World):Prop:=br (decide (t48<t47)) (ct_ 92 [.pointer f_5,.int .i64 at_8] w λw5=>lt (i64.wrap (at_8+1)) λx6=>lt (i64.wrap (t48+1)) λx7=>nx2 b_0 f_5 looks_6 out_7 t47 x6 x7 w5) (nx1 b_0 f_5 looks_6 out_7 at_8 w)
def qfd.l2(b_0:Sl)(f_5:OAd)(looks_6:Int)(out_7:Sl)(t47 at_8 t48:Int)(Q:VWP)(nx1:Sl->OAd->Int->Sl->Int->WP)(w:World):Prop:=∃(I:Int->Int->WP) (μ:Int->Int->World->Nat),I at_8 t48 w/\∀at_8:Int,∀t48:Int,∀w:World,I at_8 t48 w->qfd.b2 b_0 f_5 looks_6 out_7 t47 at_8 t48 Q nx1 (λb_0' f_5' looks_6' out_7' t47' at_8' t48' w'=>(b_0'=b_0/\f_5'=f_5/\looks_6'=looks_6/\out_7'=out_7/\t47'=t47)/\I at_8' t48' w'/\μ at_8' t48' w'<μ at_8 t48 w) w
def qfd.j9(b_0:Sl)(f_5:OAd)(looks_6:Int)(out_7:Sl)(at_8 t47 t48:Int)(Q:VWP)(nx1:Sl->OAd->Int->Sl->Int->WP)(w:World):Prop:=qfd.l2 b_0 f_5 looks_6 out_7 t47 at_8 t48 Q nx1 w
def qfd.j8(b_0:Sl)(f_5:OAd)(looks_6:Int)(out_7:Sl)(at_8 n_9:Int)(t_11:Addr)(Q:VWP)(nx1:Sl->OAd->Int->Sl->Int->WP)(w:World):Prop:=ldA w t_11 3 λc8=>(c8).size=3/\nw w ⟨(spl [.int .u8 0,.int .i64 0,.int .i64 0] 0 c8)⟩ 144 λa9 w10=>rdO w10 (some a9) (1*3) λc11=>apK prog 144 w10 out_7.a out_7.len out_7.cap 1 c11 λs12 w13=>qfd.j9 b_0 f_5 looks_6 s12 at_8 n_9 0 Q nx1 w13
def qfd.j7(b_0:Sl)(f_5:OAd)(looks_6:Int)(out_7:Sl)(at_8 n_9 d_10:Int)(Q:VWP)(nx1:Sl->OAd->Int->Sl->Int->WP)(w:World):Prop:=nw w (zc prog 144) 144 λa14 w15=>((⟨[.int .u8 0,.int .i64 n_9,.int .i64 d_10]⟩:Array Value)).size=3/\stA w15 a14 (⟨[.int .u8 0,.int .i64 n_9,.int .i64 d_10]⟩:Array Value) λw16=>br (decide (n_9<3)) (ixS b_0.a b_0.len at_8 1 λa17=>ldI .u8 w16 a17 λx18=>((⟨[.int .u8 x18,.int .i64 0,.int .i64 0]⟩:Array Value)).size=3/\stA w16 a14 (⟨[.int .u8 x18,.int .i64 0,.int .i64 0]⟩:Array Value) λw19=>qfd.j8 b_0 f_5 looks_6 out_7 at_8 1 a14 Q nx1 w19) (qfd.j8 b_0 f_5 looks_6 out_7 at_8 n_9 a14 Q nx1 w16)
def qfd.j6(b_0:Sl)(f_5:OAd)(looks_6:Int)(out_7:Sl)(at_8:Int)(Q:VWP)(nx1:Sl->OAd->Int->Sl->Int->WP)(w:World):Prop:=qhlb 91 [.pointer f_5,.int .i64 at_8,.int .i64 looks_6] w λr22 r23 w21=>qfd.j7 b_0 f_5 looks_6 out_7 at_8 r22 r23 Q nx1 w21
def qfd.b1(b_0:Sl)(f_5:OAd)(looks_6:Int)(out_7:Sl)(at_8:Int)(Q:VWP)(nx1:Sl->OAd->Int->Sl->Int->WP)(w:World):Prop:=br (decide (at_8<(b_0.len:Int))) (qfd.j6 b_0 f_5 looks_6 out_7 at_8 Q nx1 w) (qfd.j4 out_7 Q w)
def qfd.l1(b_0:Sl)(f_5:OAd)(looks_6:Int)(out_7:Sl)(at_8:Int)(Q:VWP)(w:World):Prop:=∃(I:Sl->Int->WP) (μ:Sl->Int->World->Nat),I out_7 at_8 w/\∀out_7:Sl,∀at_8:Int,∀w:World,I out_7 at_8 w->qfd.b1 b_0 f_5 looks_6 out_7 at_8 Q (λb_0' f_5' looks_6' out_7' at_8' w'=>(b_0'=b_0/\f_5'=f_5/\looks_6'=looks_6)/\I out_7' at_8' w'/\μ out_7' at_8' w'<μ out_7 at_8 w) w
def qfd.j5(b_0:Sl)(f_5:OAd)(looks_6:Int)(out_7:Sl)(at_8:Int)(Q:VWP)(w:World):Prop:=qfd.l1 b_0 f_5 looks_6 out_7 at_8 Q w
def qfd.j3(b_0:Sl)(f_5:OAd)(looks_6:Int)(out_7:Sl)(Q:VWP)(w:World):Prop:=qfd.j5 b_0 f_5 looks_6 out_7 0 Q w
def qfd.j2(b_0:Sl)(effort_1:Int)(f_5:OAd)(Q:VWP)(w:World):Prop:=
 lt (if(0:Int)>effort_1 then 0 else effort_1) λx24=>
 lt (if(4096:Int)<x24 then 4096 else x24) λx25=>
 qfd.j3 b_0 f_5 x25 ⟨none,0,0⟩ Q w
def qfd.j1(b_0:Sl)(effort_1:Int)(Q:VWP)(w:World):Prop:=br (decide ((b_0.len:Int)>262144)) (Q (.slice none 0 0) w) (∃n26:Nat,∃w27:World,mmR prog 150 none w n26 w27/\nw w27 (⟨[sV b_0,.map (some n26),.slice none 0 0]⟩:Array Value) 152 λa28 w29=>qfd.j2 b_0 effort_1 (some a28) Q w29)
def qfd(b_0:Sl)(effort_1:Int)(Q:VWP)(w:World):Prop:=qfd.j1 b_0 effort_1 Q w
theorem qfd.ok(b_0:Sl)(effort_1:Int)(Q:VWP)(w:World)(h:qfd b_0 effort_1 Q w):Calls prog 77 ⟨[sV b_0,.int .i64 effort_1]⟩ w (Ret Q):=
 qhc [.tmp 4] qde Tryz.func77 rfl rfl rfl rfl (.sq [sL 0,sI 1] (λa b w=>qfd.j1 a b Q w) .lf (.pr 1 [sL 0,sI 1,sP 5] (λa b c w=>qfd.j2 a b c Q w) (.pr 1 [sL 0,sP 5,sI 6,sL 7] (λa b c d w=>qfd.j3 a b c d Q w) (.sq [sL 7] (λa w=>qfd.j4 a Q w) (.sq [sL 0,sP 5,sI 6,sL 7,sI 8] (λa b c d e w=>qfd.j5 a b c d e Q w) .lf (.bk (.lo [sL 0,sP 5,sI 6] [sL 7,sI 8] (λa b c d e w=>qfd.l1 a b c d e Q w) (λnx1 a b c d e w=>qfd.b1 a b c d e Q nx1 w) λnx1=>(.sq [sL 0,sP 5,sI 6,sL 7,sI 8] (λa b c d e w=>qfd.j6 a b c d e Q nx1 w) .lf (.bk (.sq [sL 0,sP 5,sI 6,sL 7,sI 8,sI 9,sI 10] (λa b c d e f g w=>qfd.j7 a b c d e f g Q nx1 w) .lf (.pr 1 [sL 0,sP 5,sI 6,sL 7,sI 8,sI 9,sA 11] (λa b c d e f g w=>qfd.j8 a b c d e f g Q nx1 w) (.pr 1 [sL 0,sP 5,sI 6,sL 7,sI 8,sI 47,sI 48] (λa b c d e f g w=>qfd.j9 a b c d e f g Q nx1 w) (.bk (.lo [sL 0,sP 5,sI 6,sL 7,sI 47] [sI 8,sI 48] (λa b c d e f g w=>qfd.l2 a b c d e f g Q nx1 w) (λnx2 a b c d e f g w=>qfd.b2 a b c d e f g Q nx1 nx2 w) λnx2=> .lf)))))))))) .lf)))) (by kernel_rfl) h
def qlh(s_0:Sl)(Q:VWP)(w:World):Prop:=bd (s_0.len:Int) s_0.cap λn1=>bd (s_0.len:Int) n1 λn2=>lt (⟨qnf s_0.a n1 0 3,n2-0,n1-0⟩:Sl) λs3=>Q (sV s3) w
theorem qlh.ok(s_0:Sl)(Q:VWP)(w:World)(h:qlh s_0 Q w):Calls prog 93 ⟨[sV s_0]⟩ w (Ret Q):=
 qhc [.tmp 2] qde Tryz.func93 rfl rfl rfl rfl .lf (by kernel_rfl) h
end
section
attribute [local irreducible] apK cpK mkK br
abbrev tks(L:List Tk):List Value:=tri .u8 .i64 .i64 L
def tkC(t:Tk):List Value:=[.int .u8 t.1,.int .i64 t.2.1,.int .i64 t.2.2]
theorem zc_tok:zc prog 144=⟨[.int .u8 0,.int .i64 0,.int .i64 0]⟩:=by kernel_rfl
theorem qymb(L:List Tk)(t:Tk):tks (L++[t])=tks L++tkC t:=by simp[tri,tkC]
theorem qmo(t:Tk):∀v∈(⟨tkC t⟩:Array Value),qfe v:=by
 intro v hv;have hv:v∈tkC t:=by simpa using hv
 simp[tkC]at hv;rcases hv with rfl|rfl|rfl<;>trivial
section
variable {F0:List Nat}{w0 w:World}{ps rest:List As}{L:List Tk}
theorem Rd.ixT{s:Sl}{i:Int}{K:Addr->Prop}(h:Rd w 3 s (tks L))(j:Nat)(hi:i=j)(hj:j<L.length)
 (hk:∀a,w.cell? (a.add 0)=some (.int .u8 L[j].1)->w.cell? (a.add 1)=some (.int .i64 L[j].2.1)->w.cell? (a.add 2)=some (.int .i64 L[j].2.2)->K a):ixS s.a s.len i 3 K:=by
 subst hi
 have hl:=h.1
 rw[qtj]at hl
 refine h.ix (by decide) (by omega) (by omega) λa ha=>?_
 rw[show((j:Int)).toNat*3=j*3 by omega]
 obtain⟨g1,g2,g3⟩:=qlrb .u8 .i64 .i64 L j hj
 refine hk _ ?_ ?_ ?_
 ·rw[qgs,h.cell ha (by rw[qtj];omega)];exact g1
 ·rw[qgs,h.cell ha (by rw[qtj];omega)];exact g2
 ·rw[qgs,h.cell ha (by rw[qtj];omega)];exact g3
theorem qusb{a:Addr}{t:Tk}{K:Array Value->Prop}(h0:w.cell? (a.add 0)=some (.int .u8 t.1))(h1:w.cell? (a.add 1)=some (.int .i64 t.2.1))(h2:w.cell? (a.add 2)=some (.int .i64 t.2.2))(hk:K ⟨tkC t⟩):ldA w a 3 K:=
 ⟨⟨tkC t⟩,rfl,λi hi=>by
   have:i=0\/i=1\/i=2:=by omega
   rcases this with rfl|rfl|rfl
   ·rw[h0];rfl
   ·rw[h1];rfl
   ·rw[h2];rfl,hk⟩
theorem St.ltok{s:Sl}{i:Int}{K:Array Value->Prop}(h:St F0 w0 w ps)[Rdb F0 w0 s ps 3 (tks L)](j:Nat)(hi:i=j)(hj:j<L.length)(hk:K ⟨tkC L[j]⟩):ixS s.a s.len i 3 λa=>ldA w a 3 K:=
 (h.rdb s).ixT j hi hj λa h0 h1 h2=>qusb h0 h1 h2 hk
theorem St.tokN{t:Tk}{K:Addr->World->Prop}(h:St F0 w0 w ps)(hk:∀nb w',St F0 w0 w' (qqb nb (tkC t)::ps)->K ⟨nb,0,none⟩ w'):
 lt (⟨World.heapSize w,0,none⟩:Addr) λa=>lt (World.alloc w (.cells (zc prog 144) 144)) λw1=>(⟨tkC t⟩:Array Value).size=3/\Go.Proofs.YtdccpphmkfaioaaGreat.stA w1 a ⟨tkC t⟩ λw2=>K a w2:=by
 rw[zc_tok]
 refine h.new λnb w h=>⟨rfl,?_⟩
 exact h.sA (l:=[.int .u8 0,.int .i64 0,.int .i64 0]) rfl rfl (qmo t) λw h=>hk nb w h
end
end
def qfo(b:List Int)(i:Nat):Int×Int×Int:=(b.getD i 0,b.getD (i+1) 0,b.getD (i+2) 0)
def lastK(b:List Int)(k:Int×Int×Int):Nat->Option Nat
 |0=>none
 |n+1=>if qfo b n=k then some n else lastK b k n
theorem qqp{b:List Int}{k:Int×Int×Int}:∀{n i:Nat},lastK b k n=some i->i<n/\qfo b i=k/\∀j,i<j->j<n->qfo b j≠k:=by
 intro n;induction n with
 |zero=>intro i h;cases h
 |succ n ih=>
  intro i h;rw[lastK]at h;split at h
  ·rename_i hk;injection h with h;subst h;exact⟨by omega,hk,λj h1 h2=>by omega⟩
  ·rename_i hk;obtain⟨h1,h2,h3⟩:=ih h;refine⟨by omega,h2,λj h4 h5=>?_⟩;by_cases e:j=n
   ·subst e;exact hk
   ·exact h3 j h4 (by omega)
theorem qjub{b:List Int}{k:Int×Int×Int}:∀{n:Nat},lastK b k n=none->∀j,j<n->qfo b j≠k:=by
 intro n;induction n with
 |zero=>intro _ j h;omega
 |succ n ih=>
  intro h j hj;rw[lastK]at h;split at h
  ·cases h
  ·rename_i hk;by_cases e:j=n
   ·subst e;exact hk
   ·exact ih h j (by omega)
def sameN(b:List Int)(i k:Nat):Nat->Nat->Nat
 |0,n=>n
 |f+1,n=>if k+n<b.length/\b.getD (i+n) 0=b.getD (k+n) 0 then sameN b i k f (n+1)else n
def same(b:List Int)(i k:Nat):Nat:=sameN b i k 258 0
theorem qrv(b:List Int)(i k:Nat):∀f n,(∀j,j<n->k+j<b.length/\b.getD (i+j) 0=b.getD (k+j) 0)->
 n<=sameN b i k f n/\sameN b i k f n<=n+f/\(∀j,j<sameN b i k f n->k+j<b.length/\b.getD (i+j) 0=b.getD (k+j) 0)/\
 (sameN b i k f n<n+f->¬(k+sameN b i k f n<b.length/\b.getD (i+sameN b i k f n) 0=b.getD (k+sameN b i k f n) 0)):=by
 intro f
 induction f with
 |zero=>intro n h;exact⟨le_refl _,le_refl _,h,λh1=>by simp[sameN]at h1⟩
 |succ f ih=>
  intro n h
  rw[sameN]
  split
  ·rename_i hc
   obtain⟨h1,h2,h3,h4⟩:=ih (n+1) (λj hj=>by
    by_cases e:j=n
    ·subst e;exact hc
    ·exact h j (by omega))
   exact⟨by omega,by omega,h3,λhlt=>h4 (by omega)⟩
  ·rename_i hc
   exact⟨le_refl _,by omega,h,λ_=>hc⟩
theorem qjib(b:List Int)(i k:Nat):same b i k<=258:=by have:=(qrv b i k 258 0 (λj hj=>by omega)).2.1;unfold same;omega
theorem qkib{b:List Int}{i k j:Nat}(h:j<same b i k):k+j<b.length/\b.getD (i+j) 0=b.getD (k+j) 0:=(qrv b i k 258 0 (λj hj=>by omega)).2.2.1 j h
def walkL(b:List Int)(at':Nat):Nat->Nat->Nat->Nat->Nat×Nat
 |0,_,n,d=>(n,d)
 |f+1,i,n,d=>
  if 32768<at'-i then(n,d)
  else
   let n':=if n<same b i at' then same b i at' else n
   let d':=if n<same b i at' then at'-i else d
   match lastK b (qfo b i) i with
   |none=>(n',d')
   |some j=>if n'=258 then(n',d')else walkL b at' f j n' d'
def bestL(b:List Int)(at' looks:Nat):Nat×Nat:=
 if b.length<at'+3 then(0,0)else match lastK b (qfo b at') at' with
  |none=>(0,0)
  |some i=>walkL b at' looks i 0 0
def goodC(b:List Int)(at':Nat)(x:Nat×Nat):Prop:=x.1=0\/(x.1<=258/\1<=x.2/\x.2<=at'/\x.2<=32768/\at'+x.1<=b.length/\∀j,j<x.1->b.getD (at'-x.2+j) 0=b.getD (at'+j) 0)
theorem qqgb{b:List Int}{at' i:Nat}(hi:i<at')(hf:¬32768<at'-i):goodC b at' (same b i at',at'-i):=by
 rcases Nat.eq_zero_or_pos (same b i at')with h0|h0
 ·exact Or.inl h0
 ·right;refine⟨qjib _ _ _,by show 1<=at'-i;omega,by show at'-i<=at';omega,by show at'-i<=32768;omega,?_,λj hj=>?_⟩
  ·have:=(qkib (b:=b) (i:=i) (k:=at') (j:=same b i at'-1) (by omega)).1;show at'+same b i at'<=b.length;omega
  ·show b.getD (at'-(at'-i)+j) 0=_;rw[show at'-(at'-i)=i by omega];exact(qkib hj).2
theorem qufb(b:List Int)(at':Nat):∀f i n d,i<at'->goodC b at' (n,d)->goodC b at' (walkL b at' f i n d):=by
 intro f;induction f with
 |zero=>intro i n d _ h;exact h
 |succ f ih=>
  intro i n d hi h;rw[walkL];split
  ·exact h
  ·rename_i hf;have hg:goodC b at' (if n<same b i at' then same b i at' else n,if n<same b i at' then at'-i else d):=by
    by_cases hl:n<same b i at'
    ·rw[if_pos hl,if_pos hl];exact qqgb hi hf
    ·rw[if_neg hl,if_neg hl];exact h
   simp only
   generalize (if n<same b i at' then same b i at' else n)=n2 at hg|-
   generalize (if n<same b i at' then at'-i else d)=d2 at hg|-
   split
   ·exact hg
   ·rename_i j hj;have:=(qqp hj).1;split
    ·exact hg
    ·exact ih _ _ _ (by omega) hg
theorem qnw(b:List Int)(at' looks:Nat):goodC b at' (bestL b at' looks):=by
 unfold bestL;split
 ·exact Or.inl rfl
 ·split
  ·exact Or.inl rfl
  ·rename_i i hi;exact qufb _ _ _ _ _ _ (qqp hi).1 (Or.inl rfl)
def stepL(b:List Int)(looks at':Nat):(Int×Int×Int)×Nat:=
 let x:=bestL b at' looks
 if x.1<3 then((b.getD at' 0,0,0),1)else((0,(x.1:Int),(x.2:Int)),x.1)
def findL(b:List Int)(looks:Nat):Nat->Nat->List (Int×Int×Int)
 |0,_=>[]
 |f+1,at'=>if at'<b.length then(stepL b looks at').1::findL b looks f (at'+(stepL b looks at').2)else[]
theorem qyq(b:List Int)(looks at':Nat):0<(stepL b looks at').2:=by
 unfold stepL;simp only
 split
 ·exact Nat.zero_lt_one
 ·simp only;omega
theorem qvdb(b:List Int)(looks at':Nat)(h:at'<b.length):at'+(stepL b looks at').2<=b.length:=by
 unfold stepL;simp only
 split
 ·simp only;omega
 ·rename_i h3;simp only
  rcases qnw b at' looks with h1|h1
  ·omega
  ·exact h1.2.2.2.2.1
theorem qugb(b:List Int)(looks:Nat):∀f g at',b.length-at'<=f->b.length-at'<=g->findL b looks f at'=findL b looks g at':=by
 intro f;induction f with
 |zero=>
  intro g at' h1 h2;cases g with
  |zero=>rfl
  |succ g=>rw[findL,findL,if_neg (by omega)]
 |succ f ih=>
  intro g at' h1 h2;cases g with
  |zero=>rw[findL,findL,if_neg (by omega)]
  |succ g=>
   rw[findL,findL];split
   ·have:=qyq b looks at';congr 1;exact ih g _ (by omega) (by omega)
   ·rfl
section
open Go Go.Proofs Go.ChangeShapes Go.WideShapes Go.MapKept Go.Maps
attribute [local irreducible] apK cpK mkK br
abbrev kyL(k:Int×Int×Int):List Value:=[.int .u8 k.1,.int .u8 k.2.1,.int .u8 k.2.2]
def kyV(k:Int×Int×Int):Value:= .agg ⟨kyL k⟩
theorem qrjb{a b:Int×Int×Int}(h:kyV a=kyV b):a=b:=by
 obtain⟨a1,a2,a3⟩:=a;obtain⟨b1,b2,b3⟩:=b;simpa [kyV]using h
def kyB(k:Int×Int×Int):Prop:=(0<=k.1/\k.1<256)/\(0<=k.2.1/\k.2.1<256)/\(0<=k.2.2/\k.2.2<256)
theorem qxsb{P:Program}{t e:TypeId}{m:Nat}(h1:P.underlying t=some (.array 3 e))(h2:P.underlying e=some (.int .u8))(h3:P.cellsOf t=3)(h4:P.cellsOf e=1)(h5:P.keyType t=true)(h6:P.types.size+1=m+2){k:Int×Int×Int}(hk:kyB k):∃l,keyOf P t (kyV k)=some l:=by
 obtain⟨⟨a1,a2⟩,⟨b1,b2⟩,⟨c1,c2⟩⟩:=hk;have wf:∀n:Int,0<=n->n<256->(Lit.int .u8 n).wf=true:=by
  intro n h0 h1;simp[Lit.wf,show IntKind.u8.min=0 from rfl,show IntKind.u8.max=255 from rfl];omega
 have e1:∀n:Int,0<=n->n<256->P.keyLits (m+1) e [.int .u8 n]=some [.int .u8 n]:=by
  intro n h0 h1;unfold Program.keyLits;rw[h2];simp[wf n h0 h1]
 have e2:∃ls,P.keyLits (m+2) t (kyL k)=some ls:=by
  unfold Program.keyLits;rw[h1];simp only[h3,h4];rw[if_pos (show(kyL k).length=3 from rfl),show List.range 3=[0,1,2]from rfl];simp[e1 _ a1 a2,e1 _ b1 b2,e1 _ c1 c2]
 obtain⟨ls,e2⟩:=e2;unfold keyOf;rw[h1];have e3:(kyV k).formed P t=true:=by simp[kyV,Value.formed,h1,h3]
 have e4:(kyV k).cells.toList=kyL k:=rfl;simp only[h5,e3,e4,h6,e2];exact⟨_,rfl⟩
theorem qmeb:Keyed prog 183:=qjgb f_laid (m:=2) (by omega) (of_decide_eq_true (by kernel_rfl)) (by kernel_rfl) (by kernel_rfl)
theorem qqjb{k:Int×Int×Int}(hk:kyB k):∃l,keyOf prog 183 (kyV k)=some l:=
 qxsb (e:=5) (m:=prog.types.size-1) (by kernel_rfl) (by kernel_rfl) (by kernel_rfl) (by kernel_rfl) (by kernel_rfl) (by kernel_rfl) hk
theorem qypb:prog.underlying 150=some (.map 183 3):=by kernel_rfl
abbrev kvl(E:List ((Int×Int×Int)×Int)):List (Value×Value):=E.map λe=>(kyV e.1,.int .i64 e.2)
section
variable {F0:List Nat}{w0 w:World}{ps rest:List As}{b:Nat}{E:List ((Int×Int×Int)×Int)}{k:Int×Int×Int}
theorem qsjb(hE:∀e∈E,kyB e.1):∀p∈kvl E,∃l,keyOf prog 183 p.1=some l:=by
 intro p hp;obtain⟨e,he,rfl⟩:=mem_map.1 hp;exact qqjb (hE e he)
theorem St.klook{K:Int->Bool->Prop}(h:St F0 w0 w ps)[PkF mpA b ps (kvl E) rest](hE:∀e∈E,kyB e.1)(hk:kyB k)(h1:(∀e∈E,e.1≠k)->K 0 false)(h2:∀e∈E,e.1=k->K e.2 true):
 ∃r20:Int,∃r21:Bool,lkR prog 150 (.map (some b)) (.agg ⟨kyL k⟩) true w (.tuple ⟨[.int .i64 r20,.bool r21]⟩)/\K r20 r21:=by
 have hz:(zeroValue (3:TypeId)).run prog w= .ok (.int .i64 0) w:=by kernel_rfl
 rcases(h.toF mpA b).mlook qmeb qypb (qsjb hE) true hz (qqjb hk)with⟨h3,h4⟩|⟨j,p,h3,h4,h5⟩
 ·refine⟨0,false,h3,h1 λe he hne=>?_⟩
  exact h4 (kyV e.1,.int .i64 e.2) (mem_map.2 ⟨e,he,rfl⟩) (by rw[hne])
 ·rw[getElem?_map]at h3
  cases he:E[j]? with
  |none=>rw[he]at h3;cases h3
  |some e=>
   rw[he]at h3
   injection h3 with h3
   subst h3
   have hm:e∈E:=mem_of_getElem? he
   exact⟨e.2,true,h5,h2 e hm (qrjb h4)⟩
theorem St.kset{v:Int}{K:World->Prop}(h:St F0 w0 w ps)[PkF mpA b ps (kvl E) rest](hE:∀e∈E,kyB e.1)(hk:kyB k)
 (hK:∀E' w',St F0 w0 w' (mpA b (kvl E')::rest)->((E'=E++[(k,v)]/\∀e∈E,e.1≠k)\/∃j,∃e:(Int×Int×Int)×Int,E[j]?=some e/\e.1=k/\E'=E.set j (k,v))->K w'):
 ∃w',muR prog 150 (.map (some b)) (.agg ⟨kyL k⟩) (.int .i64 v) w w'/\K w':=by
 refine(h.toF mpA b).mset qmeb qypb (qsjb hE) (qqjb hk) λkv' w' h he=>?_
 rcases he with⟨rfl,h1⟩|⟨j,p,h1,h2,rfl⟩
 ·refine hK (E++[(k,v)]) w' (by rw[show kvl (E++[(k,v)])=kvl E++[(.agg ⟨kyL k⟩,.int .i64 v)]by simp[kyV]];exact h) (Or.inl ⟨rfl,λe he hne=>?_⟩)
  exact h1 (kyV e.1,.int .i64 e.2) (mem_map.2 ⟨e,he,rfl⟩) (by rw[hne];rfl)
 ·rw[getElem?_map]at h1
  cases he:E[j]? with
  |none=>rw[he]at h1;cases h1
  |some e=>
   rw[he]at h1
   injection h1 with h1
   subst h1
   refine hK (E.set j (k,v)) w' (by rw[show kvl (E.set j (k,v))=(kvl E).set j (.agg ⟨kyL k⟩,.int .i64 v)by rw[kvl,List.map_set];rfl];exact h) (Or.inr ⟨j,e,he,qrjb h2,rfl⟩)
end
structure KM(b:List Int)(E:List ((Int×Int×Int)×Int))(n:Nat):Prop where
 val:∀(j:Nat) (e:(Int×Int×Int)×Int),E[j]?=some e->∃i:Nat,e.2=(i:Int)/\lastK b e.1 n=some i
 all:∀k i,lastK b k n=some i->∃(j:Nat) (e:(Int×Int×Int)×Int),E[j]?=some e/\e.1=k
 one:∀(i j:Nat) (e e':(Int×Int×Int)×Int),E[i]?=some e->E[j]?=some e'->e.1=e'.1->i=j
theorem KM.nil(b:List Int):KM b [] 0:=⟨λj e h=>(by simp at h),λk i h=>(by cases h),λi j e e' h=>(by simp at h)⟩
theorem KM.next{b:List Int}{E E':List ((Int×Int×Int)×Int)}{n:Nat}(h:KM b E n)
 (he:(E'=E++[(qfo b n,(n:Int))]/\∀e∈E,e.1≠qfo b n)\/∃j,∃e:(Int×Int×Int)×Int,E[j]?=some e/\e.1=qfo b n/\E'=E.set j (qfo b n,(n:Int))):KM b E' (n+1):=by
 rcases he with⟨rfl,hn⟩|⟨j0,e0,hj0,he0,rfl⟩
 ·have sn:∀j e,(E++[(qfo b n,(n:Int))])[j]?=some e->E[j]?=some e\/(j=E.length/\e=(qfo b n,(n:Int))):=by
   intro j e hj;rcases lt_or_ge j E.length with h1|h1
   ·rw[List.getElem?_append_left h1]at hj;exact Or.inl hj
   ·rw[List.getElem?_append_right h1]at hj;have:j=E.length:=by
     rcases Nat.eq_or_lt_of_le h1 with h2|h2
     ·exact h2.symm
     ·rw[List.getElem?_eq_none (by simp;omega)]at hj;cases hj
    subst this
    simp at hj;exact Or.inr ⟨rfl,hj.symm⟩
  refine⟨λj e hj=>?_,λk i hi=>?_,λi j e e' hi hj hk=>?_⟩
  ·rcases sn j e hj with h1|⟨_,rfl⟩
   ·obtain⟨i,h2,h3⟩:=h.val j e h1
    refine⟨i,h2,?_⟩
    rw[lastK,if_neg (λe2=>hn e (mem_of_getElem? h1) e2.symm)]
    exact h3
   ·refine⟨n,rfl,?_⟩
    rw[lastK,if_pos rfl]
  ·rw[lastK]at hi
   split at hi
   ·rename_i hk
    exact⟨E.length,(qfo b n,(n:Int)),by simp,hk⟩
   ·obtain⟨j,e,h1,h2⟩:=h.all k i hi
    refine⟨j,e,?_,h2⟩
    rw[List.getElem?_append_left (List.getElem?_eq_some_iff.1 h1).1]
    exact h1
  ·rcases sn i e hi with h1|⟨rfl,rfl⟩
   ·rcases sn j e' hj with h2|⟨rfl,rfl⟩
    ·exact h.one i j e e' h1 h2 hk
    ·exact absurd hk (hn e (mem_of_getElem? h1))
   ·rcases sn j e' hj with h2|⟨rfl,rfl⟩
    ·exact absurd hk.symm (hn e' (mem_of_getElem? h2))
    ·rfl
 ·have hlt:j0<E.length:=(List.getElem?_eq_some_iff.1 hj0).1
  have sn:∀j e,(E.set j0 (qfo b n,(n:Int)))[j]?=some e->(j=j0/\e=(qfo b n,(n:Int)))\/(j≠j0/\E[j]?=some e):=by
   intro j e hj;rw[getElem?_set]at hj;by_cases h1:j0=j
   ·subst h1;rw[if_pos rfl,if_pos hlt]at hj;injection hj with hj;exact Or.inl ⟨rfl,hj.symm⟩
   ·rw[if_neg h1]at hj;exact Or.inr ⟨λe=>h1 e.symm,hj⟩
  refine⟨λj e hj=>?_,λk i hi=>?_,λi j e e' hi hj hk=>?_⟩
  ·rcases sn j e hj with⟨rfl,rfl⟩|⟨hne,h1⟩
   ·refine⟨n,rfl,?_⟩
    rw[lastK,if_pos rfl]
   ·obtain⟨i,h2,h3⟩:=h.val j e h1
    refine⟨i,h2,?_⟩
    rw[lastK,if_neg (λe2=>hne (h.one j j0 e e0 h1 hj0 (e2.symm.trans he0.symm)))]
    exact h3
  ·rw[lastK]at hi
   split at hi
   ·rename_i hk
    refine⟨j0,(qfo b n,(n:Int)),?_,hk⟩
    rw[getElem?_set,if_pos rfl,if_pos hlt]
   ·rename_i hk
    obtain⟨j,e,h1,h2⟩:=h.all k i hi
    refine⟨j,e,?_,h2⟩
    rw[getElem?_set,if_neg,h1]
    intro hjj
    subst hjj
    rw[hj0]at h1
    injection h1 with h1
    subst h1
    exact hk (he0.symm.trans h2)
  ·rcases sn i e hi with⟨rfl,rfl⟩|⟨hne,h1⟩
   ·rcases sn j e' hj with⟨rfl,rfl⟩|⟨hne2,h2⟩
    ·rfl
    ·exact absurd (h.one j i e' e0 h2 hj0 (hk.symm.trans he0.symm)) hne2
   ·rcases sn j e' hj with⟨rfl,rfl⟩|⟨hne2,h2⟩
    ·exact absurd (h.one i j e e0 h1 hj0 (hk.trans he0.symm)) hne
    ·exact h.one i j e e' h1 h2 hk
def prI(b:List Int)(j:Nat):Int:=match lastK b (qfo b j) j with
 |none=> -1
 |some i=>(i:Int)
structure FOK(b:List Int)(E:List ((Int×Int×Int)×Int))(P:List Int)(n:Nat):Prop where
 len:P.length=n
 keys:∀e∈E,kyB e.1
 map:n+2<=b.length->KM b E n
 row:∀j,j<n->j+3<=b.length->P.getD j 0=prI b j
theorem qujb{b:List Int}(hb:∀x∈b,0<=x/\x<256)(i:Nat):kyB (qfo b i):=by
 have:∀j,0<=b.getD j 0/\b.getD j 0<256:=by
  intro j;rcases lt_or_ge j b.length with h|h
  ·rw[getD,List.getElem?_eq_getElem h];exact hb _ (List.getElem_mem h)
  ·rw[getD,List.getElem?_eq_none h];decide
 exact⟨this _,this _,this _⟩
end
section
attribute [local irreducible] apK cpK mkK br
def finA(fb mb:Nat)(s p:Sl)(E:List ((Int×Int×Int)×Int))(P:List Int):As:=andA (qqb fb [.slice s.a s.len s.cap,.map (some mb),.slice p.a p.len p.cap]) (andA (mpA mb (kvl E)) (qcc 1 p (ivs .i64 P)))
section
variable {F0:List Nat}{w0 w:World}{ps rest:List As}{xs:List Int}{fb mb:Nat}{s p:Sl}{E:List ((Int×Int×Int)×Int)}{P:List Int}
theorem fin_o(h:St F0 w0 w (finA fb mb s p E P::ps)):St F0 w0 w (qqb fb [.slice s.a s.len s.cap,.map (some mb),.slice p.a p.len p.cap]::mpA mb (kvl E)::qcc 1 p (ivs .i64 P)::ps):=by
 unfold finA at h;exact h.split.tail λ_ _ _ h=>h.split
theorem qqob(h:St F0 w0 w (qqb fb [.slice s.a s.len s.cap,.map (some mb),.slice p.a p.len p.cap]::mpA mb (kvl E)::qcc 1 p (ivs .i64 P)::ps)):St F0 w0 w (finA fb mb s p E P::ps):=by
 unfold finA;exact St.join (h.tail λ_ _ _ h=>h.join)
theorem qfjb{a:Option Addr}{k:Nat}{K:Array Value->Prop}(h:rdO w a k K)(hk:k≠0):nz a λa=>ldA w a k K:=by
 cases a with
 |none=>exact absurd h.1 hk
 |some a=>exact h
theorem take3{i:Nat}(h:i+3<=xs.length):(xs.drop i).take (i+3-i)=[(qfo xs i).1,(qfo xs i).2.1,(qfo xs i).2.2]:=by
 rw[show i+3-i=3 by omega];rw[List.drop_eq_getElem_cons (by omega),List.drop_eq_getElem_cons (by omega),List.drop_eq_getElem_cons (by omega)];show[xs[i],xs[i+1],xs[i+2]]=_;simp[qfo,getD,show i<xs.length by omega,show i+1<xs.length by omega,show i+2<xs.length by omega]
theorem qef.c{i:Nat}{K:Ending->World->Prop}(h:St F0 w0 w ps)[PkB fb ps [.slice s.a s.len s.cap,.map (some mb),.slice p.a p.len p.cap] rest][Rdb F0 w0 s ps 1 (u8s xs)](hc:s.len<=s.cap)(hi:i+3<=xs.length)
 (hk:∀w',St F0 w0 w' ps->K (.returned (.agg ⟨kyL (qfo xs i)⟩)) w'):Calls prog 121 ⟨[.pointer (some ⟨fb,0,none⟩),.int .i64 (i:Int)]⟩ w K:=by
 have hl:=(h.rdb s).1
 rw[qk]at hl
 refine qdc (qef.ok _ _ _ _ ?_)
 unfold qef
 rw[show zc prog 183=⟨[.int .u8 0,.int .u8 0,.int .u8 0]⟩by kernel_rfl]
 refine h.new λnb w h=>?_
 have h:St F0 w0 w (qqb nb [.int .u8 0,.int .u8 0,.int .u8 0]::ps):=h
 refine qkd (h.fL ?_)
 refine qkn rfl (by show i<=s.len;omega) ?_
 refine qbe ?_
 refine⟨by show 3<=s.len-i;omega,?_⟩
 have hr:=(h.cutR s i (i+3) 0 (by omega) (by omega) hc (take3 hi)).rd h
 refine qfjb (hr.rdO (k:=3) rfl ⟨rfl,?_⟩) (by decide)
 refine h.sA (l:=[.int .u8 0,.int .u8 0,.int .u8 0]) (l':=kyL (qfo xs i)) rfl rfl (qpe (l:=[(qfo xs i).1,(qfo xs i).2.1,(qfo xs i).2.2])) λw h=>?_
 refine h.lA rfl ?_
 exact hk w h.drop
theorem qyc.c{i k:Nat}{K:Ending->World->Prop}(h:St F0 w0 w ps)[PkB fb ps [.slice s.a s.len s.cap,.map (some mb),.slice p.a p.len p.cap] rest][Rdb F0 w0 s ps 1 (u8s xs)](hik:i<k)(hkl:k<=xs.length)(hlen:xs.length<=1000000)
 (hk:∀w',St F0 w0 w' ps->K (.returned (.int .i64 (same xs i k:Int))) w'):Calls prog 122 ⟨[.pointer (some ⟨fb,0,none⟩),.int .i64 (i:Int),.int .i64 (k:Int)]⟩ w K:=by
 have hl:=(h.rdb s).1
 rw[qk]at hl
 refine qdc (qyc.ok _ _ _ _ _ ?_)
 unfold qyc qyc.j1
 refine qjf (λ(m:Nat) (n':Int) w'=>n'=m/\m<=258/\sameN xs i k (258-m) m=same xs i k/\St F0 w0 w' ps) (λm=>258-m) 0 ⟨rfl,by omega,rfl,h⟩ ?_
 clear h
 rintro m n' wL I μ ⟨rfl,hm,hs,h⟩ hin
 unfold qyc.b1
 refine h.drewK λw h=>?_
 have done:sameN xs i k (258-m) m=m->K (.returned (.int .i64 (m:Int))) w:=λe=>by
  rw[e]at hs;rw[<-hs]at hk;exact hk w h
 refine quc (λg=>?_) (λg=>?_)
 ·obtain⟨f,hf⟩:∃f,258-m=f+1:=⟨258-m-1,by omega⟩
  rw[hf,sameN]at hs
  rw[hf,sameN]at done
  refine qm (qd (by omega) (by omega)) ?_
  refine qkd (h.fL ?_)
  refine quc (λg1=>?_) (λg1=>?_)
  ·have g1:(k:Int)+m<(s.len:Int):=g1
   refine qkd (h.fL ?_)
   refine qm (qd (by omega) (by omega)) ?_
   refine h.lx (s:=s) (i+m) (by omega) (by omega) ?_
   refine qkd (h.fL ?_)
   refine qm (qd (by omega) (by omega)) ?_
   refine h.lx (s:=s) (k+m) (by omega) (by omega) ?_
   refine qye (λg2=>?_) (λg2=>?_)
   ·have g2:xs.getD (i+m) 0=xs.getD (k+m) 0:=by simpa using g2
    rw[if_pos ⟨by omega,g2⟩]at hs
    refine qm (qd (by omega) (by omega)) ?_
    exact⟨⟨rfl,rfl,rfl⟩,hin (m+1) _ _ ⟨by omega,by omega,by rw[show 258-(m+1)=f by omega];exact hs,h⟩ (by omega)⟩
   ·have g2:¬xs.getD (i+m) 0=xs.getD (k+m) 0:=by simpa using g2
    exact done (if_neg λe=>g2 e.2)
  ·have g1:¬(k:Int)+m<(s.len:Int):=g1
   exact done (if_neg λe=>by omega)
 ·rw[show 258-m=0 by omega]at done
  exact done rfl
theorem qjb.c{a L:Nat}{K:Ending->World->Prop}(h:St F0 w0 w (finA fb mb s p E P::ps))[Rdb F0 w0 s ps 1 (u8s xs)](hb:∀x∈xs,0<=x/\x<256)(hc:s.len<=s.cap)(hlen:xs.length<=1000000)(hF:FOK xs E P a)(ha:a<=xs.length)(hL:L<=4096)
 (hk:∀w',St F0 w0 w' (finA fb mb s p E P::ps)->K (.returned (.tuple ⟨[.int .i64 ((bestL xs a L).1:Int),.int .i64 ((bestL xs a L).2:Int)]⟩)) w'):
 Calls prog 91 ⟨[.pointer (some ⟨fb,0,none⟩),.int .i64 (a:Int),.int .i64 (L:Int)]⟩ w K:=by
 have hl:=(h.drop.rdb s).1
 rw[qk]at hl
 have h:=fin_o h
 refine qdc (qjb.ok _ _ _ _ _ ?_)
 unfold qjb qjb.j1
 refine qm (qd (by omega) (by omega)) ?_
 refine qkd (h.fL ?_)
 have ex:∀(n d:Nat) (w:World),bestL xs a L=(n,d)->St F0 w0 w (qqb fb [.slice s.a s.len s.cap,.map (some mb),.slice p.a p.len p.cap]::mpA mb (kvl E)::qcc 1 p (ivs .i64 P)::ps)->K (.returned (.tuple ⟨[.int .i64 (n:Int),.int .i64 (d:Int)]⟩)) w:=by
  intro n d w e h;rw[e]at hk;exact hk w (qqob h)
 clear hk
 refine quc (λg=>?_) (λg=>?_)
 ·have g:(a:Int)+3>(s.len:Int):=g
  exact ex 0 0 w (by unfold bestL;rw[if_pos (by omega)]) h
 have g:¬(a:Int)+3>(s.len:Int):=g
 have hM:=hF.map (by omega)
 refine h.drewK λw h=>?_
 have j2:∀(w:World) (r20:Int) (r21:Bool),((r21=false/\lastK xs (qfo xs a) a=none)\/∃i:Nat,r20=(i:Int)/\r21=true/\lastK xs (qfo xs a) a=some i)->
  St F0 w0 w (qqb fb [.slice s.a s.len s.cap,.map (some mb),.slice p.a p.len p.cap]::mpA mb (kvl E)::qcc 1 p (ivs .i64 P)::ps)->qjb.j2 (some ⟨fb,0,none⟩) (a:Int) (L:Int) 0 0 r20 r21 (λv w'=>K (.returned v) w') w:=by
  intro w r20 r21 hr h
  unfold qjb.j2
  rcases hr with⟨rfl,e⟩|⟨i0,rfl,rfl,e⟩
  ·refine loop4 (λ(u:Nat) (t2 t6 t7 t8:Int) w'=>t6=0/\t7=0/\St F0 w0 w' (qqb fb [.slice s.a s.len s.cap,.map (some mb),.slice p.a p.len p.cap]::mpA mb (kvl E)::qcc 1 p (ivs .i64 P)::ps)) (λ_=>0) 0 ⟨rfl,rfl,h⟩ ?_
   rintro u t2 t6 t7 t8 w I μ ⟨rfl,rfl,h⟩ hin
   unfold qjb.b1
   refine qcq ?_
   exact ex 0 0 w (by unfold bestL;rw[if_neg (by omega),e]) h
  ·have eb:bestL xs a L=walkL xs a L i0 0 0:=by unfold bestL;rw[if_neg (by omega),e]
   have hi0:=(qqp e).1
   refine loop4 (λ(u:Nat×Nat×Nat×Nat) (t2 t6 t7 t8:Int) w'=>t2=u.1/\t6=u.2.1/\t7=u.2.2.1/\t8=u.2.2.2/\u.1<=4096/\u.2.2.2<a/\u.2.1<=258/\walkL xs a u.1 u.2.2.2 u.2.1 u.2.2.1=walkL xs a L i0 0 0/\St F0 w0 w' (qqb fb [.slice s.a s.len s.cap,.map (some mb),.slice p.a p.len p.cap]::mpA mb (kvl E)::qcc 1 p (ivs .i64 P)::ps)) (λu=>u.1) (L,0,0,i0) ⟨rfl,rfl,rfl,rfl,hL,hi0,by simp,rfl,h⟩ ?_
   clear h
   rintro⟨f,n,d,i⟩ t2 t6 t7 t8 wL I μ ⟨rfl,rfl,rfl,rfl,hf,hia,hn,hw,h⟩ hin
   simp only at hf hia hn hw h hin|-
   unfold qjb.b1
   refine qgp ?_
   refine quc (λg1=>?_) (λg1=>?_)
   ·obtain⟨f',rfl⟩:∃f',f=f'+1:=⟨f-1,by omega⟩
    rw[walkL]at hw
    refine qm (qd (by omega) (by omega)) ?_
    refine quc (λg2=>?_) (λg2=>?_)
    ·rw[if_neg (by omega)]at hw
     simp only at hw
     unfold qjb.j4
     refine qyc.c (xs:=xs) (i:=i) (k:=a) h hia ha hlen λw h=>⟨_,rfl,?_⟩
     have hsl:=qjib xs i a
     have j6:∀(n2 d2:Nat),n2=(if n<same xs i a then same xs i a else n)->d2=(if n<same xs i a then a-i else d)->qjb.j6 (some ⟨fb,0,none⟩) (a:Int) ((f'+1:Nat):Int) (n2:Int) (d2:Int) (i:Int) true (λv w'=>K (.returned v) w') (λd_0' i_1' t9' t2' t6' t7' t8' w'=>(d_0'=some ⟨fb,0,none⟩/\i_1'=(a:Int)/\t9'=true)/\I t2' t6' t7' t8' w'/\μ t2' t6' t7' t8' w'<μ ((f'+1:Nat):Int) (n:Int) (d:Int) (i:Int) wL) w:=by
      intro n2 d2 e1 e2;rw[<-e1,<-e2]at hw;have hn2:n2<=258:=by rw[e1];split<;>omega
      unfold qjb.j6;refine qkd (h.fL ?_);refine h.lx (s:=p) i rfl (by rw[hF.len];exact hia) ?_;have hrow:=hF.row i hia (by omega);unfold prI at hrow;rw[hrow];cases hj:lastK xs (qfo xs i) i with
      |none=>
       rw[hj]at hw;simp only at hw|-
       exact quc (λ_=>ex n2 d2 w (eb.trans hw.symm) h) (λg3=>absurd (by omega) g3)
      |some j=>
       rw[hj]at hw;simp only at hw|-
       have hji:=(qqp hj).1;refine quc (λg3=>by omega) (λg3=>?_);refine qye (λg4=>?_) (λg4=>?_)
       ·have g4:(n2:Int)=258:=by simpa using g4
        rw[if_pos (by omega)]at hw;exact ex n2 d2 w (eb.trans hw.symm) h
       ·have g4:¬(n2:Int)=258:=by simpa using g4
        rw[if_neg (by omega)]at hw;unfold qjb.j5;refine qm (qd (by omega) (by omega)) ?_;exact⟨⟨rfl,rfl,rfl⟩,hin (f',n2,d2,j) _ _ _ _ _ ⟨by simp only;omega,rfl,rfl,rfl,by simp only;omega,by simp only;omega,hn2,hw,h⟩ (by simp only;omega)⟩
     refine quc (λg3=>?_) (λg3=>?_)
     ·refine qm (show i64.wrap ((a:Int)-i)=((a-i:Nat):Int)by rw[qd (by omega) (by omega)];omega) ?_
      exact j6 _ _ (by rw[if_pos (by omega)]) (by rw[if_pos (by omega)])
     ·exact j6 _ _ (by rw[if_neg (by omega)]) (by rw[if_neg (by omega)])
    ·rw[if_pos (by omega)]at hw
     exact ex n d wL (eb.trans hw.symm) h
   ·have:f=0:=by omega
    subst this
    exact ex n d wL (eb.trans hw.symm) h
 have lk:∀(w:World),St F0 w0 w (qqb fb [.slice s.a s.len s.cap,.map (some mb),.slice p.a p.len p.cap]::mpA mb (kvl E)::qcc 1 p (ivs .i64 P)::ps)->
  ∃r20:Int,∃r21:Bool,lkR prog 150 (.map (some mb)) (.agg ⟨kyL (qfo xs a)⟩) true w (.tuple ⟨[.int .i64 r20,.bool r21]⟩)/\qjb.j2 (some ⟨fb,0,none⟩) (a:Int) (L:Int) 0 0 r20 r21 (λv w'=>K (.returned v) w') w:=by
  intro w h
  refine h.klook hF.keys (qujb hb a) (λhn=>j2 w 0 false (Or.inl ⟨rfl,?_⟩) h) (λe he hek=>?_)
  ·cases hj:lastK xs (qfo xs a) a with
   |none=>rfl
   |some i=>
    obtain⟨j,e,h1,h2⟩:=hM.all _ _ hj
    exact absurd h2 (hn e (mem_of_getElem? h1))
  ·obtain⟨j,hj⟩:=List.mem_iff_getElem?.1 he
   obtain⟨i,h1,h2⟩:=hM.val j e hj
   rw[hek]at h2
   exact j2 w _ true (Or.inr ⟨i,h1,rfl,h2⟩) h
 refine qkd ⟨?_,?_⟩
 ·refine h.fM ?_
  exact qef.c (xs:=xs) (i:=a) h hc (by omega) λw h=>⟨_,rfl,lk w h⟩
 ·refine qef.c (xs:=xs) (i:=a) h hc (by omega) λw h=>⟨_,rfl,?_⟩
  exact h.fM (lk w h)
theorem qed.c{a:Nat}{K:Ending->World->Prop}(h:St F0 w0 w (finA fb mb s p E P::ps))[Rdb F0 w0 s ps 1 (u8s xs)](hb:∀x∈xs,0<=x/\x<256)(hc:s.len<=s.cap)(hlen:xs.length<=1000000)(hF:FOK xs E P a)(ha:a<xs.length)
 (hk:∀p' E' P' w',St F0 w0 w' (finA fb mb s p' E' P'::ps)->FOK xs E' P' (a+1)->K (.returned (.tuple ⟨[]⟩)) w'):
 Calls prog 92 ⟨[.pointer (some ⟨fb,0,none⟩),.int .i64 (a:Int)]⟩ w K:=by
 have hl:=(h.drop.rdb s).1
 rw[qk]at hl
 have hPl:=hF.len
 have h:=fin_o h
 refine qdc (qed.ok _ _ _ _ ?_)
 unfold qed
 refine qkd (h.fL ?_)
 refine h.pushI (s:=p) (k:= .i64) (zs:=P) (by omega) λp2 w h=>?_
 refine qkd (h.fst trivial λw h=>?_)
 have h:St F0 w0 w (qqb fb [.slice s.a s.len s.cap,.map (some mb),.slice p2.a p2.len p2.cap]::mpA mb (kvl E)::qcc 1 p2 (ivs .i64 (P++[-1]))::ps):=h.sub
 refine qm (qd (by omega) (by omega)) ?_
 refine qkd (h.fL ?_)
 have old:∀j,j<a->(P++[-1]).getD j 0=P.getD j 0:=by
  intro j hj;rw[getD,List.getElem?_append_left (by omega)];rfl
 refine quc (λg=>?_) (λg=>?_)
 ·have g:(a:Int)+3>(s.len:Int):=g
  refine hk p2 E (P++[-1]) w (qqob h) ⟨by simp[hPl],hF.keys,λhle=>by omega,λj hj hj3=>?_⟩
  rw[old j (by omega)]
  exact hF.row j (by omega) hj3
 have g:¬(a:Int)+3>(s.len:Int):=g
 have hM:=hF.map (by omega)
 unfold qed.j1
 refine h.drewK λw h=>?_
 have set:∀(P2:List Int) (w:World),P2.length=a+1->(∀j,j<a+1->j+3<=xs.length->P2.getD j 0=prI xs j)->St F0 w0 w (qqb fb [.slice s.a s.len s.cap,.map (some mb),.slice p2.a p2.len p2.cap]::mpA mb (kvl E)::qcc 1 p2 (ivs .i64 P2)::ps)->
  ∃w7:World,muR prog 150 (.map (some mb)) (.agg ⟨kyL (qfo xs a)⟩) (.int .i64 (a:Int)) w w7/\K (.returned (.tuple ⟨[]⟩)) w7:=by
  intro P2 w h1 h2 h
  refine h.kset hF.keys (qujb hb a) λE' w h he=>?_
  refine hk p2 E' P2 w (qqob h.sub) ⟨h1,?_,λhle=>hM.next he,h2⟩
  rcases he with⟨rfl,_⟩|⟨j,e,_,_,rfl⟩
  ·intro e he
   rcases List.mem_append.1 he with he|he
   ·exact hF.keys e he
   ·have:e=(qfo xs a,(a:Int)):=by simpa using he
    subst this
    exact qujb hb a
  ·intro e2 he
   rcases List.mem_or_eq_of_mem_set he with he|rfl
   ·exact hF.keys e2 he
   ·exact qujb hb a
 have j2:∀(P2:List Int) (w:World),P2.length=a+1->(∀j,j<a+1->j+3<=xs.length->P2.getD j 0=prI xs j)->St F0 w0 w (qqb fb [.slice s.a s.len s.cap,.map (some mb),.slice p2.a p2.len p2.cap]::mpA mb (kvl E)::qcc 1 p2 (ivs .i64 P2)::ps)->
  qed.j2 (some ⟨fb,0,none⟩) (a:Int) (λv w'=>K (.returned v) w') w:=by
  intro P2 w h1 h2 h
  unfold qed.j2
  refine h.drewK λw h=>?_
  refine qkd ⟨?_,?_⟩
  ·refine h.fM ?_
   exact qef.c (xs:=xs) (i:=a) h hc (by omega) λw h=>⟨_,rfl,set P2 w h1 h2 h⟩
  ·refine qef.c (xs:=xs) (i:=a) h hc (by omega) λw h=>⟨_,rfl,?_⟩
   exact h.fM (set P2 w h1 h2 h)
 have j3:∀(w:World) (r20:Int) (r21:Bool),((r21=false/\lastK xs (qfo xs a) a=none)\/∃i:Nat,r20=(i:Int)/\r21=true/\lastK xs (qfo xs a) a=some i)->
  St F0 w0 w (qqb fb [.slice s.a s.len s.cap,.map (some mb),.slice p2.a p2.len p2.cap]::mpA mb (kvl E)::qcc 1 p2 (ivs .i64 (P++[-1]))::ps)->qed.j3 (some ⟨fb,0,none⟩) (a:Int) r20 r21 (λv w'=>K (.returned v) w') w:=by
  intro w r20 r21 hr h
  unfold qed.j3
  rcases hr with⟨rfl,e⟩|⟨i,rfl,rfl,e⟩
  ·refine qcq (j2 _ w (by simp[hPl]) (λj hj hj3=>?_) h)
   rcases lt_or_ge j a with h1|h1
   ·rw[old j h1];exact hF.row j h1 hj3
   ·have:j=a:=by omega
    subst this
    unfold prI
    rw[e,getD,List.getElem?_append_right (by omega),hPl]
    simp
  ·refine qgp (qkd (h.fL ?_))
   refine h.sx (s:=p2) a rfl (by simp[hPl]) λw h=>?_
   refine j2 ((P++[-1]).set a (i:Int)) w (by simp[hPl]) (λj hj hj3=>?_) h.sub
   rcases lt_or_ge j a with h1|h1
   ·rw[getD,getElem?_set,if_neg (by omega)]
    have:=old j h1
    rw[getD]at this
    rw[this];exact hF.row j h1 hj3
   ·have:j=a:=by omega
    subst this
    unfold prI
    rw[e,getD,getElem?_set,if_pos rfl,if_pos (by simp[hPl])]
    rfl
 have lk:∀(w:World),St F0 w0 w (qqb fb [.slice s.a s.len s.cap,.map (some mb),.slice p2.a p2.len p2.cap]::mpA mb (kvl E)::qcc 1 p2 (ivs .i64 (P++[-1]))::ps)->
  ∃r20:Int,∃r21:Bool,lkR prog 150 (.map (some mb)) (.agg ⟨kyL (qfo xs a)⟩) true w (.tuple ⟨[.int .i64 r20,.bool r21]⟩)/\qed.j3 (some ⟨fb,0,none⟩) (a:Int) r20 r21 (λv w'=>K (.returned v) w') w:=by
  intro w h
  refine h.klook hF.keys (qujb hb a) (λhn=>j3 w 0 false (Or.inl ⟨rfl,?_⟩) h) (λe he hek=>?_)
  ·cases hj:lastK xs (qfo xs a) a with
   |none=>rfl
   |some i=>
    obtain⟨j,e,h1,h2⟩:=hM.all _ _ hj
    exact absurd h2 (hn e (mem_of_getElem? h1))
  ·obtain⟨j,hj⟩:=List.mem_iff_getElem?.1 he
   obtain⟨i,h1,h2⟩:=hM.val j e hj
   rw[hek]at h2
   exact j3 w _ true (Or.inr ⟨i,h1,rfl,h2⟩) h
 refine qkd ⟨?_,?_⟩
 ·refine h.fM ?_
  exact qef.c (xs:=xs) (i:=a) h hc (by omega) λw h=>⟨_,rfl,lk w h⟩
 ·refine qef.c (xs:=xs) (i:=a) h hc (by omega) λw h=>⟨_,rfl,?_⟩
  exact h.fM (lk w h)
end
end
section
attribute [local irreducible] apK cpK mkK br
class ElT(P:Program)(e:TypeId):Prop where
 info:∃i,P.info? e=some i/\i.size=3/\i.bytes≠0/\i.bytes<=48
 zc:(Go.Proofs.YtdccpphmkfaioaaGreat.zc P e).size=3
instance elt_tok:ElT prog 144:=⟨⟨Tryz.t144,by kernel_rfl,rfl,by decide,by decide⟩,by kernel_rfl⟩
theorem qsrb(t:Tk):spl [.int .u8 0,.int .i64 0,.int .i64 0] 0 ⟨tkC t⟩=tkC t:=by kernel_rfl
section
variable {F0:List Nat}{w0 w:World}{ps rest:List As}{P:Program}{e:TypeId}{s:Sl}{L:List Tk}{xs:List Int}
theorem St.pushT{t:Tk}{K:Sl->World->Prop}[he:ElT P e](h:St F0 w0 w ps)[PkO s ps 3 (tks L) rest](hlen:L.length<=1000000000)
 (hk:∀s' w',s'.len=s.len+1->St F0 w0 w' (qcc 3 s' (tks (L++[t]))::rest)->K s' w'):
 lt (⟨World.heapSize w,0,none⟩:Addr) λa=>lt (World.alloc w (.cells ⟨spl [.int .u8 0,.int .i64 0,.int .i64 0] 0 ⟨tkC t⟩⟩ e)) λw1=>rdO w1 (some a) (1*3) λc=>apK P e w1 s.a s.len s.cap 1 c K:=by
 rw[qsrb]
 refine(h.toO s).new λnb w h=>?_
 have h:St F0 w0 w (qqb nb (tkC t)::qcc 3 s (tks L)::rest):=h
 refine h.rdB rfl ?_
 have h:=h.drop
 have hl:=h.len
 rw[qtj]at hl
 obtain⟨i,h1,h2,h3,h4⟩:=he.info
 refine St.append (i:=i) (sz:=3) (m:=1) h1 h2 (by decide) he.zc h3 ?_ h rfl (qmo t) λs' w' h hl'=>hk s' w' hl' (by rw[qymb];exact h)
 refine Nat.le_trans (Nat.mul_le_mul_left _ h4) ?_
 omega
theorem qvt.c{cs:List Value}{K:Ending->World->Prop}(h:St F0 w0 w (rdA 3 s cs::ps))(hc:s.len<=s.cap)
 (hk:∀s':Sl,s'.len=s.len->s'.cap=s.len->St F0 w0 w (rdA 3 s' cs::ps)->K (.returned (.slice s'.a s'.len s'.cap)) w):Calls prog 93 ⟨[.slice s.a s.len s.cap]⟩ w K:=by
 refine qdc (qlh.ok _ _ _ ?_)
 unfold qlh
 refine⟨⟨by omega,by omega⟩,⟨by omega,by omega⟩,qbe ?_⟩
 refine hk ⟨_,_,_⟩ (by simp) (by simp) (h.recap ?_ (by simp))
 show qnf s.a _ 0 3=s.a
 unfold qnf
 split
 ·rfl
 ·cases s.a with
  |none=>rfl
  |some a=>simp[Addr.add]
theorem qtgb{b:List Int}{looks at':Nat}(h:at'<b.length):findL b looks (b.length-at') at'=(stepL b looks at').1::findL b looks (b.length-(at'+(stepL b looks at').2)) (at'+(stepL b looks at').2):=by
 obtain⟨f,hf⟩:∃f,b.length-at'=f+1:=⟨b.length-at'-1,by omega⟩;rw[hf,findL,if_pos h];congr 1;have:=qyq b looks at';exact qugb _ _ _ _ _ (by omega) (by omega)
theorem qscb(b:List Int)(looks:Nat):∀f at',b.length-at'<=f->at'<=b.length->Makes b at' (findL b looks f at') b.length:=by
 intro f;induction f with
 |zero=>
  intro at' h1 h2;have:at'=b.length:=by omega
  subst this;exact Makes.nil _
 |succ f ih=>
  intro at' h1 h2;rw[findL];split
  ·rename_i hlt;have hp:=qyq b looks at';have hle:=qvdb b looks at' hlt;have hr:=ih (at'+(stepL b looks at').2) (by omega) hle;revert hr;unfold stepL;simp only
   split
   ·intro hr;exact Makes.lit hlt hr
   ·rename_i h3;intro hr;rcases qnw b at' looks with h4|⟨h4,h5,h6,h7,h8,h9⟩
    ·omega
    ·exact Makes.copy (by omega) h4 h5 h6 h7 h8 h9 hr
  ·have:at'=b.length:=by omega
   subst this;exact Makes.nil _
def qto(e:Int):Nat:=(if 4096<e then 4096 else e).toNat
theorem qggb(e:Int):qto e<=4096:=by unfold qto;split<;>omega
theorem qbob(e:Int):(if(4096:Int)<(if(0:Int)>e then 0 else e)then 4096 else(if(0:Int)>e then 0 else e))=(qto e:Int):=by
 unfold qto;by_cases h1:(0:Int)>e
 ·rw[if_pos h1,if_neg (by decide),if_neg (by omega)];omega
 ·rw[if_neg h1];by_cases h2:4096<e
  ·rw[if_pos h2];rfl
  ·rw[if_neg h2];omega
theorem qfd.c{e:Int}{K:Ending->World->Prop}(h:St F0 w0 w ps)[Rdb F0 w0 s ps 1 (u8s xs)](hb:∀x∈xs,0<=x/\x<256)(hc:s.len<=s.cap)(hlen:xs.length<=262144)
 (hk:∀s' w',s'.len=(findL xs (qto e) xs.length 0).length->s'.cap=s'.len->St F0 w0 w' (rdA 3 s' (tks (findL xs (qto e) xs.length 0))::ps)->K (.returned (.slice s'.a s'.len s'.cap)) w'):
 Calls prog 77 ⟨[.slice s.a s.len s.cap,.int .i64 e]⟩ w K:=by
 have hl:=(h.rdb s).1
 rw[qk]at hl
 refine qdc (qfd.ok _ _ _ _ ?_)
 unfold qfd qfd.j1
 refine quc (λg=>by omega) (λ_=>?_)
 refine h.mmake λmb w h=>?_
 refine h.new λfb w h=>?_
 have h:=(h.nil 1).at2.at2
 have h:St F0 w0 w (finA fb mb s ⟨none,0,0⟩ [] []::ps):=qqob h
 unfold qfd.j2
 refine qbe (qm (qbob e) ?_)
 have hlk:=qggb e
 generalize qto e=looks at hk hlk|-
 unfold qfd.j3 qfd.j5
 refine qug (λ(u:Nat×List Tk×Sl×List ((Int×Int×Int)×Int)×List Int) (o:Sl) (at':Int) w'=>at'=u.1/\u.1<=xs.length/\u.2.1.length<=u.1/\u.2.1++findL xs looks (xs.length-u.1) u.1=findL xs looks xs.length 0/\FOK xs u.2.2.2.1 u.2.2.2.2 u.1/\St F0 w0 w' (qcc 3 o (tks u.2.1)::finA fb mb s u.2.2.1 u.2.2.2.1 u.2.2.2.2::ps)) (λu=>xs.length-u.1) (0,[],⟨none,0,0⟩,[],[])
  ⟨rfl,by simp,by simp,by simp,⟨rfl,by simp,λ_=>KM.nil xs,λj hj _=>absurd hj (Nat.not_lt_zero j)⟩,h.nil 3⟩ ?_
 clear h
 rintro⟨a,L,p,E,P⟩ o at' wL I μ ⟨rfl,ha,hLa,hf,hF,h⟩ hin
 simp only at ha hLa hf hF h hin|-
 unfold qfd.b1
 refine quc (λg=>?_) (λg=>?_)
 ·have hlt:a<xs.length:=by omega
  rw[qtgb hlt]at hf
  unfold qfd.j6
  have hle:=qvdb xs looks a hlt
  have hp:=qyq xs looks a
  refine qjb.c (xs:=xs) h.at1 hb hc (by omega) hF ha hlk λw h=>⟨_,_,rfl,?_⟩
  unfold qfd.j7
  refine h.tokN (t:=(0,((bestL xs a looks).1:Int),((bestL xs a looks).2:Int))) λnb w h=>?_
  have fin:∀(t:Tk) (n:Nat) (w:World),(t,n)=stepL xs looks a->St F0 w0 w (qqb nb (tkC t)::finA fb mb s p E P::qcc 3 o (tks L)::ps)->qfd.j8 s (some ⟨fb,0,none⟩) (looks:Int) o (a:Int) (n:Int) ⟨nb,0,none⟩ (λv w'=>K (.returned v) w') (λb' f' l' o' at'' w'=>(b'=s/\f'=some ⟨fb,0,none⟩/\l'=(looks:Int))/\I o' at'' w'/\μ o' at'' w'<μ o (a:Int) wL) w:=by
   intro t n w e h;rw[<-e]at hf hle hp;simp only at hf hle hp;unfold qfd.j8;refine h.lA rfl ⟨rfl,?_⟩;refine h.pushT (s:=o) (L:=L) (t:=t) (by omega) λo2 w hol h=>?_;have h:St F0 w0 w (qcc 3 o2 (tks (L++[t]))::finA fb mb s p E P::ps):=h.sub;unfold qfd.j9;refine qug (λ(v:Nat×Sl×List ((Int×Int×Int)×Int)×List Int) (at' c':Int) w'=>c'=v.1/\at'=((a+v.1:Nat):Int)/\v.1<=n/\FOK xs v.2.2.1 v.2.2.2 (a+v.1)/\St F0 w0 w' (qcc 3 o2 (tks (L++[t]))::finA fb mb s v.2.1 v.2.2.1 v.2.2.2::ps)) (λv=>n-v.1) (0,p,E,P) ⟨rfl,rfl,by simp,hF,h⟩ ?_;clear h;rintro⟨c,p2,E2,P2⟩ at2 c' w2 I2 μ2 ⟨rfl,rfl,hcn,hF2,h⟩ hin2;simp only at hcn hF2 h hin2|-
   unfold qfd.b2;refine quc (λg2=>?_) (λg2=>?_)
   ·refine qed.c (xs:=xs) h.at1 hb hc (by omega) hF2 (by omega) λp3 E3 P3 w h hF3=>⟨rfl,?_⟩;refine qm (qd (by omega) (by omega)) ?_;refine qm (qd (by omega) (by omega)) ?_;exact⟨⟨rfl,rfl,rfl,rfl,rfl⟩,hin2 (c+1,p3,E3,P3) _ _ _ ⟨by simp,by simp only;omega,by simp only;omega,hF3,h.at1⟩ (by simp only;omega)⟩
   ·have:c=n:=by omega
    subst this
    exact⟨⟨rfl,rfl,rfl⟩,hin (a+c,L++[t],p2,E2,P2) _ _ _ ⟨rfl,hle,by simp;omega,by simpa using hf,hF2,h⟩ (by simp only;omega)⟩
  refine quc (λg2=>?_) (λg2=>?_)
  ·refine h.lx (s:=s) a rfl hlt ?_
   refine⟨rfl,?_⟩
   refine h.sA (l:=tkC (0,((bestL xs a looks).1:Int),((bestL xs a looks).2:Int))) (l':=tkC (xs.getD a 0,0,0)) rfl rfl (qmo _) λw h=>?_
   exact fin (xs.getD a 0,0,0) 1 w (by unfold stepL;simp only;rw[if_pos (by omega)]) h
  ·exact fin _ _ w (by unfold stepL;simp only;rw[if_neg (by omega)]) h
 ·have:a=xs.length:=by omega
  subst this
  rw[sub_self,show findL xs looks 0 xs.length=[]from rfl,append_nil]at hf
  unfold qfd.j4
  have hol:=h.len
  rw[qtj]at hol
  refine qvt.c h.ro (h.cap (by decide)) λs2 h1 h2 h=>⟨s2,rfl,?_⟩
  rw[<-hf]at hk
  exact hk s2 wL (by omega) (by omega) (h.tail λ_ _ _ h=>h.drop)
end
end
section
attribute [local irreducible] apK cpK mkK br
section
variable {F0:List Nat}{w0 w:World}{ps rest rest2:List As}
theorem qmt{x:Int}(h0:0<=x)(h1:x<18446744073709551616):u64.wrap x=x:=by
 have e:u64.wrap x=x%18446744073709551616:=by simp[IntKind.wrap,IntKind.bits,IntKind.signed]
 rw[e];omega
theorem qrn{e x:Int}(h0:0<=x)(h1:x<=24):pb e x=ql e x.toNat:=by
 unfold pb;rw[if_pos ⟨h0,h1⟩]
theorem qrpb{v:Int}{dist:Bool}{n e x:Int}(h:symP v dist n e x):0<=x/\x<=14:=by
 rcases h with⟨_,_,_,b,hz,_,_,_,h0⟩|⟨_,_,_,b,hz,_,_,_,h0⟩
 ·have:=qmpb n;rw[hz]at this
  exact⟨h0,this⟩
 ·have:=qkpb n;rw[hz]at this
  exact⟨h0,by simp only at this;omega⟩
end
end
section
set_option maxRecDepth 100000
def qbj(Q:VWP)(w:World):Prop:=nw w (zc prog 236) 236 λa1 w2=>((⟨[.int .i64 16,.int .i64 17,.int .i64 18,.int .i64 0,.int .i64 8,.int .i64 7,.int .i64 9,.int .i64 6,.int .i64 10,.int .i64 5,.int .i64 11,.int .i64 4,.int .i64 12,.int .i64 3,.int .i64 13,.int .i64 2,.int .i64 14,.int .i64 1,.int .i64 15]⟩:Array Value)).size=19/\stA w2 a1 (⟨[.int .i64 16,.int .i64 17,.int .i64 18,.int .i64 0,.int .i64 8,.int .i64 7,.int .i64 9,.int .i64 6,.int .i64 10,.int .i64 5,.int .i64 11,.int .i64 4,.int .i64 12,.int .i64 3,.int .i64 13,.int .i64 2,.int .i64 14,.int .i64 1,.int .i64 15]⟩:Array Value) λw3=>ldA w3 a1 19 λc4=>Q (.agg c4) w3
theorem qbj.ok(Q:VWP)(w:World)(h:qbj Q w):Calls prog 171 ⟨[]⟩ w (Ret Q):=
 qhc [.cell 0 236] qde Tryz.func171 rfl rfl rfl rfl .lf (by kernel_rfl) h
def qqf(s_0:OAd)(sym_1:Int)(l_2:Sl)(Q:VWP)(w:World):Prop:=br (sym_1==16) (br ((l_2.len:Int)==0) (ct_ 160 [.pointer s_0,.int .i64 2] w λw2=>Q (.tuple ⟨[.int .i64 0,.int .i64 0]⟩) w2) (lt (World.drew w) λw3=>lt (i64.wrap ((l_2.len:Int)-1)) λx4=>ixS l_2.a l_2.len x4 1 λa5=>(ldI .i64 w3 a5 λx6=>qbk 156 [.pointer s_0,.int .i64 2] w3 λr9 w8=>lt (i64.wrap (3+r9)) λx10=>Q (.tuple ⟨[.int .i64 x6,.int .i64 x10]⟩) w8)/\(qbk 156 [.pointer s_0,.int .i64 2] w3 λr13 w12=>lt (i64.wrap (3+r13)) λx14=>ldI .i64 w12 a5 λx15=>Q (.tuple ⟨[.int .i64 x15,.int .i64 x14]⟩) w12))) (br (sym_1==17) (qbk 156 [.pointer s_0,.int .i64 3] w λr18 w17=>lt (i64.wrap (3+r18)) λx19=>Q (.tuple ⟨[.int .i64 0,.int .i64 x19]⟩) w17) (br (sym_1==18) (qbk 156 [.pointer s_0,.int .i64 7] w λr22 w21=>lt (i64.wrap (11+r22)) λx23=>Q (.tuple ⟨[.int .i64 0,.int .i64 x23]⟩) w21) (Q (.tuple ⟨[.int .i64 sym_1,.int .i64 1]⟩) w)))
theorem qqf.ok(s_0:OAd)(sym_1:Int)(l_2:Sl)(Q:VWP)(w:World)(h:qqf s_0 sym_1 l_2 Q w):Calls prog 172 ⟨[.pointer s_0,.int .i64 sym_1,sV l_2]⟩ w (Ret Q):=
 qhc [.tmp 6,.tmp 7] qde Tryz.func172 rfl rfl rfl rfl .lf (by kernel_rfl) h
def qsb.j4(newslice_7:Sl)(Q:VWP)(w:World):Prop:=Q (sV newslice_7) w
def qsb.b1(newslice_7:Sl)(n_8:Int)(Q:VWP)(nx1:Sl->Int->WP)(w:World):Prop:=br (decide (n_8<(newslice_7.len:Int))) (lt (World.drew w) λw1=>bd n_8 newslice_7.len λn2=>lt (⟨qnf newslice_7.a newslice_7.cap n2 1,newslice_7.len-n2,newslice_7.cap-n2⟩:Sl) λs3=>bd n_8 newslice_7.cap λn4=>lt (⟨qnf newslice_7.a newslice_7.cap 0 1,n4-0,newslice_7.cap-0⟩:Sl) λs5=>rdO w1 s5.a ((Nat.min s5.len s3.len)*1) λc6=>cpK w1 s3.a c6 λw7=>lt (i64.wrap (n_8+((Nat.min s5.len s3.len:Nat):Int))) λx8=>nx1 newslice_7 x8 w7) (qsb.j4 newslice_7 Q w)
def qsb.l1(newslice_7:Sl)(n_8:Int)(Q:VWP)(w:World):Prop:=∃(I:Int->WP) (μ:Int->World->Nat),I n_8 w/\∀n_8:Int,∀w:World,I n_8 w->qsb.b1 newslice_7 n_8 Q (λnewslice_7' n_8' w'=>(newslice_7'=newslice_7)/\I n_8' w'/\μ n_8' w'<μ n_8 w) w
def qsb.j3(newslice_7:Sl)(n_8:Int)(Q:VWP)(w:World):Prop:=qsb.l1 newslice_7 n_8 Q w
def qsb.j2(x_0:Sl)(lo_6:Int)(Q:VWP)(w:World):Prop:=lt (i64.wrap lo_6) λx9=>mkK prog 3 w x9 x9 λs10 w11=>rdO w11 x_0.a ((Nat.min x_0.len s10.len)*1) λc12=>cpK w11 s10.a c12 λw13=>qsb.j3 s10 ((Nat.min x_0.len s10.len:Nat):Int) Q w13
def qsb.j1(x_0:Sl)(count_1:Int)(Q:VWP)(w:World):Prop:=lt (u64.wrap (x_0.len:Int)) λx14=>lt (u64.wrap count_1) λx15=>Calls prog 177 ⟨[.int .u64 x14,.int .u64 x15]⟩ w λe16 w17=>∃r18:Int,∃r19:Int,e16= .returned (.tuple ⟨[.int .u64 r18,.int .u64 r19]⟩)/\br (decide (r18>0)) (False) (br (decide (r19>9223372036854775807)) (False) (qsb.j2 x_0 r19 Q w17))
def qsb(x_0:Sl)(count_1:Int)(Q:VWP)(w:World):Prop:=br (decide (count_1<0)) (False) (qsb.j1 x_0 count_1 Q w)
theorem qsb.ok(x_0:Sl)(count_1:Int)(Q:VWP)(w:World)(h:qsb x_0 count_1 Q w):Calls prog 173 ⟨[sV x_0,.int .i64 count_1]⟩ w (Ret Q):=
 qhc [.tmp 4] qde Tryz.func173 rfl rfl rfl rfl (.pr 1 [sL 0,sI 1] (λa b w=>qsb.j1 a b Q w) (.pr 1 [sL 0,(6,.I .u64)] (λa b w=>qsb.j2 a b Q w) (.pr 1 [sL 7,sI 8] (λa b w=>qsb.j3 a b Q w) (.sq [sL 7] (λa w=>qsb.j4 a Q w) (.bk (.lo [sL 7] [sI 8] (λa b w=>qsb.l1 a b Q w) (λnx1 a b w=>qsb.b1 a b Q nx1 w) λnx1=> .lf)) .lf)))) (by kernel_rfl) h
def qh.j7(s_0:OAd)(nl_4:Int)(l_11:Sl)(Q:VWP)(w:World):Prop:=nz s_0 λa1=>ldI .i64 w (Addr.add a1 3) λx2=>br (x2 !=0) (Q (.tuple ⟨[.slice none 0 0,.slice none 0 0]⟩) w) (lt (World.drew w) λw3=>bd nl_4 l_11.cap λn4=>lt (⟨qnf l_11.a l_11.cap 0 1,n4-0,l_11.cap-0⟩:Sl) λs5=>bd nl_4 l_11.len λn6=>lt (⟨qnf l_11.a l_11.cap n6 1,l_11.len-n6,l_11.cap-n6⟩:Sl) λs7=>Q (.tuple ⟨[sV s5,sV s7]⟩) w3)
def qh.j9(s_0:OAd)(nl_4:Int)(nd_5:Int)(c_10:OAd)(l_11:Sl)(x_12:Int)(n_13:Int)(Q:VWP)(nx1:OAd->Int->Int->OAd->Sl->WP)(w:World):Prop:=nz s_0 λa8=>ldI .i64 w (Addr.add a8 3) λx9=>br (x9==0) (nw w ⟨[.int .i64 x_12]⟩ 3 λa10 w11=>qak 173 [.slice (some a10) 1 1,.int .i64 n_13] w11 λr14 w13=>rdO w13 r14.a (r14.len*1) λc15=>apK prog 3 w13 l_11.a l_11.len l_11.cap r14.len c15 λs16 w17=>nx1 s_0 nl_4 nd_5 c_10 s16 w17) (nx1 s_0 nl_4 nd_5 c_10 l_11 w)
def qh.j8(s_0:OAd)(nl_4:Int)(nd_5:Int)(c_10:OAd)(l_11:Sl)(Q:VWP)(nx1:OAd->Int->Int->OAd->Sl->WP)(w:World):Prop:=qbk 168 [.pointer s_0,.func (.func 169) ⟨[.pointer c_10]⟩ ⟨[]⟩] w λr20 w19=>qhlb 172 [.pointer s_0,.int .i64 r20,sV l_11] w19 λr23 r24 w22=>lt (i64.wrap (nl_4+nd_5)) λx25=>lt (i64.wrap (x25-(l_11.len:Int))) λx26=>br (decide (r24>x26)) (ct_ 160 [.pointer s_0,.int .i64 2] w22 λw28=>qh.j9 s_0 nl_4 nd_5 c_10 l_11 r23 r24 Q nx1 w28) (qh.j9 s_0 nl_4 nd_5 c_10 l_11 r23 r24 Q nx1 w22)
def qh.b1(s_0:OAd)(nl_4:Int)(nd_5:Int)(c_10:OAd)(l_11:Sl)(Q:VWP)(nx1:OAd->Int->Int->OAd->Sl->WP)(w:World):Prop:=nz s_0 λa29=>ldI .i64 w (Addr.add a29 3) λx30=>br (x30==0) (lt (i64.wrap (nl_4+nd_5)) λx31=>br (decide ((l_11.len:Int)<x31)) (qh.j8 s_0 nl_4 nd_5 c_10 l_11 Q nx1 w) (qh.j7 s_0 nl_4 l_11 Q w)) (qh.j7 s_0 nl_4 l_11 Q w)
def qh.l1(s_0:OAd)(nl_4:Int)(nd_5:Int)(c_10:OAd)(l_11:Sl)(Q:VWP)(w:World):Prop:=∃(I:Sl->WP) (μ:Sl->World->Nat),I l_11 w/\∀l_11:Sl,∀w:World,I l_11 w->qh.b1 s_0 nl_4 nd_5 c_10 l_11 Q (λs_0' nl_4' nd_5' c_10' l_11' w'=>(s_0'=s_0/\nl_4'=nl_4/\nd_5'=nd_5/\c_10'=c_10)/\I l_11' w'/\μ l_11' w'<μ l_11 w) w
def qh.j6(s_0:OAd)(nl_4:Int)(nd_5:Int)(c_10:OAd)(l_11:Sl)(Q:VWP)(w:World):Prop:=qh.l1 s_0 nl_4 nd_5 c_10 l_11 Q w
def qh.j5(s_0:OAd)(nl_4:Int)(nd_5:Int)(cl_6:Addr)(Q:VWP)(w:World):Prop:=lt (⟨cutP cl_6 19 0 1,19-0,19-0⟩:Sl) λs32=>qchb 167 [.pointer s_0,sV s32,.bool false] w λr35 w34=>qh.j6 s_0 nl_4 nd_5 r35 ⟨none,0,0⟩ Q w34
def qh.b2(s_0:OAd)(nl_4:Int)(nd_5:Int)(cl_6:Addr)(t32:Sl)(t33:Int)(t34:Int)(Q:VWP)(nx2:OAd->Int->Int->Addr->Sl->Int->Int->WP)(w:World):Prop:=br (decide (t34<t33)) (ixS t32.a t32.len t34 1 λa36=>ldI .i64 w a36 λx37=>qbk 156 [.pointer s_0,.int .i64 3] w λr40 w39=>ixA cl_6 19 x37 1 λa41=>st w39 a41 (.int .i64 r40) λw42=>lt (i64.wrap (t34+1)) λx43=>nx2 s_0 nl_4 nd_5 cl_6 t32 t33 x43 w42) (qh.j5 s_0 nl_4 nd_5 cl_6 Q w)
def qh.l2(s_0:OAd)(nl_4:Int)(nd_5:Int)(cl_6:Addr)(t32:Sl)(t33:Int)(t34:Int)(Q:VWP)(w:World):Prop:=∃(I:Int->WP) (μ:Int->World->Nat),I t34 w/\∀t34:Int,∀w:World,I t34 w->qh.b2 s_0 nl_4 nd_5 cl_6 t32 t33 t34 Q (λs_0' nl_4' nd_5' cl_6' t32' t33' t34' w'=>(s_0'=s_0/\nl_4'=nl_4/\nd_5'=nd_5/\cl_6'=cl_6/\t32'=t32/\t33'=t33)/\I t34' w'/\μ t34' w'<μ t34 w) w
def qh.j10(s_0:OAd)(nl_4:Int)(nd_5:Int)(cl_6:Addr)(t32:Sl)(t33:Int)(t34:Int)(Q:VWP)(w:World):Prop:=qh.l2 s_0 nl_4 nd_5 cl_6 t32 t33 t34 Q w
def qh.j4(s_0:OAd)(nl_4:Int)(nd_5:Int)(cl_6:Addr)(first_7:Addr)(Q:VWP)(w:World):Prop:=qbk 156 [.pointer s_0,.int .i64 4] w λr46 w45=>lt (i64.wrap (r46+4)) λx47=>bd x47 19 λn48=>lt (⟨cutP first_7 19 0 1,n48-0,19-0⟩:Sl) λs49=>qh.j10 s_0 nl_4 nd_5 cl_6 s49 (s49.len:Int) 0 Q w45
def qh.j3(s_0:OAd)(nl_4:Int)(nd_5:Int)(Q:VWP)(w:World):Prop:=nw w (zc prog 236) 236 λa50 w51=>qgv 171 [] w51 λr54 w53=>nw w53 (zc prog 236) 236 λa55 w56=>(r54).size=19/\stA w56 a55 r54 λw57=>qh.j4 s_0 nl_4 nd_5 a50 a55 Q w57
def qh.j2(s_0:OAd)(nl_4:Int)(Q:VWP)(w:World):Prop:=qbk 156 [.pointer s_0,.int .i64 5] w λr60 w59=>lt (i64.wrap (r60+1)) λx61=>br (decide (x61>30)) (ct_ 160 [.pointer s_0,.int .i64 2] w59 λw63=>qh.j3 s_0 nl_4 x61 Q w63) (qh.j3 s_0 nl_4 x61 Q w59)
def qh.j1(s_0:OAd)(Q:VWP)(w:World):Prop:=qbk 156 [.pointer s_0,.int .i64 5] w λr66 w65=>lt (i64.wrap (r66+257)) λx67=>br (decide (x67>286)) (ct_ 160 [.pointer s_0,.int .i64 2] w65 λw69=>qh.j2 s_0 x67 Q w69) (qh.j2 s_0 x67 Q w65)
def qh(s_0:OAd)(Q:VWP)(w:World):Prop:=qh.j1 s_0 Q w
theorem qh.ok(s_0:OAd)(Q:VWP)(w:World)(h:qh s_0 Q w):Calls prog 159 ⟨[.pointer s_0]⟩ w (Ret Q):=
 qhc [.tmp 2,.tmp 3] qde Tryz.func159 rfl rfl rfl rfl (.sq [sP 0] (λa w=>qh.j1 a Q w) .lf (.pr 1 [sP 0,sI 4] (λa b w=>qh.j2 a b Q w) (.pr 1 [sP 0,sI 4,sI 5] (λa b c w=>qh.j3 a b c Q w) (.pr 1 [sP 0,sI 4,sI 5,sA 6,sA 7] (λa b c d e w=>qh.j4 a b c d e Q w) (.sq [sP 0,sI 4,sI 5,sA 6] (λa b c d w=>qh.j5 a b c d Q w) (.sq [sP 0,sI 4,sI 5,sA 6,sL 32,sI 33,sI 34] (λa b c d e f g w=>qh.j10 a b c d e f g Q w) .lf (.bk (.lo [sP 0,sI 4,sI 5,sA 6,sL 32,sI 33] [sI 34] (λa b c d e f g w=>qh.l2 a b c d e f g Q w) (λnx2 a b c d e f g w=>qh.b2 a b c d e f g Q nx2 w) λnx2=> .lf))) (.pr 1 [sP 0,sI 4,sI 5,sP 10,sL 11] (λa b c d e w=>qh.j6 a b c d e Q w) (.sq [sP 0,sI 4,sL 11] (λa b c w=>qh.j7 a b c Q w) (.bk (.lo [sP 0,sI 4,sI 5,sP 10] [sL 11] (λa b c d e w=>qh.l1 a b c d e Q w) (λnx1 a b c d e w=>qh.b1 a b c d e Q nx1 w) λnx1=>(.sq [sP 0,sI 4,sI 5,sP 10,sL 11] (λa b c d e w=>qh.j8 a b c d e Q nx1 w) .lf (.bk (.pr 1 [sP 0,sI 4,sI 5,sP 10,sL 11,sI 12,sI 13] (λa b c d e f g w=>qh.j9 a b c d e f g Q nx1 w) .lf))))) .lf))))))) (by kernel_rfl) h
end
section
set_option maxRecDepth 100000
def qyp(x_0 y_1:Int)(Q:VWP)(w:World):Prop:=Calls prog 180 ⟨[.int .u64 x_0,.int .u64 y_1]⟩ w λe1 w2=>∃r3:Int,∃r4:Int,e1= .returned (.tuple ⟨[.int .u64 r3,.int .u64 r4]⟩)/\Q (.tuple ⟨[.int .u64 r3,.int .u64 r4]⟩) w2
theorem qyp.ok(x_0:Int)(y_1:Int)(Q:VWP)(w:World)(h:qyp x_0 y_1 Q w):Calls prog 177 ⟨[.int .u64 x_0,.int .u64 y_1]⟩ w (Ret Q):=
 qhc [.tmp 4,.tmp 5] qde Tryz.func177 rfl rfl rfl rfl .lf (by kernel_rfl) h
def qxp(x_0 y_1:Int)(Q:VWP)(w:World):Prop:=lt (qdj .u64 x_0 4294967295) λx1=>(0:Int)<=32/\lt (qal .u64 x_0 32) λx2=>lt (qdj .u64 y_1 4294967295) λx3=>(0:Int)<=32/\lt (qal .u64 y_1 32) λx4=>lt (u64.wrap (x1*x3)) λx5=>lt (u64.wrap (x2*x3)) λx6=>(0:Int)<=32/\lt (qal .u64 x5 32) λx7=>lt (u64.wrap (x6+x7)) λx8=>lt (qdj .u64 x8 4294967295) λx9=>(0:Int)<=32/\lt (qal .u64 x8 32) λx10=>lt (u64.wrap (x1*x4)) λx11=>lt (u64.wrap (x9+x11)) λx12=>lt (u64.wrap (x2*x4)) λx13=>lt (u64.wrap (x13+x10)) λx14=>(0:Int)<=32/\lt (qal .u64 x12 32) λx15=>lt (u64.wrap (x14+x15)) λx16=>lt (u64.wrap (x_0*y_1)) λx17=>Q (.tuple ⟨[.int .u64 x16,.int .u64 x17]⟩) w
theorem qxp.ok(x_0:Int)(y_1:Int)(Q:VWP)(w:World)(h:qxp x_0 y_1 Q w):Calls prog 180 ⟨[.int .u64 x_0,.int .u64 y_1]⟩ w (Ret Q):=
 qhc [.tmp 4,.tmp 5] qde Tryz.func180 rfl rfl rfl rfl .lf (by kernel_rfl) h
end
section
attribute [local irreducible] apK cpK mkK br
def qki:List Int:=[16,17,18,0,8,7,9,6,10,5,11,4,12,3,13,2,14,1,15]
def qel(B:List Bool)(z:Z):Nat->List Int×Z
 |0=>(replicate 19 0,z)
 |k+1=>((qel B z k).1.set (qki.getD k 0).toNat (qff B 3 (qel B z k).2).1,(qff B 3 (qel B z k).2).2)
def qtf(B:List Bool)(sym:Int)(l:List Int)(z:Z):(Int×Int)×Z:=
 if sym=16 then(if l.length=0 then((0,0),qtd 2 z)else((l.getD (l.length-1) 0,3+(qff B 2 z).1),(qff B 2 z).2))
 else if sym=17 then((0,3+(qff B 3 z).1),(qff B 3 z).2)
 else if sym=18 then((0,11+(qff B 7 z).1),(qff B 7 z).2)
 else((sym,1),z)
def zllS(cl:List Int)(B:List Bool)(N:Nat)(l:List Int)(z:Z):List Int×Z:=
 let s:=qyl cl B z
 let a:=qtf B s.1 l s.2
 let z3:=if(N:Int)-l.length<a.1.2 then qtd 2 a.2 else a.2
 (if z3.2.2=0 then l++replicate a.1.2.toNat a.1.1 else l,z3)
def zll(cl:List Int)(B:List Bool)(N:Nat):Nat->List Int->Z->List Int×Z
 |0,l,z=>(l,z)
 |f+1,l,z=>if z.2.2≠0\/N<=l.length then(l,z)else zll cl B N f (zllS cl B N l z).1 (zllS cl B N l z).2
def qgj(ls:List Int)(half:Bool)(z:Z):Z:=if z.2.2=0/\qqk ls half≠0 then qtd 2 z else z
def qoj(B:List Bool)(z:Z):(List Int×List Int)×Z:=
 let g1:=qff B 5 z
 let nl:=g1.1+257
 let g2:=qff B 5 (if 286<nl then qtd 2 g1.2 else g1.2)
 let nd:=g2.1+1
 let g3:=qff B 4 (if 30<nd then qtd 2 g2.2 else g2.2)
 let c:=qel B g3.2 (g3.1+4).toNat
 let r:=zll c.1 B (nl+nd).toNat ((nl+nd).toNat+1) [] (qgj c.1 false c.2)
 if r.2.2.2≠0 then(([],[]),r.2)else((r.1.take nl.toNat,r.1.drop nl.toNat),r.2)
def qyd(B:List Bool)(most:Int)(z:Z):Bool×Z:=
 let a:=qff B 1 z
 let k:=qff B 2 a.2
 if k.2.2.2≠0 then(false,k.2)else if k.1=0 then(a.1==1,qck B most k.2)else if k.1=1 then(a.1==1,zblk qho qsj B most k.2)
 else if k.1=2 then(a.1==1,let q:=qoj B k.2;if q.2.2.2≠0 then q.2 else zblk q.1.1 q.1.2 B most q.2)else(a.1==1,qtd 2 k.2)
inductive ZAll(B:List Bool)(most:Int):Nat->Z->Z->Prop
 |bad {z:Z} (he:(qyd B most z).2.2.2≠0):ZAll B most 0 z (qyd B most z).2
 |last {z:Z} (he:(qyd B most z).2.2.2=0) (hl:(qyd B most z).1=true):ZAll B most 0 z (qyd B most z).2
 |next {n:Nat} {z z':Z} (he:(qyd B most z).2.2.2=0) (hl:(qyd B most z).1=false) (hr:ZAll B most n (qyd B most z).2 z'):ZAll B most (n+1) z z'
section
variable {B:List Bool}{most:Int}{z:Z}
theorem qdo(n:Int)(h:z.1<=B.length):z.1<=(qff B n z).2.1/\(qff B n z).2.1<=B.length:=qsq n h
theorem qts{n:Int}(h:z.2.2≠0):qff B n z=(0,z):=by unfold qff;rw[if_pos h]
theorem quw(k:Nat):(qel B z k).1.length=19:=by
 induction k with
 |zero=>rfl
 |succ k ih=>rw[qel,List.length_set,ih]
theorem zclr_p(h:z.1<=B.length)(k:Nat):z.1<=(qel B z k).2.1/\(qel B z k).2.1<=B.length:=by
 induction k with
 |zero=>exact⟨le_refl _,h⟩
 |succ k ih=>
  have:=qdo (B:=B) (z:=(qel B z k).2) 3 ih.2;rw[qel];exact⟨by simp only;omega,this.2⟩
theorem qvw(sym:Int)(l:List Int)(h:z.1<=B.length):z.1<=(qtf B sym l z).2.1/\(qtf B sym l z).2.1<=B.length:=by
 unfold qtf;split
 ·split
  ·exact⟨le_refl _,h⟩
  ·exact qdo 2 h
 ·split
  ·exact qdo 3 h
  ·split
   ·exact qdo 7 h
   ·exact⟨le_refl _,h⟩
theorem qof(n:Int)(hn:n<=16):0<=(qff B n z).1/\(qff B n z).1<65536:=by
 have h1:=qyk (B:=B) (z:=z) n;have h2:(2:Int)^n.toNat<=(65536:Int):=by
  have:=qcu (a:=n.toNat) (b:=16) (c:=65536) (by omega) (by decide);exact this
 omega
theorem qww(sym:Int)(l:List Int):0<=(qtf B sym l z).1.2/\(qtf B sym l z).1.2<=70000/\((qtf B sym l z).2.2.2=0->1<=(qtf B sym l z).1.2):=by
 unfold qtf;split
 ·split
  ·exact⟨Int.le_refl _,(show(0:Int)<=70000 by decide),λh=>absurd h (qvh (by decide))⟩
  ·have:=qof (B:=B) (z:=z) 2 (by decide);simp only;omega
 ·split
  ·have:=qof (B:=B) (z:=z) 3 (by decide);simp only;omega
  ·split
   ·have:=qof (B:=B) (z:=z) 7 (by decide);simp only;omega
   ·simp only;omega
theorem zllS_p{cl:List Int}{N:Nat}(l:List Int)(h:z.1<=B.length):z.1<=(zllS cl B N l z).2.1/\(zllS cl B N l z).2.1<=B.length:=by
 unfold zllS;simp only
 have h1:=qrw (B:=B) cl (z:=z) h;have h2:=qvw (B:=B) (qyl cl B z).1 l (z:=(qyl cl B z).2) h1.2;have h3:=h1.1;split
 ·rw[qjt];omega
 ·omega
theorem zll_p{cl:List Int}{N:Nat}:∀(f:Nat) (l:List Int) (z:Z),z.1<=B.length->z.1<=(zll cl B N f l z).2.1/\(zll cl B N f l z).2.1<=B.length:=by
 intro f;induction f with
 |zero=>intro l z h;exact⟨le_refl _,h⟩
 |succ f ih=>
  intro l z h;rw[zll];split
  ·exact⟨le_refl _,h⟩
  ·have h1:=zllS_p (cl:=cl) (N:=N) l h;have:=ih (zllS cl B N l z).1 (zllS cl B N l z).2 h1.2;omega
theorem qmmb(ls:List Int)(half:Bool):(qgj ls half z).1=z.1:=by unfold qgj;split<;>rfl
theorem qhbb(h:z.1<=B.length):z.1<=(qoj B z).2.1/\(qoj B z).2.1<=B.length:=by
 unfold qoj;simp only
 have h1:=qdo (B:=B) (z:=z) 5 h;generalize qff B 5 z=g1 at h1|-
 have e1:(if 286<g1.1+257 then qtd 2 g1.2 else g1.2).1=g1.2.1:=by split<;>rfl
 generalize (if 286<g1.1+257 then qtd 2 g1.2 else g1.2)=y1 at e1|-
 have h2:=qdo (B:=B) (z:=y1) 5 (by omega);generalize qff B 5 y1=g2 at h2|-
 have e2:(if 30<g2.1+1 then qtd 2 g2.2 else g2.2).1=g2.2.1:=by split<;>rfl
 generalize (if 30<g2.1+1 then qtd 2 g2.2 else g2.2)=y2 at e2|-
 have h3:=qdo (B:=B) (z:=y2) 4 (by omega);generalize qff B 4 y2=g3 at h3|-
 have h4:=zclr_p (B:=B) (z:=g3.2) h3.2 (g3.1+4).toNat;generalize qel B g3.2 (g3.1+4).toNat=c at h4|-
 have e5:=qmmb (z:=c.2) c.1 false;have h5:=zll_p (cl:=c.1) (N:=(g1.1+257+(g2.1+1)).toNat) (B:=B) ((g1.1+257+(g2.1+1)).toNat+1) [] (qgj c.1 false c.2) (by omega);split
 ·simp only;omega
 ·simp only;omega
theorem qhmb{cl:List Int}{N:Nat}(l:List Int):(zllS cl B N l z).2.2.1=z.2.1:=by
 have ha:∀(sym:Int) (l:List Int) (z:Z),(qtf B sym l z).2.2.1=z.2.1:=by
  intro sym l z;unfold qtf;split
  ·split
   ·rfl
   ·exact qrd _
  ·split
   ·exact qrd _
   ·split
    ·exact qrd _
    ·rfl
 unfold zllS;simp only
 split
 ·show(qtf _ _ _ _).2.2.1=_;rw[ha,qwi]
 ·rw[ha,qwi]
theorem qrq:(qoj B z).2.2.1=z.2.1:=by
 have hcl:∀k (z:Z),(qel B z k).2.2.1=z.2.1:=by
  intro k z;induction k with
  |zero=>rfl
  |succ k ih=>rw[qel];simp only;rw[qrd,ih]
 have hll:∀cl N f l (z:Z),(zll cl B N f l z).2.2.1=z.2.1:=by
  intro cl N f;induction f with
  |zero=>intro l z;rfl
  |succ f ih=>
   intro l z;rw[zll];split
   ·rfl
   ·rw[ih,qhmb]
 have hc:∀ls half (z:Z),(qgj ls half z).2.1=z.2.1:=by intro ls half z;unfold qgj;split<;>rfl
 unfold qoj;simp only
 have h1:=qrd (B:=B) (z:=z) 5;generalize qff B 5 z=g1 at h1|-
 have e1:(if 286<g1.1+257 then qtd 2 g1.2 else g1.2).2.1=g1.2.2.1:=by split<;>rfl
 generalize (if 286<g1.1+257 then qtd 2 g1.2 else g1.2)=y1 at e1|-
 have h2:=qrd (B:=B) (z:=y1) 5;generalize qff B 5 y1=g2 at h2|-
 have e2:(if 30<g2.1+1 then qtd 2 g2.2 else g2.2).2.1=g2.2.2.1:=by split<;>rfl
 generalize (if 30<g2.1+1 then qtd 2 g2.2 else g2.2)=y2 at e2|-
 have h3:=qrd (B:=B) (z:=y2) 4;generalize qff B 4 y2=g3 at h3|-
 have h4:=hcl (g3.1+4).toNat g3.2;generalize qel B g3.2 (g3.1+4).toNat=c at h4|-
 have h5:=hll c.1 (g1.1+257+(g2.1+1)).toNat ((g1.1+257+(g2.1+1)).toNat+1) [] (qgj c.1 false c.2);rw[hc]at h5;split
 ·simp only;rw[h5,h4,h3,e2,h2,e1,h1]
 ·simp only;rw[h5,h4,h3,e2,h2,e1,h1]
theorem qit{cl:List Int}{N:Nat}:∀(f:Nat) (l:List Int) (z:Z),l.length<=N->N<f+l.length->(zll cl B N f l z).2.2.2=0->(zll cl B N f l z).1.length=N:=by
 intro f;induction f with
 |zero=>intro l z h1 h2 _;omega
 |succ f ih=>
  intro l z h1 h2 h3;rw[zll]at h3|-
  split at h3
  ·rename_i hc;rw[if_pos hc];rcases hc with hc|hc
   ·exact absurd h3 hc
   ·simp only;omega
  ·rename_i hc;rw[if_neg hc];have hstep:(zllS cl B N l z).1.length<=N/\((zllS cl B N l z).2.2.2=0->l.length<(zllS cl B N l z).1.length):=by
    have hn:=qww (B:=B) (z:=(qyl cl B z).2) (qyl cl B z).1 l;unfold zllS;simp only
    split
    ·rw[if_neg (qvh (by decide))];exact⟨h1,λh=>absurd h (qvh (by decide))⟩
    ·rename_i hle;split
     ·rename_i h0;have:=hn.2.2 h0;rw[length_append,length_replicate];exact⟨by omega,λ_=>by omega⟩
     ·rename_i h0;exact⟨h1,λh=>absurd h h0⟩
   by_cases h0:(zllS cl B N l z).2.2.2=0
   ·exact ih _ _ hstep.1 (by have:=hstep.2 h0;omega) h3
   ·exfalso;have:∀f l (z:Z),z.2.2≠0->zll cl B N f l z=(l,z):=by
     intro f l z hz;cases f with
     |zero=>rfl
     |succ f=>rw[zll,if_pos (Or.inl hz)]
    rw[this _ _ _ h0]at h3;exact h0 h3
theorem qbz(h:(qoj B z).2.2.2=0):257<=(qoj B z).1.1.length:=by
 unfold qoj at h|-
 simp only at h|-
 have hg1:=qof (B:=B) (z:=z) 5 (by decide);generalize qff B 5 z=g1 at h hg1|-
 generalize (if 286<g1.1+257 then qtd 2 g1.2 else g1.2)=y1 at h|-
 have hg2:=qof (B:=B) (z:=y1) 5 (by decide);generalize qff B 5 y1=g2 at h hg2|-
 generalize qel B (qff B 4 (if 30<g2.1+1 then qtd 2 g2.2 else g2.2)).2 ((qff B 4 (if 30<g2.1+1 then qtd 2 g2.2 else g2.2)).1+4).toNat=c at h|-
 have hl:=qit (cl:=c.1) (B:=B) (N:=(g1.1+257+(g2.1+1)).toNat) ((g1.1+257+(g2.1+1)).toNat+1) [] (qgj c.1 false c.2) (by simp) (by simp);generalize zll c.1 B (g1.1+257+(g2.1+1)).toNat ((g1.1+257+(g2.1+1)).toNat+1) [] (qgj c.1 false c.2)=r at h hl|-
 split at h
 ·rename_i h0;exact absurd h h0
 ·rename_i h0;rw[if_neg h0];have:=hl (Classical.byContradiction h0);simp only[length_take];omega
theorem qez{ll dl:List Int}(hm:most<=1000000)(h:z.2.1.length<=1000000):(zblk ll dl B most z).2.1.length<=1000000:=by
 unfold zblk;simp only
 have e1:(qwh dl (qwh ll (if z.2.2=0/\ll.getD 256 0=0 then qtd 2 z else z))).2.1.length<=1000000:=by
  rw[quq,quq];split<;>exact h
 generalize qwh dl (qwh ll (if z.2.2=0/\ll.getD 256 0=0 then qtd 2 z else z))=z3 at e1|-
 split
 ·exact e1
 ·exact qrfb hm _ _ e1
end
section
variable {F0:List Nat}{w0 w:World}{ps rest:List As}{s:Sl}
theorem St.cp{k:IntKind}{zs ys:List Int}{K:World->Prop}(h:St F0 w0 w (qcc 1 s (ivs k zs)::ps))(o:Nat)(ho:o+ys.length<=zs.length)(hk:∀w',St F0 w0 w' (qcc 1 s (ivs k (zs.take o++ys++zs.drop (o+ys.length)))::ps)->K w'):cpK w (qnf s.a s.cap o 1) ⟨ivs k ys⟩ K:=by
 unfold cpK;have hl:=h.len;rw[qk]at hl;obtain⟨f,hown,hst⟩:=h.step;rcases hown with⟨rfl,hnil,rfl⟩|⟨ob,rs,h1,hb,h2,h3,rfl⟩
 ·have hz:zs=[]:=by simpa using hnil
  subst hz;have hy:ys=[]:=List.length_eq_zero_iff.1 (by simp only[length_nil]at ho;omega);subst hy;have e:qnf (none:Option Addr) 0 o 1=none:=by unfold qnf;split<;>rfl
  simp only[e];have:=hk w (by simpa using h);exact this
 ·rw[length_append]at h3;rw[qk]at h2 h3;have e:qnf s.a s.cap o 1=some ⟨ob,if s.cap=o then 0 else o,none⟩:=by
   unfold qnf;rw[h1];split
   ·rfl
   ·rw[map_some,qyf,Nat.zero_add,mul_one]
  rw[e];simp only
  by_cases hc:s.cap=o
  ·have hy:ys=[]:=List.length_eq_zero_iff.1 (by omega);subst hy;rw[if_pos hc];refine qut hb (by simp) (by simp) λw' hm hb'=>?_;refine hk w' (hst w' [ob] _ hm (Gr.refl _ _) (Or.inr ⟨ob,rs,h1,?_,?_,?_,rfl⟩))
   ·simpa using hb'
   ·simp only[append_nil,length_nil,add_zero,List.take_append_drop];rw[qk];omega
   ·simp only[append_nil,length_nil,add_zero,List.take_append_drop];rw[length_append,qk];omega
  ·rw[if_neg hc];refine qut hb (by show o+(ivs k ys).length<=_;rw[qk,length_append,qk];omega) qpe λw' hm hb'=>?_;have e2:(ivs k zs++rs).take o++(ivs k ys)++(ivs k zs++rs).drop (o+(ivs k ys).length)=ivs k (zs.take o++ys++zs.drop (o+ys.length))++rs:=by
    rw[qk,List.take_append,List.drop_append,qk,show o-zs.length=0 by omega,show o+ys.length-zs.length=0 by omega,take_zero,append_nil,List.drop_zero,qcr,qoeb,qgu];rw[<-List.append_assoc,qgu]
   have hb'':Blk w' ob (ivs k (zs.take o++ys++zs.drop (o+ys.length))++rs):=by rw[<-e2];exact hb'
   refine hk w' (hst w' [ob] _ hm (Gr.refl _ _) (Or.inr ⟨ob,rs,h1,hb'',?_,?_,rfl⟩))
   ·rw[qk];simp only[length_append,length_take,length_drop];omega
   ·rw[length_append,qk];simp only[length_append,length_take,length_drop];omega
theorem St.cut0{sz c:Nat}{cs:List Value}(h:St F0 w0 w (qcc sz s cs::ps)):qnf s.a c 0 sz=s.a:=by
 obtain⟨F,hown⟩:=h.own;unfold qnf;split
 ·rfl
 ·rcases hown with⟨rfl,_,_⟩|⟨ob,rs,h1,_⟩
  ·rfl
  ·rw[h1,map_some,qyf,Nat.zero_mul]
theorem Rd.rdOp{w:World}{s:Sl}{cs:List Value}{k:Nat}{K:Array Value->Prop}(h:Rd w 1 s cs)(hk:k<=cs.length)(hK:K ⟨cs.take k⟩):Go.Proofs.YtdccpphmkfaioaaGreat.rdO w s.a k K:=by
 refine Rd.rdO (s:=⟨s.a,k,0⟩) (sz:=1) (cs:=cs.take k) ⟨by rw[length_take,mul_one];exact Nat.min_eq_left hk,λi hi=>?_⟩ (by rw[length_take];omega) hK;rw[length_take]at hi;obtain⟨a,ha,hc⟩:=h.2 i (by omega);exact⟨a,ha,by rw[hc,List.getElem?_take,if_pos (by omega)]⟩
theorem qyp.c{n:Nat}{K:Ending->World->Prop}(hn:n<4294967296)(hk:K (.returned (.tuple ⟨[.int .u64 0,.int .u64 n]⟩)) w):Calls prog 177 ⟨[.int .u64 1,.int .u64 n]⟩ w K:=by
 refine qdc (qyp.ok _ _ _ _ ?_);unfold qyp;refine qdc (qxp.ok _ _ _ _ ?_);unfold qxp;have a1:qdj .u64 (n:Int) 4294967295=n:=by
  have:=qsk .u64 (n:Int) (t:=32) (by decide);rw[show((2:Int)^32-1)=4294967295 by decide]at this
  rw[this];omega
 have s1:∀x:Int,0<=x->x<4294967296->qal .u64 x 32=0:=by
  intro x h0 h1;have:=qmi .u64 x (t:=32) (by decide);rw[show((32:Nat):Int)=32 from rfl]at this
  rw[this];show x/4294967296=0;omega
 have w0':u64.wrap 0=0:=by decide
 refine qm (show _=(1:Int)by decide) ⟨by decide,?_⟩;refine qm (s1 1 (by decide) (by decide)) ?_;refine qm a1 ⟨by decide,?_⟩;refine qm (s1 _ (by omega) (by omega)) ?_;refine qm (show u64.wrap (1*(n:Int))=n by rw[Int.one_mul];exact qmt (by omega) (by omega)) ?_;refine qm (show u64.wrap (0*(n:Int))=0 by rw[Int.zero_mul];exact w0') ⟨by decide,?_⟩;refine qm (s1 _ (by omega) (by omega)) ?_;refine qm (show _=(0:Int)by decide) (qm (show _=(0:Int)by decide) ⟨by decide,?_⟩);refine qm (s1 0 (by decide) (by decide)) ?_;refine qm (show _=(0:Int)by decide) (qm (show _=(0:Int)by decide) (qm (show _=(0:Int)by decide) (qm (show _=(0:Int)by decide) ⟨by decide,?_⟩)));refine qm (s1 0 (by decide) (by decide)) ?_;refine qm (show _=(0:Int)by decide) ?_;refine qm (show u64.wrap (1*(n:Int))=n by rw[Int.one_mul];exact qmt (by omega) (by omega)) ⟨_,_,rfl,hk⟩
theorem qsb.c{x:Int}{n:Nat}{K:Ending->World->Prop}(h:St F0 w0 w ps)[Rdb F0 w0 s ps 1 (ivs .i64 [x])](hn:n<=1000000)
 (hk:∀t w',t.len=n->St F0 w0 w' (qcc 1 t (ivs .i64 (replicate n x))::ps)->K (.returned (.slice t.a t.len t.cap)) w'):Calls prog 173 ⟨[.slice s.a s.len s.cap,.int .i64 n]⟩ w K:=by
 have hl:=(h.rdb s).1
 have hl:s.len=1:=by
  have h2:(ivs .i64 [x]).length=s.len*1:=hl;simp at h2;omega
 refine qdc (qsb.ok _ _ _ _ ?_)
 unfold qsb
 refine quc (λg=>by omega) (λ_=>?_)
 unfold qsb.j1
 rw[hl]
 refine qm (show _=(1:Int)by decide) ?_
 refine qm (qmt (by omega) (by omega)) ?_
 refine qyp.c (by omega) ⟨_,_,rfl,?_⟩
 refine quc (λg=>by omega) (λ_=>?_)
 refine quc (λg=>by omega) (λ_=>?_)
 unfold qsb.j2
 refine qm (qd (by omega) (by omega)) ?_
 refine h.makeI (n:=n) rfl rfl (by omega) λt w ht htc h=>?_
 rw[hl]
 have hmin:Nat.min 1 t.len=min 1 n:=by rw[ht]
 rw[hmin,mul_one]
 refine(h.drop.rdb s).rdOp (by rw[qk];exact Nat.min_le_left _ _) ?_
 rw[qcr]
 have e1:[x].take (min 1 n)=replicate (min 1 n) x:=by
  rcases lt_or_ge n 1 with h0|h0
  ·have:n=0:=by omega
   subst this;rfl
  ·rw[Nat.min_eq_left h0];rfl
 rw[e1]
 rw[<-h.cut0 (c:=t.cap)]
 refine h.cp 0 (by simp only[length_replicate];omega) λw h=>?_
 rw[take_zero,List.nil_append,Nat.zero_add,length_replicate,List.drop_replicate]at h
 unfold qsb.j3
 refine qjf (λ(k:Nat) (k':Int) w'=>k'=k/\k<=n/\(1<=n->1<=k)/\St F0 w0 w' (qcc 1 t (ivs .i64 (replicate k x++replicate (n-k) 0))::ps)) (λk=>n-k) (min 1 n) ⟨by omega,by omega,λh=>by omega,h⟩ ?_
 clear h
 rintro k k' wL I μ ⟨rfl,hk1,hk2,h⟩ hin
 unfold qsb.b1
 refine quc (λg=>?_) (λg=>?_)
 ·refine h.drewK λw h=>?_
  refine qkn (n:=k) rfl (by omega) (qbe (qkn (n:=k) rfl (by omega) (qbe ?_)))
  dsimp only
  have hm:Nat.min (k-0) (t.len-k)=min k (n-k):=by rw[ht,Nat.sub_zero]
  rw[hm,mul_one,h.cut0]
  refine h.ord.rdOp (by rw[qk];simp only[length_append,length_replicate];omega) ?_
  rw[qcr]
  have e2:(replicate k x++replicate (n-k) 0).take (min k (n-k))=replicate (min k (n-k)) x:=by
   rw[List.take_append_of_le_length (by rw[length_replicate];omega),List.take_replicate];congr 1;omega
  rw[e2]
  refine h.cp k (by simp only[length_append,length_replicate];omega) λw h=>?_
  refine qm (qd (by omega) (by omega)) ?_
  have hk3:=hk2 (by omega)
  refine⟨rfl,hin (k+min k (n-k)) _ _ ⟨by omega,by omega,λ_=>by omega,?_⟩ (by omega)⟩
  have e3:(replicate k x++replicate (n-k) 0).take k++replicate (min k (n-k)) x++(replicate k x++replicate (n-k) 0).drop (k+(replicate (min k (n-k)) x).length)=replicate (k+min k (n-k)) x++replicate (n-(k+min k (n-k))) 0:=by
   rw[take_left' (by rw[length_replicate]),length_replicate,<-List.drop_drop,List.drop_left' (by rw[length_replicate]),List.drop_replicate,List.replicate_append_replicate];congr 2;omega
  rw[e3]at h
  exact h
 ·have:k=n:=by omega
  subst this
  unfold qsb.j4
  rw[sub_self,List.replicate_zero,append_nil]at h
  exact hk t wL ht h
end
end
end Go.Proofs.YtdccpphmkfaioaaGreat
