/- Own texts as one, only what is reached (shake2.py). -/
import Derived.Test.YtdccpphmkfaioaaGreatPbf
import Derived.Test.YtdccpphmkfaioaaGreatProg
set_option linter.unusedSectionVars false
set_option linter.unusedVariables false
set_option linter.unusedSimpArgs false
namespace Go.Proofs.YtdccpphmkfaioaaGreat
open Go Go.Proofs
open Int (toNat toNat_natCast)
open Go.IntKind (i64 signed u32)
open List (append_assoc append_nil cons_append count_append drop_drop drop_left' drop_zero flatMap_append flatMap_cons getD getElem?_append_right getElem_mem length length_append length_cons length_drop length_map length_nil length_singleton length_take map_append map_cons mem_append mem_append_right mem_cons mem_map mem_of_mem_take mem_singleton nil_append replicate take_length take_of_length_le take_succ_eq_append_getElem take_zero)
open Nat (add_mul le_refl le_trans lt_or_ge mul_one one_mul testBit_xor xor_assoc xor_zero zero_add zero_le zero_mul)
open Go.Proofs.Tryz (prog)
section
attribute [local irreducible] apK cpK mkK br
class Rec{α:Type}(f:α->List Value)(sz:outParam Nat):Prop where
 len:∀x,(f x).length=sz
 sto:∀x,∀v∈f x,qfe v
 pos:0<sz
class EltR(P:Program)(e:TypeId)(sz:outParam Nat)(z:outParam (List Value)):Prop where
 info:∃i,P.info? e=some i/\i.size=sz/\i.bytes≠0/\i.bytes<=1024
 zc:Go.Proofs.YtdccpphmkfaioaaGreat.zc P e=⟨z⟩
 len:z.length=sz
 pos:0<sz
section
variable {α:Type}{f:α->List Value}{sz:Nat}
theorem qpn(x:α)(L:List α):(x::L).flatMap f=f x++L.flatMap f:=rfl
theorem qkp(L M:List α):(L++M).flatMap f=L.flatMap f++M.flatMap f:=flatMap_append
theorem qvrb(x:α):[x].flatMap f=f x:=by simp
theorem qej [i:Rec f sz](L:List α):(L.flatMap f).length=L.length*sz:=by
 induction L with
 |nil=>simp
 |cons x L ih=>rw[qpn,length_append,ih,i.len,length_cons,add_mul];omega
theorem qurb [i:Rec f sz](L:List α):∀v∈(⟨L.flatMap f⟩:Array Value),qfe v:=by
 intro v hv;have hv:v∈L.flatMap f:=by simpa using hv
 obtain⟨x,_,hx⟩:=List.mem_flatMap.1 hv;exact i.sto x v hx
theorem qwrb [i:Rec f sz]:∀{L:List α} {j o:Nat} (hj:j<L.length),o<sz->(L.flatMap f)[j*sz+o]?=(f L[j])[o]?:=by
 intro L;induction L with
 |nil=>intro j o hj;simp at hj
 |cons x L ih=>
  intro j o hj ho;rw[qpn];cases j with
  |zero=>rw[zero_mul,zero_add,List.getElem?_append_left (by rw[i.len];exact ho)];rfl
  |succ j=>
   rw[getElem?_append_right (by rw[i.len,add_mul];omega),i.len,show(j+1)*sz+o-sz=j*sz+o by rw[add_mul];omega,ih (by simpa using hj) ho];rfl
theorem qbnb [i:Rec f sz]:∀(L:List α) (n:Nat),(L.flatMap f).take (n*sz)=(L.take n).flatMap f:=by
 intro L;induction L with
 |nil=>intro n;simp
 |cons x L ih=>
  intro n;cases n with
  |zero=>simp
  |succ n=>
   rw[List.take_succ_cons,qpn,qpn,<-ih n,List.take_append,take_of_length_le (by rw[i.len,add_mul];omega),i.len,show(n+1)*sz-sz=n*sz by rw[add_mul];omega]
theorem qcnb [i:Rec f sz]:∀(L:List α) (n:Nat),(L.flatMap f).drop (n*sz)=(L.drop n).flatMap f:=by
 intro L;induction L with
 |nil=>intro n;simp
 |cons x L ih=>
  intro n;cases n with
  |zero=>simp
  |succ n=>
   rw[List.drop_succ_cons,qpn,<-ih n,List.drop_append,List.drop_eq_nil_of_le (by rw[i.len,add_mul];omega),i.len,show(n+1)*sz-sz=n*sz by rw[add_mul];omega,nil_append]
end
section
variable {F0:List Nat}{w0 w:World}{ps rest:List As}{P:Program}{e:TypeId}{α:Type}{f:α->List Value}{sz:Nat}{z:List Value}{s:Sl}{L:List α}
theorem Rd.rcell [i:Rec f sz](h:Rd w sz s (L.flatMap f)){a0:Addr}(ha:s.a=some a0){j o:Nat}(hj:j<L.length)(ho:o<sz):w.cell? ((a0.add (j*sz)).add o)=(f L[j])[o]?:=by
 have hb:(j+1)*sz<=L.length*sz:=Nat.mul_le_mul_right _ hj;rw[add_mul,one_mul]at hb;rw[qgs,h.cell ha (by rw[qej];omega),qwrb hj ho]
theorem St.rix [i:Rec f sz](h:St F0 w0 w ps)[Rdb F0 w0 s ps sz (L.flatMap f)]{n:Int}{K:Addr->Prop}(j:Nat)(hi:n=j)(hj:j<L.length)(hk:∀a0,s.a=some a0->K (a0.add (j*sz))):ixS s.a s.len n sz K:=by
 subst hi;have hr:=h.rdb s;have hl:=hr.1;rw[qej]at hl;have:=Nat.eq_of_mul_eq_mul_right i.pos hl;refine hr.ix i.pos (by omega) (by omega) λa ha=>?_;rw[toNat_natCast];exact hk a ha
theorem St.rlen [i:Rec f sz](h:St F0 w0 w ps)[Rdb F0 w0 s ps sz (L.flatMap f)]:L.length=s.len:=by
 have hl:=(h.rdb s).1;rw[qej]at hl;exact Nat.eq_of_mul_eq_mul_right i.pos hl
theorem Rd.rI{k:IntKind}[i:Rec f sz](h:Rd w sz s (L.flatMap f)){a0:Addr}{v:Int}{K:Int->Prop}(ha:s.a=some a0){j o:Nat}(hj:j<L.length)(ho:o<sz)(hv:(f L[j])[o]?=some (.int k v))(hk:K v):Go.Proofs.YtdccpphmkfaioaaGreat.ldI k w ((a0.add (j*sz)).add o) K:=
 ldI_c (by rw[h.rcell ha hj ho];exact hv) hk
theorem Rd.rL [i:Rec f sz](h:Rd w sz s (L.flatMap f)){a0:Addr}{v:Sl}{K:Sl->Prop}(ha:s.a=some a0){j o:Nat}(hj:j<L.length)(ho:o<sz)(hv:(f L[j])[o]?=some (.slice v.a v.len v.cap))(hk:K v):Go.Proofs.YtdccpphmkfaioaaGreat.ldL w ((a0.add (j*sz)).add o) K:=
 ldL_c (by rw[h.rcell ha hj ho];exact hv) hk
theorem Rd.rA [i:Rec f sz](h:Rd w sz s (L.flatMap f)){a0:Addr}{K:Array Value->Prop}(ha:s.a=some a0){j:Nat}(hj:j<L.length)(hk:K ⟨f L[j]⟩):Go.Proofs.YtdccpphmkfaioaaGreat.ldA w (a0.add (j*sz)) sz K:=by
 refine⟨⟨f L[j]⟩,i.len _,λo ho=>?_,hk⟩;rw[h.rcell ha hj ho];simp
theorem St.lr [i:Rec f sz](h:St F0 w0 w ps)[Rdb F0 w0 s ps sz (L.flatMap f)]{n:Int}{K:Array Value->Prop}(j:Nat)(hi:n=j)(hj:j<L.length)(hk:K ⟨f L[j]⟩):ixS s.a s.len n sz λa=>ldA w a sz K:=
 h.rix j hi hj λa0 ha=>(h.rdb s).rA ha hj hk
theorem St.lrI{k:IntKind}[i:Rec f sz](h:St F0 w0 w ps)[Rdb F0 w0 s ps sz (L.flatMap f)]{n v:Int}{o:Nat}{K:Int->Prop}(j:Nat)(hi:n=j)(hj:j<L.length)(ho:o<sz)(hv:(f L[j])[o]?=some (.int k v))(hk:K v):ixS s.a s.len n sz λa=>Go.Proofs.YtdccpphmkfaioaaGreat.ldI k w (a.add o) K:=
 h.rix j hi hj λa0 ha=>(h.rdb s).rI ha hj ho hv hk
theorem St.lrL [i:Rec f sz](h:St F0 w0 w ps)[Rdb F0 w0 s ps sz (L.flatMap f)]{n:Int}{v:Sl}{o:Nat}{K:Sl->Prop}(j:Nat)(hi:n=j)(hj:j<L.length)(ho:o<sz)(hv:(f L[j])[o]?=some (.slice v.a v.len v.cap))(hk:K v):ixS s.a s.len n sz λa=>Go.Proofs.YtdccpphmkfaioaaGreat.ldL w (a.add o) K:=
 h.rix j hi hj λa0 ha=>(h.rdb s).rL ha hj ho hv hk
theorem qdeb{b n:Nat}(hb:b<=1024)(hn:n<=1000000000):(2*n+1024)*b<=281474976710656:=by
 refine le_trans (Nat.mul_le_mul_left _ hb) ?_;omega
theorem St.pushR [i:Rec f sz][he:EltR P e sz z](h:St F0 w0 w ps)[PkO s ps sz (L.flatMap f) rest]{x:α}{c:Array Value}{K:Sl->World->Prop}(hlen:L.length<=999999999)(hc:c=⟨f x⟩)
 (hk:∀s' w',s'.len=s.len+1->St F0 w0 w' (qcc sz s' ((L++[x]).flatMap f)::rest)->K s' w'):
 lt (⟨World.heapSize w,0,none⟩:Addr) λa=>lt (World.alloc w (.cells c e)) λw1=>rdO w1 (some a) (1*sz) λc=>apK P e w1 s.a s.len s.cap 1 c K:=by
 subst hc
 refine(h.toO s).new λnb w h=>?_
 have h:St F0 w0 w (qqb nb (f x)::qcc sz s (L.flatMap f)::rest):=h
 refine h.rdB (by rw[i.len,one_mul]) ?_
 have h:=h.drop
 have hl:=h.len
 rw[qej]at hl
 have hl:=Nat.eq_of_mul_eq_mul_right i.pos hl
 obtain⟨t,h1,h2,h3,h4⟩:=he.info
 refine St.append (i:=t) (sz:=sz) (m:=1) h1 h2 i.pos (by rw[he.zc];exact he.len) h3 (qdeb h4 (by omega)) h (by show(f x).length=_;rw[i.len,one_mul]) (λv hv=>i.sto x v (by simpa using hv)) λs' w' h hl'=>hk s' w' hl' (by rw[qkp,qvrb];exact h)
theorem St.appR [i:Rec f sz][he:EltR P e sz z](h:St F0 w0 w ps)[PkO s ps sz (L.flatMap f) rest]{s2:Sl}{M:List α}[Rdb F0 w0 s2 ps sz (M.flatMap f)]{K:Sl->World->Prop}(hlen:L.length+M.length<=999999999)
 (hk:∀s' w',s'.len=s.len+M.length->St F0 w0 w' (qcc sz s' ((L++M).flatMap f)::rest)->K s' w'):
 rdO w s2.a (s2.len*sz) λc=>apK P e w s.a s.len s.cap s2.len c K:=by
 have hr:=h.rdb s2
 have hl:=hr.1
 refine hr.rdO hl.symm ?_
 rw[qej]at hl
 have hl:=Nat.eq_of_mul_eq_mul_right i.pos hl
 have h:=h.toO s
 have hl2:=h.len
 rw[qej]at hl2
 have hl2:=Nat.eq_of_mul_eq_mul_right i.pos hl2
 obtain⟨t,h1,h2,h3,h4⟩:=he.info
 refine St.append (i:=t) (sz:=sz) (m:=s2.len) h1 h2 i.pos (by rw[he.zc];exact he.len) h3 (qdeb h4 (by omega)) h (by show(M.flatMap f).length=_;rw[qej,hl]) (qurb M) λs' w' h hl'=>hk s' w' (by omega) (by rw[qkp];exact h)
theorem St.ownBR{nb n:Nat}{l:List Value}(h:St F0 w0 w (qqb nb l::ps))(hn:l.length=n*sz):St F0 w0 w (qcc sz ⟨some ⟨nb,0,none⟩,n,n⟩ l::ps):=by
 refine h.mp ?_;rintro F ⟨hb,rfl⟩;exact Or.inr ⟨nb,[],rfl,by simpa using hb,hn,by simpa using hn,rfl⟩
theorem St.cloneR [i:Rec f sz][he:EltR P e sz z](h:St F0 w0 w ps){s2:Sl}{M:List α}[Rdb F0 w0 s2 ps sz (M.flatMap f)]{K:Sl->World->Prop}(hlen:M.length<=999999999)
 (hk:∀s' w',s'.len=M.length->St F0 w0 w' (qcc sz s' (M.flatMap f)::ps)->K s' w'):
 lt (⟨World.heapSize w,0,none⟩:Addr) λa=>lt (World.alloc w (.cells ⟨[]⟩ e)) λw1=>rdO w1 s2.a (s2.len*sz) λc=>apK P e w1 (some a) 0 0 s2.len c K:=by
 refine h.new λnb w h=>?_
 have h:St F0 w0 w (qqb nb []::ps):=h
 have h:St F0 w0 w (qcc sz ⟨some ⟨nb,0,none⟩,0,0⟩ (([]:List α).flatMap f)::ps):=h.ownBR (n:=0) (by simp)
 exact St.appR (s:=⟨some ⟨nb,0,none⟩,0,0⟩) (L:=([]:List α)) h (by simpa using hlen) λs' w' h1 h=>hk s' w' (by simpa using h1) (by simpa using h)
theorem St.isnil [i:Rec f sz](h:St F0 w0 w ps)[Rdb F0 w0 s ps sz (L.flatMap f)](hn:s.a=none):L=[]:=by
 have hr:=h.rdb s;cases L with
 |nil=>rfl
 |cons x L=>
  exfalso;obtain⟨a,ha,_⟩:=hr.2 0 (by rw[qej,length_cons,add_mul];have:=i.pos;omega);rw[hn]at ha;cases ha
theorem St.cutRR [i:Rec f sz](h:St F0 w0 w ps)(s:Sl)[hr:Rdb F0 w0 s ps sz (L.flatMap f)](n m c':Nat)(hm:m<=s.len)(hn:n<=m)(hc:s.len<=s.cap):Rdb F0 w0 ⟨qnf s.a s.cap n sz,m-n,c'⟩ ps sz (((L.drop n).take (m-n)).flatMap f):=⟨λh=>by
 have:=(hr.rd h).cut (n:=n) (m:=m) i.pos hm hn hc c';rw[qcnb,qbnb]at this
 exact this⟩
theorem St.setR [i:Rec f sz]{b:Nat}{l:List Value}{x:α}{K:World->Prop}(h:St F0 w0 w (qqb b l::ps))(hl:l.length=sz)(hk:∀w',St F0 w0 w' (qqb b (f x)::ps)->K w'):Go.Proofs.YtdccpphmkfaioaaGreat.stA w ⟨b,0,none⟩ ⟨f x⟩ K:=
 h.sA (b:=b) hl (i.len x) (λv hv=>i.sto x v (by simpa using hv)) hk
end
end
section
attribute [local irreducible] apK cpK mkK br
section
variable {F0:List Nat}{w0 w:World}{ps rest:List As}{s:Sl}
theorem St.front{sz:Nat}{cs:List Value}(h:St F0 w0 w (qcc sz s cs::ps))(m:Nat)(hm:m<=s.len):St F0 w0 w (qcc sz ⟨qnf s.a s.cap 0 sz,m-0,s.cap-0⟩ (cs.take (m*sz))::ps):=by
 refine h.mp ?_;rintro F (⟨rfl,rfl,rfl⟩|⟨ob,rs,h1,hb,h2,h3,rfl⟩)
 ·have:m=0:=by simpa using hm
  subst this
  exact Or.inl ⟨rfl,by simp,rfl⟩
 ·refine Or.inr ⟨ob,cs.drop (m*sz)++rs,?_,?_,?_,?_,rfl⟩
  ·show qnf s.a s.cap 0 sz=_;unfold qnf;rw[h1];split
   ·rfl
   ·rw[Option.map_some,qyf,zero_mul]
  ·rw[<-append_assoc,List.take_append_drop];exact hb
  ·rw[length_take,h2];exact Nat.min_eq_left (Nat.mul_le_mul_right _ hm)
  ·rw[<-append_assoc,List.take_append_drop];exact h3
theorem qph.c{n:Nat}{K:Ending->World->Prop}(h:St F0 w0 w ps)(hn:n<=1000000)
 (hk:∀t w',t.len=0->St F0 w0 w' (qcc 1 t (ivs .i64 [])::ps)->K (.returned (.slice t.a t.len t.cap)) w'):Calls prog 133 ⟨[.slice none 0 0,.int .i64 n]⟩ w K:=by
 refine qdc (qph.ok ⟨none,0,0⟩ _ _ _ ?_)
 unfold qph
 dsimp only
 refine quc (λg=>by omega) (λ_=>?_)
 refine qm (qd (by omega) (by omega)) ?_
 refine qm (qd (by omega) (by omega)) ?_
 have e:(n:Int)-(((0:Nat):Int)-((0:Nat):Int))=n:=by simp
 rw[e]
 have h:=h.nil 1
 refine quc (λg=>?_) (λg=>hk ⟨none,0,0⟩ w rfl h)
 refine qkn (n:=0) rfl (le_refl _) (qbe ?_)
 have he:Elt prog 3 (.int .i64 0):=elt_int
 dsimp only
 refine⟨⟨by omega,by omega,?_,by omega⟩,?_⟩
 ·have hb:=(Elt.bytes (P:=prog) (e:=3) (z:= .int .i64 0))
  have h3:(n:Int)*(prog.bytesOf 3:Int)<=1000000*16:=Int.mul_le_mul (by omega) (by omega) (by omega) (by omega)
  exact Int.le_trans h3 (by decide)
 rw[toNat_natCast,he.zc,qlx]
 refine St.app (s:=⟨none,0,0⟩) (cs2:=replicate n (.int .i64 0)) (z:= .int .i64 0) h rfl (by simp) (by rw[length_nil];omega) (λv hv=>?_) λs6 w h=>?_
 ·have hv:v∈replicate n (Value.int .i64 0):=by simpa using hv
  rw[(List.mem_replicate.1 hv).2]
  trivial
 refine qkn (n:=0) rfl (zero_le _) (qbe ?_)
 refine hk ⟨qnf s6.a s6.cap 0 1,0-0,s6.cap-0⟩ w rfl ?_
 have h:=h.front 0 (zero_le _)
 rw[zero_mul,take_zero]at h
 exact h
theorem Rd.lsl2{L:List (Sl×List Int)}{i:Int}{K:Sl->Prop}(h:Rd w 1 s (sls L))(j:Nat)(hi:i=j)(hj:j<L.length)(hk:K L[j].1):ixS s.a s.len i 1 λa=>ldL w a K:=by
 subst hi;have hl:=h.1;rw[show(sls L).length=L.length by simp[sls]]at hl;refine h.ix (by decide) (by omega) (by omega) λa ha=>?_;rw[show((j:Int)).toNat*1=j by omega];exact ldL_c (by rw[h.cell ha (by simp[sls];omega)];simp[sls,hj]) hk
def catL(L:List (Sl×List Int)):List Int:=L.flatMap (·.2)
theorem qvab(L:List (Sl×List Int)){i:Nat}(h:i<L.length):catL (L.take (i+1))=catL (L.take i)++L[i].2:=by
 unfold catL;rw[take_succ_eq_append_getElem h,flatMap_append];simp
theorem qwy(L:List (Sl×List Int))(i:Nat):(catL (L.take i)).length<=(catL L).length:=by
 have:catL L=catL (L.take i)++catL (L.drop i):=by
  unfold catL;rw[<-flatMap_append,List.take_append_drop]
 rw[this,length_append];omega
theorem qx.c{L:List (Sl×List Int)}{K:Ending->World->Prop}(h:St F0 w0 w ps)[Rdb F0 w0 s ps 1 (sls L)](hL:∀y∈L,∀w,St F0 w0 w ps->Rd w 1 y.1 (ivs .i64 y.2))(hn:L.length<=1000)(hlen:(catL L).length<=1000000)
 (hk:∀t w',t.len=(catL L).length->St F0 w0 w' (qcc 1 t (ivs .i64 (catL L))::ps)->K (.returned (.slice t.a t.len t.cap)) w'):Calls prog 105 ⟨[.slice s.a s.len s.cap]⟩ w K:=by
 have hl:=(h.rdb s).1
 rw[show(sls L).length=L.length by simp[sls]]at hl
 refine qdc (qx.ok _ _ _ ?_)
 unfold qx qx.j1 qx.j6
 refine qug (λ(i:Nat) (z:Int) (i':Int) w'=>i'=i/\i<=L.length/\z=(catL (L.take i)).length/\St F0 w0 w' ps) (λi=>L.length-i) 0 ⟨rfl,by omega,by simp[catL],h⟩ ?_
 clear h
 rintro i z i' wL I μ ⟨rfl,hi,rfl,h⟩ hin
 have hle:=qwy L i
 unfold qx.b2
 refine quc (λg=>?_) (λg=>?_)
 ·have hix:i<L.length:=by omega
  have hsn:=qvab L hix
  have hle2:=qwy L (i+1)
  refine(h.rdb s).lsl2 i rfl hix ?_
  have hy:=(hL L[i] (getElem_mem hix) _ h).1
  rw[qk]at hy
  rw[hsn,length_append]at hle2
  refine qm (qd (by omega) (by omega)) ?_
  refine quc (λg=>by omega) (λ_=>?_)
  refine qm (qd (by omega) (by omega)) ?_
  refine⟨⟨rfl,rfl,rfl⟩,hin (i+1) _ _ _ ⟨by omega,by omega,?_,h⟩ (by omega)⟩
  rw[hsn,length_append]
  omega
 ·have:i=L.length:=by omega
  subst this
  rw[take_length]
  unfold qx.j2
  refine qph.c h hlen λt w ht h=>⟨t,rfl,?_⟩
  unfold qx.j3 qx.j5
  refine qug (λ(i:Nat) (o:Sl) (i':Int) w'=>i'=i/\i<=L.length/\St F0 w0 w' (qcc 1 o (ivs .i64 (catL (L.take i)))::ps)) (λi=>L.length-i) 0 ⟨rfl,by omega,by simpa [catL]using h⟩ ?_
  clear h
  rintro i o i' wL I μ ⟨rfl,hi,h⟩ hin
  have hle:=qwy L i
  unfold qx.b1
  refine quc (λg=>?_) (λg=>?_)
  ·have hix:i<L.length:=by omega
   have hsn:=qvab L hix
   have hle2:=qwy L (i+1)
   rw[hsn,length_append]at hle2
   refine(h.rdb s).lsl2 i rfl hix ?_
   haveI:Rdb F0 w0 L[i].1 ps 1 (ivs .i64 L[i].2):=⟨λh=>hL L[i] (getElem_mem hix) _ h⟩
   refine h.appI (s:=o) (s2:=L[i].1) (k:= .i64) (by omega) λo2 w h=>?_
   refine qm (qd (by omega) (by omega)) ?_
   refine⟨⟨rfl,rfl⟩,hin (i+1) _ _ _ ⟨by omega,by omega,?_⟩ (by omega)⟩
   rw[hsn]
   exact h
  ·have:i=L.length:=by omega
   subst this
   rw[take_length]at h
   unfold qx.j4
   have:=h.len
   rw[qk]at this
   exact hk o wL (by omega) h
theorem qcub{nb n:Nat}{l:List Value}[PkB nb ps l rest](hn:l.length=n):Rdb F0 w0 ⟨some ⟨nb,0,none⟩,n,n⟩ ps 1 l:=⟨λh=>by
 have hb:=(h.toB nb).blk;refine⟨by rw[mul_one];exact hn,λi hi=>⟨_,rfl,?_⟩⟩;rw[qyf,zero_add,hb.cell]⟩
theorem qx.c2{nb:Nat}{A B:Sl}{xs ys:List Int}{K:Ending->World->Prop}(h:St F0 w0 w ps)[PkB nb ps [.slice A.a A.len A.cap,.slice B.a B.len B.cap] rest][ha:Rdb F0 w0 A ps 1 (ivs .i64 xs)][hb:Rdb F0 w0 B ps 1 (ivs .i64 ys)](hlen:xs.length+ys.length<=1000000)
 (hk:∀t w',t.len=xs.length+ys.length->St F0 w0 w' (qcc 1 t (ivs .i64 (xs++ys))::ps)->K (.returned (.slice t.a t.len t.cap)) w'):Calls prog 105 ⟨[.slice (some ⟨nb,0,none⟩) 2 2]⟩ w K:=by
 haveI:Rdb F0 w0 ⟨some ⟨nb,0,none⟩,2,2⟩ ps 1 (sls [(A,xs),(B,ys)]):=qcub rfl
 have e:catL [(A,xs),(B,ys)]=xs++ys:=by simp[catL]
 refine qx.c (s:=⟨some ⟨nb,0,none⟩,2,2⟩) (L:=[(A,xs),(B,ys)]) h (λy hy w h=>?_) (by simp) (by rw[e,length_append];omega) λt w ht h=>?_
 ·simp only[mem_cons,List.not_mem_nil,or_false]at hy
  rcases hy with rfl|rfl
  ·exact ha.rd h
  ·exact hb.rd h
 ·rw[e]at ht h
  exact hk t w (by rw[ht,length_append]) h
abbrev Ep:=Int×Sl×List Nat
def eC(x:Ep):List Value:=[.int .i64 x.1,.slice x.2.1.a x.2.1.len x.2.1.cap]
def pkE(x:Ep):Pk:=(x.1,x.2.1)
def erE(x:Ep):Pg:=(x.1,x.2.2)
instance rec_eC:Rec eC 2:=⟨λ_=>rfl,λx v hv=>by
 simp[eC]at hv
 rcases hv with rfl|rfl<;>trivial,by decide⟩
instance elt_pack:EltR prog 198 2 [.int .i64 0,.slice none 0 0]:=⟨⟨Tryz.t198,by kernel_rfl,rfl,by decide,by decide⟩,by kernel_rfl,rfl,by decide⟩
theorem qtpb(L:List Ep):pks (L.map pkE)=L.flatMap eC:=by
 unfold pks;rw[List.flatMap_map];rfl
abbrev nvs(l:List Nat):List Value:=ivs .i64 (l.map λn:Nat=>(n:Int))
def tabA(T:List (Sl×List Nat)):As:=allA (T.map λx=>rdA 1 x.1 (nvs x.2))
theorem St.tab:∀{T:List (Sl×List Nat)} {s:Sl} {xs:List Nat} {F0:List Nat} {w0 w:World} {ps:List As},St F0 w0 w (tabA T::ps)->(s,xs)∈T->Rd w 1 s (nvs xs):=by
 intro T;induction T with
 |nil=>intro s xs F0 w0 w ps h hm;cases hm
 |cons x T ih=>
  intro s xs F0 w0 w ps h hm;have h:St F0 w0 w (andA (rdA 1 x.1 (nvs x.2)) (tabA T)::ps):=h;have h:=h.split;rcases mem_cons.1 hm with e|hm
  ·subst e;exact h.rd
  ·exact ih h.drop hm
theorem qobb{T:List (Sl×List Nat)}{xs:List Nat}(hm:(s,xs)∈T):Rdb F0 w0 s (tabA T::ps) 1 (nvs xs):=⟨λh=>h.tab hm⟩
theorem St.tabI{T:List (Sl×List Nat)}{xs:List Nat}(h:St F0 w0 w (rdA 1 s (nvs xs)::tabA T::ps)):St F0 w0 w (tabA ((s,xs)::T)::ps):=h.join
def okE(T:List (Sl×List Nat))(M:Int)(n:Nat)(L:List Ep):Prop:=∀x∈L,(x.2.1,x.2.2)∈T/\0<=x.1/\x.1<=M/\x.2.2.length<=n
theorem okE.mono{T T':List (Sl×List Nat)}{M M':Int}{n n':Nat}{L:List Ep}(h:okE T M n L)(hT:∀x∈T,x∈T')(hM:M<=M')(hn:n<=n'):okE T' M' n' L:=λx hx=>by
 have:=h x hx;exact⟨hT _ this.1,this.2.1,by omega,by omega⟩
def qtnb(out:Sl)(i x:Int)(r:Sl)(w:World)(nx:Sl->Int->World->Prop):Prop:=((⟨[.int .i64 x,.slice r.a r.len r.cap]⟩:Array Value)).size=2/\lt (⟨World.heapSize w,0,none⟩:Addr) λa18=>lt (World.alloc w (.cells ⟨(spl [.int .i64 0,.slice none 0 0] 0 (⟨[.int .i64 x,.slice r.a r.len r.cap]⟩:Array Value))⟩ 198)) λw19=>rdO w19 (some a18) (1*2) λc20=>apK prog 198 w19 out.a out.len out.cap 1 c20 λs21 w22=>lt (i64.wrap (i+2)) λx23=>nx s21 x23 w22
theorem qld.c{L:List Ep}{T:List (Sl×List Nat)}{M:Int}{n:Nat}{K:Ending->World->Prop}(h:St F0 w0 w (tabA T::ps))[Rdb F0 w0 s ps 2 (L.flatMap eC)](hL:okE T M n L)(hM:M<=4611686018427387903)(hn:n<=400000)(hlen:L.length<=1000000)
 (hk:∀t w' L' T',L'.map erE=qzm (L.map erE)->(∀x∈T,x∈T')->okE T' (2*M) (2*n) L'->St F0 w0 w' (qcc 2 t (L'.flatMap eC)::tabA T'::ps)->K (.returned (.slice t.a t.len t.cap)) w'):Calls prog 129 ⟨[.slice s.a s.len s.cap]⟩ w K:=by
 have hl:=h.rlen (s:=s)
 refine qdc (qld.ok _ _ _ ?_)
 unfold qld qld.j1 qld.j3
 refine qug (λ(a:Nat×List Ep×List (Sl×List Nat)) (o:Sl) (i':Int) w'=>i'=((2*a.1+1:Nat):Int)/\2*a.1<=L.length/\a.2.1.map erE=qzm ((L.map erE).take (2*a.1))/\(∀x∈T,x∈a.2.2)/\okE a.2.2 (2*M) (2*n) a.2.1/\St F0 w0 w' (qcc 2 o (a.2.1.flatMap eC)::tabA a.2.2::ps)) (λa=>L.length-2*a.1) (0,[],T)
  ⟨rfl,by simp,by simp[qzm],λ_ h=>h,λx hx=>(by cases hx),h.nil 2⟩ ?_
 clear h
 rintro⟨k,L',T'⟩ o i' wL I μ ⟨rfl,hi,hL',hT,hok,h⟩ hin
 simp only at hi hL' hT hok h hin|-
 unfold qld.b1
 have hLl:L'.length=k:=by
  have:=congrArg length hL';rw[qul,length_map,length_take,length_map]at this
  omega
 refine quc (λg=>?_) (λg=>?_)
 ·have h1:2*k<L.length:=by omega
  have h2:2*k+1<L.length:=by omega
  have m1:=hL L[2*k] (getElem_mem h1)
  have m2:=hL L[2*k+1] (getElem_mem h2)
  haveI:Rdb F0 w0 (L[2*k]).2.1 (tabA T'::ps) 1 (nvs (L[2*k]).2.2):=qobb (hT _ m1.1)
  haveI:Rdb F0 w0 (L[2*k+1]).2.1 (tabA T'::ps) 1 (nvs (L[2*k+1]).2.2):=qobb (hT _ m2.1)
  have fin:∀(w:World) (r:Sl) (x:Int),x=(L[2*k]).1+(L[2*k+1]).1->St F0 w0 w (qcc 2 o (L'.flatMap eC)::qcc 1 r (ivs .i64 ((L[2*k]).2.2.map (λn:Nat=>(n:Int))++(L[2*k+1]).2.2.map (λn:Nat=>(n:Int))))::tabA T'::ps)->
   qtnb o ((2*k+1:Nat):Int) x r w (λo' i'' w'=>s=s/\I o' i'' w'/\μ o' i'' w'<μ o ((2*k+1:Nat):Int) wL):=by
   rintro w r x rfl h
   refine⟨rfl,?_⟩
   rw[<-map_append]at h
   refine h.pushR (s:=o) (x:=(((L[2*k]).1+(L[2*k+1]).1,r,(L[2*k]).2.2++(L[2*k+1]).2.2):Ep)) (by omega) rfl λo2 w _ h=>?_
   refine qm (qd (by omega) (by omega)) ⟨rfl,?_⟩
   refine hin (k+1,L'++[((L[2*k]).1+(L[2*k+1]).1,r,(L[2*k]).2.2++(L[2*k+1]).2.2)],(r,(L[2*k]).2.2++(L[2*k+1]).2.2)::T') _ _ _ ⟨by simp only;omega,by simp only;omega,?_,λx hx=>List.mem_cons_of_mem _ (hT x hx),?_,?_⟩ (by simp only;omega)
   ·simp only
    rw[map_append,hL',show 2*(k+1)=2*k+1+1 by omega,take_succ_eq_append_getElem (by rw[length_map];omega),take_succ_eq_append_getElem (by rw[length_map];omega),append_assoc]
    have:∀(X Y:List Pg),X.length%2=0->qzm (X++Y)=qzm X++qzm Y:=by
     intro X Y;exact qpm (Q:=λX=>X.length%2=0->qzm (X++Y)=qzm X++qzm Y) (λ_=>rfl) (λa h=>by simp at h) (λa b r ih h=>by
      simp only[length_cons]at h;rw[cons_append,cons_append,qzm,qzm,ih (by omega),cons_append]) X
    rw[this _ _ (by rw[length_take,length_map,Nat.min_eq_left (by omega)];omega)]
    simp[qzm,erE]
   ·intro x hx
    rcases mem_append.1 hx with hx|hx
    ·exact hok.mono (λx hx=>List.mem_cons_of_mem _ hx) (Int.le_refl _) (le_refl _) x hx
    ·rw[mem_singleton]at hx
     subst hx
     refine⟨by simp,?_,?_,?_⟩
     ·show 0<=(L[2*k]).1+(L[2*k+1]).1;omega
     ·show(L[2*k]).1+(L[2*k+1]).1<=2*M;omega
     ·show((L[2*k]).2.2++(L[2*k+1]).2.2).length<=2*n;rw[length_append];omega
   ·exact h.tail λ_ _ _ h=>h.ro.tabI
  refine h.drewK λw h=>?_
  refine qm (qd (by omega) (by omega)) ?_
  refine h.rix (s:=s) (2*k) (by omega) h1 λa1 e1=>?_
  refine h.rix (s:=s) (2*k+1) (by omega) h2 λa2 e2=>?_
  refine qm (qd (by omega) (by omega)) ?_
  refine h.rix (s:=s) (2*k) (by omega) h1 λa3 e3=>?_
  refine(h.rdb s).rL (v:=(L[2*k]).2.1) e3 h1 (by decide) rfl ?_
  refine h.rix (s:=s) (2*k+1) (by omega) h2 λa4 e4=>?_
  refine(h.rdb s).rL (v:=(L[2*k+1]).2.1) e4 h2 (by decide) rfl ?_
  repeat' first
   |exact fin _ _ _ rfl h.sub
   |refine(h.rdb s).rI e1 h1 (by decide) rfl ?_
   |refine(h.rdb s).rI e2 h2 (by decide) rfl ?_
   |refine qm (qd (by omega) (by omega)) ?_
   |(refine h.new λnb w h=>?_
     have h:St F0 w0 w (qqb nb [.slice (L[2*k]).2.1.a (L[2*k]).2.1.len (L[2*k]).2.1.cap,.slice (L[2*k+1]).2.1.a (L[2*k+1]).2.1.len (L[2*k+1]).2.1.cap]::qcc 2 o (L'.flatMap eC)::tabA T'::ps):=h)
   |refine qx.c2 (A:=(L[2*k]).2.1) (B:=(L[2*k+1]).2.1) h (by simp only[length_map];omega) λr w _ h=>⟨r,rfl,?_⟩
   |refine And.intro ?_ ?_
 ·unfold qld.j2
  have e:qzm ((L.map erE).take (2*k))=qzm (L.map erE):=by
   rcases lt_or_ge (2*k) L.length with h1|h1
   ·have h2:L.length=2*k+1:=by omega
    rw[<-qbu,take_of_length_le (by rw[qul,length_map];omega)]
   ·rw[take_of_length_le (by rw[length_map];omega)]
  exact hk o wL L' T' (by rw[hL',e]) hT hok h
end
end
section
attribute [local irreducible] apK cpK mkK br
section
variable {F0:List Nat}{w0 w:World}{ps rest:List As}{s:Sl}{xs:List Int}
theorem qor.c{L:List Ep}{K:Ending->World->Prop}(h:St F0 w0 w ps)[Rdb F0 w0 s ps 2 (L.flatMap eC)](hlen:L.length<=1000000)
 (hk:∀t w',t.len=L.length->St F0 w0 w' (qcc 2 t (L.flatMap eC)::ps)->K (.returned (.slice t.a t.len t.cap)) w'):Calls prog 128 ⟨[.slice s.a s.len s.cap]⟩ w K:=by
 refine qdc (qeg.ok _ _ _ ?_)
 unfold qeg
 refine qye (λg=>?_) (λg=>?_)
 ·have:L=[]:=h.isnil (s:=s) (by simpa using g)
  subst this
  exact hk ⟨none,0,0⟩ w rfl (h.nil 2)
 ·refine h.cloneR (s2:=s) (by omega) λt w ht h=>hk t w ht h
def we(x:Ep):Int:=x.1
theorem ssortE(M:List Ep):pks (qxd wt (M.map pkE))=(qxd we M).flatMap eC:=by
 rw[<-qtpb,qsz (k:=we) (k':=wt) (f:=pkE) (λ_=>rfl)]
theorem qst{l:List Nat}{k:Nat}(h:k<l.length):(l.map λn:Nat=>(n:Int)).getD k 0=l[k]:=by
 simp[getD,h]
theorem qn.count{t6 t7 t85:Sl}{R:List Ep}{T:List (Sl×List Nat)}{N:Nat}{K:Ending->World->Prop}(h:St F0 w0 w (qcc 1 t7 (ivs .i64 (replicate N 0))::tabA T::ps))[Rdb F0 w0 t85 ps 2 (R.flatMap eC)]
 (hT:∀x∈R,(x.2.1,x.2.2)∈T) (hN:∀x∈R,∀s∈x.2.2,s<N) (hNl:N<=1000) (hn:∀x∈R,x.2.2.length<=100000) (hR:R.length<=1000)
 (hk:∀w',St F0 w0 w' (qcc 1 t7 (ivs .i64 (qzl N λi=>((qmg (R.map erE)).count i:Int)))::ps)->K (.returned (.tuple ⟨[.slice t7.a t7.len t7.cap,.int .i64 0]⟩)) w'):
 qn.j7 t7 t85 ((R.length:Nat):Int) 0 (λv w'=>K (.returned v) w') w:=by
 have hcnt:∀(l:List Ep),(∀x∈l,x.2.2.length<=100000)->∀i,(qmg (l.map erE)).count i<=l.length*100000:=by
  intro l;induction l with
  |nil=>intro _ i;simp[qmg]
  |cons a l ih=>
   intro h i;have:=ih (λx hx=>h x (by simp[hx])) i;have h1:=h a (by simp);have h2:=List.count_le_length (a:=i) (l:=a.2.2);rw[map_cons,qwk,count_append,length_cons];show(a.2.2).count i+_<=_;omega
 unfold qn.j7
 refine qjf (λ(j:Nat) (j':Int) w'=>j'=j/\j<=R.length/\St F0 w0 w' (qcc 1 t7 (ivs .i64 (qzl N λi=>((qmg ((R.take j).map erE)).count i:Int)))::tabA T::ps)) (λj=>R.length-j) 0 ⟨rfl,by omega,by
  rw[qjm]at h;simpa [qmg]using h⟩ ?_
 clear h
 rintro j j' wL I μ ⟨rfl,hj,h⟩ hin
 unfold qn.b1
 refine quc (λg=>?_) (λg=>?_)
 ·have hjR:j<R.length:=by omega
  have hmem:=getElem_mem hjR
  have hsl:=hn _ hmem
  have hcj:∀i,(qmg ((R.take j).map erE)).count i<=100000000:=λi=>by
   have h1:=hcnt (R.take j) (λx hx=>hn x (mem_of_mem_take hx)) i;have h2:(R.take j).length<=1000:=by rw[length_take];omega
   have h3:=Nat.mul_le_mul_right 100000 h2;omega
  unfold qn.j8
  refine h.lr (s:=t85) j rfl hjR ?_
  refine h.new λnb w h=>?_
  refine⟨rfl,?_⟩
  refine h.setR (x:=R[j]) (by rw[elt_pack.zc];rfl) λw h=>?_
  have h:St F0 w0 w (qqb nb [.int .i64 (R[j]).1,.slice (R[j]).2.1.a (R[j]).2.1.len (R[j]).2.1.cap]::qcc 1 t7 (ivs .i64 (qzl N λi=>((qmg ((R.take j).map erE)).count i:Int)))::tabA T::ps):=h
  rw[qyf]
  refine h.fL (b:=nb) (o:=0+1) ?_
  dsimp only
  have h:St F0 w0 w (qcc 1 t7 (ivs .i64 (qzl N λi=>((qmg ((R.take j).map erE)).count i:Int)))::tabA T::ps):=h.drop
  haveI:Rdb F0 w0 (R[j]).2.1 (tabA T::ps) 1 (nvs (R[j]).2.2):=qobb (hT _ hmem)
  have hl5:=(h.rdb (R[j]).2.1).1
  rw[qk,length_map]at hl5
  unfold qn.j10
  refine qjf (λ(k:Nat) (k':Int) w'=>k'=k/\k<=(R[j]).2.2.length/\St F0 w0 w' (qcc 1 t7 (ivs .i64 (qzl N λi=>((qmg ((R.take j).map erE)++(R[j]).2.2.take k).count i:Int)))::tabA T::ps)) (λk=>(R[j]).2.2.length-k) 0 ⟨rfl,by omega,by simpa using h⟩ ?_
  clear h
  rintro k k' wL2 I2 μ2 ⟨rfl,hk2,h⟩ hin2
  unfold qn.b2
  refine quc (λg2=>?_) (λg2=>?_)
  ·have hks:k<(R[j]).2.2.length:=by
    omega
   have hsN:=hN _ hmem _ (getElem_mem hks)
   have hck:(qmg ((R.take j).map erE)++(R[j]).2.2.take k).count ((R[j]).2.2[k])<=200000000:=by
    have h1:=hcj ((R[j]).2.2[k]);have h2:=List.count_le_length (a:=(R[j]).2.2[k]) (l:=(R[j]).2.2.take k);rw[count_append];rw[length_take]at h2;omega
   refine h.lx (s:=(R[j]).2.1) k rfl (by rw[length_map];exact hks) ?_
   rw[qst hks]
   refine h.lx (s:=t7) ((R[j]).2.2[k]) rfl (by rw[qod];exact hsN) ?_
   rw[qqg hsN]
   refine qm (qd (by omega) (by omega)) ?_
   refine h.sx (s:=t7) ((R[j]).2.2[k]) rfl (by rw[qod];exact hsN) λw h=>?_
   refine qm (qd (by omega) (by omega)) ?_
   refine⟨⟨rfl,rfl,rfl,rfl,rfl,rfl⟩,hin2 (k+1) _ _ ⟨by omega,by omega,?_⟩ (by omega)⟩
   rw[qhl]at h
   have e:(qzl N λm=>if m=(R[j]).2.2[k]then((qmg ((R.take j).map erE)++(R[j]).2.2.take k).count ((R[j]).2.2[k]):Int)+1 else((qmg ((R.take j).map erE)++(R[j]).2.2.take k).count m:Int))=qzl N λi=>((qmg ((R.take j).map erE)++(R[j]).2.2.take (k+1)).count i:Int):=by
    refine qvd λi _=>?_;rw[take_succ_eq_append_getElem hks,<-append_assoc,count_append (l₁:=qmg ((R.take j).map erE)++(R[j]).2.2.take k),List.count_singleton];by_cases e:i=(R[j]).2.2[k]
    ·rw[if_pos e,e];simp
    ·rw[if_neg e];have:((R[j]).2.2[k]==i)=false:=by simpa using λh=>e h.symm
     rw[this];simp
   rw[e]at h
   exact h
  ·have:k=(R[j]).2.2.length:=by
    omega
   subst this
   unfold qn.j9
   refine qm (qd (by omega) (by omega)) ?_
   refine⟨⟨rfl,rfl,rfl⟩,hin (j+1) _ _ ⟨by omega,by omega,?_⟩ (by omega)⟩
   rw[take_length]at h
   have e:qmg ((R.take (j+1)).map erE)=qmg ((R.take j).map erE)++(R[j]).2.2:=by
    rw[take_succ_eq_append_getElem hjR,map_append,qou];congr 1;simp[qmg,erE]
   rw[e]
   exact h
 ·have:j=R.length:=by omega
  subst this
  rw[take_length]at h
  unfold qn.j6
  exact hk wL (h.tail λ_ _ _ h=>h.drop)
theorem qvnb{T:List (Sl×List Nat)}{M:Int}{n:Nat}{L:List Ep}(h:okE T M n L):okE T M n (qxd we L):=λx hx=>h x ((qvj _).mem_iff.1 hx)
theorem qn.rows{t6 t7 t8:Sl}{C:List Ep}{T0:List (Sl×List Nat)}{cs:List Pg}{m:Nat}{K:Ending->World->Prop}
 (h:St F0 w0 w (qcc 2 t8 (C.flatMap eC)::tabA T0::ps)) (hC:C.map erE=cs) (hok0:okE T0 16777216 1 C) (hm:m<=15) (hc1:1<=cs.length) (hc:cs.length<=300)
 (hk:∀(t9:Sl) (R:List Ep) (T:List (Sl×List Nat)) (w':World),R.map erE=qil cs m->(∀x∈R,(x.2.1,x.2.2)∈T/\x.2.2.length<=100000)->St F0 w0 w' (qcc 2 t9 (R.flatMap eC)::tabA T::ps)->qn.j5 t6 t7 t9 (λv w'=>K (.returned v) w') w'):
 qn.j4 (m:Int) t6 t7 t8 ⟨none,0,0⟩ (λv w'=>K (.returned v) w') w:=by
 have hCl:C.length=cs.length:=by rw[<-hC,length_map]
 unfold qn.j4 qn.j11
 refine qug (λ(a:Nat×List Ep×List (Sl×List Nat)) (o:Sl) (i':Int) w'=>i'=a.1/\a.1<=m/\a.2.1.map erE=qil cs a.1/\okE a.2.2 (16777216*2^a.1) (2^a.1) a.2.1/\okE a.2.2 16777216 1 C/\St F0 w0 w' (qcc 2 o (a.2.1.flatMap eC)::tabA a.2.2::qcc 2 t8 (C.flatMap eC)::ps)) (λa=>m-a.1) (0,[],T0)
  ⟨rfl,by omega,rfl,λx hx=>(by cases hx),hok0,(h.at1).nil 2⟩ ?_
 clear h
 rintro⟨r,R,T⟩ o i' wL I μ ⟨rfl,hr,hR,hok,hokC,h⟩ hin
 simp only at hr hR hok hokC h hin|-
 have hRl:R.length<2*cs.length:=by
  have:=congrArg length hR;rw[length_map]at this
  rw[this];exact qjx hc1 r
 have h15:2^r<=2^15:=Nat.pow_le_pow_right (by decide) (by omega)
 rw[show(2:Nat)^15=32768 from rfl]at h15
 unfold qn.b3
 refine quc (λg=>?_) (λg=>?_)
 ·refine qor.c (s:=t8) h (by omega) λt w ht h=>⟨t,rfl,?_⟩
  have h:St F0 w0 w (tabA T::qcc 2 t (C.flatMap eC)::qcc 2 o (R.flatMap eC)::qcc 2 t8 (C.flatMap eC)::ps):=h.sub
  have e2:((2:Int)^r)=((2^r:Nat):Int):=by simp
  rw[e2]at hok
  have h1p:1<=2^r:=Nat.one_le_two_pow
  have ep:2^(r+1)=2*2^r:=by rw[Nat.pow_succ,Nat.mul_comm]
  have e3:((2:Int)^(r+1))=((2^(r+1):Nat):Int):=by simp
  refine qld.c (s:=o) (L:=R) h hok (by omega) (by omega) (by omega) λt2 w L2 T2 hL2 hT2 hok2 h=>⟨t2,rfl,?_⟩
  have hL2l:L2.length<=600:=by
   have:=congrArg length hL2;rw[length_map,qul,length_map]at this
   omega
  refine h.appR (s:=t) (s2:=t2) (by omega) λt3 w ht3 h=>?_
  rw[<-qtpb]at h
  refine SortStable.c (s:=t3) h (by rw[length_map,length_append];omega) λw h=>⟨rfl,?_⟩
  rw[ssortE]at h
  refine qm (qd (by omega) (by omega)) ?_
  refine⟨⟨rfl,rfl,rfl,rfl⟩,hin (r+1,qxd we (C++L2),T2) _ _ _ ⟨by simp only;omega,by simp only;omega,?_,?_,?_,?_⟩ (by simp only;omega)⟩
  ·simp only
   rw[qsz (k:=we) (k':=gw) (f:=erE) (λ_=>rfl),map_append,hC,hL2,hR,qil]
  ·simp only
   rw[e3]
   refine qvnb λx hx=>?_
   rcases mem_append.1 hx with hx|hx
   ·exact hokC.mono hT2 (by omega) (by omega) x hx
   ·exact hok2.mono (λ_ h=>h) (by omega) (by omega) x hx
  ·exact hokC.mono hT2 (Int.le_refl _) (le_refl _)
  ·exact h.sub
 ·have:r=m:=by omega
  subst this
  have h:St F0 w0 wL (qcc 2 o (R.flatMap eC)::tabA T::ps):=h.sub
  exact hk o R T wL hR (λx hx=>⟨(hok x hx).1,by have:=(hok x hx).2.2.2;omega⟩) h
theorem qn.coins{t6 t7:Sl}{m:Int}{K:Ending->World->Prop}(h:St F0 w0 w ps)[Rdb F0 w0 s ps 1 (ivs .i64 xs)][Rdb F0 w0 t6 ps 1 (nvs (que xs))](hg:goodX xs)
 (hk:∀(t8:Sl) (C:List Ep) (T:List (Sl×List Nat)) (w':World),C.map erE=qzj xs->okE T 16777216 1 C->St F0 w0 w' (qcc 2 t8 (C.flatMap eC)::tabA T::ps)->qn.j4 m t6 t7 t8 ⟨none,0,0⟩ (λv w'=>K (.returned v) w') w'):
 qn.j3 s m t6 t7 ⟨none,0,0⟩ ⟨none,0,0⟩ (λv w'=>K (.returned v) w') w:=by
 have hl6:=(h.rdb t6).1
 rw[qk,length_map]at hl6
 have hcl:=qds xs
 have hlg:=hg.1
 unfold qn.j3 qn.j12
 have h:St F0 w0 w (tabA []::ps):=h.add (f':=[]) (p':=noA) (Mod.refl _ _) rfl (Gr.refl _ _)
 refine qug (λ(a:Nat×List Ep×List (Sl×List Nat)) (o:Sl) (i':Int) w'=>i'=a.1/\a.1<=(que xs).length/\a.2.1.map erE=(qzj xs).take a.1/\okE a.2.2 16777216 1 a.2.1/\St F0 w0 w' (qcc 2 o (a.2.1.flatMap eC)::tabA a.2.2::ps)) (λa=>(que xs).length-a.1) (0,[],[])
  ⟨rfl,by omega,rfl,λx hx=>(by cases hx),h.nil 2⟩ ?_
 clear h
 rintro⟨i,L,T⟩ o i' wL I μ ⟨rfl,hi,hL,hok,h⟩ hin
 simp only at hi hL hok h hin|-
 have hLl:L.length=i:=by
  have:=congrArg length hL;rw[length_map,length_take,qqe]at this
  omega
 unfold qn.b4
 refine quc (λg=>?_) (λg=>?_)
 ·have hic:i<(que xs).length:=by omega
  have hcm:=qnj.1 (getElem_mem hic)
  have hv:=hg.2 _ (qme hcm.1)
  unfold badN at hv
  refine h.lx (s:=t6) i rfl (by rw[length_map];exact hic) ?_
  rw[qst hic]
  refine h.lx (s:=s) ((que xs)[i]) rfl hcm.1 ?_
  refine h.new λnb w h=>⟨rfl,?_⟩
  have h:St F0 w0 w (qqb nb (nvs [(que xs)[i]])::qcc 2 o (L.flatMap eC)::tabA T::ps):=h
  refine h.pushR (s:=o) (x:=((xs.getD ((que xs)[i]) 0,⟨some ⟨nb,0,none⟩,1,1⟩,[(que xs)[i]]):Ep)) (by omega) rfl λo2 w _ h=>?_
  refine qm (qd (by omega) (by omega)) ?_
  refine⟨⟨rfl,rfl,rfl,rfl,rfl,rfl,rfl⟩,hin (i+1,L++[(xs.getD ((que xs)[i]) 0,⟨some ⟨nb,0,none⟩,1,1⟩,[(que xs)[i]])],(⟨some ⟨nb,0,none⟩,1,1⟩,[(que xs)[i]])::T) _ _ _ ⟨by simp only;omega,by simp only;omega,?_,?_,?_⟩ (by simp only;omega)⟩
  ·simp only
   rw[map_append,hL,take_succ_eq_append_getElem (by rw[qqe];exact hic)]
   congr 1
   simp[qzj,erE]
  ·intro x hx
   rcases mem_append.1 hx with hx|hx
   ·exact hok.mono (λx hx=>List.mem_cons_of_mem _ hx) (Int.le_refl _) (le_refl _) x hx
   ·rw[mem_singleton]at hx
    subst hx
    refine⟨by simp,?_,?_,?_⟩
    ·show 0<=xs.getD _ 0;omega
    ·show xs.getD _ 0<=_;omega
    ·show 1<=1;omega
  ·exact h.tail λ_ _ _ h=>(h.ownB (n:=1) rfl).ro.tabI
 ·have:i=(que xs).length:=by omega
  subst this
  rw[take_of_length_le (by rw[qqe];omega)]at hL
  exact hk o L T wL hL hok h
theorem qn.c{m:Int}{K:Ending->World->Prop}(h:St F0 w0 w ps)[Rdb F0 w0 s ps 1 (ivs .i64 xs)]
 (hk0:∀t w',qvl xs m=0->t.len=xs.length->St F0 w0 w' (qcc 1 t (ivs .i64 (lenP xs m.toNat))::ps)->K (.returned (.tuple ⟨[.slice t.a t.len t.cap,.int .i64 0]⟩)) w')
 (hk1:∀w',qvl xs m≠0->St F0 w0 w' ps->K (.returned (.tuple ⟨[.slice none 0 0,.int .i64 (qvl xs m)]⟩)) w'):Calls prog 102 ⟨[.slice s.a s.len s.cap,.int .i64 m]⟩ w K:=by
 have hl:=(h.rdb s).1
 rw[qk]at hl
 refine qdc (qn.ok _ _ _ _ ?_)
 unfold qn
 have no1:∀w,(¬goodX xs\/m<1\/15<m)->St F0 w0 w ps->K (.returned (.tuple ⟨[.slice none 0 0,.int .i64 1]⟩)) w:=by
  intro w e h;have e1:qvl xs m=1:=by unfold qvl;rw[if_pos e]
  have:=hk1 w (by omega) h;rw[e1]at this
  exact this
 refine qfn.c (s:=s) h λb w hg hb h=>⟨b,rfl,?_⟩
 refine qye (λg=>?_) (λg=>?_)
 ·refine no1 w (Or.inl λhgd=>?_) h
  rcases hb g with e|⟨x,hx,e⟩
  ·have:=hgd.1;omega
  ·exact hgd.2 x hx e
 have hgood:goodX xs:=hg g
 have hlg:=hgood.1
 have hcl:=qds xs
 refine quc (λg1=>no1 w (by omega) h) (λg1=>?_)
 refine quc (λg2=>no1 w (by omega) h) (λg2=>?_)
 obtain⟨M,rfl⟩:∃M:Nat,m=M:=⟨m.toNat,by omega⟩
 have eL:qvl xs M=if 2^M<(que xs).length then 7 else 0:=by
  unfold qvl;rw[if_neg (λe=>by
   rcases e with e|e|e
   ·exact e hgood
   ·omega
   ·omega),toNat_natCast]
 unfold qn.j1
 refine qwd.c (s:=s) h (by omega) λt6 w ht6 h=>⟨t6,rfl,?_⟩
 refine h.makeI (n:=xs.length) (by omega) (by omega) (by omega) λt7 w ht7 hc7 h=>?_
 unfold qn.j2
 have h15:2^M<=2^15:=Nat.pow_le_pow_right (by decide) (by omega)
 have hM:qzi .i64 1 (M:Int)=((2^M:Nat):Int):=by
  rw[qaeb .i64 (t:=M) rfl (by show M<=64;omega) (by decide) (by
   have e:((1:Int)*2^M)=((2^M:Nat):Int):=by simp
   rw[e];show((2^M:Nat):Int)<9223372036854775808;have:(2:Nat)^15=32768:=rfl;omega)]
  simp
 refine⟨by omega,qm hM ?_⟩
 refine quc (λg3=>?_) (λg3=>?_)
 ·have e7:qvl xs M=7:=by rw[eL,if_pos (by omega)]
  have:=hk1 w (by omega) h.drop.drop
  rw[e7]at this
  exact this
 have e0:qvl xs M=0:=by rw[eL,if_neg (by omega)]
 have hk0:=λt w'=>hk0 t w' e0
 simp only[toNat_natCast]at hk0
 have few:(que xs).length<2->lenP xs M=qzl xs.length λi=>if 0<xs.getD i 0 then 1 else 0:=by
  intro hf;refine qvd λi hi=>?_;unfold lenF;rw[if_pos hf];split<;>rfl
 refine qye (λg4=>?_) (λg4=>?_)
 ·have g4:(t6.len:Int)=0:=by simpa using g4
  refine hk0 t7 w ht7 ?_
  have e:lenP xs M=replicate xs.length 0:=by
   rw[few (by omega),qjm];refine qvd λi hi=>?_;rw[if_neg (λh0=>?_)];have:=List.length_pos_of_mem (qnj.2 ⟨hi,h0⟩);omega
  rw[e]
  exact h.tail λ_ _ _ h=>h.drop
 have g4:(t6.len:Int)≠0:=by simpa using g4
 refine qye (λg5=>?_) (λg5=>?_)
 ·have g5:(t6.len:Int)=1:=by simpa using g5
  have hc0:0<(que xs).length:=by omega
  have hcm:=qnj.1 (getElem_mem hc0)
  refine h.lx (s:=t6) 0 rfl (by rw[length_map];exact hc0) ?_
  rw[qst hc0]
  refine h.sx (s:=t7) ((que xs)[0]) rfl (by rw[List.length_replicate];exact hcm.1) λw h=>?_
  refine hk0 t7 w ht7 ?_
  have e:(replicate xs.length (0:Int)).set ((que xs)[0]) 1=lenP xs M:=by
   rw[few (by omega),qjm,qhl];refine qvd λi hi=>?_;by_cases h0:0<xs.getD i 0
   ·have hm:=qnj.2 ⟨hi,h0⟩;obtain⟨k,hk,rfl⟩:=List.mem_iff_getElem.1 hm;have:k=0:=by omega
    subst this
    rw[if_pos rfl,if_pos h0]
   ·rw[if_neg h0,if_neg (λe:i=(que xs)[0]=>h0 (by rw[e];exact hcm.2))]
  rw[e]at h
  exact h.tail λ_ _ _ h=>h.drop
 have g5:(t6.len:Int)≠1:=by simpa using g5
 refine qn.coins (s:=s) (xs:=xs) h hgood λt8 C T w hC hok h=>?_
 refine qn.rows (cs:=qzj xs) h hC hok (by omega) (by rw[qqe];omega) (by rw[qqe];omega) λt9 R T w hR hRT h=>?_
 have hen:=qyt (cs:=qzj xs) (by rw[qqe];omega) (L:=M) (by rw[qqe];omega)
 have hRl:R.length=(qil (qzj xs) M).length:=by rw[<-hR,length_map]
 have hRlt:=qjx (cs:=qzj xs) (by rw[qqe];omega) M
 rw[qqe]at hen hRlt
 have h9:=h.rlen (s:=t9)
 have hcap:=h.cap (by decide)
 unfold qn.j5
 refine qm (qd (by omega) (by omega)) ?_
 refine qm (qd (by omega) (by omega)) ?_
 refine qkn (n:=2*(que xs).length-2) (by omega) (by omega) (qbe ?_)
 have h:St F0 w0 w (qcc 1 t7 (ivs .i64 (replicate xs.length 0))::tabA T::qcc 2 t9 (R.flatMap eC)::ps):=h.sub
 haveI:=h.drop.drop.cutRR t9 0 (2*(que xs).length-2) (t9.cap-0) (by omega) (by omega) hcap
 rw[drop_zero,Nat.sub_zero]at this
 have hRt:(R.take (2*(que xs).length-2)).map erE=(qil (qzj xs) M).take (2*(que xs).length-2):=by rw[List.map_take,hR]
 have hlen:(R.take (2*(que xs).length-2)).length=2*(que xs).length-2:=by rw[length_take];omega
 have hfin:=qn.count (t6:=t6) (t7:=t7) (t85:=⟨qnf t9.a t9.cap 0 2,2*(que xs).length-2,t9.cap-0⟩) (R:=R.take (2*(que xs).length-2)) (T:=T) (N:=xs.length) (K:=K) h (λx hx=>(hRT x (mem_of_mem_take hx)).1) (λx hx s hs=>?_) (by omega) (λx hx=>(hRT x (mem_of_mem_take hx)).2) (by omega) λw h=>?_
 ·rw[hlen]at hfin
  exact hfin
 ·have hx':erE x∈qil (qzj xs) M:=by rw[<-hR];exact List.mem_map_of_mem (mem_of_mem_take hx)
  refine qetb (cs:=qzj xs) (n:=xs.length) ?_ M (erE x) hx' s hs
  intro y hy s hs
  obtain⟨i,hi,rfl⟩:=mem_map.1 hy
  have:s=i:=by simpa using hs
  subst this
  exact(qnj.1 hi).1
 ·refine hk0 t7 w ht7 ?_
  rw[hRt]at h
  have e:lenP xs M=qzl xs.length λi=>((qmg ((qil (qzj xs) M).take (2*(que xs).length-2))).count i:Int):=by
   refine qvd λi hi=>?_;unfold lenF;rw[if_neg (by omega)]
  rw[e]
  exact h.tail λ_ _ _ h=>h.drop
end
end
section
attribute [local irreducible] apK cpK mkK br
section
variable {α β:Type}{k:α->Int}
def hless(k:α->Int)(H:List α)(i j:Nat):Bool:=match H[i]?,H[j]? with
 |some x,some y=>decide (k x<k y)
 |_,_=>false
def hswap(H:List α)(i j:Nat):List α:=match H[i]?,H[j]? with
 |some x,some y=>(H.set i y).set j x
 |_,_=>H
def hup(k:α->Int):Nat->List α->Nat->List α
 |0,H,_=>H
 |f+1,H,j=>if(j-1)/2=j then H else if hless k H j ((j-1)/2)then hup k f (hswap H ((j-1)/2) j) ((j-1)/2)else H
def hkid(k:α->Int)(H:List α)(i n:Nat):Nat:=if 2*i+2<n/\hless k H (2*i+2) (2*i+1)=true then 2*i+2 else 2*i+1
def hdown(k:α->Int):Nat->List α->Nat->Nat->List α
 |0,H,_,_=>H
 |f+1,H,i,n=>if n<=2*i+1 then H else if hless k H (hkid k H i n) i then hdown k f (hswap H i (hkid k H i n)) (hkid k H i n) n else H
def hpush(k:α->Int)(H:List α)(x:α):List α:=hup k (H.length+1) (H++[x]) H.length
def hmid(k:α->Int)(H:List α):List α:=hdown k (H.length-1) (hswap H 0 (H.length-1)) 0 (H.length-1)
def hrest(k:α->Int)(H:List α):List α:=(hmid k H).take (H.length-1)
variable {k':β->Int}{g:α->β}
end
inductive Tr where
 |leaf (s:Nat)
 |nd (a b:Tr)
def Tr.size:Tr->Nat
 |leaf _=>1
 |nd a b=>a.size+b.size+1
abbrev WT:=Int×Tr
def kW(x:WT):Int:=x.1
end
section
attribute [local irreducible] apK cpK mkK br
def dT:WT:=(0,.leaf 0)
def hlast(H:List WT):WT:=(hmid kW H).getD (H.length-1) dT
def hstep(H:List WT):List WT:=hpush kW (hrest kW (hrest kW H)) ((hlast H).1+(hlast (hrest kW H)).1,.nd (hlast H).2 (hlast (hrest kW H)).2)
end
section
attribute [local irreducible] apK cpK mkK br
section
variable {xs:List Int}{M:Nat}
theorem qjcb(h:(que xs).length<=2^M)(h1:1<=M)(hM:M<=15):okL (lenP xs M):=by
 intro x hx;obtain⟨i,hi,rfl⟩:=List.mem_iff_getElem.1 hx;have e:(lenP xs M)[i]=(lenP xs M).getD i 0:=by rw[getD,List.getElem?_eq_getElem hi];rfl
 rw[qok]at hi;rw[e,qeu hi];have:=qcy h h1 hi;omega
theorem kr_sum(h:(que xs).length<=2^M)(h1:1<=M):kr (lenP xs M)=((que xs).map λi=>2^(15-lenF xs M i)).sum:=by
 unfold kr lenP qzl;rw[List.map_map];have:=qyob xs (λi=>decide (0<xs.getD i 0)) (λi=>2^(15-lenF xs M i)) xs.length;unfold que;rw[<-this];congr 1;refine List.map_congr_left λi hi=>?_;have h2:=qcy h h1 (List.mem_range.1 hi);show(if 0<((lenF xs M i:Nat):Int)then 2^(15-((lenF xs M i:Nat):Int).toNat)else 0)=_;rw[toNat_natCast];by_cases h0:0<xs.getD i 0
 ·rw[if_pos (by omega),if_pos (by simpa using h0)]
 ·rw[if_neg (by omega),if_neg (by simpa using h0)]
theorem qftb{g:Nat->Nat}(h:(que xs).length=1):((que xs).map λi=>g (lenF xs M i)).sum=g 1:=by
 obtain⟨c,hc⟩:=List.length_eq_one_iff.1 h;have hm:c∈que xs:=by rw[hc];exact mem_singleton.2 rfl
 have:lenF xs M c=1:=by
  unfold lenF;rw[if_pos (by omega),if_pos (qnj.1 hm).2]
 rw[hc];simp[this]
theorem qey(h:(que xs).length<=2^M)(h1:1<=M)(hM:M<=15):kr (lenP xs M)<=32768/\(2<=(que xs).length->kr (lenP xs M)=32768):=by
 rw[kr_sum h h1];rcases lt_or_ge (que xs).length 2 with h2|h2
 ·refine⟨?_,λh=>by omega⟩;rcases lt_or_ge 0 (que xs).length with h3|h3
  ·rw[qftb (g:=λx=>2^(15-x)) (by omega)];decide
  ·rw[List.length_eq_zero_iff.1 (show(que xs).length=0 by omega)];simp
 ·have:=qojb h h2 15 hM;rw[this];exact⟨by decide,λ_=>by decide⟩
theorem qkeb(hg:xs.length<=288)(h:(que xs).length<=2^M)(h1:1<=M)(hM:M<=15):(qzn (lenP xs M)).2=0/\(qzn (lenP xs M)).1=decide (kr (lenP xs M)=32768):=by
 have hk:=(qey h h1 hM).1;unfold qzn;rw[if_neg (by rw[qok];omega),if_neg (λe=>e (qjcb h h1 hM)),if_neg (by omega)];exact⟨rfl,rfl⟩
theorem qjeb(hg:xs.length<=288)(h:(que xs).length<=2^M)(h1:1<=M)(hM:M<=15):qqk (lenP xs M) true=0:=by
 obtain⟨hc,hc2⟩:=qkeb hg h h1 hM;unfold qqk;rw[if_neg (λe=>e hc),hc2];rcases lt_or_ge (que xs).length 2 with h2|h2
 ·rw[if_neg];rintro⟨_,e⟩;rw[Bool.true_and,qat (qjcb h h1 hM)]at e;have e:=of_decide_eq_false e;have e2:(lenP xs M).filter (0<·)=(que xs).map λ_=>(1:Int):=by
   unfold lenP qzl;rw[List.filter_map];unfold que;have e3:∀l:List Nat,(∀i∈l,i<xs.length)->(l.filter ((λx=>decide ((0:Int)<x))∘λi=>(lenF xs M i:Int))).map (λi=>(lenF xs M i:Int))=(l.filter λi=>decide (0<xs.getD i 0)).map λ_=>(1:Int):=by
    intro l;induction l with
    |nil=>intro _;rfl
    |cons a l ih=>
     intro hl;rw[List.filter_cons,List.filter_cons];have:lenF xs M a=if 0<xs.getD a 0 then 1 else 0:=by unfold lenF;rw[if_pos h2]
     have ih:=ih (λi hi=>hl i (by simp[hi]));by_cases h0:0<xs.getD a 0
     ·rw[if_pos h0]at this
      rw[if_pos (by simp[this]),if_pos (by simpa using h0),map_cons,map_cons,ih,this];rfl
     ·rw[if_neg h0]at this
      rw[if_neg (by simp[this]),if_neg (by simpa using h0),ih]
   exact e3 _ (λi hi=>List.mem_range.1 hi)
  rw[e2]at e;have e4:∀l:List Nat,(l.map λ_=>(1:Int)).sum=l.length:=by
   intro l;induction l with
   |nil=>rfl
   |cons a l ih=>rw[map_cons,List.sum_cons,ih,length_cons];omega
  rw[e4]at e;omega
 ·rw[if_neg];rintro⟨e,_⟩;have:=of_decide_eq_false e;exact this ((qey h h1 hM).2 h2)
end
end
section
attribute [local irreducible] apK cpK mkK br
def pcC(p:Pc):List Value:=[.int .i64 p.1,.int .i64 p.2.1,.int .i64 p.2.2]
theorem qfj(p:Pc):∀v∈(⟨pcC p⟩:Array Value),qfe v:=by
 intro v hv;have:v∈pcC p:=by simpa using hv
 rcases mem_cons.1 this with rfl|this
 ·trivial
 ·rcases mem_cons.1 this with rfl|this
  ·trivial
  ·rcases mem_cons.1 this with rfl|this
   ·trivial
   ·cases this
theorem qdm:zc prog 146=⟨pcC (0,0,0)⟩:=by kernel_rfl
section
variable {F0:List Nat}{w0 w:World}{ps rest rest2 rest3:List As}
theorem qkf.c{v:Int}{K:Ending->World->Prop}(h:St F0 w0 w ps)(h3:0<=v)(h258:v<=100000)(hk:∀w',St F0 w0 w' ps->K (.returned (.agg ⟨pcC (ofLen v)⟩)) w'):
 Calls prog 118 ⟨[.int .i64 v,.int .i64 257,.func (.func 119) ⟨[]⟩ ⟨[]⟩]⟩ w K:=by
 refine qdc (qkf.ok _ _ _ _ ?_)
 unfold qkf
 rw[qdm]
 refine h.new λtb w h=>?_
 unfold qkf.j1
 rw[qdm]
 refine h.new λpb w h=>⟨rfl,?_⟩
 have h:St F0 w0 w (qqb pb (pcC (0,0,0))::qqb tb (pcC (0,0,0))::ps):=h
 refine h.sA (l':=pcC (0,0,0)) rfl rfl (qfj _) λw h=>?_
 unfold qkf.j2
 refine qjf (λ(a:Nat×Pc) (k':Int) w'=>k'=257+((40-a.1:Nat):Int)/\a.1<=40/\11<=a.1/\ofG qdl v a.1 k' a.2=ofLen v/\St F0 w0 w' (qqb pb (pcC a.2)::qqb tb (pcC (0,0,0))::ps)) (λa=>a.1) (40,(0,0,0)) ⟨rfl,le_refl _,by decide,rfl,h⟩ ?_
 clear h
 rintro⟨f,p⟩ k' wL I μ ⟨hk',hf,hf2,hof,h⟩ hin
 simp only at hk' hf hf2 hof h hin|-
 unfold qkf.b1
 refine qcd.c h ⟨_,_,_,rfl,?_⟩
 obtain⟨f,rfl⟩:∃g,f=g+1:=⟨f-1,by omega⟩
 rw[ofG]at hof
 have done:p=ofLen v->ldA wL ⟨pb,0,none⟩ 3 λc6=>c6.size=3/\stA wL ⟨tb,0,none⟩ c6 λw7=>ldA w7 ⟨tb,0,none⟩ 3 λc8=>K (.returned (.agg c8)) w7:=by
  intro e;refine h.lA (b:=pb) rfl ⟨rfl,?_⟩;refine St.sA (b:=tb) (l:=pcC (0,0,0)) h (l':=pcC p) rfl rfl (qfj _) λw h=>?_;refine h.lA (b:=tb) rfl ?_;rw[e];exact hk w h.drop.drop
 refine qye (λg=>?_) (λg=>?_)
 ·have g:(qdl k').2.2=false:=by simpa using g
  rw[if_pos (Or.inl g)]at hof
  exact done hof
 have g:(qdl k').2.2=true:=by simpa using g
 refine quc (λg2=>?_) (λg2=>?_)
 ·rw[if_pos (Or.inr g2)]at hof
  exact done hof
 rw[if_neg (by rintro(e|e);rw[e]at g;cases g;exact g2 e)]at hof
 have hle:k'<=285:=by
  rcases Int.lt_or_le 285 k' with e|e
  ·unfold qdl at g;rw[if_pos (Or.inr e)]at g;cases g
  ·exact e
 have hb:=qkdb k'
 refine qm (qd (by omega) (by omega)) ⟨rfl,?_⟩
 refine h.sA (b:=pb) (l':=pcC (k',v-(qdl k').1,(qdl k').2.1)) rfl rfl (qfj _) λw h=>?_
 refine qm (qd (by omega) (by omega)) ?_
 exact⟨⟨rfl,rfl,rfl⟩,hin (f,(k',v-(qdl k').1,(qdl k').2.1)) _ _ ⟨by omega,by omega,by omega,hof,h⟩ (by simp only;omega)⟩
theorem qlf.c{v:Int}{K:Ending->World->Prop}(h:St F0 w0 w ps)(h3:0<=v)(h258:v<=100000)(hk:∀w',St F0 w0 w' ps->K (.returned (.agg ⟨pcC (ofDis v)⟩)) w'):
 Calls prog 118 ⟨[.int .i64 v,.int .i64 0,.func (.func 120) ⟨[]⟩ ⟨[]⟩]⟩ w K:=by
 refine qdc (qlf.ok _ _ _ _ ?_)
 unfold qlf
 rw[qdm]
 refine h.new λtb w h=>?_
 unfold qlf.j1
 rw[qdm]
 refine h.new λpb w h=>⟨rfl,?_⟩
 have h:St F0 w0 w (qqb pb (pcC (0,0,0))::qqb tb (pcC (0,0,0))::ps):=h
 refine h.sA (l':=pcC (0,0,0)) rfl rfl (qfj _) λw h=>?_
 unfold qlf.j2
 refine qjf (λ(a:Nat×Pc) (k':Int) w'=>k'=((40-a.1:Nat):Int)/\a.1<=40/\10<=a.1/\ofG qik v a.1 k' a.2=ofDis v/\St F0 w0 w' (qqb pb (pcC a.2)::qqb tb (pcC (0,0,0))::ps)) (λa=>a.1) (40,(0,0,0)) ⟨rfl,le_refl _,by decide,rfl,h⟩ ?_
 clear h
 rintro⟨f,p⟩ k' wL I μ ⟨hk',hf,hf2,hof,h⟩ hin
 simp only at hk' hf hf2 hof h hin|-
 unfold qlf.b1
 refine qwc.c h ⟨_,_,_,rfl,?_⟩
 obtain⟨f,rfl⟩:∃g,f=g+1:=⟨f-1,by omega⟩
 rw[ofG]at hof
 have done:p=ofDis v->ldA wL ⟨pb,0,none⟩ 3 λc6=>c6.size=3/\stA wL ⟨tb,0,none⟩ c6 λw7=>ldA w7 ⟨tb,0,none⟩ 3 λc8=>K (.returned (.agg c8)) w7:=by
  intro e;refine h.lA (b:=pb) rfl ⟨rfl,?_⟩;refine St.sA (b:=tb) (l:=pcC (0,0,0)) h (l':=pcC p) rfl rfl (qfj _) λw h=>?_;refine h.lA (b:=tb) rfl ?_;rw[e];exact hk w h.drop.drop
 refine qye (λg=>?_) (λg=>?_)
 ·have g:(qik k').2.2=false:=by simpa using g
  rw[if_pos (Or.inl g)]at hof
  exact done hof
 have g:(qik k').2.2=true:=by simpa using g
 refine quc (λg2=>?_) (λg2=>?_)
 ·rw[if_pos (Or.inr g2)]at hof
  exact done hof
 rw[if_neg (by rintro(e|e);rw[e]at g;cases g;exact g2 e)]at hof
 have hle:k'<=29:=by
  rcases Int.lt_or_le 29 k' with e|e
  ·unfold qik at g;rw[if_pos (Or.inr (show 30<=k' by omega))]at g;cases g
  ·exact e
 have hb:=qndb k'
 refine qm (qd (by omega) (by omega)) ⟨rfl,?_⟩
 refine h.sA (b:=pb) (l':=pcC (k',v-(qik k').1,(qik k').2.1)) rfl rfl (qfj _) λw h=>?_
 refine qm (qd (by omega) (by omega)) ?_
 exact⟨⟨rfl,rfl,rfl⟩,hin (f,(k',v-(qik k').1,(qik k').2.1)) _ _ ⟨by omega,by omega,by omega,hof,h⟩ (by simp only;omega)⟩
def qtl(t:Tk):Pc×Pc×Bool:=if t.2.1=0 then((t.1,0,0),(0,0,0),false)else(ofLen t.2.1,ofDis t.2.2,true)
def tkOk(t:Tk):Prop:=(0<=t.1/\t.1<256)/\(t.2.1≠0->(3<=t.2.1/\t.2.1<=258)/\1<=t.2.2/\t.2.2<=32768)
theorem Makes.tkOk{b:List Int}(hb:∀x∈b,0<=x/\x<256){n m:Nat}{L:List Tk}(h:Makes b n L m):∀t∈L,tkOk t:=by
 induction h with
 |nil n=>intro t ht;cases ht
 |@lit n m r h _ ih=>
  intro t ht;rcases mem_cons.1 ht with rfl|ht
  ·exact⟨hb _ (qme h),λe=>absurd rfl e⟩
  ·exact ih t ht
 |@copy n m k d r h3 h258 hd hdn hdf hk hs _ ih=>
  intro t ht;rcases mem_cons.1 ht with rfl|ht
  ·exact⟨⟨Int.le_refl _,by show(0:Int)<256;decide⟩,λ_=>⟨⟨by show(3:Int)<=(k:Int);omega,by show(k:Int)<=258;omega⟩,by show(1:Int)<=(d:Int);omega,by show(d:Int)<=32768;omega⟩⟩
  ·exact ih t ht
theorem qjk.c{t:Tk}{K:Ending->World->Prop}(h:St F0 w0 w ps)(ht:tkOk t)
 (hk:∀w',St F0 w0 w' ps->K (.returned (.tuple ⟨[.agg ⟨pcC (qtl t).1⟩,.agg ⟨pcC (qtl t).2.1⟩,.bool (qtl t).2.2]⟩)) w'):Calls prog 90 ⟨[.agg ⟨tkC t⟩]⟩ w K:=by
 refine qdc (qjk.ok _ _ _ ?_)
 unfold qjk
 refine h.new λtb w h=>?_
 have h:St F0 w0 w (qqb tb (tkC t)::ps):=h
 rw[qdm]
 refine h.new λab w h=>?_
 refine h.new λbb w h=>?_
 have h:St F0 w0 w (qqb bb (pcC (0,0,0))::qqb ab (pcC (0,0,0))::qqb tb [.int .u8 t.1,.int .i64 t.2.1,.int .i64 t.2.2]::ps):=h
 simp only[qyf,zero_add]
 refine h.fI (b:=tb) ?_
 unfold qtl at hk
 refine qye (λg=>?_) (λg=>?_)
 ·have g:t.2.1=0:=by simpa using g
  rw[if_pos g]at hk
  refine h.fI (b:=tb) ?_
  refine qm (qd (by have:=ht.1;omega) (by have:=ht.1;omega)) ⟨rfl,?_⟩
  refine h.sA (b:=ab) (l':=pcC (t.1,0,0)) rfl rfl (qfj _) λw h=>⟨rfl,?_⟩
  refine h.sA (b:=bb) (l':=pcC (0,0,0)) rfl rfl (qfj _) λw h=>?_
  refine h.lA (b:=ab) rfl ?_
  refine h.lA (b:=bb) rfl ?_
  exact hk w h.sub
 ·have g:t.2.1≠0:=by simpa using g
  rw[if_neg g]at hk
  obtain⟨_,ht2⟩:=ht
  have ht2:=ht2 g
  refine h.drewK λw h=>?_
  refine h.fI (b:=tb) ⟨?_,?_⟩
  ·refine qkf.c h (by omega) (by omega) λw h=>⟨_,rfl,?_⟩
   refine h.fI (b:=tb) ?_
   refine qlf.c h (by omega) (by omega) λw h=>⟨_,rfl,rfl,?_⟩
   refine h.sA (b:=ab) (l':=pcC (ofLen t.2.1)) rfl rfl (qfj _) λw h=>⟨rfl,?_⟩
   refine h.sA (b:=bb) (l':=pcC (ofDis t.2.2)) rfl rfl (qfj _) λw h=>?_
   refine h.lA (b:=ab) rfl ?_
   refine h.lA (b:=bb) rfl ?_
   exact hk w h.sub
  ·refine h.fI (b:=tb) ?_
   refine qkf.c h (by omega) (by omega) λw h=>⟨_,rfl,?_⟩
   refine qlf.c h (by omega) (by omega) λw h=>⟨_,rfl,rfl,?_⟩
   refine h.sA (b:=ab) (l':=pcC (ofLen t.2.1)) rfl rfl (qfj _) λw h=>⟨rfl,?_⟩
   refine h.sA (b:=bb) (l':=pcC (ofDis t.2.2)) rfl rfl (qfj _) λw h=>?_
   refine h.lA (b:=ab) rfl ?_
   refine h.lA (b:=bb) rfl ?_
   exact hk w h.sub
end
end
section
attribute [local irreducible] apK cpK mkK br
def qcp(n:Nat)(S:List Nat):List Int:=qzl n λi=>(S.count i:Int)
theorem qee(n:Nat)(S:List Nat):(qcp n S).length=n:=qod _ _
theorem qdt{n i:Nat}(S:List Nat)(h:i<n):(qcp n S).getD i 0=(S.count i:Int):=qqg (f:=λi=>(S.count i:Int)) h
theorem quy(n:Nat):qcp n []=replicate n 0:=by
 rw[qjm];exact qvd λi _=>by simp
theorem qbp{n s:Nat}(S:List Nat)(hs:s<n):(qcp n S).set s ((qcp n S).getD s 0+1)=qcp n (S++[s]):=by
 rw[qdt S hs];unfold qcp;rw[qhl];refine qvd λi hi=>?_;rw[count_append];by_cases e:i=s
 ·rw[if_pos e,e];simp
 ·rw[if_neg e];have:[s].count i=0:=List.count_eq_zero.2 (by simpa using e);rw[this];simp
theorem qpl{n:Nat}{S:List Nat}(i:Nat):0<=(qcp n S).getD i 0/\(qcp n S).getD i 0<=S.length:=by
 rcases lt_or_ge i n with h|h
 ·rw[qdt S h];have:=List.count_le_length (a:=i) (l:=S);omega
 ·have e:(qcp n S).getD i 0=0:=by
   rw[List.getD_eq_getElem?_getD,List.getElem?_eq_none (by rw[qee];exact h)];rfl
  rw[e];omega
theorem qzu{n:Nat}{S:List Nat}(hn:n<=288)(hS:S.length<=16777216):goodX (qcp n S):=by
 refine⟨by rw[qee];exact hn,λx hx=>?_⟩;obtain⟨i,hi,rfl⟩:=List.mem_iff_getElem.1 hx;have e:(qcp n S)[i]=(qcp n S).getD i 0:=by rw[getD,List.getElem?_eq_getElem hi];rfl
 rw[e];have:=qpl (n:=n) (S:=S) i;unfold badN;omega
theorem qvp{n i:Nat}{S:List Nat}(h:i<n):0<(qcp n S).getD i 0↔i∈S:=by
 rw[qdt S h,<-List.count_pos_iff (a:=i) (l:=S)];omega
def litS(t:Tk):Nat:=(qtl t).1.1.toNat
def disS(t:Tk):List Nat:=if(qtl t).2.2 then[(qtl t).2.1.1.toNat]else[]
def litC(L:List Tk):List Int:=qcp 286 (L.map litS++[256])
def disC(L:List Tk):List Int:=qcp 30 (L.flatMap disS)
theorem qmjb{t:Tk}(h:tkOk t):0<=(qtl t).1.1/\(qtl t).1.1<286:=by
 unfold qtl;by_cases g:t.2.1=0
 ·rw[if_pos g];have:=h.1;simp only;omega
 ·rw[if_neg g];have:=qvs (qop (h.2 g).1.1 (h.2 g).1.2);simp only;omega
theorem qex{n s e x:Int}(h:symP n true s e x):0<=s/\s<30:=by
 rcases h with⟨_,h1,h2,_⟩|⟨h1,_⟩
 ·exact⟨h1,h2⟩
 ·cases h1
theorem qbqb{t:Tk}(h:tkOk t)(hc:(qtl t).2.2=true):0<=(qtl t).2.1.1/\(qtl t).2.1.1<30:=by
 unfold qtl at hc|-
 by_cases g:t.2.1=0
 ·rw[if_pos g]at hc;cases hc
 ·rw[if_neg g];exact qex (qcn (h.2 g).2.1 (h.2 g).2.2)
theorem qbfb(L:List Tk):(L.flatMap disS).length<=L.length:=by
 induction L with
 |nil=>exact le_refl _
 |cons t L ih=>
  rw[flatMap_cons,length_append,length_cons];have:(disS t).length<=1:=by unfold disS;split<;>simp
  omega
section
variable {F0:List Nat}{w0 w:World}{ps rest rest2 rest3:List As}{L:List Tk}
theorem St.pcN{p q:Pc}{K:Addr->Addr->World->Prop}(h:St F0 w0 w ps)(hk:∀a b w',St F0 w0 w' (qqb b (pcC q)::qqb a (pcC p)::ps)->K ⟨a,0,none⟩ ⟨b,0,none⟩ w'):
 lt (⟨World.heapSize w,0,none⟩:Addr) λa=>lt (World.alloc w (.cells (zc prog 146) 146)) λw1=>
 lt (⟨World.heapSize w1,0,none⟩:Addr) λb=>lt (World.alloc w1 (.cells (zc prog 146) 146)) λw2=>
 (⟨pcC p⟩:Array Value).size=3/\Go.Proofs.YtdccpphmkfaioaaGreat.stA w2 a ⟨pcC p⟩ λw3=>(⟨pcC q⟩:Array Value).size=3/\Go.Proofs.YtdccpphmkfaioaaGreat.stA w3 b ⟨pcC q⟩ λw4=>K a b w4:=by
 rw[qdm]
 refine h.new λa w h=>?_
 refine h.new λb w h=>⟨rfl,?_⟩
 have h:St F0 w0 w (qqb b (pcC (0,0,0))::qqb a (pcC (0,0,0))::ps):=h
 refine h.sA (b:=a) (l':=pcC p) rfl rfl (qfj _) λw h=>⟨rfl,?_⟩
 refine h.sA (b:=b) (l':=pcC q) rfl rfl (qfj _) λw h=>?_
 exact hk a b w h.sub
theorem qsd.go{s A B:Sl}{kb:Nat}{K:Ending->World->Prop}(h:St F0 w0 w (qqb kb [.slice s.a s.len s.cap,.slice A.a A.len A.cap,.slice B.a B.len B.cap]::qcc 1 A (ivs .i64 (replicate 286 0))::qcc 1 B (ivs .i64 (replicate 30 0))::ps))
 [Rdb F0 w0 s ps 3 (tks L)] (hok:∀t∈L,tkOk t) (hL:L.length<=1000000)
 (hk:∀w',St F0 w0 w' (qqb kb [.slice s.a s.len s.cap,.slice A.a A.len A.cap,.slice B.a B.len B.cap]::qcc 1 A (ivs .i64 (litC L))::qcc 1 B (ivs .i64 (disC L))::ps)->K (.returned (.pointer (some ⟨kb,0,none⟩))) w'):
 qsd.j1 s (some ⟨kb,0,none⟩) (λv w'=>K (.returned v) w') w:=by
 have hl:=(h.rdb s).1
 rw[qtj]at hl
 rw[<-quy,<-quy]at h
 unfold litC disC at hk
 unfold qsd.j1 qsd.j3
 refine qjf (λ(i:Nat) (i':Int) w'=>i'=i/\i<=L.length/\St F0 w0 w' (qqb kb [.slice s.a s.len s.cap,.slice A.a A.len A.cap,.slice B.a B.len B.cap]::qcc 1 A (ivs .i64 (qcp 286 ((L.take i).map litS)))::qcc 1 B (ivs .i64 (qcp 30 ((L.take i).flatMap disS)))::ps)) (λi=>L.length-i) 0 ⟨rfl,by omega,by simpa using h⟩ ?_
 clear h
 rintro i i' wL I μ ⟨rfl,hi,h⟩ hin
 have s1:=qpl (n:=286) (S:=(L.take i).map litS)
 have s2:=qpl (n:=30) (S:=(L.take i).flatMap disS)
 have s3:=qbfb (L.take i)
 simp only[length_map,length_take]at s1 s2 s3
 unfold qsd.b1
 refine quc (λg=>?_) (λg=>?_)
 ·have hi2:i<L.length:=by omega
  have htk:=hok _ (getElem_mem hi2)
  have et:L.take (i+1)=L.take i++[L[i]]:=take_succ_eq_append_getElem hi2
  refine h.ltok (s:=s) i rfl hi2 ?_
  refine h.tokN (t:=L[i]) λnb w h=>?_
  refine h.lA (b:=nb) rfl ?_
  refine qjk.c h htk λw h=>⟨_,_,_,rfl,?_⟩
  refine h.pcN (p:=(qtl L[i]).1) (q:=(qtl L[i]).2.1) λa b w h=>?_
  have h:St F0 w0 w (qqb b [.int .i64 (qtl L[i]).2.1.1,.int .i64 (qtl L[i]).2.1.2.1,.int .i64 (qtl L[i]).2.1.2.2]::qqb a [.int .i64 (qtl L[i]).1.1,.int .i64 (qtl L[i]).1.2.1,.int .i64 (qtl L[i]).1.2.2]::qqb nb (tkC L[i])::qqb kb [.slice s.a s.len s.cap,.slice A.a A.len A.cap,.slice B.a B.len B.cap]::qcc 1 A (ivs .i64 (qcp 286 ((L.take i).map litS)))::qcc 1 B (ivs .i64 (qcp 30 ((L.take i).flatMap disS)))::ps):=h
  refine h.drewK λw h=>?_
  refine qkd ?_
  simp only[qyf,zero_add]
  have hs:=qmjb htk
  have es:(qtl L[i]).1.1=((litS L[i]:Nat):Int):=by unfold litS;omega
  have hls:litS L[i]<286:=by unfold litS;omega
  have hc1:=s1 (litS L[i])
  refine h.fL (b:=kb) ?_
  refine h.fI (b:=a) ?_
  refine h.lx (s:=A) (litS L[i]) es (by rw[qee];exact hls) ?_
  refine qm (qd (by omega) (by omega)) ?_
  refine h.sx (s:=A) (litS L[i]) es (by rw[qee];exact hls) λw h=>?_
  rw[qbp _ hls]at h
  have e1:(L.take i).map litS++[litS L[i]]=(L.take (i+1)).map litS:=by rw[et,map_append];rfl
  rw[e1]at h
  refine qye (λgc=>?_) (λgc=>?_)
  ·refine h.drewK λw h=>?_
   refine qkd ?_
   have hd:=qbqb htk gc
   have ed:(qtl L[i]).2.1.1=(((qtl L[i]).2.1.1.toNat:Nat):Int):=by omega
   generalize hD:(qtl L[i]).2.1.1.toNat=D at ed
   have hc2:=s2 D
   refine h.fL (b:=kb) ?_
   refine h.fI (b:=b) ?_
   refine h.lx (s:=B) D ed (by rw[qee];omega) ?_
   refine qm (qd (by omega) (by omega)) ?_
   refine h.sx (s:=B) D ed (by rw[qee];omega) λw h=>?_
   rw[qbp _ (by omega)]at h
   have e2:(L.take i).flatMap disS++[D]=(L.take (i+1)).flatMap disS:=by
    rw[et,flatMap_append];congr 1;simp only[flatMap_cons,List.flatMap_nil,append_nil];unfold disS;rw[if_pos gc,hD]
   rw[e2]at h
   refine qm (qd (by omega) (by omega)) ?_
   exact⟨⟨by trivial,by trivial,by trivial⟩,hin (i+1) _ _ ⟨by omega,by omega,h.sub⟩ (by omega)⟩
  ·have e2:(L.take i).flatMap disS=(L.take (i+1)).flatMap disS:=by
    rw[et,flatMap_append];simp only[flatMap_cons,List.flatMap_nil,append_nil];unfold disS;rw[if_neg (by rw[gc];decide),append_nil]
   rw[e2]at h
   refine qm (qd (by omega) (by omega)) ?_
   exact⟨⟨by trivial,by trivial,by trivial⟩,hin (i+1) _ _ ⟨by omega,by omega,h.sub⟩ (by omega)⟩
 ·have:i=L.length:=by omega
  subst this
  rw[take_length]at h s1
  unfold qsd.j2
  refine qkd ?_
  simp only[qyf,zero_add]
  have hc1:=s1 256
  refine h.fL (b:=kb) ?_
  refine h.lx (s:=A) 256 rfl (by rw[qee];decide) ?_
  refine qm (qd (by omega) (by omega)) ?_
  refine h.sx (s:=A) 256 rfl (by rw[qee];decide) λw h=>?_
  rw[qbp _ (by decide)]at h
  exact hk w h.sub
theorem qsd.c{s:Sl}{K:Ending->World->Prop}(h:St F0 w0 w ps)[Rdb F0 w0 s ps 3 (tks L)](hok:∀t∈L,tkOk t)(hL:L.length<=1000000)
 (hk:∀kb A B w',A.len=286->B.len=30->St F0 w0 w' (qqb kb [.slice s.a s.len s.cap,.slice A.a A.len A.cap,.slice B.a B.len B.cap]::rdA 1 A (ivs .i64 (litC L))::rdA 1 B (ivs .i64 (disC L))::ps)->K (.returned (.pointer (some ⟨kb,0,none⟩))) w'):
 Calls prog 76 ⟨[.slice s.a s.len s.cap]⟩ w K:=by
 refine qdc (qsd.ok _ _ _ ?_)
 unfold qsd
 have fin:∀(kb:Nat) (A B:Sl) w',St F0 w0 w' (qqb kb [.slice s.a s.len s.cap,.slice A.a A.len A.cap,.slice B.a B.len B.cap]::qcc 1 A (ivs .i64 (litC L))::qcc 1 B (ivs .i64 (disC L))::ps)->K (.returned (.pointer (some ⟨kb,0,none⟩))) w':=by
  intro kb A B w' h;have l1:=h.drop.len;have l2:=h.drop.drop.len;rw[qk,litC,qee]at l1;rw[qk,disC,qee]at l2;exact hk kb A B w' (by omega) (by omega) (h.tail λ_ _ _ h=>(h.tail λ_ _ _ h=>h.ro).ro)
 refine h.drewK λw h=>⟨?_,?_⟩
 ·refine h.makeI (k:= .i64) (n:=286) rfl rfl (by decide) λA w _ _ h=>?_
  refine h.makeI (k:= .i64) (n:=30) rfl rfl (by decide) λB w _ _ h=>?_
  refine h.new λkb w h=>?_
  have h:St F0 w0 w (qqb kb [.slice s.a s.len s.cap,.slice A.a A.len A.cap,.slice B.a B.len B.cap]::qcc 1 B (ivs .i64 (replicate 30 0))::qcc 1 A (ivs .i64 (replicate 286 0))::ps):=h
  exact qsd.go (A:=A) (B:=B) h.sub hok hL (fin kb A B)
 ·refine h.makeI (k:= .i64) (n:=30) rfl rfl (by decide) λB w _ _ h=>?_
  refine h.makeI (k:= .i64) (n:=286) rfl rfl (by decide) λA w _ _ h=>?_
  refine h.new λkb w h=>?_
  have h:St F0 w0 w (qqb kb [.slice s.a s.len s.cap,.slice A.a A.len A.cap,.slice B.a B.len B.cap]::qcc 1 A (ivs .i64 (replicate 286 0))::qcc 1 B (ivs .i64 (replicate 30 0))::ps):=h
  exact qsd.go (A:=A) (B:=B) h hok hL (fin kb A B)
theorem qiu{ls:List Int}{s:Int}(h0:0<=s)(h:inC ls s.toNat):hput ls s=qhe ls s.toNat:=by
 unfold hput;rw[if_pos ⟨h0,by have:=h.1;omega,by have:=h.2;omega⟩];rfl
theorem qpi{ls:List Int}(h:okL ls)(s:Nat):(qhe ls s).length<=15:=by
 rw[qhm];rcases lt_or_ge s ls.length with e|e
 ·have:=(h _ (qme e)).2;omega
 ·rw[List.getD_eq_getElem?_getD,List.getElem?_eq_none e];decide
theorem qcjb{v:Int}(h1:3<=v)(h2:v<=258):0<=(ofLen v).2.2/\(ofLen v).2.2<=14:=qrpb (qop h1 h2)
theorem qejb{v:Int}(h1:1<=v)(h2:v<=32768):0<=(ofDis v).2.2/\(ofDis v).2.2<=14:=qrpb (qcn h1 h2)
theorem qorb{ll dl:List Int}(h1:okL ll)(h2:okL dl){t:Tk}(h:tkOk t):(tkB ll dl t).length<=60:=by
 unfold tkB;have a1:=qpi h1;have a2:=qpi h2;split
 ·have:=a1 t.1.toNat;omega
 ·rename_i g;have b1:=a1 (ofLen t.2.1).1.toNat;have b2:=a2 (ofDis t.2.2).1.toNat;have b3:=qcjb (h.2 g).1.1 (h.2 g).1.2;have b4:=qejb (h.2 g).2.1 (h.2 g).2.2;simp only[length_append,qq];omega
theorem qcx{ll dl:List Int}(h1:okL ll)(h2:okL dl)(h:∀t∈L,tkOk t):(tksB ll dl L).length<=60*L.length:=by
 induction L with
 |nil=>exact le_refl _
 |cons t L ih=>
  have:=qorb h1 h2 (h t (by simp));have:=ih λt ht=>h t (by simp[ht]);unfold tksB at this|-
  rw[flatMap_cons,length_append,length_cons];omega
theorem qoz(ll dl:List Int)(L:List Tk)(t:Tk):tksB ll dl (L++[t])=tksB ll dl L++tkB ll dl t:=by simp[tksB]
theorem qrc.c{kb wb lb db:Nat}{s A B:Sl}{ll dl:List Int}{l:List Bool}{K:Ending->World->Prop}(h:St F0 w0 w (wrL wb l::ps))[PkB kb ps [.slice s.a s.len s.cap,.slice A.a A.len A.cap,.slice B.a B.len B.cap] rest][PkF hcA lb ps ll rest2][PkF hcA db ps dl rest3]
 [Rdb F0 w0 s ps 3 (tks L)] (hok:∀t∈L,tkOk t) (hL:L.length<=1000000) (hin:∀t∈L,tkIn ll dl t) (hi:inC ll 256) (h1:okL ll) (h2:okL dl) (hl:l.length<=1000000)
 (hk:∀w',St F0 w0 w' (wrL wb (l++(tksB ll dl L++qhe ll 256))::ps)->K (.returned (.tuple ⟨[]⟩)) w'):
 Calls prog 101 ⟨[.pointer (some ⟨kb,0,none⟩),.pointer (some ⟨wb,0,none⟩),.pointer (some ⟨lb,0,none⟩),.pointer (some ⟨db,0,none⟩)]⟩ w K:=by
 have hls:=(h.rdb s).1
 rw[qtj]at hls
 refine qdc (qrc.ok _ _ _ _ _ _ ?_)
 unfold qrc
 refine qkd ?_
 simp only[qyf,zero_add]
 refine h.fL (b:=kb) ?_
 unfold qrc.j2
 refine qjf (λ(i:Nat) (i':Int) w'=>i'=i/\i<=L.length/\St F0 w0 w' (wrL wb (l++tksB ll dl (L.take i))::ps)) (λi=>L.length-i) 0 ⟨rfl,by omega,by simpa [tksB]using h⟩ ?_
 clear h
 rintro i i' wL I μ ⟨rfl,hi3,h⟩ hnx
 have hbl:=qcx (L:=L.take i) h1 h2 (λt ht=>hok t (mem_of_mem_take ht))
 rw[length_take]at hbl
 unfold qrc.b1
 refine quc (λg=>?_) (λg=>?_)
 ·have g:(i:Int)<(s.len:Int):=g
  have hi2:i<L.length:=by omega
  have htk:=hok _ (getElem_mem hi2)
  have hti:=hin _ (getElem_mem hi2)
  have et:L.take (i+1)=L.take i++[L[i]]:=take_succ_eq_append_getElem hi2
  refine h.ltok (s:=s) i rfl hi2 ?_
  refine h.tokN (t:=L[i]) λnb w h=>?_
  refine h.lA (b:=nb) rfl ?_
  refine qjk.c h htk λw h=>⟨_,_,_,rfl,?_⟩
  refine h.pcN (p:=(qtl L[i]).1) (q:=(qtl L[i]).2.1) λa b w h=>?_
  have h:St F0 w0 w (qqb b [.int .i64 (qtl L[i]).2.1.1,.int .i64 (qtl L[i]).2.1.2.1,.int .i64 (qtl L[i]).2.1.2.2]::qqb a [.int .i64 (qtl L[i]).1.1,.int .i64 (qtl L[i]).1.2.1,.int .i64 (qtl L[i]).1.2.2]::qqb nb (tkC L[i])::wrL wb (l++tksB ll dl (L.take i))::ps):=h
  have h:St F0 w0 w (wrL wb (l++tksB ll dl (L.take i))::qqb b [.int .i64 (qtl L[i]).2.1.1,.int .i64 (qtl L[i]).2.1.2.1,.int .i64 (qtl L[i]).2.1.2.2]::qqb a [.int .i64 (qtl L[i]).1.1,.int .i64 (qtl L[i]).1.2.1,.int .i64 (qtl L[i]).1.2.2]::ps):=h.sub
  simp only[qyf,zero_add]
  refine h.fI (b:=a) ?_
  refine qgg.c (cb:=lb) (ls:=ll) h (by rw[length_append];omega) λw h=>⟨_,rfl,?_⟩
  have hsl:=qmjb htk
  have h15:=qpi h1
  have h15d:=qpi h2
  unfold qtl at h hsl|-
  unfold tkIn at hti
  by_cases gz:L[i].2.1=0
  ·rw[if_pos gz]at h hsl hti|-
   simp only at h hsl hti|-
   refine qcq (qm (qd (by omega) (by omega)) ?_)
   rw[qiu hsl.1 hti]at h
   refine⟨⟨by trivial,by trivial,by trivial,by trivial⟩,hnx (i+1) _ _ ⟨by omega,by omega,?_⟩ (by omega)⟩
   rw[et,qoz,<-append_assoc]
   unfold tkB
   rw[if_pos gz]
   exact h.sub
  ·rw[if_neg gz]at h hsl hti|-
   simp only at h hsl hti|-
   have x1:=qcjb (htk.2 gz).1.1 (htk.2 gz).1.2
   have x2:=qejb (htk.2 gz).2.1 (htk.2 gz).2.2
   have hd:=qex (qcn (htk.2 gz).2.1 (htk.2 gz).2.2)
   rw[qiu hsl.1 hti.1]at h
   refine qgp ?_
   refine h.fI (b:=a) (h.fI (b:=a) ?_)
   have b1:=h15 (ofLen L[i].2.1).1.toNat
   have b2:=h15d (ofDis L[i].2.2).1.toNat
   refine qnb.cl h (by simp only[length_append];omega) λw h=>⟨rfl,?_⟩
   rw[qrn x1.1 (by omega)]at h
   refine h.fI (b:=b) ?_
   refine qgg.c (cb:=db) (ls:=dl) h (by simp only[length_append,qq];omega) λw h=>⟨_,rfl,?_⟩
   rw[qiu hd.1 hti.2]at h
   refine h.fI (b:=b) (h.fI (b:=b) ?_)
   refine qnb.cl h (by simp only[length_append,qq];omega) λw h=>⟨rfl,?_⟩
   rw[qrn x2.1 (by omega)]at h
   refine qm (qd (by omega) (by omega)) ?_
   refine⟨⟨by trivial,by trivial,by trivial,by trivial⟩,hnx (i+1) _ _ ⟨by omega,by omega,?_⟩ (by omega)⟩
   rw[et,qoz]
   unfold tkB
   rw[if_neg gz]
   simp only[append_assoc]at h|-
   exact h.sub
 ·have g:¬(i:Int)<(s.len:Int):=g
  have:i=L.length:=by omega
  subst this
  rw[take_length]at h hbl
  unfold qrc.j1
  refine qgg.c (cb:=lb) (ls:=ll) h (by rw[length_append];omega) λw h=>⟨_,rfl,?_⟩
  rw[qiu (by decide) hi]at h
  rw[append_assoc]at h
  exact hk w h
end
end
section
attribute [local irreducible] apK cpK mkK br
instance rec_pcC:Rec pcC 3:=⟨λ_=>rfl,λx v hv=>by
 simp[pcC]at hv
 rcases hv with rfl|rfl|rfl<;>trivial,by decide⟩
instance elt_piece:EltR prog 146 3 (pcC (0,0,0)):=⟨⟨Tryz.t146,by kernel_rfl,rfl,by decide,by decide⟩,by kernel_rfl,rfl,by decide⟩
theorem fx_in{t:Tk}(h:tkOk t):tkIn qho qsj t:=by
 unfold tkIn;split
 ·have:=h.1;exact qmu (by omega)
 ·rename_i g;have h1:=qvs (qop (h.2 g).1.1 (h.2 g).1.2);have h2:=qex (qcn (h.2 g).2.1 (h.2 g).2.2);exact⟨qmu (by omega),qrob (by omega)⟩
section
variable {F0:List Nat}{w0 w:World}{ps rest rest2 rest3:List As}{s:Sl}{xs:List Int}
theorem qob.step{i:Nat}{o:Sl}{out:List Pc}{Q:VWP}{nx1:Sl->Sl->Int->World->Prop}(h:St F0 w0 w (qcc 3 o (out.flatMap pcC)::ps))[Rdb F0 w0 s ps 1 (ivs .i64 xs)](hL:xs.length<=1000000)(hi:i<xs.length)(ho:out.length<=1000000)
 (hk:∀o' w',o'.len=o.len+1->St F0 w0 w' (qcc 3 o' ((out++[(runP xs i).1]).flatMap pcC)::ps)->nx1 s o' ((i+(runP xs i).2:Nat):Int) w'):qob.j4 s o (i:Int) Q nx1 w:=by
 have hl:=(h.rdb s).1
 rw[qk]at hl
 unfold qob.j4 qob.j5
 refine qjf (λ(n:Nat) (n':Int) w'=>n'=n/\1<=n/\i+n<=xs.length/\(∀j,j<n->xs.getD (i+j) 0=xs.getD i 0)/\St F0 w0 w' (qcc 3 o (out.flatMap pcC)::ps)) (λn=>xs.length-n) 1 ⟨rfl,by decide,by omega,λj hj=>by rw[show j=0 by omega];rfl,h⟩ ?_
 clear h
 rintro n n' wL I μ ⟨rfl,hn1,hn2,hsm,h⟩ hin
 have done:∀w,(i+n<xs.length->xs.getD (i+n) 0≠xs.getD i 0)->St F0 w0 w (qcc 3 o (out.flatMap pcC)::ps)->qob.j6 s o (i:Int) (n:Int) Q nx1 w:=by
  intro w hstop h;have hn:=qyrb hi hn2 hsm hstop;subst hn;have fin:∀(p:Pc) (n2:Nat) (x:Int) (c:Array Value) w,c=⟨pcC p⟩->runP xs i=(p,n2)->x=n2->n2<=1000000->St F0 w0 w (qcc 3 o (out.flatMap pcC)::ps)->
   lt (⟨World.heapSize w,0,none⟩:Addr) λa=>lt (World.alloc w (.cells c 146)) λw1=>rdO w1 (some a) (1*3) λc=>apK prog 146 w1 o.a o.len o.cap 1 c λs20 w21=>qob.j7 s s20 (i:Int) x Q nx1 w21:=by
   rintro p n2 x c w hc hp rfl hn2 h
   refine h.pushR (s:=o) (x:=p) (by omega) hc λo2 w h2 h=>?_
   unfold qob.j7
   refine qm (show i64.wrap ((i:Int)+(n2:Int))=((i+n2:Nat):Int)by rw[qd (by omega) (by omega)];omega) ?_
   rw[hp]at hk
   exact hk o2 w h2 h
  have hk1:=qceb xs i;unfold qob.j6;refine h.lx (s:=s) i rfl hi ?_;unfold runP at fin;have j10:∀(b:Bool) w,(b=true↔((0<i/\xs.getD i 0=xs.getD (i-1) 0)/\3<=qim xs i))->¬(xs.getD i 0=0/\11<=qim xs i)->¬(xs.getD i 0=0/\3<=qim xs i)->St F0 w0 w (qcc 3 o (out.flatMap pcC)::ps)->
   qob.j10 s o (i:Int) (qim xs i:Int) b Q nx1 w:=by
   intro b w hb g1 g2 h
   rw[if_neg g1,if_neg g2]at fin
   unfold qob.j10
   refine qye (λg=>?_) (λg=>?_)
   ·have g3:=hb.1 g
    rw[if_pos g3]at fin
    refine qm (show(if(6:Int)<(qim xs i:Int)then(6:Int)else(qim xs i:Int))=((min (qim xs i) 6:Nat):Int)by split<;>omega) ?_
    refine qm (qd (by omega) (by omega)) ⟨rfl,?_⟩
    exact fin (16,((min (qim xs i) 6:Nat):Int)-3,2) (min (qim xs i) 6) _ _ w (by kernel_rfl) rfl rfl (by omega) h
   ·have g3:¬((0<i/\xs.getD i 0=xs.getD (i-1) 0)/\3<=qim xs i):=λe=>by rw[hb.2 e]at g;cases g
    rw[if_neg g3]at fin
    refine h.lx (s:=s) i rfl hi ⟨rfl,?_⟩
    exact fin (xs.getD i 0,0,0) 1 _ _ w (by kernel_rfl) rfl rfl (by omega) h
  have j9:∀(b:Bool) w,(b=true↔(xs.getD i 0=0/\3<=qim xs i))->¬(xs.getD i 0=0/\11<=qim xs i)->St F0 w0 w (qcc 3 o (out.flatMap pcC)::ps)->qob.j9 s o (i:Int) (qim xs i:Int) b Q nx1 w:=by
   intro b w hb g1 h;unfold qob.j9;refine qye (λg=>?_) (λg=>?_)
   ·have g3:=hb.1 g;rw[if_neg g1,if_pos g3]at fin;refine qm (qd (by omega) (by omega)) ⟨rfl,?_⟩;exact fin (17,(qim xs i:Int)-3,3) (qim xs i) _ _ w (by kernel_rfl) rfl rfl (by omega) h
   ·have g3:¬(xs.getD i 0=0/\3<=qim xs i):=λe=>by rw[hb.2 e]at g;cases g
    refine h.drewK λw h=>?_;refine quc (λg4=>?_) (λg4=>?_)
    ·refine h.lx (s:=s) i rfl hi ?_;refine qm (show i64.wrap ((i:Int)-1)=((i-1:Nat):Int)by rw[qd (by omega) (by omega)];omega) ?_;refine h.lx (s:=s) (i-1) rfl (by omega) ?_;refine qye (λg5=>?_) (λg5=>?_)
     ·have g5:xs.getD i 0=xs.getD (i-1) 0:=by simpa using g5
      exact j10 _ w ⟨λe=>⟨⟨by omega,g5⟩,by have:=of_decide_eq_true e;omega⟩,λe=>decide_eq_true (by have:=e.2;omega)⟩ g1 g3 h
     ·have g5:¬xs.getD i 0=xs.getD (i-1) 0:=by simpa using g5
      exact j10 _ w ⟨λe=>(by cases e),λe=>absurd e.1.2 g5⟩ g1 g3 h
    ·exact j10 _ w ⟨λe=>(by cases e),λe=>absurd e.1.1 (by omega)⟩ g1 g3 h
  have j8:∀(b:Bool) w,(b=true↔(xs.getD i 0=0/\11<=qim xs i))->St F0 w0 w (qcc 3 o (out.flatMap pcC)::ps)->qob.j8 s o (i:Int) (qim xs i:Int) b Q nx1 w:=by
   intro b w hb h;unfold qob.j8;refine qye (λg=>?_) (λg=>?_)
   ·have g3:=hb.1 g;rw[if_pos g3]at fin;refine qm (show(if(138:Int)<(qim xs i:Int)then(138:Int)else(qim xs i:Int))=((min (qim xs i) 138:Nat):Int)by split<;>omega) ?_;refine qm (qd (by omega) (by omega)) ⟨rfl,?_⟩;exact fin (18,((min (qim xs i) 138:Nat):Int)-11,7) (min (qim xs i) 138) _ _ w (by kernel_rfl) rfl rfl (by omega) h
   ·have g3:¬(xs.getD i 0=0/\11<=qim xs i):=λe=>by rw[hb.2 e]at g;cases g
    refine h.lx (s:=s) i rfl hi ?_;refine qye (λg5=>?_) (λg5=>?_)
    ·have g5:xs.getD i 0=0:=by simpa using g5
     exact j9 _ w ⟨λe=>⟨g5,by have:=of_decide_eq_true e;omega⟩,λe=>decide_eq_true (by have:=e.2;omega)⟩ g3 h
    ·have g5:¬xs.getD i 0=0:=by simpa using g5
     exact j9 _ w ⟨λe=>(by cases e),λe=>absurd e.1 g5⟩ g3 h
  refine qye (λg5=>?_) (λg5=>?_)
  ·have g5:xs.getD i 0=0:=by simpa using g5
   exact j8 _ w ⟨λe=>⟨g5,by have:=of_decide_eq_true e;omega⟩,λe=>decide_eq_true (by have:=e.2;omega)⟩ h
  ·have g5:¬xs.getD i 0=0:=by simpa using g5
   exact j8 _ w ⟨λe=>(by cases e),λe=>absurd e.1 g5⟩ h
 unfold qob.b2
 refine h.drewK λw h=>?_
 have e:i64.wrap ((i:Int)+(n:Int))=((i+n:Nat):Int):=by rw[qd (by omega) (by omega)];omega
 refine qm e ?_
 refine quc (λg=>?_) (λg=>?_)
 ·refine qm e ?_
  refine h.lx (s:=s) (i+n) rfl (by omega) ?_
  refine h.lx (s:=s) i rfl hi ?_
  refine qye (λg2=>?_) (λg2=>?_)
  ·have g2:xs.getD (i+n) 0=xs.getD i 0:=by simpa using g2
   refine qm (qd (by omega) (by omega)) ?_
   exact⟨⟨rfl,rfl,rfl⟩,hin (n+1) _ _ ⟨by omega,by omega,by omega,λj hj=>by
    rcases lt_or_ge j n with hjn|hjn
    ·exact hsm j hjn
    ·rw[show j=n by omega];exact g2,h⟩ (by omega)⟩
  ·have g2:¬xs.getD (i+n) 0=xs.getD i 0:=by simpa using g2
   exact done w (λ_=>g2) h
 ·exact done w (λe=>by omega) h
theorem qob.c{K:Ending->World->Prop}(h:St F0 w0 w ps)[Rdb F0 w0 s ps 1 (ivs .i64 xs)](hL:xs.length<=1000000)
 (hk:∀t w',t.len=(runsL xs).length->St F0 w0 w' (qcc 3 t ((runsL xs).flatMap pcC)::ps)->K (.returned (.slice t.a t.len t.cap)) w'):Calls prog 104 ⟨[.slice s.a s.len s.cap]⟩ w K:=by
 have hl:=(h.rdb s).1
 rw[qk]at hl
 refine qdc (qob.ok _ _ _ ?_)
 unfold qob qob.j1 qob.j3
 refine qug (λ(a:Nat×Nat×List Pc) (o:Sl) (i':Int) w'=>i'=a.2.1/\a.2.1<=xs.length/\xs.length<=a.2.1+a.1/\a.2.2.length<=a.2.1/\a.2.2++runsF xs a.1 a.2.1=runsL xs/\o.len=a.2.2.length/\St F0 w0 w' (qcc 3 o (a.2.2.flatMap pcC)::ps)) (λa=>xs.length-a.2.1) (xs.length,0,[])
  ⟨rfl,by simp,by simp,by simp,rfl,rfl,h.nil 3⟩ ?_
 clear h
 rintro⟨f,i,out⟩ o i' wL I μ ⟨rfl,hi,hf,ho,hr,hol,h⟩ hin
 simp only at hi hf ho hr hol h hin|-
 unfold qob.b1
 refine quc (λg=>?_) (λg=>?_)
 ·have hi2:i<xs.length:=by omega
  obtain⟨f,rfl⟩:∃k,f=k+1:=⟨f-1,by omega⟩
  rw[runsF,if_neg (by omega)]at hr
  have hp:=qbeb xs i
  have hle:=qlib hi2
  refine qob.step (o:=o) (out:=out) h hL hi2 (by omega) λo' w' h1 h=>?_
  refine⟨rfl,hin (f,i+(runP xs i).2,out++[(runP xs i).1]) _ _ _ ⟨rfl,hle,by simp only;omega,by simp only[length_append,length_singleton];omega,by rw[append_assoc];exact hr,by simp only[length_append,length_singleton];omega,h⟩ (by simp only;omega)⟩
 ·have:i=xs.length:=by omega
  subst this
  have e:out=runsL xs:=by
   rw[<-hr];cases f with
   |zero=>simp[runsF]
   |succ f=>rw[runsF,if_pos (le_refl _)];simp
  subst e
  unfold qob.j2
  exact hk o wL hol h
theorem qje.c{m:Nat}{K:Ending->World->Prop}(h:St F0 w0 w ps)[hr:Rdb F0 w0 s ps 1 (ivs .i64 xs)](hL:xs.length<=1000000)(hc:s.len<=s.cap)
 (hk:∀t w',Rdb F0 w0 t ps 1 (ivs .i64 (xs.take (qhj xs m xs.length)))->t.len=qhj xs m xs.length->t.len<=t.cap->St F0 w0 w' ps->K (.returned (.slice t.a t.len t.cap)) w'):Calls prog 103 ⟨[.slice s.a s.len s.cap,.int .i64 (m:Int)]⟩ w K:=by
 have hl:=(h.rdb s).1
 rw[qk]at hl
 refine qdc (qje.ok _ _ _ _ ?_)
 unfold qje qje.j1
 refine qjf (λ(n:Nat) (o:Sl) w'=>o.len=n/\n<=xs.length/\o.len<=o.cap/\qhj xs m n=qhj xs m xs.length/\Rdb F0 w0 o ps 1 (ivs .i64 (xs.take n))/\St F0 w0 w' ps) (λn=>n) xs.length ⟨by omega,le_refl _,hc,rfl,by rw[take_length];exact hr,h⟩ ?_
 clear h
 rintro n o wL I μ ⟨rfl,hn,hoc,ht,hrd,h⟩ hin
 have done:∀w,qhj xs m o.len=o.len->St F0 w0 w ps->qje.j2 o (λv w'=>K (.returned v) w') w:=by
  intro w e h;rw[e]at ht;unfold qje.j2;rw[<-ht]at hk;exact hk o w hrd rfl hoc h
 unfold qje.b1
 refine quc (λg=>?_) (λg=>?_)
 ·obtain⟨k,hk2⟩:∃k,o.len=k+1:=⟨o.len-1,by omega⟩
  have e:i64.wrap ((o.len:Int)-1)=(k:Int):=by rw[qd (by omega) (by omega)];omega
  refine qm e ?_
  have hx:xs.getD k 0=(xs.take o.len).getD k 0:=(qip (by omega)).symm
  refine h.lx (s:=o) k rfl (by rw[length_take];omega) ?_
  rw[<-hx]
  refine qye (λg2=>?_) (λg2=>?_)
  ·have g2:xs.getD k 0=0:=by simpa using g2
   refine qm e ?_
   refine qkn (n:=k) rfl (by omega) (qbe ?_)
   have hr2:Rdb F0 w0 ⟨qnf o.a o.cap 0 1,k-0,o.cap-0⟩ ps 1 (ivs .i64 (xs.take k)):=hrd.cutAs 0 k (o.cap-0) (by omega) (by omega) hoc (by
    rw[drop_zero,List.take_take];congr 1;omega)
   refine⟨rfl,hin k _ _ ⟨rfl,by omega,by show k-0<=o.cap-0;omega,?_,hr2,h⟩ (by omega)⟩
   rw[<-ht,hk2,qhj,if_pos ⟨by omega,g2⟩]
  ·have g2:¬xs.getD k 0=0:=by simpa using g2
   refine done wL ?_ h
   rw[hk2,qhj,if_neg λe=>g2 e.2]
 ·refine done wL ?_ h
  cases hm:o.len with
  |zero=>rfl
  |succ k=>rw[qhj,if_neg (by omega)]
def maxF(xs:List Int):Nat->Int
 |0=>xs.getD 0 0
 |n+1=>if xs.getD (n+1) 0>maxF xs n then xs.getD (n+1) 0 else maxF xs n
theorem qssb(xs:List Int):∀n j,j<=n->xs.getD j 0<=maxF xs n:=by
 intro n;induction n with
 |zero=>intro j hj;rw[show j=0 by omega];exact Int.le_refl _
 |succ n ih=>
  intro j hj;rw[maxF];rcases lt_or_ge j (n+1)with h|h
  ·have:=ih j (by omega);split<;>omega
  ·rw[show j=n+1 by omega];split<;>omega
theorem qkjb(xs:List Int):∀n,∃j,j<=n/\maxF xs n=xs.getD j 0:=by
 intro n;induction n with
 |zero=>exact⟨0,le_refl _,rfl⟩
 |succ n ih=>
  obtain⟨j,h1,h2⟩:=ih;rw[maxF];split
  ·exact⟨n+1,le_refl _,rfl⟩
  ·exact⟨j,by omega,h2⟩
theorem qic.c{K:Ending->World->Prop}(h:St F0 w0 w ps)[Rdb F0 w0 s ps 1 (ivs .i64 xs)](hL:xs.length<=1000000)(h0:1<=xs.length)
 (hk:∀w',St F0 w0 w' ps->K (.returned (.int .i64 (maxF xs (xs.length-1)))) w'):Calls prog 106 ⟨[.slice s.a s.len s.cap]⟩ w K:=by
 have hl:=(h.rdb s).1
 rw[qk]at hl
 refine qdc (qic.ok _ _ _ ?_)
 unfold qic qic.j1
 refine quc (λg=>by omega) (λg=>?_)
 refine h.lx (s:=s) 0 rfl (by omega) ?_
 unfold qic.j2 qic.j4
 refine qug (λ(n:Nat) (m':Int) (i':Int) w'=>i'=((n+1:Nat):Int)/\n+1<=xs.length/\m'=maxF xs n/\St F0 w0 w' ps) (λn=>xs.length-n) 0 ⟨rfl,by omega,rfl,h⟩ ?_
 clear h
 rintro n m' i' wL I μ ⟨rfl,hn,rfl,h⟩ hin
 unfold qic.b1
 refine quc (λg=>?_) (λg=>?_)
 ·refine h.lx (s:=s) (n+1) rfl (by omega) ?_
  refine qbe ?_
  refine qm (qd (by omega) (by omega)) ?_
  exact⟨rfl,hin (n+1) _ _ _ ⟨by omega,by omega,by rw[maxF],h⟩ (by omega)⟩
 ·unfold qic.j3
  rw[show xs.length-1=n by omega]at hk
  exact hk wL h
theorem qxg.c{kb:Nat}{A B:Sl}{L:List Tk}{K:Ending->World->Prop}(h:St F0 w0 w ps)[PkB kb ps [.slice s.a s.len s.cap,.slice A.a A.len A.cap,.slice B.a B.len B.cap] rest][Rdb F0 w0 s ps 3 (tks L)](hok:∀t∈L,tkOk t)(hL:L.length<=1000000)
 (hk:∀t w',t.len=((fxB L).length+7)/8->t.cap=t.len->St F0 w0 w' (rdA 1 t (u8s (bytes (fxB L)))::ps)->K (.returned (.slice t.a t.len t.cap)) w'):Calls prog 79 ⟨[.pointer (some ⟨kb,0,none⟩)]⟩ w K:=by
 refine qdc (qxg.ok _ _ _ ?_)
 unfold qxg
 refine qig.c h λwb w h=>⟨_,rfl,?_⟩
 refine qnb.cl h (by simp) λw h=>⟨rfl,?_⟩
 rw[show([]++pb 3 3:List Bool)=[true,true,false]by decide+kernel]at h
 refine qy.c h λa b w h1 h2 h=>⟨a,b,rfl,?_⟩
 refine qnc.c (s:=a) (ls:=qho) h (λlb w hn h=>⟨_,_,rfl,?_⟩) (λw hn _=>absurd qky hn)
 refine qnc.c (s:=b) (ls:=qsj) h (λdb w hn h=>⟨_,_,rfl,?_⟩) (λw hn _=>absurd qsu hn)
 have h:St F0 w0 w (wrL wb [true,true,false]::hcA db qsj::hcA lb qho::ps):=h.sub
 refine qrc.c (kb:=kb) (wb:=wb) (lb:=lb) (db:=db) (s:=s) (A:=A) (B:=B) (L:=L) (ll:=qho) (dl:=qsj) h hok hL (λt ht=>fx_in (hok t ht)) (qmu (by decide)) qfr.1 qgr.1 (by simp) λw h=>⟨rfl,?_⟩
 have hb:=qcx qfr.1 qgr.1 hok
 have hs:=qpi qfr.1 256
 refine qgf.c h (by simp only[length_append,length_cons,length_nil];omega) λt w h1 h2 h=>⟨t,rfl,?_⟩
 exact hk t w h1 h2 (St.sub (ps:=rdA 1 t (u8s (bytes (fxB L)))::wrL wb (fxB L)::hcA db qsj::hcA lb qho::ps) h)
end
end
section
def dA0(L:List Tk):List Int:=lenP (litC L) 15
def dB0(L:List Tk):List Int:=lenP (disC L) 15
def dA(L:List Tk):List Int:=(dA0 L).take (qhj (dA0 L) 257 (dA0 L).length)
def dB(L:List Tk):List Int:=(dB0 L).take (qhj (dB0 L) 1 (dB0 L).length)
def dPs(L:List Tk):List Pc:=runsL (dA L++dB L)
def dS0(L:List Tk):List Nat:=(dPs L).map λp=>p.1.toNat
def dK(L:List Tk):Nat:=((dS0 L).headD 0+1)%2
def dS(L:List Tk):List Nat:=if maxF (qcp 19 (dS0 L)) 18=(dPs L).length then dS0 L++[dK L]else dS0 L
def dC(L:List Tk):List Int:=qcp 19 (dS L)
def dCl(L:List Tk):List Int:=lenP (dC L) 7
def dOc(L:List Tk):List Int:=qki.map λs=>(dCl L).getD s.toNat 0
def dN(L:List Tk):Nat:=qhj (dOc L) 4 19
def dynB(L:List Tk):List Bool:=dyB (dA L) (dB L) (dCl L) (dN L) (dPs L) L
theorem qqtb(L:List Tk):lenP (litC L) (15:Int).toNat=dA0 L:=rfl
theorem qptb(L:List Tk):lenP (disC L) (15:Int).toNat=dB0 L:=rfl
theorem dA_def(L:List Tk):(dA0 L).take (qhj (dA0 L) 257 (dA0 L).length)=dA L:=rfl
theorem dB_def(L:List Tk):(dB0 L).take (qhj (dB0 L) 1 (dB0 L).length)=dB L:=rfl
theorem qntb(L:List Tk):runsL (dA L++dB L)=dPs L:=rfl
theorem qalb(L:List Tk):qcp 19 (dS L)=dC L:=rfl
theorem qotb(L:List Tk):lenP (dC L) (7:Int).toNat=dCl L:=rfl
theorem dN_def(L:List Tk):qhj (dOc L) 4 19=dN L:=rfl
theorem quob(L:List Tk):dyB (dA L) (dB L) (dCl L) (dN L) (dPs L) L=dynB L:=rfl
theorem dS0_at{L:List Tk}{i:Nat}(h:i<(dPs L).length):(dS0 L).take (i+1)=(dS0 L).take i++[(dPs L)[i].1.toNat]:=by
 have hl:i<((dPs L).map λp=>p.1.toNat).length:=by rw[length_map];exact h
 have:=take_succ_eq_append_getElem hl;rw[List.getElem_map]at this
 exact this
theorem dK_at{L:List Tk}(h:0<(dPs L).length):dK L=((dPs L)[0].1.toNat+1)%2:=by
 have:∀P:List Pc,(h:0<P.length)->((P.map λp=>p.1.toNat).headD 0+1)%2=(P[0].1.toNat+1)%2:=by
  intro P h;cases P with
  |nil=>cases h
  |cons p P=>rfl
 exact this _ h
theorem dS_yes{L:List Tk}(h:maxF (qcp 19 (dS0 L)) 18=((dPs L).length:Int)):dS L=dS0 L++[dK L]:=if_pos h
theorem dS_no{L:List Tk}(h:¬maxF (qcp 19 (dS0 L)) 18=((dPs L).length:Int)):dS L=dS0 L:=if_neg h
theorem qnm{xs:List Int}{M:Nat}(h:xs.length<=2^M):(que xs).length<=2^M:=le_trans (qds xs) h
theorem qkcb{xs:List Int}{M s:Nat}(h:xs.length<=2^M)(h1:1<=M):inC (lenP xs M) s↔s<xs.length/\0<xs.getD s 0:=by
 unfold inC;rw[qok];refine and_congr_right λhs=>?_;rw[qeu hs];have:=(qcy (qnm h) h1 hs).2;omega
theorem qby{xs:List Int}{M:Nat}(h:xs.length<=2^M)(h1:1<=M)(hM:M<=15):okC (lenP xs M):=⟨qjcb (qnm h) h1 hM,(qey (qnm h) h1 hM).1⟩
section
variable {L:List Tk}
theorem qlm(L:List Tk):(litC L).length=286:=qee _ _
theorem qmm(L:List Tk):(disC L).length=30:=qee _ _
theorem qycb(L:List Tk):(dA0 L).length=286:=by unfold dA0;rw[qok,qlm]
theorem qxcb(L:List Tk):(dB0 L).length=30:=by unfold dB0;rw[qok,qmm]
theorem qdlb(L:List Tk):okC (dA0 L):=qby (by rw[qlm];decide) (by decide) (by decide)
theorem qblb(L:List Tk):okC (dB0 L):=qby (by rw[qmm];decide) (by decide) (by decide)
theorem qelb(L:List Tk):qqk (dA0 L) true=0:=qjeb (by rw[qlm];decide) (qnm (by rw[qlm];decide)) (by decide) (by decide)
theorem qclb(L:List Tk):qqk (dB0 L) true=0:=qjeb (by rw[qmm];decide) (qnm (by rw[qmm];decide)) (by decide) (by decide)
theorem qeqb{s:Nat}(h:s<286)(hs:s∈L.map litS++[256]):inC (dA0 L) s:=by
 unfold dA0;rw[qkcb (by rw[qlm];decide) (by decide),qlm];exact⟨h,(qvp h).2 hs⟩
theorem dB0_in{s:Nat}(h:s<30)(hs:s∈L.flatMap disS):inC (dB0 L) s:=by
 unfold dB0;rw[qkcb (by rw[qmm];decide) (by decide),qmm];exact⟨h,(qvp h).2 hs⟩
theorem qcqb(hok:∀t∈L,tkOk t):∀t∈L,tkIn (dA0 L) (dB0 L) t:=by
 intro t ht;have h1:=qmjb (hok t ht);have hl:inC (dA0 L) (litS t):=qeqb (by unfold litS;omega) (List.mem_append_left _ (List.mem_map_of_mem ht));unfold litS qtl at hl;unfold tkIn;by_cases g:t.2.1=0
 ·rw[if_pos g]at hl|-
  exact hl
 ·rw[if_neg g]at hl|-
  refine⟨hl,?_⟩;have hc:(qtl t).2.2=true:=by unfold qtl;rw[if_neg g]
  have h2:=qbqb (hok t ht) hc;have hm:(qtl t).2.1.1.toNat∈disS t:=by unfold disS;rw[if_pos hc];exact mem_singleton.2 rfl
  have:=dB0_in (L:=L) (s:=(qtl t).2.1.1.toNat) (by omega) (List.mem_flatMap.2 ⟨t,ht,hm⟩);unfold qtl at this
  rwa[if_neg g]at this
theorem qxu(L:List Tk):okC (dA L)/\qqk (dA L) true=0/\∀s,inC (dA0 L) s->inC (dA L) s/\qhe (dA L) s=qhe (dA0 L) s:=by
 have:=qmz (l:=dA0 L) 257 (dA0 L).length (le_refl _) (by rw[take_length];exact qdlb L) (by rw[take_length];exact qelb L);rw[take_length]at this
 exact this
theorem qry(L:List Tk):okC (dB L)/\qqk (dB L) true=0/\∀s,inC (dB0 L) s->inC (dB L) s/\qhe (dB L) s=qhe (dB0 L) s:=by
 have:=qmz (l:=dB0 L) 1 (dB0 L).length (le_refl _) (by rw[take_length];exact qblb L) (by rw[take_length];exact qclb L);rw[take_length]at this
 exact this
theorem qoab(L:List Tk):257<=(dA L).length/\(dA L).length<=286:=by
 have h1:=qax (dA0 L) 257 (dA0 L).length;have h2:=qbx (dA0 L) 257 (dA0 L).length (by rw[qycb];decide);unfold dA;rw[length_take];have:=qycb L;omega
theorem qcfb(L:List Tk):1<=(dB L).length/\(dB L).length<=30:=by
 have h1:=qax (dB0 L) 1 (dB0 L).length;have h2:=qbx (dB0 L) 1 (dB0 L).length (by rw[qxcb];decide);unfold dB;rw[length_take];have:=qxcb L;omega
theorem qmrb{a a0 b b0:List Int}(hA:∀s,inC a0 s->inC a s/\qhe a s=qhe a0 s)(hB:∀s,inC b0 s->inC b s/\qhe b s=qhe b0 s){t:Tk}(h:tkIn a0 b0 t):tkIn a b t/\tkB a b t=tkB a0 b0 t:=by
 unfold tkIn at h;unfold tkIn tkB;by_cases g:t.2.1=0
 ·rw[if_pos g]at h;rw[if_pos g,if_pos g,if_pos g];exact hA _ h
 ·rw[if_neg g]at h;rw[if_neg g,if_neg g,if_neg g];refine⟨⟨(hA _ h.1).1,(hB _ h.2).1⟩,?_⟩;rw[(hA _ h.1).2,(hB _ h.2).2]
theorem qxmb{a a0 b b0:List Int}(hA:∀s,inC a0 s->inC a s/\qhe a s=qhe a0 s)(hB:∀s,inC b0 s->inC b s/\qhe b s=qhe b0 s):∀{M:List Tk},(∀t∈M,tkIn a0 b0 t)->(∀t∈M,tkIn a b t)/\tksB a b M=tksB a0 b0 M:=by
 intro M;induction M with
 |nil=>intro _;exact⟨λt ht=>(by cases ht),rfl⟩
 |cons t M ih=>
  intro h;have h1:=qmrb hA hB (h t (by simp));have h2:=ih λt ht=>h t (by simp[ht]);refine⟨λu hu=>?_,?_⟩
  ·rcases mem_cons.1 hu with rfl|hu
   ·exact h1.1
   ·exact h2.1 u hu
  ·unfold tksB at h2|-
   rw[flatMap_cons,flatMap_cons,h1.2,h2.2]
theorem d_tkB(hok:∀t∈L,tkOk t):(∀t∈L,tkIn (dA L) (dB L) t)/\tksB (dA L) (dB L) L=tksB (dA0 L) (dB0 L) L:=qxmb (qxu L).2.2 (qry L).2.2 (qcqb hok)
theorem qmtb(L:List Tk):inC (dA0 L) 256/\inC (dA L) 256/\qhe (dA L) 256=qhe (dA0 L) 256:=by
 have h:=qeqb (L:=L) (s:=256) (by decide) (by simp);exact⟨h,(qxu L).2.2 _ h⟩
theorem qvu(L:List Tk):Runs (dA L++dB L) 0 (dPs L):=by
 refine qzfb λx hx=>?_;rcases mem_append.1 hx with h|h
 ·have:=(qxu L).1.1 x h;omega
 ·have:=(qry L).1.1 x h;omega
theorem d_ps(L:List Tk):∀s∈dS0 L,s<19:=by
 intro s hs;obtain⟨p,hp,rfl⟩:=mem_map.1 hs;have:=(qvu L).ok p hp;have:=this.1;have:=((qvu L).ok p hp).2.1;omega
theorem qpy(L:List Tk):1<=(dPs L).length:=by
 have h:(dA L++dB L).length≠0:=by rw[length_append];have:=qoab L;omega
 unfold dPs runsL;obtain⟨n,hn⟩:∃n,(dA L++dB L).length=n+1:=⟨(dA L++dB L).length-1,by omega⟩;rw[hn,runsF,if_neg (by omega),length_cons];omega
theorem qct(L:List Tk):(dPs L).length<=316:=by
 have:=(qvu L).le;rw[length_append]at this
 have:=qoab L;have:=qcfb L;omega
theorem qwu(L:List Tk):(dS0 L).length=(dPs L).length:=length_map ..
theorem dS_len(L:List Tk):(dS L).length<=317:=by
 have:=qct L;have:=qwu L;unfold dS;split
 ·rw[length_append,length_singleton];omega
 ·omega
theorem d_head(L:List Tk):(dS0 L).headD 0∈dS0 L:=by
 have h1:=qpy L;have h2:=qwu L;cases h:dS0 L with
 |nil=>rw[h]at h2;simp at h2;omega
 |cons x l=>simp
theorem qwcb(L:List Tk):∀s∈dS0 L,s∈dS L:=by
 intro s hs;unfold dS;split
 ·exact List.mem_append_left _ hs
 ·exact hs
theorem qaib{l:List Nat}{a b:Nat}(h1:a∈l)(h2:b∈l)(h:a≠b):2<=l.length:=by
 cases l with
 |nil=>cases h1
 |cons x l=>
  cases l with
  |nil=>
   rw[mem_singleton]at h1 h2;exact absurd (h1.trans h2.symm) h
  |cons y l=>simp
theorem dK_lt(L:List Tk):dK L<2:=Nat.mod_lt _ (by decide)
theorem qgo(L:List Tk):(dC L).length=19:=qee _ _
theorem d_two(L:List Tk):2<=(que (dC L)).length:=by
 have hh:=d_head L;have h19:=d_ps L _ hh;have m1:(dS0 L).headD 0∈que (dC L):=qnj.2 ⟨by rw[qgo];exact h19,(qvp h19).2 (qwcb L _ hh)⟩;by_cases hm:maxF (qcp 19 (dS0 L)) 18=(dPs L).length
 ·have hk:=dK_lt L;have m2:dK L∈que (dC L):=qnj.2 ⟨by rw[qgo];omega,(qvp (by omega)).2 (by unfold dS;rw[if_pos hm];exact mem_append_right _ (mem_singleton.2 rfl))⟩;refine qaib m1 m2 ?_;unfold dK;omega
 ·by_cases ha:∀s∈dS0 L,(dS0 L).headD 0=s
  ·exfalso;have hc:(dS0 L).count ((dS0 L).headD 0)=(dS0 L).length:=List.count_eq_length.2 ha;have h1:=qssb (qcp 19 (dS0 L)) 18 ((dS0 L).headD 0) (by omega);obtain⟨j,_,h2⟩:=qkjb (qcp 19 (dS0 L)) 18;have h3:=qpl (n:=19) (S:=dS0 L) j;rw[qdt _ h19,hc]at h1;rw[<-h2]at h3;have:=qwu L;omega
  ·obtain⟨s,hs,hne⟩:∃s∈dS0 L,(dS0 L).headD 0≠s:=by
    refine Classical.byContradiction λhno=>ha λs hs=>Classical.byContradiction λhne=>hno ⟨s,hs,hne⟩
   have hs19:=d_ps L s hs;exact qaib m1 (qnj.2 ⟨by rw[qgo];exact hs19,(qvp hs19).2 (qwcb L s hs)⟩) hne
theorem qqy(L:List Tk):(dCl L).length=19:=by unfold dCl;rw[qok,qgo]
theorem qykb(L:List Tk):okC (dCl L):=qby (by rw[qgo];decide) (by decide) (by decide)
theorem qzkb(L:List Tk):qqk (dCl L) false=0:=by
 have hl:=qgo L;obtain⟨h1,h2⟩:=qkeb (xs:=dC L) (M:=7) (by omega) (qnm (by rw[hl];decide)) (by decide) (by decide);have h3:=(qey (xs:=dC L) (M:=7) (qnm (by rw[hl];decide)) (by decide) (by decide)).2 (d_two L);rw[h3]at h2;unfold qqk dCl;rw[if_neg (λe=>e h1),if_neg (by rw[h2];simp)]
theorem dCl_b(L:List Tk)(j:Nat):0<=(dCl L).getD j 0/\(dCl L).getD j 0<8:=by
 rcases lt_or_ge j 19 with h|h
 ·have hj:j<(dC L).length:=by rw[qgo];exact h
  unfold dCl;rw[qeu hj];have:=(qcy (xs:=dC L) (m:=7) (qnm (by rw[qgo];decide)) (by decide) hj).1;omega
 ·rw[List.getD_eq_getElem?_getD,List.getElem?_eq_none (by rw[qqy];exact h)];decide
theorem qdqb(L:List Tk):∀q∈dPs L,inC (dCl L) q.1.toNat:=by
 intro q hq;have hm:q.1.toNat∈dS0 L:=mem_map.2 ⟨q,hq,rfl⟩;have h19:=d_ps L _ hm;unfold dCl;rw[qkcb (by rw[qgo];decide) (by decide),qgo];exact⟨h19,(qvp h19).2 (qwcb L _ hm)⟩
theorem qxkb(L:List Tk){j:Nat}(h:j<19):(dOc L).getD j 0=(dCl L).getD (qki.getD j 0).toNat 0:=by
 have hz:j<qki.length:=h;unfold dOc;simp[getD,hz]
theorem dN_b(L:List Tk):4<=dN L/\dN L<=19:=⟨qbx _ _ _ (by decide),qax _ _ _⟩
theorem qjtb{xs:List Int}(hb:∀x∈xs,0<=x/\x<256)(hL:Makes xs 0 L xs.length):Dfl xs (dynB L):=by
 have hok:=hL.tkOk hb;have h1:=qoab L;have h2:=qcfb L;have h3:=dN_b L;exact Dfl.dynamic hb hL (d_tkB hok).1 h1.1 h1.2 h2.1 h2.2 (qqy L) (dCl_b L) h3.1 h3.2 (λj hj hj2=>by
  rw[<-qxkb L hj2];exact qwmb _ _ _ _ hj hj2) (qykb L) (qzkb L) (qvu L) (qdqb L) (qxu L).1 (qry L).1 (qxu L).2.1 (qry L).2.1 (qmtb L).2.1
end
end
section
attribute [local irreducible] apK cpK mkK br
theorem qhsb{cl:List Int}(h:okL cl){p:Pc}(hp:pcOk p):(pcB cl p).length<=22:=by
 have h1:=qpi h p.1.toNat;have h2:=hp.2.2;unfold pcB;rw[length_append,qq];omega
theorem qsnb{cl:List Int}(h:okL cl):∀{P:List Pc},(∀p∈P,pcOk p)->(pcsB cl P).length<=22*P.length:=by
 intro P;induction P with
 |nil=>intro _;exact le_refl _
 |cons p P ih=>
  intro hp;have h1:=qhsb h (hp p (by simp));have h2:=ih λq hq=>hp q (by simp[hq]);unfold pcsB at h2|-
  rw[flatMap_cons,length_append,length_cons];omega
theorem qvib(cl:List Int)(P:List Pc)(p:Pc):pcsB cl (P++[p])=pcsB cl P++pcB cl p:=by simp[pcsB]
section
variable {F0:List Nat}{w0 w:World}{ps r1 r2 r3 r4:List As}{kb wb lb db cb:Nat}{s A B t11 t15 t19:Sl}{ll dl cl:List Int}{L:List Tk}{P:List Pc}{l:List Bool}{K:Ending->World->Prop}
structure DynOk(ll dl cl:List Int)(L:List Tk)(P:List Pc):Prop where
 tk:∀t∈L,tkOk t
 len:L.length<=1000000
 tin:∀t∈L,tkIn ll dl t
 i256:inC ll 256
 ll:okL ll
 dl:okL dl
 pc:∀p∈P,pcOk p
 pin:∀p∈P,inC cl p.1.toNat
 plen:P.length<=1000
 cl:okL cl
theorem qc.pcs(h:St F0 w0 w (wrL wb l::ps))[PkB kb ps [.slice s.a s.len s.cap,.slice A.a A.len A.cap,.slice B.a B.len B.cap] r1][PkF hcA lb ps ll r2][PkF hcA db ps dl r3][PkF hcA cb ps cl r4]
 [Rdb F0 w0 t11 ps 3 (P.flatMap pcC)] [Rdb F0 w0 s ps 3 (tks L)] (o:DynOk ll dl cl L P) (hl:l.length<=10000)
 (hk:∀t w',t.len=((l++(pcsB cl P++(tksB ll dl L++qhe ll 256))).length+7)/8->t.cap=t.len->St F0 w0 w' (rdA 1 t (u8s (bytes (l++(pcsB cl P++(tksB ll dl L++qhe ll 256)))))::ps)->K (.returned (.slice t.a t.len t.cap)) w'):
 qc.j13 (some ⟨kb,0,none⟩) (some ⟨lb,0,none⟩) (some ⟨db,0,none⟩) t11 (some ⟨cb,0,none⟩) (some ⟨wb,0,none⟩) (λv w'=>K (.returned v) w') w:=by
 have hpl:P.length=t11.len:=h.rlen (f:=pcC)
 have h15:=o.plen
 unfold qc.j13 qc.j15
 refine qjf (λ(i:Nat) (i':Int) w'=>i'=i/\i<=P.length/\St F0 w0 w' (wrL wb (l++pcsB cl (P.take i))::ps)) (λi=>P.length-i) 0 ⟨rfl,by omega,by simpa [pcsB]using h⟩ ?_
 clear h
 rintro i i' wL I μ ⟨rfl,hi,h⟩ hnx
 have hbl:=qsnb o.cl (P:=P.take i) (λp hp=>o.pc p (mem_of_mem_take hp))
 rw[length_take]at hbl
 unfold qc.b1
 refine quc (λg=>?_) (λg=>?_)
 ·have hi2:i<P.length:=by omega
  have hpc:=o.pc _ (getElem_mem hi2)
  have hpi:=o.pin _ (getElem_mem hi2)
  have et:P.take (i+1)=P.take i++[P[i]]:=take_succ_eq_append_getElem hi2
  refine h.lr (s:=t11) (f:=pcC) i rfl hi2 ?_
  rw[qdm]
  refine h.new λa w h=>⟨rfl,?_⟩
  have h:St F0 w0 w (qqb a (pcC (0,0,0))::wrL wb (l++pcsB cl (P.take i))::ps):=h
  refine h.sA (b:=a) (l':=pcC P[i]) rfl rfl (qfj _) λw h=>?_
  have h:St F0 w0 w (qqb a [.int .i64 P[i].1,.int .i64 P[i].2.1,.int .i64 P[i].2.2]::wrL wb (l++pcsB cl (P.take i))::ps):=h
  have h:=h.at1
  simp only[qyf,zero_add]
  refine h.fI (b:=a) ?_
  refine qgg.c (cb:=cb) (ls:=cl) h (by rw[length_append];omega) λw h=>⟨_,rfl,?_⟩
  rw[qiu hpc.1 hpi]at h
  have hs:=qpi o.cl P[i].1.toNat
  refine h.fI (b:=a) (h.fI (b:=a) ?_)
  refine qnb.cl h (by simp only[length_append];omega) λw h=>⟨rfl,?_⟩
  rw[qrn hpc.2.2.1 (by have:=hpc.2.2.2;omega)]at h
  refine qm (qd (by omega) (by omega)) ?_
  refine⟨⟨by trivial,by trivial,by trivial,by trivial,by trivial,by trivial,by trivial⟩,hnx (i+1) _ _ ⟨by omega,by omega,?_⟩ (by omega)⟩
  rw[et,qvib]
  unfold pcB
  simp only[append_assoc]at h|-
  exact h.sub
 ·have:i=P.length:=by omega
  subst this
  rw[take_length]at h hbl
  unfold qc.j14
  refine qrc.c (kb:=kb) (wb:=wb) (lb:=lb) (db:=db) (s:=s) (A:=A) (B:=B) (L:=L) (ll:=ll) (dl:=dl) h o.tk o.len o.tin o.i256 o.ll o.dl (by rw[length_append];omega) λw h=>⟨rfl,?_⟩
  have hb:=qcx o.ll o.dl o.tk
  have hs:=qpi o.ll 256
  have hlen:=o.len
  rw[append_assoc]at h
  refine qgf.c h (by simp only[length_append];omega) λt w h1 h2 h=>⟨t,rfl,?_⟩
  exact hk t w h1 h2 h.sub
theorem qc.cls{n:Nat}(h:St F0 w0 w (wrL wb l::ps))[PkB kb ps [.slice s.a s.len s.cap,.slice A.a A.len A.cap,.slice B.a B.len B.cap] r1][PkF hcA lb ps ll r2][PkF hcA db ps dl r3][PkF hcA cb ps cl r4]
 [Rdb F0 w0 t11 ps 3 (P.flatMap pcC)] [Rdb F0 w0 s ps 3 (tks L)] [Rdb F0 w0 t15 ps 1 (ivs .i64 cl)] [Rdb F0 w0 t19 ps 1 (ivs .i64 qki)] (h19:t19.len<=t19.cap) (hcl:cl.length=19) (hn:n<=19) (o:DynOk ll dl cl L P) (hl:l.length<=1000)
 (hk:∀t w',t.len=((l++((qki.take n).flatMap (λs=>ql (cl.getD s.toNat 0) 3)++(pcsB cl P++(tksB ll dl L++qhe ll 256)))).length+7)/8->t.cap=t.len->St F0 w0 w' (rdA 1 t (u8s (bytes (l++((qki.take n).flatMap (λs=>ql (cl.getD s.toNat 0) 3)++(pcsB cl P++(tksB ll dl L++qhe ll 256))))))::ps)->K (.returned (.slice t.a t.len t.cap)) w'):
 qc.j12 (some ⟨kb,0,none⟩) (some ⟨lb,0,none⟩) (some ⟨db,0,none⟩) t11 t15 (some ⟨cb,0,none⟩) t19 (n:Int) (some ⟨wb,0,none⟩) (λv w'=>K (.returned v) w') w:=by
 have hl19:=(h.rdb t19).1
 rw[qk,show qki.length=19 from rfl]at hl19
 unfold qc.j12
 refine qkn (n:=n) rfl (by omega) (qbe ?_)
 haveI:Rdb F0 w0 ⟨qnf t19.a t19.cap 0 1,n-0,t19.cap-0⟩ ps 1 (ivs .i64 (qki.take n)):=St.cutR h.drop t19 0 n _ (by omega) (by omega) h19 rfl
 generalize hq:(⟨qnf t19.a t19.cap 0 1,n-0,t19.cap-0⟩:Sl)=q at*
 have hql:q.len=n:=by rw[<-hq];rfl
 have hll:(qki.take n).length=n:=by rw[length_take];exact Nat.min_eq_left hn
 unfold qc.j16
 refine qjf (λ(i:Nat) (i':Int) w'=>i'=i/\i<=n/\St F0 w0 w' (wrL wb (l++((qki.take n).take i).flatMap (λs=>ql (cl.getD s.toNat 0) 3))::ps)) (λi=>n-i) 0 ⟨rfl,by omega,by simpa using h⟩ ?_
 clear h
 rintro i i' wL I μ ⟨rfl,hi,h⟩ hnx
 have hbl:=qpu (S:=(qki.take n).take i) (f:=λs=>ql (cl.getD s.toNat 0) 3) (λs=>qq _ _)
 rw[length_take,hll]at hbl
 unfold qc.b2
 refine quc (λg=>?_) (λg=>?_)
 ·have hi2:i<n:=by omega
  refine h.lx (s:=q) i rfl (by omega) ?_
  have hz:=qsw i (by omega)
  have et:(qki.take n).take (i+1)=(qki.take n).take i++[qki.getD i 0]:=by
   rw[<-qip (l:=qki) hi2];exact qdi (by omega)
  rw[qip hi2]
  refine h.lx (s:=t15) (qki.getD i 0).toNat (by omega) (by omega) ?_
  refine qnb.cl h (by simp only[length_append];omega) λw h=>⟨rfl,?_⟩
  rw[qrn (by decide) (by decide),show(3:Int).toNat=3 from rfl]at h
  refine qm (qd (by omega) (by omega)) ?_
  refine⟨⟨rfl,rfl,rfl,rfl,rfl,rfl,rfl,rfl,rfl⟩,hnx (i+1) _ _ ⟨by omega,by omega,?_⟩ (by omega)⟩
  rw[et,flatMap_append]
  rw[append_assoc]at h
  simpa using h
 ·have:i=n:=by omega
  subst this
  rw[take_of_length_le (by omega)]at h hbl
  refine qc.pcs (kb:=kb) (wb:=wb) (lb:=lb) (db:=db) (cb:=cb) (s:=s) (A:=A) (B:=B) (ll:=ll) (dl:=dl) (cl:=cl) (t11:=t11) h o (by rw[length_append];omega) λt w h1 h2 h=>?_
  simp only[append_assoc]at h1 h
  exact hk t w h1 h2 h
theorem qc.hdr{n:Nat}{t3 t5:Sl}(h:St F0 w0 w ps)[PkB kb ps [.slice s.a s.len s.cap,.slice A.a A.len A.cap,.slice B.a B.len B.cap] r1][PkF hcA lb ps ll r2][PkF hcA db ps dl r3][PkF hcA cb ps cl r4]
 [Rdb F0 w0 t11 ps 3 (P.flatMap pcC)] [Rdb F0 w0 s ps 3 (tks L)] [Rdb F0 w0 t15 ps 1 (ivs .i64 cl)] [Rdb F0 w0 t19 ps 1 (ivs .i64 qki)] (h19:t19.len<=t19.cap) (hcl:cl.length=19) (hn:n<=19) (hn4:4<=n) (o:DynOk ll dl cl L P) {a b:List Int}
 (h3:t3.len=a.length) (h5:t5.len=b.length) (ha:a.length<=286) (hb:b.length<=30) (hab:qhe a 256=qhe ll 256) (htk:tksB a b L=tksB ll dl L)
 (hk:∀t w',t.len=((dyB a b cl n P L).length+7)/8->t.cap=t.len->St F0 w0 w' (rdA 1 t (u8s (bytes (dyB a b cl n P L)))::ps)->K (.returned (.slice t.a t.len t.cap)) w'):
 qc.j9 (some ⟨kb,0,none⟩) t3 t5 (some ⟨lb,0,none⟩) (some ⟨db,0,none⟩) t11 t15 (some ⟨cb,0,none⟩) t19 (n:Int) (λv w'=>K (.returned v) w') w:=by
 unfold qc.j9
 refine qig.c h λwb w h=>⟨_,rfl,?_⟩
 unfold qc.j10
 refine qnb.cl h (by simp) λw h=>⟨rfl,?_⟩
 rw[show([]++pb 5 3:List Bool)=[true,false,true]by decide+kernel]at h
 refine qm (qd (by omega) (by omega)) ?_
 refine qm (show i64.wrap ((t3.len:Int)-256-1)=(a.length:Int)-257 by rw[qd (by omega) (by omega)];omega) ?_
 refine qnb.cl h (by simp) λw h=>⟨rfl,?_⟩
 rw[qrn (by decide) (by decide),show(5:Int).toNat=5 from rfl]at h
 unfold qc.j11
 refine qm (show i64.wrap ((t5.len:Int)-1)=(b.length:Int)-1 by rw[qd (by omega) (by omega)];omega) ?_
 refine qnb.cl h (by simp[qq]) λw h=>⟨rfl,?_⟩
 rw[qrn (by decide) (by decide),show(5:Int).toNat=5 from rfl]at h
 refine qm (qd (by omega) (by omega)) ?_
 refine qnb.cl h (by simp[qq]) λw h=>⟨rfl,?_⟩
 rw[qrn (by decide) (by decide),show(4:Int).toNat=4 from rfl]at h
 refine qc.cls (kb:=kb) (wb:=wb) (lb:=lb) (db:=db) (cb:=cb) (s:=s) (A:=A) (B:=B) (ll:=ll) (dl:=dl) (cl:=cl) (t11:=t11) (t15:=t15) (t19:=t19) (P:=P) (L:=L) h h19 hcl hn o (by simp[qq]) λt w h1 h2 h=>?_
 have e:[true,false,true]++ql ((a.length:Int)-257) 5++ql ((b.length:Int)-1) 5++ql ((n:Int)-4) 4++((qki.take n).flatMap (λs=>ql (cl.getD s.toNat 0) 3)++(pcsB cl P++(tksB ll dl L++qhe ll 256)))=dyB a b cl n P L:=by
  unfold dyB hdB;rw[htk,hab];simp only[append_assoc]
 rw[e]at h1 h
 exact hk t w h1 h2 h
end
end
section
attribute [local irreducible] apK cpK mkK br dA dB dA0 dB0 dPs dS0 dK dS dC dCl dOc dN dynB lenP qhj runsL maxF
section
variable {F0:List Nat}{w0 w:World}{ps r1:List As}{kb:Nat}{s A B:Sl}{L:List Tk}{K:Ending->World->Prop}
theorem qhgb(hL:L.length<=1000000):qvl (litC L) 15=0:=by
 have hg:goodX (litC L):=qzu (by decide) (by rw[length_append,length_map,length_singleton];omega);have hc:=qds (litC L);rw[qlm]at hc;unfold qvl;rw[if_neg (by rintro(e|e|e);exact e hg;omega;omega),if_neg (by show ¬32768<_;omega)]
theorem qbhb(hL:L.length<=1000000):qvl (disC L) 15=0:=by
 have hg:goodX (disC L):=qzu (by decide) (by have:=qbfb L;omega);have hc:=qds (disC L);rw[qmm]at hc;unfold qvl;rw[if_neg (by rintro(e|e|e);exact e hg;omega;omega),if_neg (by show ¬32768<_;omega)]
theorem qvob(L:List Tk):qvl (dC L) 7=0:=by
 have hg:goodX (dC L):=by
  rw[<-qalb];exact qzu (by decide) (by have:=dS_len L;omega)
 have hc:=qds (dC L);rw[qgo]at hc;unfold qvl;rw[if_neg (by rintro(e|e|e);exact e hg;omega;omega),if_neg (by show ¬128<_;omega)]
theorem dyn_ok(hok:∀t∈L,tkOk t)(hL:L.length<=1000000):DynOk (dA0 L) (dB0 L) (dCl L) L (dPs L):=
 ⟨hok,hL,qcqb hok,(qmtb L).1,(qdlb L).1,(qblb L).1,(qvu L).ok,qdqb L,by have:=qct L;omega,(qykb L).1⟩
theorem qc.j8c{qs r2 r3:List As}{lb db:Nat}{ta tb t11 t12:Sl}(hq:∀(F0:List Nat) (w0 w:World),St F0 w0 w qs->St F0 w0 w ps)[PkB kb qs [.slice s.a s.len s.cap,.slice A.a A.len A.cap,.slice B.a B.len B.cap] r1][PkF hcA lb qs (dA0 L) r2][PkF hcA db qs (dB0 L) r3][Rdb F0 w0 s qs 3 (tks L)]
 (hok:∀t∈L,tkOk t) (hL:L.length<=1000000) (hta:ta.len=(dA L).length) (htb:tb.len=(dB L).length) (h11:t11.len=(dPs L).length)
 (hk:∀t w',t.len=((dynB L).length+7)/8->t.cap=t.len->St F0 w0 w' (rdA 1 t (u8s (bytes (dynB L)))::ps)->K (.returned (.slice t.a t.len t.cap)) w') {cb:Nat} {t15 t19:Sl} (h19:t19.len=19/\t19.cap=19) (h15:t15.len=19)
 (h:St F0 w0 w (rdA 1 t19 (ivs .i64 qki)::hcA cb (dCl L)::qcc 1 t15 (ivs .i64 (dCl L))::qcc 1 t12 (ivs .i64 (dC L))::qcc 3 t11 ((dPs L).flatMap pcC)::qs)):
 qc.j8 (some ⟨kb,0,none⟩) ta tb (some ⟨lb,0,none⟩) (some ⟨db,0,none⟩) t11 t15 (some ⟨cb,0,none⟩) t19 ((19:Nat):Int) (λv w'=>K (.returned v) w') w:=by
 have la:=qoab L
 have lb':=qcfb L
 unfold qc.j8
 refine qjf (λ(n:Nat) (n':Int) w'=>n'=n/\n<=19/\4<=n/\qhj (dOc L) 4 n=dN L/\St F0 w0 w' (rdA 1 t19 (ivs .i64 qki)::hcA cb (dCl L)::qcc 1 t15 (ivs .i64 (dCl L))::qcc 1 t12 (ivs .i64 (dC L))::qcc 3 t11 ((dPs L).flatMap pcC)::qs)) (λn=>n) 19 ⟨rfl,le_refl _,by decide,dN_def L,h⟩ ?_
 clear h
 rintro n n' wL I μ ⟨rfl,hn,hn4,htr,h⟩ hnx
 have done:∀w,qhj (dOc L) 4 n=n->St F0 w0 w (rdA 1 t19 (ivs .i64 qki)::hcA cb (dCl L)::qcc 1 t15 (ivs .i64 (dCl L))::qcc 1 t12 (ivs .i64 (dC L))::qcc 3 t11 ((dPs L).flatMap pcC)::qs)->qc.j9 (some ⟨kb,0,none⟩) ta tb (some ⟨lb,0,none⟩) (some ⟨db,0,none⟩) t11 t15 (some ⟨cb,0,none⟩) t19 (n:Int) (λv w'=>K (.returned v) w') w:=by
  intro w e h;rw[e]at htr;have hd:=d_tkB hok;refine qc.hdr (kb:=kb) (lb:=lb) (db:=db) (cb:=cb) (s:=s) (A:=A) (B:=B) (ll:=dA0 L) (dl:=dB0 L) (cl:=dCl L) (t11:=t11) (t15:=t15) (t19:=t19) (P:=dPs L) (L:=L) (a:=dA L) (b:=dB L) h (by omega) (qqy L) hn hn4 (dyn_ok hok hL) hta htb la.2 lb'.2 (qmtb L).2.2 hd.2 λt w h1 h2 h=>?_;rw[htr,quob]at h1 h;exact hk t w h1 h2 (h.tail λ_ _ _ h=>hq _ _ _ h.drop.drop.drop.drop.drop)
 unfold qc.b3
 refine quc (λg=>?_) (λg=>?_)
 ·obtain⟨k,rfl⟩:∃k,n=k+1:=⟨n-1,by omega⟩
  have e:i64.wrap (((k+1:Nat):Int)-1)=(k:Int):=by rw[qd (by omega) (by omega)];omega
  refine qm e ?_
  refine h.lx (s:=t19) k rfl (by show k<19;omega) ?_
  have hz:=qsw k (by omega)
  refine h.lx (s:=t15) (qki.getD k 0).toNat (by omega) (by rw[qqy];omega) ?_
  rw[<-qxkb L (show k<19 by omega)]
  refine qye (λg2=>?_) (λg2=>?_)
  ·have g2:(dOc L).getD k 0=0:=by simpa using g2
   refine qm e ?_
   refine⟨⟨rfl,rfl,rfl,rfl,rfl,rfl,rfl,rfl,rfl⟩,hnx k _ _ ⟨rfl,by omega,by omega,?_,h⟩ (by omega)⟩
   rw[<-htr,qhj,if_pos ⟨by omega,g2⟩]
  ·have g2:¬(dOc L).getD k 0=0:=by simpa using g2
   refine done wL ?_ h
   rw[qhj,if_neg λe=>g2 e.2]
 ·refine done wL ?_ h
  obtain⟨k,rfl⟩:∃k,n=k+1:=⟨n-1,by omega⟩
  rw[qhj,if_neg (by omega)]
theorem qc.j6c{qs r2 r3:List As}{lb db:Nat}{ta tb t11 t12:Sl}(hq:∀(F0:List Nat) (w0 w:World),St F0 w0 w qs->St F0 w0 w ps)[PkB kb qs [.slice s.a s.len s.cap,.slice A.a A.len A.cap,.slice B.a B.len B.cap] r1][PkF hcA lb qs (dA0 L) r2][PkF hcA db qs (dB0 L) r3][Rdb F0 w0 s qs 3 (tks L)]
 (hok:∀t∈L,tkOk t) (hL:L.length<=1000000) (hta:ta.len=(dA L).length) (htb:tb.len=(dB L).length) (h11:t11.len=(dPs L).length)
 (hk:∀t w',t.len=((dynB L).length+7)/8->t.cap=t.len->St F0 w0 w' (rdA 1 t (u8s (bytes (dynB L)))::ps)->K (.returned (.slice t.a t.len t.cap)) w')
 (h:St F0 w0 w (qcc 1 t12 (ivs .i64 (dC L))::qcc 3 t11 ((dPs L).flatMap pcC)::qs)):qc.j6 (some ⟨kb,0,none⟩) ta tb (some ⟨lb,0,none⟩) (some ⟨db,0,none⟩) t11 t12 (λv w'=>K (.returned v) w') w:=by
 unfold qc.j6
 refine qn.c (s:=t12) (xs:=dC L) (m:=7) h (λt15 w _ h15 h=>⟨t15,_,rfl,?_⟩) (λw he _=>absurd (qvob L) he)
 rw[qotb]at h
 rw[qgo]at h15
 refine qnc.c (s:=t15) (ls:=dCl L) h (λcb w hn h=>⟨_,_,rfl,?_⟩) (λw hn _=>absurd (qzkb L) hn)
 unfold qc.j7
 refine h.new λob w h=>?_
 have h:St F0 w0 w (qqb ob (ivs .i64 qki)::hcA cb (dCl L)::qcc 1 t15 (ivs .i64 (dCl L))::qcc 1 t12 (ivs .i64 (dC L))::qcc 3 t11 ((dPs L).flatMap pcC)::qs):=h
 have h:=h.blkrd (n:=19) rfl
 generalize hob:(⟨some ⟨ob,0,none⟩,19,19⟩:Sl)=t19 at h
 have h19:t19.len=19/\t19.cap=19:=by rw[<-hob];exact⟨rfl,rfl⟩
 have go:=qc.j8c (kb:=kb) (lb:=lb) (db:=db) (s:=s) (A:=A) (B:=B) (L:=L) (ta:=ta) (tb:=tb) hq hok hL hta htb h11 hk h19 h15 h
 exact go
theorem qc.j5c{qs r2 r3:List As}{lb db:Nat}{ta tb t11 t12:Sl}(hq:∀(F0:List Nat) (w0 w:World),St F0 w0 w qs->St F0 w0 w ps)[PkB kb qs [.slice s.a s.len s.cap,.slice A.a A.len A.cap,.slice B.a B.len B.cap] r1][PkF hcA lb qs (dA0 L) r2][PkF hcA db qs (dB0 L) r3][Rdb F0 w0 s qs 3 (tks L)]
 (hok:∀t∈L,tkOk t) (hL:L.length<=1000000) (hta:ta.len=(dA L).length) (htb:tb.len=(dB L).length) (h11:t11.len=(dPs L).length)
 (hk:∀t w',t.len=((dynB L).length+7)/8->t.cap=t.len->St F0 w0 w' (rdA 1 t (u8s (bytes (dynB L)))::ps)->K (.returned (.slice t.a t.len t.cap)) w')
 (h:St F0 w0 w (qcc 1 t12 (ivs .i64 (qcp 19 (dS0 L)))::qcc 3 t11 ((dPs L).flatMap pcC)::qs)):qc.j5 (some ⟨kb,0,none⟩) ta tb (some ⟨lb,0,none⟩) (some ⟨db,0,none⟩) t11 t12 (λv w'=>K (.returned v) w') w:=by
 have lp:=qct L
 have lp1:=qpy L
 have lS:=qwu L
 have hm0:=qkjb (qcp 19 (dS0 L)) 18
 unfold qc.j5
 refine qic.c (s:=t12) h (by rw[qee];decide) (by rw[qee];decide) λw h=>⟨_,rfl,?_⟩
 rw[qee,show 19-1=18 from rfl]
 refine qye (λg=>?_) (λg=>?_)
 ·have g:maxF (qcp 19 (dS0 L)) 18=(t11.len:Int):=by simpa using g
  have hdS:=dS_yes (L:=L) (by omega)
  have hpc:=(qvu L).ok _ (getElem_mem lp1)
  have hk2:=dK_lt L
  have ek:(dK L:Int)=Int.tmod ((dPs L)[0].1+1) 2:=by
   have:=hpc.1;have e0:=dK_at (L:=L) (by omega);rw[Int.tmod_eq_emod_of_nonneg (by omega)];omega
  refine h.lrI (s:=t11) (f:=pcC) (o:=0) 0 rfl lp1 (by decide) rfl ?_
  have:=hpc.1
  have:=hpc.2.1
  refine qm (qd (by omega) (by omega)) ⟨by decide,?_⟩
  have hc1:=qpl (n:=19) (S:=dS0 L) (dK L)
  refine qm ek.symm ?_
  refine h.lx (s:=t12) (dK L) rfl (by rw[qee];omega) ?_
  refine qm (qd (by omega) (by omega)) ?_
  refine h.sx (s:=t12) (dK L) rfl (by rw[qee];omega) λw h=>?_
  rw[qbp _ (by omega),<-hdS,qalb]at h
  exact qc.j6c (kb:=kb) (lb:=lb) (db:=db) (s:=s) (A:=A) (B:=B) (L:=L) (ta:=ta) (tb:=tb) hq hok hL hta htb h11 hk h
 ·have g:¬maxF (qcp 19 (dS0 L)) 18=(t11.len:Int):=by simpa using g
  have hdS:=dS_no (L:=L) (by omega)
  rw[<-hdS,qalb]at h
  exact qc.j6c (kb:=kb) (lb:=lb) (db:=db) (s:=s) (A:=A) (B:=B) (L:=L) (ta:=ta) (tb:=tb) hq hok hL hta htb h11 hk h
theorem qc.c(h:St F0 w0 w ps)[PkB kb ps [.slice s.a s.len s.cap,.slice A.a A.len A.cap,.slice B.a B.len B.cap] r1][Rdb F0 w0 A ps 1 (ivs .i64 (litC L))][Rdb F0 w0 B ps 1 (ivs .i64 (disC L))][Rdb F0 w0 s ps 3 (tks L)](hok:∀t∈L,tkOk t)(hL:L.length<=1000000)
 (hk:∀t w',t.len=((dynB L).length+7)/8->t.cap=t.len->St F0 w0 w' (rdA 1 t (u8s (bytes (dynB L)))::ps)->K (.returned (.slice t.a t.len t.cap)) w'):Calls prog 80 ⟨[.pointer (some ⟨kb,0,none⟩)]⟩ w K:=by
 have la:=qoab L
 have lb':=qcfb L
 have lp:=qct L
 have lp1:=qpy L
 refine qdc (qc.ok _ _ _ ?_)
 unfold qc
 refine qkd ?_
 simp only[qyf,zero_add]
 refine h.fL (b:=kb) ?_
 refine qn.c (s:=A) (xs:=litC L) (m:=15) h (λt3 w _ h3 h=>⟨t3,_,rfl,?_⟩) (λw he _=>absurd (qhgb hL) he)
 rw[qqtb]at h
 rw[qlm]at h3
 unfold qc.j1
 refine qkd ?_
 simp only[qyf,zero_add]
 refine h.fL (b:=kb) ?_
 refine qn.c (s:=B) (xs:=disC L) (m:=15) h (λt5 w _ h5 h=>⟨t5,_,rfl,?_⟩) (λw he _=>absurd (qbhb hL) he)
 rw[qptb]at h
 rw[qmm]at h5
 have c5:=h.cap (by decide)
 have c3:=h.drop.cap (by decide)
 refine qnc.c (s:=t3) (ls:=dA0 L) h (λlb w hn h=>⟨_,_,rfl,?_⟩) (λw hn _=>absurd (qelb L) hn)
 unfold qc.j2
 refine qnc.c (s:=t5) (ls:=dB0 L) h (λdb w hn h=>⟨_,_,rfl,?_⟩) (λw hn _=>absurd (qclb L) hn)
 refine qje.c (s:=t3) (xs:=dA0 L) (m:=257) h (by rw[qycb];decide) c3 λta w ra hta hca h=>⟨ta,rfl,?_⟩
 refine qje.c (s:=t5) (xs:=dB0 L) (m:=1) h (by rw[qxcb];decide) c5 λtb w rb htb hcb h=>⟨tb,rfl,?_⟩
 rw[dA_def]at ra
 rw[dB_def]at rb
 have hta:ta.len=(dA L).length:=by
  have:=(h.rdb ta).1;rw[qk]at this;omega
 have htb:tb.len=(dB L).length:=by
  have:=(h.rdb tb).1;rw[qk]at this;omega
 generalize hps:hcA db (dB0 L)::hcA lb (dA0 L)::qcc 1 t5 (ivs .i64 (dB0 L))::qcc 1 t3 (ivs .i64 (dA0 L))::ps=qs at h ra rb
 have i1:∃r,PkB kb qs [.slice s.a s.len s.cap,.slice A.a A.len A.cap,.slice B.a B.len B.cap] r:=⟨_,by rw[<-hps];infer_instance⟩
 have i2:∃r,PkF hcA lb qs (dA0 L) r:=⟨_,by rw[<-hps];infer_instance⟩
 have i3:∃r,PkF hcA db qs (dB0 L) r:=⟨_,by rw[<-hps];infer_instance⟩
 have i4:Rdb F0 w0 s qs 3 (tks L):=by rw[<-hps];infer_instance
 have hq:∀(F0:List Nat) (w0 w:World),St F0 w0 w qs->St F0 w0 w ps:=λF0 w0 w h=>by rw[<-hps]at h;exact h.drop.drop.drop.drop
 clear hps
 obtain⟨r1,i1⟩:=i1
 obtain⟨r2,i2⟩:=i2
 obtain⟨r3,i3⟩:=i3
 unfold qc.j3
 refine h.new λnb w h=>?_
 have h:St F0 w0 w (qqb nb [.slice ta.a ta.len ta.cap,.slice tb.a tb.len tb.cap]::qs):=h
 refine qx.c2 (A:=ta) (B:=tb) (xs:=dA L) (ys:=dB L) h (by omega) λtc w htc h=>⟨tc,rfl,?_⟩
 refine qob.c (s:=tc) (xs:=dA L++dB L) h (by rw[length_append];omega) λt11 w h11 h=>⟨t11,rfl,?_⟩
 rw[qntb]at h h11
 have h:St F0 w0 w (qcc 3 t11 ((dPs L).flatMap pcC)::qs):=h.tail λ_ _ _ h=>h.drop.drop
 refine h.makeI (k:= .i64) (n:=19) rfl rfl (by decide) λt12 w h12 _ h=>?_
 unfold qc.j4 qc.j17
 have hS:(dS0 L).length=(dPs L).length:=qwu L
 refine qjf (λ(i:Nat) (i':Int) w'=>i'=i/\i<=(dPs L).length/\St F0 w0 w' (qcc 1 t12 (ivs .i64 (qcp 19 ((dS0 L).take i)))::qcc 3 t11 ((dPs L).flatMap pcC)::qs)) (λi=>(dPs L).length-i) 0 ⟨rfl,by omega,by rw[take_zero,quy];exact h⟩ ?_
 clear h
 rintro i i' wL I μ ⟨rfl,hi,h⟩ hnx
 unfold qc.b4
 refine quc (λg=>?_) (λg=>?_)
 ·have hi2:i<(dPs L).length:=by omega
  have hpc:=(qvu L).ok _ (getElem_mem hi2)
  have es:=dS0_at hi2
  refine h.lr (s:=t11) (f:=pcC) i rfl hi2 ?_
  generalize (dPs L)[i]=q at hpc es|-
  rw[qdm]
  refine h.new λa w h=>⟨rfl,?_⟩
  have h:St F0 w0 w (qqb a (pcC (0,0,0))::qcc 1 t12 (ivs .i64 (qcp 19 ((dS0 L).take i)))::qcc 3 t11 ((dPs L).flatMap pcC)::qs):=h
  refine h.sA (b:=a) (l':=pcC q) rfl rfl (qfj _) λw h=>?_
  have h:St F0 w0 w (qqb a [.int .i64 q.1,.int .i64 q.2.1,.int .i64 q.2.2]::qcc 1 t12 (ivs .i64 (qcp 19 ((dS0 L).take i)))::qcc 3 t11 ((dPs L).flatMap pcC)::qs):=h
  simp only[qyf,zero_add]
  have h0:=hpc.1
  have h19:=hpc.2.1
  have hc1:=qpl (n:=19) (S:=(dS0 L).take i) q.1.toNat
  rw[length_take]at hc1
  refine h.fI (b:=a) ?_
  refine h.lx (s:=t12) q.1.toNat (by omega) (by rw[qee];omega) ?_
  refine qm (qd (by omega) (by omega)) ?_
  refine h.sx (s:=t12) q.1.toNat (by omega) (by rw[qee];omega) λw h=>?_
  rw[qbp _ (by omega),<-es]at h
  refine qm (qd (by omega) (by omega)) ?_
  exact⟨⟨by trivial,by trivial,by trivial,by trivial,by trivial,by trivial,by trivial,by trivial,by trivial⟩,hnx (i+1) _ _ ⟨by omega,by omega,h.sub⟩ (by omega)⟩
 ·have:i=(dPs L).length:=by omega
  subst this
  rw[take_of_length_le (by omega)]at h
  clear hnx
  exact qc.j5c (kb:=kb) (lb:=lb) (db:=db) (s:=s) (A:=A) (B:=B) (L:=L) (ta:=ta) (tb:=tb) hq hok hL hta htb h11 hk h
end
end
section
attribute [local irreducible] apK cpK mkK br dynB
theorem qbrb{k:Nat}(h:k<65536):65535^^^k=65535-k:=by
 apply Nat.eq_of_testBit_eq;intro i;have e1:65535-k=2^16-(k+1):=by omega
 rw[e1,Nat.testBit_two_pow_sub_succ (by omega),testBit_xor,show(65535:Nat)=2^16-1 from rfl,Nat.testBit_two_pow_sub_one];by_cases hi:i<16
 ·simp[hi]
 ·have:k.testBit i=false:=Nat.testBit_lt_two_pow (Nat.lt_of_lt_of_le h (Nat.pow_le_pow_right (n:=2) (i:=16) (by decide) (show 16<=i by omega)));simp[hi,this]
theorem qwnb{k:Nat}(h:k<65536):ql (qlk .i64 (-1) (k:Int)) 16=ql ((65535^^^k:Nat):Int) 16:=by
 refine qhrb (by rw[qq,qq]) ?_;have h1:=qvm (qlk .i64 (-1) (k:Int)) 16;have h2:=qvm ((65535^^^k:Nat):Int) 16;rw[qbrb h]at h2|-
 have e:(BitVec.ofInt 64 (-1)^^^BitVec.ofInt 64 (k:Int)).toNat=18446744073709551615-k:=by
  rw[show BitVec.ofInt 64 (-1)=BitVec.allOnes 64 by decide,BitVec.allOnes_xor,BitVec.toNat_not,BitVec.ofInt_natCast,BitVec.toNat_ofNat,Nat.mod_eq_of_lt (by omega)]
 have hx:qlk .i64 (-1) (k:Int)=i64.wrap (((18446744073709551615-k:Nat)):Int):=by
  show i64.wrap (((BitVec.ofInt 64 (-1)^^^BitVec.ofInt 64 (k:Int)).toNat:Nat):Int)=_;rw[e]
 have hw:=qxw .i64 (((18446744073709551615-k:Nat)):Int);rw[<-hx,show(2:Int)^i64.bits=18446744073709551616 by decide]at hw;rw[show(2:Int)^16=65536 by decide]at h1 h2;omega
def byN(D:List Bool):Nat:=(D.length+7)/8
def pickB(D E:List Bool):List Bool:=if byN E<byN D then E else D
def dfB(xs:List Int)(L:List Tk):List Bool:=pickB (pickB (sdB xs) (fxB L)) (dynB L)
theorem qux(D E:List Bool):(pickB D E=D\/pickB D E=E)/\byN (pickB D E)<=byN D:=by
 unfold pickB;split
 ·exact⟨Or.inr rfl,by omega⟩
 ·exact⟨Or.inl rfl,le_refl _⟩
theorem qiib(xs:List Int):(sdB xs).length=40+8*xs.length:=by
 unfold sdB;simp only[length_append,length_cons,length_nil,List.length_replicate,qq,qev];omega
theorem qltb(xs:List Int)(L:List Tk):byN (dfB xs L)<=5+xs.length:=by
 have h1:=(qux (sdB xs) (fxB L)).2;have h2:=(qux (pickB (sdB xs) (fxB L)) (dynB L)).2;have h3:=qiib xs;unfold dfB;unfold byN at*
 omega
theorem dfB_ok{xs:List Int}{L:List Tk}(hb:∀x∈xs,0<=x/\x<256)(hl:xs.length<65536)(hL:Makes xs 0 L xs.length):Dfl xs (dfB xs L):=by
 have h1:=Dfl.stored hb hl;have h2:=Dfl.fixed hb hL (λt ht=>fx_in (hL.tkOk hb t ht));have h3:=qjtb hb hL;have h4:Dfl xs (pickB (sdB xs) (fxB L)):=by
  rcases(qux (sdB xs) (fxB L)).1 with e|e<;>rw[e]<;>assumption
 unfold dfB;rcases(qux (pickB (sdB xs) (fxB L)) (dynB L)).1 with e|e<;>rw[e]<;>assumption
abbrev tkF(xs:List Int)(e:Int):List Tk:=findL xs (qto e) xs.length 0
theorem qqt(xs:List Int)(e:Int):Makes xs 0 (tkF xs e) xs.length:=qscb xs _ _ _ (by omega) (zero_le _)
theorem qnrb(xs:List Int)(e:Int):(tkF xs e).length<=xs.length:=by
 have:=(qqt xs e).le (zero_le _);omega
def qih(xs:List Int)(e:Int):List Bool:=dfB xs (tkF xs e)
theorem qfeb{xs:List Int}(hb:∀x∈xs,0<=x/\x<256)(hl:xs.length<65536)(e:Int):Dfl xs (qih xs e):=dfB_ok hb hl (qqt xs e)
theorem pad_al(l:List Bool)(h:l.length%8=0):pad l=[]:=by
 unfold pad;rw[h];rfl
section
variable {F0:List Nat}{w0 w:World}{ps:List As}{s:Sl}{xs:List Int}{K:Ending->World->Prop}
theorem qgb.c(h:St F0 w0 w ps)[hr:Rdb F0 w0 s ps 1 (u8s xs)](hb:∀x∈xs,0<=x/\x<256)(hl:xs.length<65536)(hc:s.len<=s.cap)
 (hk:∀t w',t.len=byN (sdB xs)->t.cap=t.len->St F0 w0 w' (rdA 1 t (u8s (bytes (sdB xs)))::ps)->K (.returned (.slice t.a t.len t.cap)) w'):Calls prog 78 ⟨[.slice s.a s.len s.cap]⟩ w K:=by
 have hls:=(h.rdb s).1
 rw[qk]at hls
 refine qdc (qgb.ok _ _ _ ?_)
 unfold qgb qgb.j1
 refine quc (λg=>by omega) (λg=>?_)
 refine qig.c h λwb w h=>⟨_,rfl,?_⟩
 unfold qgb.j2 qgb.j4
 refine qug (λ(f:Bool) (b':Sl) (m':Bool) w'=>m'=f/\(f=true->b'=s/\St F0 w0 w' (wrL wb []::ps))/\(f=false->St F0 w0 w' (wrL wb (sdB xs)::ps))) (λf=>if f then 1 else 0) true ⟨rfl,λ_=>⟨rfl,h⟩,λe=>by cases e⟩ ?_
 clear h
 rintro f b' m' wL I μ ⟨rfl,h1,h2⟩ hin
 unfold qgb.b1
 cases m' with
 |false=>
  refine qcq ?_
  have h:=h2 rfl
  unfold qgb.j3
  refine qgf.c h (by rw[qiib];omega) λt w h1 h2 h=>⟨t,rfl,?_⟩
  exact hk t w h1 h2 h.sub
 |true=>
  obtain⟨rfl,h⟩:=h1 rfl
  refine qgp ?_
  unfold qgb.j5
  refine qm (show(if(65535:Int)<(b'.len:Int)then(65535:Int)else(b'.len:Int))=(b'.len:Int)by rw[if_neg (by omega)]) ?_
  have ef:decide (((b'.len:Nat):Int)<(b'.len:Int))=false:=decide_eq_false (by omega)
  rw[ef]
  unfold qgb.j6
  refine qcq ?_
  unfold qgb.j7
  refine qnb.cl h (by simp) λw h=>⟨rfl,?_⟩
  rw[show([]++pb 1 3:List Bool)=[true,false,false]by decide+kernel]at h
  refine qrf.c h (by simp) λw h=>⟨rfl,?_⟩
  rw[show pad [true,false,false]=replicate 5 false by decide+kernel]at h
  unfold qgb.j8
  refine qnb.cl h (by simp) λw h=>⟨rfl,?_⟩
  rw[qrn (by decide) (by decide),show(16:Int).toNat=16 from rfl]at h
  refine qm (show qlk .i64 (if signed .i64 then -1 else IntKind.max .i64) (b'.len:Int)=qlk .i64 (-1) (b'.len:Int)from rfl) ?_
  refine qnb.cl h (by simp[qq]) λw h=>⟨rfl,?_⟩
  rw[qrn (by decide) (by decide),show(16:Int).toNat=16 from rfl,qwnb (by omega)]at h
  have el:b'.len=xs.length:=by omega
  generalize hP:[true,false,false]++replicate 5 false++ql (b'.len:Int) 16++ql ((65535^^^b'.len:Nat):Int) 16=P at h
  have hPl:P.length=40:=by rw[<-hP];simp[qq]
  have hPs:P++bb xs=sdB xs:=by
   rw[<-hP,el];unfold sdB;simp only[append_assoc]
  unfold qgb.j9
  refine qkn (n:=b'.len) rfl (by omega) (qbe ?_)
  haveI:Rdb F0 w0 ⟨qnf b'.a b'.cap 0 1,b'.len-0,b'.cap-0⟩ ps 1 (u8s xs):=hr.cutAs 0 b'.len _ (by omega) (by omega) hc (by rw[drop_zero,take_of_length_le (by omega)])
  generalize hq:(⟨qnf b'.a b'.cap 0 1,b'.len-0,b'.cap-0⟩:Sl)=q at*
  have hql:q.len=xs.length:=by rw[<-hq,<-el];rfl
  unfold qgb.j11
  refine qjf (λ(i:Nat) (i':Int) w'=>i'=i/\i<=xs.length/\St F0 w0 w' (wrL wb (P++bb (xs.take i))::ps)) (λi=>xs.length-i) 0 ⟨rfl,by omega,by simpa [bb]using h⟩ ?_
  clear h
  rintro i i' wL2 I2 μ2 ⟨rfl,hi,h⟩ hnx
  unfold qgb.b2
  have hbl:=qev (xs.take i)
  rw[length_take]at hbl
  refine quc (λg=>?_) (λg=>?_)
  ·have hi2:i<xs.length:=by omega
   refine h.lx (s:=q) i rfl hi2 ?_
   have hx:=hb _ (qme hi2)
   refine qdh.c h (by rw[length_append];omega) hx λw h=>⟨rfl,?_⟩
   rw[pad_al _ (by rw[length_append];omega),append_nil,append_assoc,<-qxlb,<-qdi hi2]at h
   refine qm (qd (by omega) (by omega)) ?_
   exact⟨⟨rfl,rfl,rfl,rfl,rfl,rfl⟩,hnx (i+1) _ _ ⟨by omega,by omega,h⟩ (by omega)⟩
  ·have:i=xs.length:=by omega
   subst this
   rw[take_length,hPs]at h
   unfold qgb.j10
   refine qkn (n:=b'.len) rfl (by omega) (qbe ?_)
   exact⟨rfl,hin false _ _ _ ⟨rfl,λe=>(by cases e),λ_=>h⟩ (by decide)⟩
theorem qhcb:qvg prog 79=true:=by kernel_rfl
theorem qtx:qvg prog 80=true:=by kernel_rfl
attribute [local irreducible] cvL qvg
def dfI(xs:List Int)(L:List Tk):Nat->List Bool
 |0=>sdB xs
 |1=>pickB (sdB xs) (fxB L)
 |_=>dfB xs L
abbrev dfV:List Value:=[.func (.func 79) ⟨[]⟩ ⟨[]⟩,.func (.func 80) ⟨[]⟩ ⟨[]⟩]
theorem qsc.loop{L:List Tk}{kb:Nat}{s' A B out t19:Sl}(h:St F0 w0 w (rdA 1 out (u8s (bytes (sdB xs)))::rdA 1 t19 dfV::qqb kb [.slice s'.a s'.len s'.cap,.slice A.a A.len A.cap,.slice B.a B.len B.cap]::rdA 1 A (ivs .i64 (litC L))::rdA 1 B (ivs .i64 (disC L))::rdA 3 s' (tks L)::ps))
 (h19:t19.len=2) (ho1:out.len=byN (sdB xs)) (ho2:out.cap=out.len) (hok:∀t∈L,tkOk t) (hL:L.length<=1000000)
 (hk:∀t w',t.len=byN (dfB xs L)->t.cap=t.len->St F0 w0 w' (rdA 1 t (u8s (bytes (dfB xs L)))::ps)->K (.returned (.slice t.a t.len t.cap)) w'):
 qsc.j4 (some ⟨kb,0,none⟩) out t19 2 0 (λv w'=>K (.returned v) w') w:=by
 unfold qsc.j4
 refine qug (λ(i:Nat) (o:Sl) (i':Int) w'=>i'=i/\i<=2/\o.len=byN (dfI xs L i)/\o.cap=o.len/\St F0 w0 w' (rdA 1 o (u8s (bytes (dfI xs L i)))::rdA 1 t19 dfV::qqb kb [.slice s'.a s'.len s'.cap,.slice A.a A.len A.cap,.slice B.a B.len B.cap]::rdA 1 A (ivs .i64 (litC L))::rdA 1 B (ivs .i64 (disC L))::rdA 3 s' (tks L)::ps)) (λi=>2-i) 0 ⟨rfl,by decide,ho1,ho2,h⟩ ?_
 clear h ho1 ho2
 rintro i o i' wL I μ ⟨rfl,hi,ho1,ho2,h⟩ hin
 unfold qsc.b1
 refine quc (λg=>?_) (λg=>?_)
 ·have hr:=h.rdb t19
  refine hr.ix (by decide) (by omega) (by omega) λa ha=>?_
  have ei:((i:Int)).toNat*1=i:=by omega
  rw[ei]
  have pick:∀(E:List Bool) (t:Sl) w,dfI xs L (i+1)=pickB (dfI xs L i) E->t.len=byN E->t.cap=t.len->St F0 w0 w (rdA 1 t (u8s (bytes E))::rdA 1 o (u8s (bytes (dfI xs L i)))::rdA 1 t19 dfV::qqb kb [.slice s'.a s'.len s'.cap,.slice A.a A.len A.cap,.slice B.a B.len B.cap]::rdA 1 A (ivs .i64 (litC L))::rdA 1 B (ivs .i64 (disC L))::rdA 3 s' (tks L)::ps)->
   br (decide ((((t.len:Nat):Int):Int)<((o.len:Nat):Int))) (lt (i64.wrap ((i:Int)+1)) λx9=>((some ⟨kb,0,none⟩:Option Addr)=some ⟨kb,0,none⟩/\t19=t19/\(2:Int)=2)/\I t x9 w/\μ t x9 w<μ o (i:Int) wL)
    (lt (i64.wrap ((i:Int)+1)) λx9=>((some ⟨kb,0,none⟩:Option Addr)=some ⟨kb,0,none⟩/\t19=t19/\(2:Int)=2)/\I o x9 w/\μ o x9 w<μ o (i:Int) wL):=by
   intro E t w he h1 h2 h
   unfold pickB at he
   refine quc (λg2=>?_) (λg2=>?_)
   ·rw[if_pos (by omega)]at he
    refine qm (qd (by omega) (by omega)) ?_
    exact⟨⟨rfl,rfl,rfl⟩,hin (i+1) _ _ _ ⟨by omega,by omega,by rw[he];exact h1,h2,by rw[he];exact h.tail λ_ _ _ h=>h.drop⟩ (by omega)⟩
   ·rw[if_neg (by omega)]at he
    refine qm (qd (by omega) (by omega)) ?_
    exact⟨⟨rfl,rfl,rfl⟩,hin (i+1) _ _ _ ⟨by omega,by omega,by rw[he];exact ho1,ho2,by rw[he];exact h.drop⟩ (by omega)⟩
  rcases(show i=0\/i=1 by omega)with rfl|rfl
  ·refine⟨.func (.func 79) ⟨[]⟩ ⟨[]⟩,by rw[hr.cell ha (by decide)];rfl,?_⟩
   refine cvL_i qhcb rfl ?_
   refine qxg.c (kb:=kb) (s:=s') (A:=A) (B:=B) (L:=L) h hok hL λt w h1 h2 h=>⟨t,rfl,?_⟩
   exact pick (fxB L) t w rfl h1 h2 h
  ·refine⟨.func (.func 80) ⟨[]⟩ ⟨[]⟩,by rw[hr.cell ha (by decide)];rfl,?_⟩
   refine cvL_i qtx rfl ?_
   refine qc.c (kb:=kb) (s:=s') (A:=A) (B:=B) (L:=L) h hok hL λt w h1 h2 h=>⟨t,rfl,?_⟩
   exact pick (dynB L) t w rfl h1 h2 h
 ·have:i=2:=by omega
  subst this
  unfold qsc.j3
  exact hk o wL ho1 ho2 (h.tail λ_ _ _ h=>h.drop.drop.drop.drop.drop)
theorem qsc.c{e:Int}(h:St F0 w0 w ps)[Rdb F0 w0 s ps 1 (u8s xs)](hb:∀x∈xs,0<=x/\x<256)(hl:xs.length<65536)(hc:s.len<=s.cap)
 (hk:∀t w',t.len=byN (qih xs e)->t.cap=t.len->St F0 w0 w' (rdA 1 t (u8s (bytes (qih xs e)))::ps)->K (.returned (.slice t.a t.len t.cap)) w'):Calls prog 63 ⟨[.slice s.a s.len s.cap,.int .i64 e]⟩ w K:=by
 have hls:=(h.rdb s).1
 rw[qk]at hls
 have htl:=qnrb xs e
 have hok:=(qqt xs e).tkOk hb
 refine qdc (qsc.ok _ _ _ _ ?_)
 unfold qsc qsc.j1
 refine quc (λg=>by omega) (λg=>?_)
 refine qfd.c (s:=s) h hb hc (by omega) λs' w h1 h2 h=>⟨s',rfl,?_⟩
 refine qsd.c (s:=s') (L:=tkF xs e) h hok (by omega) λkb A B w hA hB h=>⟨_,rfl,?_⟩
 refine qgb.c (s:=s) (xs:=xs) h hb hl hc λout w ho1 ho2 h=>⟨out,rfl,?_⟩
 unfold qsc.j2
 refine h.new λnb w h=>?_
 have h:St F0 w0 w (qqb nb dfV::rdA 1 out (u8s (bytes (sdB xs)))::qqb kb [.slice s'.a s'.len s'.cap,.slice A.a A.len A.cap,.slice B.a B.len B.cap]::rdA 1 A (ivs .i64 (litC (tkF xs e)))::rdA 1 B (ivs .i64 (disC (tkF xs e)))::rdA 3 s' (tks (tkF xs e))::ps):=h
 have h:=h.blkrd (n:=2) rfl
 exact qsc.loop (t19:=⟨some ⟨nb,0,none⟩,2,2⟩) h.at1 rfl ho1 ho2 hok (by omega) hk
end
end
section
attribute [local irreducible] apK cpK mkK br
theorem qdu(xs:List Int)(e:Int):((qih xs e).length+7)/8<=5+xs.length:=qltb xs (tkF xs e)
attribute [local irreducible] qih
section
variable {F0:List Nat}{w0 w:World}{ps:List As}{s:Sl}{xs:List Int}{K:Ending->World->Prop}
theorem qql.c{e:Int}(h:St F0 w0 w ps)[Rdb F0 w0 s ps 1 (u8s xs)](hb:∀x∈xs,0<=x/\x<256)(hl:xs.length<65536)(hc:s.len<=s.cap)
 (hk:∀t w',t.len=(frm xs (qih xs e)).length->t.cap=t.len->St F0 w0 w' (rdA 1 t (u8s (frm xs (qih xs e)))::ps)->K (.returned (.slice t.a t.len t.cap)) w'):Calls prog 41 ⟨[.slice s.a s.len s.cap,.int .i64 e]⟩ w K:=by
 have hls:=(h.rdb s).1
 rw[qk]at hls
 have hpl:(bytes (qih xs e)).length=((qih xs e).length+7)/8:=qfp _
 have hple:=qdu xs e
 refine qdc (qql.ok _ _ _ _ ?_)
 unfold qql
 refine quc (λg=>by omega) (λg=>?_)
 refine h.new λnb w h=>?_
 have h:St F0 w0 w (qqb nb (u8s [120,156])::ps):=h
 have h:=h.ownB (n:=2) rfl
 refine qsc.c (s:=s) (xs:=xs) h hb hl hc λr w h1 h2 h=>⟨r,rfl,?_⟩
 refine h.appI (s:=⟨some ⟨nb,0,none⟩,2,2⟩) (s2:=r) (by rw[hpl];show 2+_<=_;omega) λt w h=>?_
 refine qsl.c (s:=s) h hb (by omega) λw h=>⟨_,rfl,?_⟩
 have ha:=adV_b xs
 refine qm (qd (by omega) (by omega)) ?_
 refine qfi.d (s:=t) (xs:=[120,156]++bytes (qih xs e)) h (by rw[length_append,hpl];show 2+_<=_;omega) λu w h3 h4 h=>⟨u,rfl,?_⟩
 have ef:[120,156]++bytes (qih xs e)++beJ 4 4 (adV xs)=frm xs (qih xs e):=rfl
 rw[ef]at h
 refine hk u w ?_ h4 h.sub
 rw[h3,qrp,length_append,hpl]
 rfl
end
end
section
section
variable {F0:List Nat}{w0 w:World}{ps rest:List As}{P:Program}{e:TypeId}{z:Value}{s s2:Sl}
theorem St.appF{k:IntKind}{zs ys:List Int}{K:Sl->World->Prop}[he:Elt P e z](h:St F0 w0 w ps)[Rdb F0 w0 s ps 1 (ivs k zs)][Rdb F0 w0 s2 ps 1 (ivs k ys)](hc:s.cap=s.len)(hy:0<ys.length)(hlen:zs.length+ys.length<=1099511627776)
 (hk:∀s' w',St F0 w0 w' (qcc 1 s' (ivs k (zs++ys))::ps)->K s' w'):rdO w s2.a (s2.len*1) λc=>apK P e w s.a s.len s.cap s2.len c K:=by
 have hr:=h.rdb s
 have hr2:=h.rdb s2
 have hl:=hr.1
 have hl2:=hr2.1
 rw[qk]at hl hl2
 refine hr2.rdO (by rw[qk];omega) ?_
 obtain⟨i,h1,h2,h3,h4⟩:=he.info
 have hbo:P.bytesOf e=i.bytes:=by simp[Program.bytesOf,h1]
 unfold apK qmh
 simp only[h1,h2]
 rw[if_neg (by omega)]
 refine⟨⟨?_,by rw[hbo];exact h3⟩,?_⟩
 ·rw[hbo]
  have:=qicb (s.len+s2.len) s.cap (by omega) (by omega)
  refine le_trans (Nat.mul_le_mul this h4) ?_
  rw[show(2:Nat)^48=281474976710656 from rfl]
  omega
 ·refine hr.rdO (by rw[qk];omega) λc hcc=>?_
  have hbl:=Blk.new w.drew (ivs k zs++ivs k ys++qqm (c-(s.len+s2.len)) (zc P e).toList) e
  have e1:((⟨ivs k zs⟩:Array Value)++(⟨ivs k ys⟩:Array Value)++⟨qqm (c-(s.len+s2.len)) (zc P e).toList⟩)=⟨ivs k zs++ivs k ys++qqm (c-(s.len+s2.len)) (zc P e).toList⟩:=by
   apply Array.ext';simp
  rw[e1]
  refine hk _ _ (h.add (f':=[w.heap.size]) (((Mod.drew w).trans (Mod.alloc w.drew _) (λ_ hx=>by cases hx)).mono (λ_ hx=>by cases hx)) ?_ ?_)
  ·rw[<-qgu]
   refine Or.inr ⟨w.heap.size,_,rfl,hbl,?_,?_,rfl⟩
   ·show _=(s.len+s2.len)*1
    rw[length_append,qk,qk];omega
   ·show _=c*1
    rw[length_append,length_append,qk,qk,qqi,he.zc]
    show _+(c-(s.len+s2.len))*1=_
    omega
  ·intro x hx
   have:x=w.heap.size:=by simpa using hx
   exact Or.inr (by omega)
end
section
variable {F0:List Nat}{w0 w:World}{ps rest:List As}{b o:Nat}{l l':List Value}
theorem add0(b o:Nat):Addr.add ⟨b,0,none⟩ o=⟨b,o,none⟩:=by rw[qyf,zero_add]
theorem St.gI{k:IntKind}{n:Int}{K:Int->Prop}(h:St F0 w0 w ps)[PkB b ps l rest][g:GetL l o (.int k n)](hk:K n):ldI k w (Addr.add ⟨b,0,none⟩ o) K:=by rw[add0];exact(h.toB b).blk.ldI g.get hk
theorem St.gP{n:Option Addr}{K:Option Addr->Prop}(h:St F0 w0 w ps)[PkB b ps l rest][g:GetL l o (.pointer n)](hk:K n):ldP w (Addr.add ⟨b,0,none⟩ o) K:=by rw[add0];exact(h.toB b).blk.ldP g.get hk
theorem St.gL{a:Option Addr}{n c:Nat}{K:Sl->Prop}(h:St F0 w0 w ps)[PkB b ps l rest][g:GetL l o (.slice a n c)](hk:K ⟨a,n,c⟩):ldL w (Addr.add ⟨b,0,none⟩ o) K:=by rw[add0];exact(h.toB b).blk.ldL (n:=⟨a,n,c⟩) g.get hk
theorem St.gst{v:Value}{K:World->Prop}(h:St F0 w0 w ps)[PkB b ps l rest][g:SetL l o v l'](hs:qfe v)(hk:∀w',St F0 w0 w' (qqb b l'::rest)->K w'):Go.Proofs.YtdccpphmkfaioaaGreat.st w (Addr.add ⟨b,0,none⟩ o) v K:=by
 rw[add0];exact(h.toB b).st g.lt hs λw' h=>hk w' (by rw[g.set]at h;exact h)
end
theorem Blk.rdAt{w:World}{b o n c:Nat}{l:List Value}(h:Blk w b l)(hn:o+n<=l.length):Rd w 1 ⟨some ⟨b,o,none⟩,n,c⟩ ((l.drop o).take n):=by
 refine⟨by rw[length_take,length_drop];show _=n*1;omega,λi hi=>⟨⟨b,o,none⟩,rfl,?_⟩⟩;rw[length_take,length_drop]at hi;rw[qyf,h.rb.cell,List.getElem?_take,if_pos (by omega),List.getElem?_drop]
end
section
attribute [local irreducible] apK cpK mkK br qih
structure En where
 kind:Int
 size:Int
 back:Int
 base:List Int
 hb:base.length=20
 data:Sl
 at':Int
 len:Int
 crc:Int
def enC(e:En):List Value:=[.int .i64 e.kind,.int .i64 e.size,.int .i64 e.back]++(ivs .u8 e.base++[.slice e.data.a e.data.len e.data.cap,.int .i64 e.at',.int .i64 e.len,.int .u32 e.crc])
def b20:List Int:=replicate 20 0
def en0:En:=⟨0,0,0,b20,rfl,⟨none,0,0⟩,0,0,0⟩
theorem qie(e:En):(enC e).length=27:=by simp[enC,e.hb]
theorem qukb(e:En):∀v∈(⟨enC e⟩:Array Value),qfe v:=by
 intro v hv;have hv:v∈enC e:=by simpa using hv
 unfold enC at hv;rcases mem_append.1 hv with hv|hv
 ·simp at hv;rcases hv with rfl|rfl|rfl<;>trivial
 ·rcases mem_append.1 hv with hv|hv
  ·exact qpe v (by simpa using hv)
  ·simp at hv;rcases hv with rfl|rfl|rfl|rfl<;>trivial
theorem qbo(e:En)(j:Nat):(enC e)[23+j]?=([.slice e.data.a e.data.len e.data.cap,.int .i64 e.at',.int .i64 e.len,.int .u32 e.crc]:List Value)[j]?:=by
 unfold enC;rw[getElem?_append_right (by simp;omega),getElem?_append_right (by simp[e.hb];omega)];congr 1;simp[e.hb];omega
instance (e:En):GetL (enC e) 0 (.int .i64 e.kind):=⟨rfl⟩
instance (e:En):GetL (enC e) 1 (.int .i64 e.size):=⟨rfl⟩
instance (e:En):GetL (enC e) 2 (.int .i64 e.back):=⟨rfl⟩
instance (e:En):GetL (enC e) 23 (.slice e.data.a e.data.len e.data.cap):=⟨qbo e 0⟩
instance (e:En):GetL (enC e) 24 (.int .i64 e.at'):=⟨qbo e 1⟩
instance (e:En):GetL (enC e) 25 (.int .i64 e.len):=⟨qbo e 2⟩
instance (e:En):GetL (enC e) 26 (.int .u32 e.crc):=⟨qbo e 3⟩
theorem qubb{l m:List Value}{i j:Nat}{v:Value}(h:i=l.length+j):(l++m).set i v=l++m.set j v:=by
 subst h;rw[List.set_append_right _ _ (by omega)];congr 2;omega
instance (e:En)(n:Int):SetL (enC e) 0 (.int .i64 n) (enC {e with kind:=n}):=⟨rfl,by rw[qie];decide⟩
instance (e:En)(n:Int):SetL (enC e) 1 (.int .i64 n) (enC {e with size:=n}):=⟨rfl,by rw[qie];decide⟩
instance (e:En)(n:Int):SetL (enC e) 2 (.int .i64 n) (enC {e with back:=n}):=⟨rfl,by rw[qie];decide⟩
theorem qap(e:En)(j:Nat)(v:Value):(enC e).set (23+j) v=[.int .i64 e.kind,.int .i64 e.size,.int .i64 e.back]++(ivs .u8 e.base++([.slice e.data.a e.data.len e.data.cap,.int .i64 e.at',.int .i64 e.len,.int .u32 e.crc]:List Value).set j v):=by
 unfold enC;rw[qubb (j:=20+j) (by simp;omega),qubb (j:=j) (by simp[e.hb])]
instance (e:En)(a:Option Addr)(n c:Nat):SetL (enC e) 23 (.slice a n c) (enC {e with data:=⟨a,n,c⟩}):=⟨qap e 0 _,by rw[qie];decide⟩
instance (e:En)(n:Int):SetL (enC e) 24 (.int .i64 n) (enC {e with at':=n}):=⟨qap e 1 _,by rw[qie];decide⟩
instance (e:En)(n:Int):SetL (enC e) 25 (.int .i64 n) (enC {e with len:=n}):=⟨qap e 2 _,by rw[qie];decide⟩
instance (e:En)(n:Int):SetL (enC e) 26 (.int .u32 n) (enC {e with crc:=n}):=⟨qap e 3 _,by rw[qie];decide⟩
theorem qzeb(e:En):((enC e).drop 3).take 20=ivs .u8 e.base:=by
 have h3:(enC e).drop 3=ivs .u8 e.base++[.slice e.data.a e.data.len e.data.cap,.int .i64 e.at',.int .i64 e.len,.int .u32 e.crc]:=rfl;rw[h3,List.take_append_of_le_length (by simp[e.hb]),take_of_length_le (by simp[e.hb])]
theorem qfw(e:En)(zs:List Int)(hz:zs.length=20):(enC e).take 3++ivs .u8 zs++(enC e).drop 23=enC {e with base:=zs,hb:=hz}:=by
 have h3:(enC e).take 3=[.int .i64 e.kind,.int .i64 e.size,.int .i64 e.back]:=rfl;have hd:(enC e).drop 23=[.slice e.data.a e.data.len e.data.cap,.int .i64 e.at',.int .i64 e.len,.int .u32 e.crc]:=by
  rw[show 23=3+20 from rfl,<-drop_drop];have h4:(enC e).drop 3=ivs .u8 e.base++[.slice e.data.a e.data.len e.data.cap,.int .i64 e.at',.int .i64 e.len,.int .u32 e.crc]:=rfl;rw[h4,drop_left' (by simp[e.hb])]
 rw[h3,hd,append_assoc];rfl
section
variable {F0:List Nat}{w0 w:World}{ps rest r1 r2:List As}{s:Sl}{xs:List Int}{K:Ending->World->Prop}{eb rb:Nat}{e:En}{l:List Value}
theorem St.lE{Q:Array Value->Prop}(h:St F0 w0 w ps)[PkB eb ps (enC e) rest](hk:Q ⟨enC e⟩):ldA w ⟨eb,0,none⟩ 27 Q:=h.lA (b:=eb) (qie e) hk
theorem St.sE{Q:World->Prop}(h:St F0 w0 w ps)[PkB eb ps l rest](hl:l.length=27)(hk:∀w',St F0 w0 w' (qqb eb (enC e)::rest)->Q w'):Go.Proofs.YtdccpphmkfaioaaGreat.stA w ⟨eb,0,none⟩ ⟨enC e⟩ Q:=h.sA (b:=eb) (l':=enC e) hl (qie e) (qukb e) hk
theorem St.cpE{Q:Array Value->World->Prop}(h:St F0 w0 w ps)[PkB eb ps (enC e) r1][PkB rb ps l r2](hl:l.length=27)(hk:∀w',St F0 w0 w' r2->Q ⟨enC e⟩ w'):
 ldA w ⟨eb,0,none⟩ 27 λc=>c.size=27/\Go.Proofs.YtdccpphmkfaioaaGreat.stA w ⟨rb,0,none⟩ c λw1=>ldA w1 ⟨rb,0,none⟩ 27 λc'=>Q c' w1:=
 h.lE (eb:=eb) ⟨qie e,h.sE (eb:=rb) hl λw h=>h.lE (eb:=rb) (hk w h.drop)⟩
theorem St.rtE{Q:Array Value->World->Prop}(h:St F0 w0 w ps)[PkB rb ps l r2](hl:l.length=27)(hk:∀w',St F0 w0 w' r2->Q ⟨enC e⟩ w'):
 (⟨enC e⟩:Array Value).size=27/\Go.Proofs.YtdccpphmkfaioaaGreat.stA w ⟨rb,0,none⟩ ⟨enC e⟩ λw1=>ldA w1 ⟨rb,0,none⟩ 27 λc'=>Q c' w1:=
 ⟨qie e,h.sE (eb:=rb) hl λw h=>h.lE (eb:=rb) (hk w h.drop)⟩
theorem zcE:zc prog 45=⟨enC en0⟩:=by kernel_rfl
theorem zcF:zc prog 42=⟨enC en0⟩:=by kernel_rfl
def qif(k back:Nat)(base:List Int):List Int:=if k=6 then qng back else if k=7 then base else[]
def qjn(k back:Nat)(base xs:List Int)(eff:Int):List Int:=hdE k xs.length++(qif k back base++frm xs (qih xs eff))
theorem qajb(v:Nat):∀x∈qng v,0<=x/\x<256:=by
 have:∀u,∀x∈qqj u,0<=x/\x<256:=by
  intro u;induction u using qqj.induct with
  |case1=>rw[qqj,dif_pos rfl];simp
  |case2 u h ih=>
   rw[qqj,dif_neg h];intro y hy;rcases mem_append.1 hy with hy|hy
   ·exact ih y hy
   ·have:=mem_singleton.1 hy;omega
 intro x hx;unfold qng at hx;rcases mem_append.1 hx with hx|hx
 ·exact this _ x hx
 ·have:=mem_singleton.1 hx;omega
theorem qwv{v:Nat}(hv:v<9223372036854775808):1<=(qng v).length/\(qng v).length<=10:=by
 have:=qys 9 (v/128) (by rw[show(128:Nat)^9=9223372036854775808 by decide];omega);rw[qng,length_append,length_singleton];omega
theorem qieb{k back:Nat}{base:List Int}(hb:base.length=20)(hv:back<9223372036854775808):(qif k back base).length<=20:=by
 have:=(qwv hv).2;unfold qif;split
 ·omega
 ·split
  ·omega
  ·simp
theorem qrsb{k back:Nat}{base:List Int}(hb:∀x∈base,0<=x/\x<256):∀x∈qif k back base,0<=x/\x<256:=by
 unfold qif;split
 ·exact qajb _
 ·split
  ·exact hb
  ·simp
theorem qtkb{k back:Nat}{base xs:List Int}(hk:k<8)(hb:∀x∈base,0<=x/\x<256)(eff:Int):∀x∈qjn k back base xs eff,0<=x/\x<256:=by
 intro x hx;rcases mem_append.1 hx with hx|hx
 ·exact hdE_ok hk _ x hx
 ·rcases mem_append.1 hx with hx|hx
  ·exact qrsb hb x hx
  ·exact frm_ok _ _ x hx
theorem qyeb{k back:Nat}{base xs:List Int}(hb:base.length=20)(hv:back<9223372036854775808)(hx:xs.length<=16384)(eff:Int):(qjn k back base xs eff).length<=xs.length+34/\1<=(qjn k back base xs eff).length:=by
 have h1:=qjab k hx;have h0:=(qas k (n:=xs.length) (by omega)).1;have h2:=qieb (k:=k) hb hv;have h3:=qrp xs (qih xs eff);have h4:=qdu xs eff;unfold qjn;rw[length_append,length_append];omega
theorem qgc.bad{eff:Int}(h:St F0 w0 w ps)(hx:e.data.len<=40000)
 (hb:16384<e.data.len\/e.kind<1\/7<e.kind\/e.kind=5\/(e.kind=6/\e.back<1))
 (hk:∀w',St F0 w0 w' ps->K (.returned (.tuple ⟨[.slice none 0 0,.int .i64 1]⟩)) w'):Calls prog 17 ⟨[.agg ⟨enC e⟩,.int .i64 eff]⟩ w K:=by
 refine qdc (qgc.ok _ _ _ _ ?_)
 unfold qgc
 refine h.new λeb w h=>?_
 have h:St F0 w0 w (qqb eb (enC e)::ps):=h
 unfold qgc.j1
 refine h.gL ?_
 refine quc (λg=>hk w h.drop) λg=>?_
 have g:¬((e.data.len:Nat):Int)>16384:=g
 refine h.gI (h.gL ?_)
 by_cases hkr:e.kind<1\/7<e.kind
 ·refine qec.bad (s:=⟨none,0,0⟩) (by omega) ?_
  refine⟨⟨none,0,0⟩,1,rfl,?_⟩
  unfold qgc.j2
  refine qjh (by decide) ?_
  unfold qgc.j4
  exact qgp (hk w h.drop)
 ·obtain⟨k,hkk⟩:∃k:Nat,e.kind=k:=⟨e.kind.toNat,by omega⟩
  have h:=h.nil 1
  have h:St F0 w0 w (qcc 1 ⟨none,0,0⟩ (u8s [])::qqb eb (enC e)::ps):=h
  rw[hkk]
  refine qec.c (s:=⟨none,0,0⟩) (xs:=[]) (k:=k) (n:=e.data.len) h (by simp) (by omega) (by omega) (by omega) λt w _ _ h=>⟨t,0,rfl,?_⟩
  unfold qgc.j2
  refine qze (by decide) ?_
  refine h.gI ?_
  refine qye (λg5=>?_) λg5=>?_
  ·unfold qgc.j4
   exact qgp (hk w h.sub)
  ·have g5:¬e.kind=5:=by simpa using g5
   refine h.gI ?_
   refine qye (λg6=>?_) λg6=>?_
   ·have g6:e.kind=6:=by simpa using g6
    refine h.gI ?_
    unfold qgc.j4
    refine qjh (by simp;omega) (hk w h.sub)
   ·have g6:¬e.kind=6:=by simpa using g6
    omega
theorem qgc.c{eff:Int}{k b:Nat}(h:St F0 w0 w ps)[Rdb F0 w0 e.data ps 1 (u8s xs)](hx:∀x∈xs,0<=x/\x<256)(hL:xs.length<=16384)(hc:e.data.len<=e.data.cap)
 (hkk:e.kind=k) (h1:1<=k) (h7:k<=7) (h5:k≠5) (hbk:k=6->e.back=b/\1<=b) (hb9:b<9223372036854775808)
 (hk:∀t w',t.len=(qjn k b e.base xs eff).length->t.cap=t.len->St F0 w0 w' (rdA 1 t (u8s (qjn k b e.base xs eff))::ps)->K (.returned (.tuple ⟨[.slice t.a t.len t.cap,.int .i64 0]⟩)) w'):Calls prog 17 ⟨[.agg ⟨enC e⟩,.int .i64 eff]⟩ w K:=by
 have hl:=(h.rdb e.data).1
 rw[qk,mul_one]at hl
 have hdl:=qjab k hL
 have hbe:=e.hb
 refine qdc (qgc.ok _ _ _ _ ?_)
 unfold qgc
 refine h.new λeb w h=>?_
 have h:St F0 w0 w (qqb eb (enC e)::ps):=h
 unfold qgc.j1
 refine h.gL ?_
 refine quc (λg=>by have g:((e.data.len:Nat):Int)>16384:=g;omega) λg=>?_
 refine h.gI (h.gL ?_)
 have h:=h.nil 1
 have h:St F0 w0 w (qcc 1 ⟨none,0,0⟩ (u8s [])::qqb eb (enC e)::ps):=h
 rw[hkk]
 refine qec.c (s:=⟨none,0,0⟩) (xs:=[]) (k:=k) (n:=e.data.len) h (by simp) (by omega) (by omega) (by omega) λt w ht1 ht2 h=>⟨t,0,rfl,?_⟩
 rw[nil_append,<-hl]at h
 have hfl:=qrp xs (qih xs eff)
 have hpl:=qdu xs eff
 have hend:∀(o:Sl) w,St F0 w0 w (qcc 1 o (u8s (hdE k xs.length++(qif k b e.base++frm xs (qih xs eff))))::qqb eb (enC e)::ps)->
  Calls prog 20 ⟨[.slice o.a o.len o.cap]⟩ w λe8 w9=>∃r10:Sl,e8= .returned (.slice r10.a r10.len r10.cap)/\(λv w'=>K (.returned v) w') (.tuple ⟨[.slice r10.a r10.len r10.cap,.int .i64 0]⟩) w9:=by
  intro o w h
  refine qad.d h λs' h1 h2 h=>⟨s',rfl,?_⟩
  have h:St F0 w0 w (rdA 1 s' (u8s (qjn k b e.base xs eff))::qqb eb (enC e)::ps):=h
  exact hk s' w h1 h2 h.sub
 have finF:∀(o:Sl) (M:List Int) w,M.length<=20->M=qif k b e.base->o.cap=o.len->St F0 w0 w (rdA 1 o (u8s (hdE k xs.length++M))::qqb eb (enC e)::ps)->qgc.j3 eff ⟨eb,0,none⟩ o (λv w'=>K (.returned v) w') w:=by
  intro o M w hM eM ho h;unfold qgc.j3;refine h.gL ?_;refine qql.c (s:=e.data) (xs:=xs) h hx (by omega) hc λr w hr1 hr2 h=>⟨r,rfl,?_⟩;refine h.appF (s:=o) (s2:=r) ho (by omega) (by rw[length_append];omega) λt w h=>?_;rw[append_assoc,eM]at h;exact hend t w h.sub
 have finO:∀(o:Sl) (M:List Int) w,M.length<=20->M=qif k b e.base->St F0 w0 w (qcc 1 o (u8s (hdE k xs.length++M))::qqb eb (enC e)::ps)->qgc.j3 eff ⟨eb,0,none⟩ o (λv w'=>K (.returned v) w') w:=by
  intro o M w hM eM h;unfold qgc.j3;refine h.gL ?_;refine qql.c (s:=e.data) (xs:=xs) h hx (by omega) hc λr w hr1 hr2 h=>⟨r,rfl,?_⟩;refine h.appI (s:=o) (s2:=r) (by rw[length_append];omega) λt w h=>?_;rw[append_assoc,eM]at h;exact hend t w h.sub
 unfold qgc.j2
 refine qze (by decide) ?_
 refine h.gI ?_
 refine qze (by simp;omega) ?_
 refine h.gI ?_
 have hml:=qwv hb9
 by_cases k6:k=6
 ·obtain⟨hb1,hb2⟩:=hbk k6
  have em:qif k b e.base=qng b:=if_pos k6
  have hmid:(qif k b e.base).length<=20:=qieb hbe hb9
  refine qjh (by simp;omega) ?_
  refine h.gI ?_
  unfold qgc.j4
  refine qze (by simp;omega) ?_
  refine h.gI ?_
  refine qjh (by simp;omega) ?_
  refine h.gI ?_
  rw[hb1]
  refine qqc.c (s:=t) (xs:=hdE k xs.length) (n:=b) h (by omega) hb9 λo w ho1 ho2 h=>⟨o,rfl,?_⟩
  exact finF o (qng b) w (by omega) em.symm ho2 h.sub
 ·refine qze (by simp;omega) ?_
  unfold qgc.j4
  refine qze rfl ?_
  refine h.gI ?_
  refine qze (by simp;omega) ?_
  refine h.gI ?_
  by_cases k7:k=7
  ·have em:qif k b e.base=e.base:=by unfold qif;rw[if_neg k6,if_pos k7]
   refine qjh (by simp;omega) (qbe ?_)
   haveI:∀ps,Rdb F0 w0 ⟨some ⟨eb,3,none⟩,20,20⟩ (qqb eb (enC e)::ps) 1 (u8s e.base):=λps=>⟨λh=>by
    have:=h.blk.rdAt (o:=3) (n:=20) (c:=20) (by rw[qie];decide);rw[qzeb]at this
    exact this⟩
   refine h.appF (s:=t) (s2:=⟨some ⟨eb,3,none⟩,20,20⟩) ht2 (by omega) (by omega) λo w h=>?_
   exact finO o e.base w (by omega) em.symm h.sub
  ·have em:qif k b e.base=[]:=by unfold qif;rw[if_neg k6,if_neg k7]
   refine qze (by simp;omega) ?_
   exact finF t [] w (by simp) em.symm ht2 (by rw[append_nil];exact h.sub)
end
end
def cpoly:Nat:=3988292384
def cs(v:Nat):Nat:=if v%2=1 then(v/2)^^^cpoly else v/2
def csN:Nat->Nat->Nat
 |0,v=>v
 |n+1,v=>csN n (cs v)
theorem qutb(a b v:Nat):csN (a+b) v=csN b (csN a v):=by
 induction a generalizing v with
 |zero=>simp[csN]
 |succ a ih=>rw[Nat.succ_add,csN,csN,ih]
theorem qcrb(a b:Nat):(a^^^b)%2=(a%2+b%2)%2:=by
 have h:=testBit_xor a b 0;simp only[Nat.testBit_zero]at h;have ha:=Nat.mod_two_eq_zero_or_one a;have hb:=Nat.mod_two_eq_zero_or_one b;have hc:=Nat.mod_two_eq_zero_or_one (a^^^b);rcases ha with ha|ha<;>rcases hb with hb|hb<;>rcases hc with hc|hc<;>simp[ha,hb,hc]at h|-
theorem qomb(a b:Nat):(a^^^b)/2=a/2^^^b/2:=by
 apply Nat.eq_of_testBit_eq;intro i;rw[testBit_xor,<-Nat.testBit_succ,<-Nat.testBit_succ,<-Nat.testBit_succ,testBit_xor]
theorem qnmb(a b c d:Nat):(a^^^b)^^^(c^^^d)=(a^^^c)^^^(b^^^d):=by
 rw[xor_assoc,<-xor_assoc b c d,Nat.xor_comm b c,xor_assoc c b d,<-xor_assoc]
theorem cs_xor(a b:Nat):cs (a^^^b)=cs a^^^cs b:=by
 unfold cs;rw[qcrb,qomb];have ha:=Nat.mod_two_eq_zero_or_one a;have hb:=Nat.mod_two_eq_zero_or_one b;rcases ha with ha|ha<;>rcases hb with hb|hb<;>simp only[ha,hb]
 ·simp
 ·simp[xor_assoc]
 ·simp only[Nat.add_zero,if_true,Nat.zero_ne_one,if_false,Nat.one_mod,Nat.mod_succ];rw[xor_assoc,Nat.xor_comm (b/2),<-xor_assoc]
 ·simp only[if_true];rw[if_neg (by decide),qnmb,Nat.xor_self,xor_zero]
theorem qttb(n a b:Nat):csN n (a^^^b)=csN n a^^^csN n b:=by
 induction n generalizing a b with
 |zero=>rfl
 |succ n ih=>rw[csN,csN,csN,cs_xor,ih]
theorem qty(k:Nat):cs (2*k)=k:=by
 unfold cs;rw[if_neg (by omega)];omega
theorem csN_16(k:Nat):csN 4 (16*k)=k:=by
 show cs (cs (cs (cs (16*k))))=k;rw[show 16*k=2*(2*(2*(2*k)))by omega,qty,qty,qty,qty]
theorem qrrb(v:Nat):v=16*(v/16)^^^v%16:=by
 apply Nat.eq_of_testBit_eq;intro i;rw[testBit_xor,show 16*(v/16)=2^4*(v/2^4)from rfl,show v%16=v%2^4 from rfl,Nat.testBit_mod_two_pow,Nat.testBit_two_pow_mul,Nat.testBit_div_two_pow];by_cases h:i<4
 ·simp[h,show ¬4<=i by omega]
 ·simp[h,show 4<=i by omega,show i-4+4=i by omega]
theorem qffb(v:Nat):csN 4 v=(v/16)^^^csN 4 (v%16):=by
 have h:=qttb 4 (16*(v/16)) (v%16);rw[<-qrrb,csN_16]at h;exact h
def crcF(v:Nat)(bs:List Nat):Nat:=bs.foldl (λv b=>csN 8 (v^^^b)) v
theorem csN_8(v:Nat):csN 8 v=(csN 4 v/16)^^^csN 4 (csN 4 v%16):=by
 rw[show 8=4+4 from rfl,qutb,qffb (csN 4 v)]
section
set_option maxRecDepth 100000
def qlc.j2(t0 t_1:Addr)(Q:VWP)(w:World):Prop:=ldA w t_1 16 λc1=>(c1).size=16/\stA w t0 c1 λw2=>ldA w2 t0 16 λc3=>Q (.agg c3) w2
def qlc.j5(t0 t_1:Addr)(t4:Int)(Q:VWP)(nx1:Addr->Addr->Int->WP)(w:World):Prop:=lt (i64.wrap (t4+1)) λx4=>nx1 t0 t_1 x4 w
def qlc.j7(t0 t_1:Addr)(i_2:Int)(v_3 t4:Int)(Q:VWP)(nx1:Addr->Addr->Int->WP)(w:World):Prop:=ixA t_1 16 i_2 1 λa5=>st w a5 (.int .u32 v_3) λw6=>qlc.j5 t0 t_1 t4 Q nx1 w6
def qlc.b2(t0 t_1:Addr)(i_2:Int)(t4 v_3 t9:Int)(Q:VWP)(nx1:Addr->Addr->Int->WP)(nx2:Addr->Addr->Int->Int->Int->Int->WP)(w:World):Prop:=br (decide (t9<4)) ((0:Int)<=1/\lt (qal .u32 v_3 1) λx7=>lt (qdj .u32 v_3 1) λx8=>lt (u32.wrap (0-x8)) λx9=>lt (qdj .u32 x9 3988292384) λx10=>lt (qlk .u32 x7 x10) λx11=>lt (i64.wrap (t9+1)) λx12=>nx2 t0 t_1 i_2 t4 x11 x12 w) (qlc.j7 t0 t_1 i_2 v_3 t4 Q nx1 w)
def qlc.l2(t0 t_1:Addr)(i_2:Int)(t4 v_3 t9:Int)(Q:VWP)(nx1:Addr->Addr->Int->WP)(w:World):Prop:=∃(I:Int->Int->WP) (μ:Int->Int->World->Nat),I v_3 t9 w/\∀v_3:Int,∀t9:Int,∀w:World,I v_3 t9 w->qlc.b2 t0 t_1 i_2 t4 v_3 t9 Q nx1 (λt0' t_1' i_2' t4' v_3' t9' w'=>(t0'=t0/\t_1'=t_1/\i_2'=i_2/\t4'=t4)/\I v_3' t9' w'/\μ v_3' t9' w'<μ v_3 t9 w) w
def qlc.j8(t0 t_1:Addr)(i_2:Int)(v_3 t4 t9:Int)(Q:VWP)(nx1:Addr->Addr->Int->WP)(w:World):Prop:=qlc.l2 t0 t_1 i_2 t4 v_3 t9 Q nx1 w
def qlc.j6(t0 t_1:Addr)(i_2:Int)(v_3 t4:Int)(Q:VWP)(nx1:Addr->Addr->Int->WP)(w:World):Prop:=qlc.j8 t0 t_1 i_2 v_3 t4 0 Q nx1 w
def qlc.j4(t0 t_1:Addr)(t4:Int)(Q:VWP)(nx1:Addr->Addr->Int->WP)(w:World):Prop:=lt (u32.wrap t4) λx13=>qlc.j6 t0 t_1 t4 x13 t4 Q nx1 w
def qlc.b1(t0 t_1:Addr)(t4:Int)(Q:VWP)(nx1:Addr->Addr->Int->WP)(w:World):Prop:=br (decide (t4<16)) (qlc.j4 t0 t_1 t4 Q nx1 w) (qlc.j2 t0 t_1 Q w)
def qlc.l1(t0 t_1:Addr)(t4:Int)(Q:VWP)(w:World):Prop:=∃(I:Int->WP) (μ:Int->World->Nat),I t4 w/\∀t4:Int,∀w:World,I t4 w->qlc.b1 t0 t_1 t4 Q (λt0' t_1' t4' w'=>(t0'=t0/\t_1'=t_1)/\I t4' w'/\μ t4' w'<μ t4 w) w
def qlc.j3(t0 t_1:Addr)(t4:Int)(Q:VWP)(w:World):Prop:=qlc.l1 t0 t_1 t4 Q w
def qlc.j1(t0 t_1:Addr)(Q:VWP)(w:World):Prop:=qlc.j3 t0 t_1 0 Q w
def qlc(Q:VWP)(w:World):Prop:=nw w (zc prog 215) 215 λa14 w15=>nw w15 (zc prog 215) 215 λa16 w17=>qlc.j1 a14 a16 Q w17
theorem qlc.ok(Q:VWP)(w:World)(h:qlc Q w):Calls prog 146 ⟨[]⟩ w (Ret Q):=
 qhc [.cell 0 215] qde Tryz.func146 rfl rfl rfl rfl (.pr 1 [sA 0,sA 1] (λa b w=>qlc.j1 a b Q w) (.sq [sA 0,sA 1] (λa b w=>qlc.j2 a b Q w) (.sq [sA 0,sA 1,sI 4] (λa b c w=>qlc.j3 a b c Q w) .lf (.bk (.lo [sA 0,sA 1] [sI 4] (λa b c w=>qlc.l1 a b c Q w) (λnx1 a b c w=>qlc.b1 a b c Q nx1 w) λnx1=>(.pr 1 [sA 0,sA 1,sI 4] (λa b c w=>qlc.j4 a b c Q nx1 w) (.sq [sA 0,sA 1,sI 4] (λa b c w=>qlc.j5 a b c Q nx1 w) (.bk (.pr 1 [sA 0,sA 1,sI 2,(3,.I .u32),sI 4] (λa b c d e w=>qlc.j6 a b c d e Q nx1 w) (.sq [sA 0,sA 1,sI 2,(3,.I .u32),sI 4] (λa b c d e w=>qlc.j7 a b c d e Q nx1 w) (.sq [sA 0,sA 1,sI 2,(3,.I .u32),sI 4,sI 9] (λa b c d e f w=>qlc.j8 a b c d e f Q nx1 w) .lf (.bk (.lo [sA 0,sA 1,sI 2,sI 4] [(3,.I .u32),sI 9] (λa b c d e f w=>qlc.l2 a b c d e f Q nx1 w) (λnx2 a b c d e f w=>qlc.b2 a b c d e f Q nx1 nx2 w) λnx2=> .lf))) .lf))) .lf))))) .lf)) (by kernel_rfl) h
def qzf.j2(v_7:Int)(Q:VWP)(w:World):Prop:=
 lt (qlk .u32 (if signed .u32 then -1 else IntKind.max .u32) v_7) λx1=>
 Q (.int .u32 x1) w
def qzf.b1(t_3:Addr)(t12:Sl)(t13 v_7 t14:Int)(Q:VWP)(nx1:Addr->Sl->Int->Int->Int->WP)(w:World):Prop:=br (decide (t14<t13)) (ixS t12.a t12.len t14 1 λa2=>ldI .u8 w a2 λx3=>lt (u32.wrap x3) λx4=>lt (qlk .u32 v_7 x4) λx5=>(0:Int)<=4/\lt (qal .u32 x5 4) λx6=>lt (qdj .u32 x5 15) λx7=>ixA t_3 16 x7 1 λa8=>ldI .u32 w a8 λx9=>lt (qlk .u32 x6 x9) λx10=>(0:Int)<=4/\lt (qal .u32 x10 4) λx11=>lt (qdj .u32 x10 15) λx12=>ixA t_3 16 x12 1 λa13=>ldI .u32 w a13 λx14=>lt (qlk .u32 x11 x14) λx15=>lt (i64.wrap (t14+1)) λx16=>nx1 t_3 t12 t13 x15 x16 w) (qzf.j2 v_7 Q w)
def qzf.l1(t_3:Addr)(t12:Sl)(t13 v_7 t14:Int)(Q:VWP)(w:World):Prop:=∃(I:Int->Int->WP) (μ:Int->Int->World->Nat),I v_7 t14 w/\∀v_7:Int,∀t14:Int,∀w:World,I v_7 t14 w->qzf.b1 t_3 t12 t13 v_7 t14 Q (λt_3' t12' t13' v_7' t14' w'=>(t_3'=t_3/\t12'=t12/\t13'=t13)/\I v_7' t14' w'/\μ v_7' t14' w'<μ v_7 t14 w) w
def qzf.j3(t_3:Addr)(v_7:Int)(t12:Sl)(t13:Int)(t14:Int)(Q:VWP)(w:World):Prop:=qzf.l1 t_3 t12 t13 v_7 t14 Q w
def qzf.j1(b_2:Sl)(t_3:Addr)(v_7:Int)(Q:VWP)(w:World):Prop:=qzf.j3 t_3 v_7 b_2 (b_2.len:Int) 0 Q w
def qzf(t_0:(Array Value))(crc_1:Int)(b_2:Sl)(Q:VWP)(w:World):Prop:=
 nw w t_0 215 λa17 w18=>
 lt (qlk .u32 (if signed .u32 then -1 else IntKind.max .u32) crc_1) λx19=>
 qzf.j1 b_2 a17 x19 Q w18
theorem qzf.ok(t_0:(Array Value))(crc_1:Int)(b_2:Sl)(Q:VWP)(w:World)(h:qzf t_0 crc_1 b_2 Q w):Calls prog 145 ⟨[.agg t_0,.int .u32 crc_1,sV b_2]⟩ w (Ret Q):=
 qhc [.tmp 6] qde Tryz.func145 rfl rfl rfl rfl (.pr 1 [sL 2,sA 3,(7,.I .u32)] (λa b c w=>qzf.j1 a b c Q w) (.sq [(7,.I .u32)] (λa w=>qzf.j2 a Q w) (.sq [sA 3,(7,.I .u32),sL 12,sI 13,sI 14] (λa b c d e w=>qzf.j3 a b c d e Q w) .lf (.bk (.lo [sA 3,sL 12,sI 13] [(7,.I .u32),sI 14] (λa b c d e w=>qzf.l1 a b c d e Q w) (λnx1 a b c d e w=>qzf.b1 a b c d e Q nx1 w) λnx1=> .lf))) .lf)) (by kernel_rfl) h
def qmn(crc_0:Int)(b_1:Sl)(Q:VWP)(w:World):Prop:=qgv 146 [] w λr3 w2=>qlj 145 [.agg r3,.int .u32 crc_0,sV b_1] w2 λr6 w5=>Q (.int .u32 r6) w5
theorem qmn.ok(crc_0:Int)(b_1:Sl)(Q:VWP)(w:World)(h:qmn crc_0 b_1 Q w):Calls prog 117 ⟨[.int .u32 crc_0,sV b_1]⟩ w (Ret Q):=
 qhc [.tmp 4] qde Tryz.func117 rfl rfl rfl rfl .lf (by kernel_rfl) h
def qnr(b_0:Sl)(Q:VWP)(w:World):Prop:=qlj 117 [.int .u32 0,sV b_0] w λr3 w2=>Q (.int .u32 r3) w2
theorem qnr.ok(b_0:Sl)(Q:VWP)(w:World)(h:qnr b_0 Q w):Calls prog 89 ⟨[sV b_0]⟩ w (Ret Q):=
 qhc [.tmp 2] qde Tryz.func89 rfl rfl rfl rfl .lf (by kernel_rfl) h
def qlb.j2(crc_0:Int)(Q:VWP)(w:World):Prop:=
 lt (qlk .u32 (if signed .u32 then -1 else IntKind.max .u32) crc_0) λx1=>
 Q (.int .u32 x1) w
def qlb.j5(crc_0:Int)(b_1:Sl)(i_5:Int)(Q:VWP)(nx1:Sl->Int->Int->WP)(w:World):Prop:=lt (i64.wrap (i_5+1)) λx2=>nx1 b_1 crc_0 x2 w
def qlb.b2(b_1:Sl)(i_5:Int)(crc_0 k_6:Int)(Q:VWP)(nx1:Sl->Int->Int->WP)(nx2:Sl->Int->Int->Int->WP)(w:World):Prop:=br (decide (k_6<8)) (lt (qdj .u32 crc_0 1) λx3=>br (x3==1) ((0:Int)<=1/\lt (qal .u32 crc_0 1) λx4=>lt (qlk .u32 x4 3988292384) λx5=>lt (i64.wrap (k_6+1)) λx6=>nx2 b_1 i_5 x5 x6 w) ((0:Int)<=1/\lt (qal .u32 crc_0 1) λx7=>lt (i64.wrap (k_6+1)) λx8=>nx2 b_1 i_5 x7 x8 w)) (qlb.j5 crc_0 b_1 i_5 Q nx1 w)
def qlb.l2(b_1:Sl)(i_5:Int)(crc_0 k_6:Int)(Q:VWP)(nx1:Sl->Int->Int->WP)(w:World):Prop:=∃(I:Int->Int->WP) (μ:Int->Int->World->Nat),I crc_0 k_6 w/\∀crc_0:Int,∀k_6:Int,∀w:World,I crc_0 k_6 w->qlb.b2 b_1 i_5 crc_0 k_6 Q nx1 (λb_1' i_5' crc_0' k_6' w'=>(b_1'=b_1/\i_5'=i_5)/\I crc_0' k_6' w'/\μ crc_0' k_6' w'<μ crc_0 k_6 w) w
def qlb.j6(crc_0:Int)(b_1:Sl)(i_5 k_6:Int)(Q:VWP)(nx1:Sl->Int->Int->WP)(w:World):Prop:=qlb.l2 b_1 i_5 crc_0 k_6 Q nx1 w
def qlb.j4(crc_0:Int)(b_1:Sl)(i_5:Int)(Q:VWP)(nx1:Sl->Int->Int->WP)(w:World):Prop:=ixS b_1.a b_1.len i_5 1 λa9=>ldI .u8 w a9 λx10=>lt (u32.wrap x10) λx11=>lt (qlk .u32 crc_0 x11) λx12=>qlb.j6 x12 b_1 i_5 0 Q nx1 w
def qlb.b1(b_1:Sl)(crc_0:Int)(i_5:Int)(Q:VWP)(nx1:Sl->Int->Int->WP)(w:World):Prop:=br (decide (i_5<(b_1.len:Int))) (qlb.j4 crc_0 b_1 i_5 Q nx1 w) (qlb.j2 crc_0 Q w)
def qlb.l1(b_1:Sl)(crc_0:Int)(i_5:Int)(Q:VWP)(w:World):Prop:=∃(I:Int->Int->WP) (μ:Int->Int->World->Nat),I crc_0 i_5 w/\∀crc_0:Int,∀i_5:Int,∀w:World,I crc_0 i_5 w->qlb.b1 b_1 crc_0 i_5 Q (λb_1' crc_0' i_5' w'=>(b_1'=b_1)/\I crc_0' i_5' w'/\μ crc_0' i_5' w'<μ crc_0 i_5 w) w
def qlb.j3(crc_0:Int)(b_1:Sl)(i_5:Int)(Q:VWP)(w:World):Prop:=qlb.l1 b_1 crc_0 i_5 Q w
def qlb.j1(crc_0:Int)(b_1:Sl)(Q:VWP)(w:World):Prop:=qlb.j3 crc_0 b_1 0 Q w
def qlb(crc_0:Int)(b_1:Sl)(Q:VWP)(w:World):Prop:=
 lt (qlk .u32 (if signed .u32 then -1 else IntKind.max .u32) crc_0) λx13=>
 qlb.j1 x13 b_1 Q w
theorem qlb.ok(crc_0:Int)(b_1:Sl)(Q:VWP)(w:World)(h:qlb crc_0 b_1 Q w):Calls prog 70 ⟨[.int .u32 crc_0,sV b_1]⟩ w (Ret Q):=
 qhc [.tmp 4] qde Tryz.func70 rfl rfl rfl rfl (.pr 1 [(0,.I .u32),sL 1] (λa b w=>qlb.j1 a b Q w) (.sq [(0,.I .u32)] (λa w=>qlb.j2 a Q w) (.sq [(0,.I .u32),sL 1,sI 5] (λa b c w=>qlb.j3 a b c Q w) .lf (.bk (.lo [sL 1] [(0,.I .u32),sI 5] (λa b c w=>qlb.l1 a b c Q w) (λnx1 a b c w=>qlb.b1 a b c Q nx1 w) λnx1=>(.sq [(0,.I .u32),sL 1,sI 5] (λa b c w=>qlb.j4 a b c Q nx1 w) .lf (.sq [(0,.I .u32),sL 1,sI 5] (λa b c w=>qlb.j5 a b c Q nx1 w) (.bk (.pr 1 [(0,.I .u32),sL 1,sI 5,sI 6] (λa b c d w=>qlb.j6 a b c d Q nx1 w) (.bk (.lo [sL 1,sI 5] [(0,.I .u32),sI 6] (λa b c d w=>qlb.l2 a b c d Q nx1 w) (λnx2 a b c d w=>qlb.b2 a b c d Q nx1 nx2 w) λnx2=> .lf)))) .lf))))) .lf)) (by kernel_rfl) h
def qxi(b_0:Sl)(Q:VWP)(w:World):Prop:=qlj 70 [.int .u32 0,sV b_0] w λr3 w2=>Q (.int .u32 r3) w2
theorem qxi.ok(b_0:Sl)(Q:VWP)(w:World)(h:qxi b_0 Q w):Calls prog 52 ⟨[sV b_0]⟩ w (Ret Q):=
 qhc [.tmp 2] qde Tryz.func52 rfl rfl rfl rfl .lf (by kernel_rfl) h
end
section
attribute [local irreducible] apK cpK mkK br
theorem qfm{a b:Nat}(ha:a<4294967296)(hb:b<4294967296):qlk .u32 (a:Int) (b:Int)=((a^^^b:Nat):Int):=by
 have hx:a^^^b<2^32:=Nat.xor_lt_two_pow (by simpa using ha) (by simpa using hb);have e:(BitVec.ofInt 32 (a:Int)^^^BitVec.ofInt 32 (b:Int)).toNat=a^^^b:=by
  rw[BitVec.ofInt_natCast,BitVec.ofInt_natCast,BitVec.toNat_xor,BitVec.toNat_ofNat,BitVec.toNat_ofNat,Nat.mod_eq_of_lt (by omega),Nat.mod_eq_of_lt (by omega)]
 show u32.wrap (((BitVec.ofInt 32 (a:Int)^^^BitVec.ofInt 32 (b:Int)).toNat:Nat):Int)=_;rw[e,qtg];generalize a^^^b=c at hx;omega
theorem qvq{a b:Nat}(ha:a<4294967296)(hb:b<4294967296):a^^^b<4294967296:=Nat.xor_lt_two_pow (n:=32) ha hb
theorem qstb{v:Nat}(h:v<4294967296):cs v<4294967296:=by
 unfold cs;split
 ·exact qvq (by omega) (by decide)
 ·omega
theorem qefb{v:Nat}(h:v<4294967296):∀n,csN n v<4294967296:=by
 intro n;induction n generalizing v with
 |zero=>exact h
 |succ n ih=>exact ih (qstb h)
theorem and15(v:Nat):qdj .u32 (v:Int) 15=((v%16:Nat):Int):=by
 have:=qsk .u32 (v:Int) (t:=4) (by decide);rw[show(2:Int)^4-1=15 by decide,show(2:Int)^4=16 by decide]at this
 rw[this];omega
theorem and1(v:Nat):qdj .u32 (v:Int) 1=((v%2:Nat):Int):=by rw[qaz];omega
theorem shr4(v:Nat):qal .u32 (v:Int) 4=((v/16:Nat):Int):=by
 have:=qmi .u32 (v:Int) (t:=4) (by decide);rw[show(2:Int)^4=16 by decide]at this
 rw[show(4:Int)=((4:Nat):Int)from rfl,this];omega
theorem shr1(v:Nat):qal .u32 (v:Int) 1=((v/2:Nat):Int):=by
 have:=qmi .u32 (v:Int) (t:=1) (by decide);rw[show(2:Int)^1=2 by decide]at this
 rw[show(1:Int)=((1:Nat):Int)from rfl,this];omega
theorem qrtb{v:Nat}(h:v<4294967296):qlk .u32 (qal .u32 (v:Int) 1) (qdj .u32 (u32.wrap (0-qdj .u32 (v:Int) 1)) 3988292384)=((cs v:Nat):Int):=by
 rw[shr1,and1];unfold cs;rcases Nat.mod_two_eq_zero_or_one v with h0|h0
 ·rw[h0,if_neg (by decide),show qdj .u32 (u32.wrap (0-((0:Nat):Int))) 3988292384=((0:Nat):Int)by decide+kernel,qfm (by omega) (by decide),xor_zero]
 ·rw[h0,if_pos rfl,show qdj .u32 (u32.wrap (0-((1:Nat):Int))) 3988292384=((cpoly:Nat):Int)by decide+kernel,qfm (by omega) (by decide)]
def ctab:List Int:=qzl 16 λi=>(csN 4 i:Int)
def crcV(xs:List Int):Nat:=4294967295^^^crcF 4294967295 (xs.map toNat)
theorem qjlb:∀(bs:List Nat),(∀b∈bs,b<256)->∀v,v<4294967296->crcF v bs<4294967296:=by
 intro bs;induction bs with
 |nil=>intro _ v h;exact h
 |cons b bs ih=>
  intro hb v h;have:=hb b (by simp);exact ih (λx hx=>hb x (by simp[hx])) _ (qefb (qvq h (by omega)) 8)
theorem qrab(v:Nat)(bs:List Nat)(b:Nat):crcF v (bs++[b])=csN 8 (crcF v bs^^^b):=by simp[crcF]
section
variable {F0:List Nat}{w0 w:World}{ps rest:List As}{s:Sl}{xs:List Int}{K:Ending->World->Prop}
theorem qthb:zc prog 215=⟨ivs .u32 (replicate 16 0)⟩:=by kernel_rfl
theorem qlc.c(h:St F0 w0 w ps)(hk:∀w',St F0 w0 w' ps->K (.returned (.agg ⟨ivs .u32 ctab⟩)) w'):Calls prog 146 ⟨[]⟩ w K:=by
 refine qdc (qlc.ok _ _ ?_);unfold qlc;rw[qthb];refine h.new λab w h=>?_;refine h.new λtb w h=>?_;have h:St F0 w0 w (qqb tb (ivs .u32 (replicate 16 0))::qqb ab (ivs .u32 (replicate 16 0))::ps):=h;rw[qjm]at h;unfold qlc.j1 qlc.j3;refine qjf (λ(i:Nat) (i':Int) w'=>i'=i/\i<=16/\St F0 w0 w' (qqb tb (ivs .u32 (qzl 16 λj=>if j<i then(csN 4 j:Int)else 0))::qqb ab (ivs .u32 (qzl 16 λ_=>0))::ps)) (λi=>16-i) 0 ⟨rfl,by decide,by simpa using h⟩ ?_;clear h;rintro i i' wL I μ ⟨rfl,hi,h⟩ hin;unfold qlc.b1;refine quc (λg=>?_) (λg=>?_)
 ·have hi2:i<16:=by omega
  unfold qlc.j4;refine qm (show u32.wrap (i:Int)=(i:Int)by rw[qtg];omega) ?_;unfold qlc.j6 qlc.j8;refine qug (λ(a:Nat×Nat) (v':Int) (k':Int) w'=>v'=(a.2:Int)/\k'=a.1/\a.1<=4/\a.2<4294967296/\csN (4-a.1) a.2=csN 4 i/\St F0 w0 w' (qqb tb (ivs .u32 (qzl 16 λj=>if j<i then(csN 4 j:Int)else 0))::qqb ab (ivs .u32 (qzl 16 λ_=>0))::ps)) (λa=>4-a.1) (0,i) ⟨rfl,rfl,zero_le _,by simp only;omega,rfl,h⟩ ?_;clear h;rintro⟨k,v⟩ v' k' wL2 I2 μ2 ⟨rfl,rfl,hk4,hv,hc,h⟩ hnx;simp only at hk4 hv hc h hnx|-
  unfold qlc.b2;refine quc (λg2=>?_) (λg2=>?_)
  ·have hk3:k<4:=by omega
   refine⟨by decide,qbe (qbe (qbe (qbe ?_)))⟩;refine qm (qrtb hv) ?_;refine qm (qd (by omega) (by omega)) ?_;refine⟨⟨rfl,rfl,rfl,rfl⟩,hnx (k+1,cs v) _ _ _ ⟨rfl,by simp only;omega,by simp only;omega,qstb hv,?_,h⟩ (by simp only;omega)⟩;rw[<-hc,show 4-k=(4-(k+1))+1 by omega,csN]
  ·have hk4:k=4:=by omega
   subst hk4;have hc:v=csN 4 i:=hc;unfold qlc.j7;refine h.sa (b:=tb) (k:= .u32) i rfl (qod _ _) hi2 λw h=>?_;unfold qlc.j5;refine qm (qd (by omega) (by omega)) ?_;refine⟨⟨rfl,rfl⟩,hin (i+1) _ _ ⟨by omega,by omega,?_⟩ (by omega)⟩;rw[qhl]at h;have e:(qzl 16 λm=>if m=i then(v:Int)else if m<i then(csN 4 m:Int)else 0)=qzl 16 λj=>if j<i+1 then(csN 4 j:Int)else 0:=qvd λm hm=>by
    by_cases e:m=i
    ·subst e;rw[if_pos rfl,if_pos (by omega),hc]
    ·rw[if_neg e];by_cases e2:m<i
     ·rw[if_pos e2,if_pos (by omega)]
     ·rw[if_neg e2,if_neg (by omega)]
   rw[e]at h;exact h
 ·have:i=16:=by omega
  subst this
  have e:(qzl 16 λj=>if j<16 then(csN 4 j:Int)else 0)=ctab:=qvd λm hm=>if_pos hm;rw[e]at h;unfold qlc.j2;refine h.lA (b:=tb) rfl ⟨rfl,?_⟩;refine h.sA (b:=ab) (l':=ivs .u32 ctab) rfl rfl qpe λw h=>?_;refine h.lA (b:=ab) rfl ?_;exact hk w h.drop.drop
theorem qdfb{i:Nat}(h:i<16):ctab.getD i 0=(csN 4 i:Int):=qqg (f:=λi=>(csN 4 i:Int)) h
theorem not32{v:Nat}(h:v<4294967296):qlk .u32 (if signed .u32 then -1 else IntKind.max .u32) (v:Int)=((4294967295^^^v:Nat):Int):=by
 rw[show(if signed .u32 then(-1:Int)else IntKind.max .u32)=((4294967295:Nat):Int)by decide];exact qfm (by decide) h
theorem qgeb{xs:List Int}{i:Nat}(h:i<xs.length):(xs.take (i+1)).map toNat=(xs.take i).map toNat++[(xs.getD i 0).toNat]:=by
 rw[qpj h,map_append];rfl
theorem nat_b{xs:List Int}(hb:∀x∈xs,0<=x/\x<256)(i:Nat):∀b∈(xs.take i).map toNat,b<256:=by
 intro b h;obtain⟨x,hx,rfl⟩:=mem_map.1 h;have:=hb x (mem_of_mem_take hx);omega
theorem qzf.c{c:Nat}(h:St F0 w0 w ps)[Rdb F0 w0 s ps 1 (u8s xs)](hb:∀x∈xs,0<=x/\x<256)(hL:xs.length<=1000000000)(hc:c<4294967296)
 (hk:∀w',St F0 w0 w' ps->K (.returned (.int .u32 ((4294967295^^^crcF (4294967295^^^c) (xs.map toNat):Nat):Int))) w'):Calls prog 145 ⟨[.agg ⟨ivs .u32 ctab⟩,.int .u32 (c:Int),.slice s.a s.len s.cap]⟩ w K:=by
 have hl:=(h.rdb s).1
 rw[qk]at hl
 refine qdc (qzf.ok _ _ _ _ _ ?_)
 unfold qzf
 refine h.new λtb w h=>?_
 have h:St F0 w0 w (qqb tb (ivs .u32 ctab)::ps):=h
 refine qm (not32 hc) ?_
 have h0:4294967295^^^c<4294967296:=qvq (by decide) hc
 unfold qzf.j1 qzf.j3
 refine qug (λ(i:Nat) (v':Int) (i':Int) w'=>v'=((crcF (4294967295^^^c) ((xs.take i).map toNat):Nat):Int)/\i'=i/\i<=xs.length/\St F0 w0 w' (qqb tb (ivs .u32 ctab)::ps)) (λi=>xs.length-i) 0 ⟨rfl,rfl,zero_le _,h⟩ ?_
 clear h
 rintro i v' i' wL I μ ⟨rfl,rfl,hi,h⟩ hin
 have hv:=qjlb _ (nat_b hb i) _ h0
 unfold qzf.b1
 refine quc (λg=>?_) (λg=>?_)
 ·have hi2:i<xs.length:=by omega
  have hx:=hb _ (qme hi2)
  obtain⟨b,hbx⟩:∃b:Nat,xs.getD i 0=b:=⟨(xs.getD i 0).toNat,by omega⟩
  have hsn:=qgeb hi2
  refine h.lx (s:=s) i rfl hi2 ?_
  rw[hbx]at hx hsn|-
  rw[toNat_natCast]at hsn
  have hcs:=qrab (4294967295^^^c) ((xs.take i).map toNat) b
  rw[<-hsn]at hcs
  generalize crcF (4294967295^^^c) ((xs.take i).map toNat)=v at hv hcs hin|-
  refine qm (show u32.wrap (b:Int)=(b:Int)by rw[qtg];omega) ?_
  refine qm (qfm hv (by omega)) ?_
  have hu:v^^^b<4294967296:=qvq hv (by omega)
  generalize v^^^b=u at hu hcs|-
  refine⟨by decide,qm (shr4 u) (qm (and15 u) ?_)⟩
  refine h.la (b:=tb) (k:= .u32) (u%16) rfl (qod _ _) (by omega) ?_
  rw[qdfb (by omega)]
  have h1:=qffb u
  have h2:csN 4 (u%16)<4294967296:=qefb (by omega) 4
  refine qm (qfm (a:=u/16) (by omega) h2) ?_
  rw[<-h1]
  have hu4:csN 4 u<4294967296:=qefb hu 4
  have h8:=csN_8 u
  generalize csN 4 u=y at hu4 h8|-
  refine⟨by decide,qm (shr4 y) (qm (and15 y) ?_)⟩
  refine h.la (b:=tb) (k:= .u32) (y%16) rfl (qod _ _) (by omega) ?_
  rw[qdfb (by omega)]
  have h3:csN 4 (y%16)<4294967296:=qefb (by omega) 4
  refine qm (qfm (a:=y/16) (by omega) h3) ?_
  rw[<-h8,<-hcs]
  refine qm (qd (by omega) (by omega)) ?_
  exact⟨⟨rfl,rfl,rfl⟩,hin (i+1) _ ((i:Int)+1) _ ⟨rfl,by omega,by omega,h⟩ (by omega)⟩
 ·have:i=xs.length:=by omega
  subst this
  rw[take_length]at hv|-
  unfold qzf.j2
  refine qm (not32 hv) ?_
  exact hk wL h.drop
theorem qnr.c(h:St F0 w0 w ps)[Rdb F0 w0 s ps 1 (u8s xs)](hb:∀x∈xs,0<=x/\x<256)(hL:xs.length<=1000000000)
 (hk:∀w',St F0 w0 w' ps->K (.returned (.int .u32 (crcV xs:Int))) w'):Calls prog 89 ⟨[.slice s.a s.len s.cap]⟩ w K:=by
 refine qdc (qnr.ok _ _ _ ?_)
 unfold qnr
 refine qdc (qmn.ok _ _ _ _ ?_)
 unfold qmn
 refine qlc.c h λw h=>⟨_,rfl,?_⟩
 refine qzf.c (s:=s) (c:=0) h hb hL (by decide) λw h=>⟨_,rfl,?_⟩
 rw[xor_zero]
 exact⟨_,rfl,hk w h⟩
theorem qxi.c(h:St F0 w0 w ps)[Rdb F0 w0 s ps 1 (u8s xs)](hb:∀x∈xs,0<=x/\x<256)(hL:xs.length<=1000000000)
 (hk:∀w',St F0 w0 w' ps->K (.returned (.int .u32 (crcV xs:Int))) w'):Calls prog 52 ⟨[.slice s.a s.len s.cap]⟩ w K:=by
 have hl:=(h.rdb s).1
 rw[qk]at hl
 refine qdc (qxi.ok _ _ _ ?_)
 unfold qxi
 refine qdc (qlb.ok _ _ _ _ ?_)
 unfold qlb
 refine qm (not32 (v:=0) (by decide)) ?_
 rw[xor_zero]
 unfold qlb.j1 qlb.j3
 refine qug (λ(i:Nat) (v':Int) (i':Int) w'=>v'=((crcF 4294967295 ((xs.take i).map toNat):Nat):Int)/\i'=i/\i<=xs.length/\St F0 w0 w' ps) (λi=>xs.length-i) 0 ⟨rfl,rfl,zero_le _,h⟩ ?_
 clear h
 rintro i v' i' wL I μ ⟨rfl,rfl,hi,h⟩ hin
 have hv:=qjlb _ (nat_b hb i) 4294967295 (by decide)
 unfold qlb.b1
 refine quc (λg=>?_) (λg=>?_)
 ·have hi2:i<xs.length:=by omega
  have hx:=hb _ (qme hi2)
  obtain⟨b,hbx⟩:∃b:Nat,xs.getD i 0=b:=⟨(xs.getD i 0).toNat,by omega⟩
  have hsn:=qgeb hi2
  unfold qlb.j4
  refine h.lx (s:=s) i rfl hi2 ?_
  rw[hbx]at hx hsn|-
  rw[toNat_natCast]at hsn
  have hcs:=qrab 4294967295 ((xs.take i).map toNat) b
  rw[<-hsn]at hcs
  generalize crcF 4294967295 ((xs.take i).map toNat)=v at hv hcs hin|-
  refine qm (show u32.wrap (b:Int)=(b:Int)by rw[qtg];omega) ?_
  refine qm (qfm hv (by omega)) ?_
  have hu:v^^^b<4294967296:=qvq hv (by omega)
  generalize v^^^b=u at hu hcs|-
  unfold qlb.j6
  refine qug (λ(a:Nat×Nat) (y':Int) (k':Int) w'=>y'=(a.2:Int)/\k'=a.1/\a.1<=8/\a.2<4294967296/\csN (8-a.1) a.2=csN 8 u/\St F0 w0 w' ps) (λa=>8-a.1) (0,u) ⟨rfl,rfl,zero_le _,hu,rfl,h⟩ ?_
  clear h
  rintro⟨k,y⟩ y' k' wL2 I2 μ2 ⟨rfl,rfl,hk8,hy,hc,h⟩ hnx
  simp only at hk8 hy hc h hnx|-
  unfold qlb.b2
  refine quc (λg2=>?_) (λg2=>?_)
  ·have hk7:k<8:=by omega
   have hst:csN (8-(k+1)) (cs y)=csN 8 u:=by rw[<-hc,show 8-k=(8-(k+1))+1 by omega,csN]
   have hcy:=qstb hy
   refine qm (and1 y) ?_
   refine qye (λg3=>?_) (λg3=>?_)
   ·have g3:y%2=1:=by have:((y%2:Nat):Int)=1:=by simpa using g3
                      omega
    have e:cs y=(y/2)^^^cpoly:=by unfold cs;rw[if_pos g3]
    refine⟨by decide,qm (shr1 y) ?_⟩
    refine qm (show qlk .u32 ((y/2:Nat):Int) 3988292384=((cs y:Nat):Int)by rw[e];exact qfm (b:=cpoly) (by omega) (by decide)) ?_
    refine qm (qd (by omega) (by omega)) ?_
    exact⟨⟨rfl,rfl⟩,hnx (k+1,cs y) _ _ _ ⟨rfl,by simp only;omega,by simp only;omega,hcy,hst,h⟩ (by simp only;omega)⟩
   ·have g3:¬y%2=1:=by
     intro e;rw[e]at g3;simp at g3
    have e:cs y=y/2:=by unfold cs;rw[if_neg g3]
    refine⟨by decide,qm (shr1 y) ?_⟩
    refine qm (qd (by omega) (by omega)) ?_
    exact⟨⟨rfl,rfl⟩,hnx (k+1,cs y) _ _ _ ⟨by simp only;rw[e],by simp only;omega,by simp only;omega,hcy,hst,h⟩ (by simp only;omega)⟩
  ·have:k=8:=by omega
   subst this
   have hc:y=csN 8 u:=hc
   unfold qlb.j5
   refine qm (qd (by omega) (by omega)) ?_
   exact⟨rfl,hin (i+1) (y:Int) ((i:Int)+1) _ ⟨by rw[hcs,hc],by omega,by omega,h⟩ (by omega)⟩
 ·have:i=xs.length:=by omega
  subst this
  rw[take_length]at hv|-
  unfold qlb.j2
  refine qm (not32 hv) ?_
  exact⟨_,rfl,hk wL h⟩
end
end
section
attribute [local irreducible] apK cpK mkK br qih crcV
def En.mid(e:En)(k b:Nat)(base:List Int)(hb:base.length=20):En:={e with back:=if k=6 then(b:Int)else e.back,base:=if k=7 then base else e.base,hb:=by split<;>simp[hb,e.hb]}
def enRe(k n b:Nat)(base:List Int)(hb:base.length=20)(a:Nat)(t:Sl)(L:Nat)(c:Int):En:={kind:=k,size:=n,back:=if k=6 then(b:Int)else 0,base:=if k=7 then base else b20,hb:=by split;exact hb;rfl,data:=t,at':=a,len:=L,crc:=c}
section
variable {F0:List Nat}{w0 w:World}{ps rest r1 r2:List As}{s:Sl}{xs A R base:List Int}{K:Ending->World->Prop}{eb rb k n b m:Nat}{e:En}{l:List Value}
theorem qbh.c(h:St F0 w0 w ps)[PkB eb ps (enC e) rest][hr:Rdb F0 w0 s ps 1 (u8s (qif k b base++R))](hX:∀x∈qif k b base++R,0<=x/\x<256)(hL:(qif k b base++R).length<=1000000)(hc:s.len<=s.cap)
 (hb:base.length=20) (he:e.kind=k) (h1:1<=k) (h5:k≠5) (hm:k=6->1<=b/\(b:Int)<=e.at'/\(qng b).length<=8)
 (hk:∀w',St F0 w0 w' (qqb eb (enC (e.mid k b base hb))::rest)->K (.returned (.tuple ⟨[.int .i64 ((qif k b base).length:Int),.int .i64 0]⟩)) w'):
 Calls prog 87 ⟨[.pointer (some ⟨eb,0,none⟩),.slice s.a s.len s.cap]⟩ w K:=by
 have hl:=(h.rdb s).1
 rw[qk,mul_one]at hl
 refine qdc (qbh.ok _ _ _ _ ?_)
 unfold qbh
 refine qkd (h.gI ?_)
 by_cases k6:k=6
 ·obtain⟨g1,g2,g3⟩:=hm k6
  have em:qif k b base=qng b:=if_pos k6
  have e6:e.mid k b base hb={e with back:=b}:=by
   unfold En.mid;have:¬k=7:=by omega
   simp[k6]
  rw[em]at hr hX hL hk
  rw[e6]at hk
  refine qjh (by simp;omega) ?_
  refine qpc.c (s:=s) (xs:=qng b++R) h hX (by omega) λw h=>⟨_,_,_,rfl,?_⟩
  rw[qxv R b g3]
  refine qze rfl ?_
  refine quc (λg=>by have g:(b:Int)<1:=g;omega) λ_=>?_
  refine qkd (h.gI ?_)
  refine quc (λg=>by have g:(b:Int)>e.at':=g;omega) λ_=>?_
  refine qkd (h.gst trivial λw h=>?_)
  exact hk w h
 ·refine qze (by simp;omega) ?_
  by_cases k7:k=7
  ·have em:qif k b base=base:=by unfold qif;rw[if_neg k6,if_pos k7]
   have e7:e.mid k b base hb={e with base:=base,hb:=hb}:=by
    unfold En.mid;simp[k7]
   rw[em]at hr hX hL hk hl
   rw[e7]at hk
   rw[length_append]at hl
   refine qjh (by simp;omega) ?_
   refine quc (λg=>by omega) λ_=>?_
   refine qkn (n:=20) rfl (by omega) (qbe ⟨le_refl _,?_⟩)
   haveI:=h.cutR s 0 20 (s.cap-0) (by omega) (by decide) hc (show((base++R).drop 0).take (20-0)=base by rw[drop_zero,Nat.sub_zero,List.take_append_of_le_length (by omega),take_of_length_le (by omega)])
   refine qfjb ((h.rdb ⟨qnf s.a s.cap 0 1,20-0,s.cap-0⟩).rdO (by rw[qk];omega) ?_) (by decide)
   refine qkd ⟨by show(ivs .u8 base).length=20;rw[qk];exact hb,?_⟩
   rw[add0]
   refine(h.toB eb).stA (o:=3) (by rw[qie];show 3+(ivs .u8 base).length<=27;rw[qk];omega) qpe λw h=>?_
   have hsz:(⟨ivs .u8 base⟩:Array Value).size=20:=by show(ivs .u8 base).length=20;rw[qk];exact hb
   rw[hsz]at h
   have e3:=qfw e base hb
   have h:St F0 w0 w (qqb eb ((enC e).take 3++ivs .u8 base++(enC e).drop 23)::rest):=h
   rw[e3]at h
   have:=hk w h
   rw[hb]at this
   exact this
  ·have em:qif k b base=[]:=by unfold qif;rw[if_neg k6,if_neg k7]
   have e0:e.mid k b base hb=e:=by
    unfold En.mid;simp[k6,k7]
   rw[em]at hk
   rw[e0]at hk
   refine qze (by simp;omega) ?_
   refine qze (by simp;omega) ?_
   refine qze (by simp;omega) ?_
   exact hk w (h.toB eb)
theorem qol.c(h:St F0 w0 w ps)[hr:Rdb F0 w0 s ps 1 (u8s (A++(hdE k n++(qif k b base++R))))](hX:∀x∈A++(hdE k n++(qif k b base++R)),0<=x/\x<256)(hL:(A++(hdE k n++(qif k b base++R))).length<=1000000)(hc:s.len<=s.cap)
 (hb:base.length=20) (h1:1<=k) (h7:k<=7) (h5:k≠5) (hn:n<=16384) (hm:k=6->1<=b/\b<=A.length/\(qng b).length<=8)
 (hu:Unp R (n:Int) (xs,(m:Int),0)) (hxn:xs.length=n) (hmR:m<=R.length)
 (hk:∀t w',t.len=n->(∀x∈xs,0<=x/\x<256)->St F0 w0 w' (rdA 1 t (u8s xs)::ps)->K (.returned (.tuple ⟨[.agg ⟨enC (enRe k n b base hb A.length t ((hdE k n).length+(qif k b base).length+m) (crcV ((hdE k n++(qif k b base++R)).take ((hdE k n).length+(qif k b base).length+m))))⟩,.int .i64 0]⟩)) w'):
 Calls prog 73 ⟨[.slice s.a s.len s.cap,.int .i64 (A.length:Int)]⟩ w K:=by
 have hl:=(h.rdb s).1
 rw[qk,mul_one,length_append,length_append,length_append]at hl
 rw[length_append,length_append,length_append]at hL
 have hX1:∀x∈hdE k n++(qif k b base++R),0<=x/\x<256:=λx hx=>hX x (mem_append_right _ hx)
 have hX2:∀x∈qif k b base++R,0<=x/\x<256:=λx hx=>hX1 x (mem_append_right _ hx)
 have hX3:∀x∈R,0<=x/\x<256:=λx hx=>hX2 x (mem_append_right _ hx)
 have c1:((A++(hdE k n++(qif k b base++R))).drop A.length).take (s.len-A.length)=hdE k n++(qif k b base++R):=by
  rw[drop_left' rfl,take_of_length_le (by rw[length_append,length_append];omega)]
 have c2:((A++(hdE k n++(qif k b base++R))).drop (A.length+(hdE k n).length)).take (s.len-(A.length+(hdE k n).length))=qif k b base++R:=by
  rw[<-drop_drop,drop_left' rfl,drop_left' rfl,take_of_length_le (by rw[length_append];omega)]
 have c3:((A++(hdE k n++(qif k b base++R))).drop (A.length+(hdE k n).length+(qif k b base).length)).take (s.len-(A.length+(hdE k n).length+(qif k b base).length))=R:=by
  rw[<-drop_drop,<-drop_drop,drop_left' rfl,drop_left' rfl,drop_left' rfl,take_of_length_le (by omega)]
 have c4:((A++(hdE k n++(qif k b base++R))).drop A.length).take (A.length+((hdE k n).length+(qif k b base).length+m)-A.length)=(hdE k n++(qif k b base++R)).take ((hdE k n).length+(qif k b base).length+m):=by
  rw[drop_left' rfl,Nat.add_sub_cancel_left]
 have hle:=qas k (n:=n) (by omega)
 generalize hXX:A++(hdE k n++(qif k b base++R))=X at*
 refine qdc (qol.ok _ _ _ _ ?_)
 unfold qol
 rw[zcE]
 refine h.new λrb w h=>?_
 refine h.new λeb w h=>?_
 have h:St F0 w0 w (qqb eb (enC en0)::qqb rb (enC en0)::ps):=h
 refine⟨by rfl,?_⟩
 refine h.sE (eb:=eb) (e:={en0 with at':=A.length}) (qie _) λw h=>?_
 refine qkn (n:=A.length) rfl (by omega) (qbe ?_)
 haveI:=h.cutR s A.length s.len (s.cap-A.length) (le_refl _) (by omega) hc c1
 refine qoc.c (s:=⟨qnf s.a s.cap A.length 1,s.len-A.length,s.cap-A.length⟩) (k:=k) (n:=n) (tl:=qif k b base++R) h h7 (by omega) (by rw[length_append];omega) λw h=>⟨_,_,_,_,rfl,?_⟩
 refine qze rfl ?_
 refine h.gst trivial λw h=>?_
 refine h.gst trivial λw h=>?_
 refine qm (show i64.wrap ((A.length:Int)+((hdE k n).length:Int))=((A.length+(hdE k n).length:Nat):Int)by rw[qd (by omega) (by omega)];omega) ?_
 refine qkn (n:=A.length+(hdE k n).length) rfl (by omega) (qbe ?_)
 haveI:=h.cutR s (A.length+(hdE k n).length) s.len (s.cap-(A.length+(hdE k n).length)) (le_refl _) (by omega) hc c2
 refine qbh.c (k:=k) (b:=b) (base:=base) (R:=R) (s:=⟨qnf s.a s.cap (A.length+(hdE k n).length) 1,s.len-(A.length+(hdE k n).length),s.cap-(A.length+(hdE k n).length)⟩) (e:={en0 with at':=A.length,kind:=k,size:=n}) h hX2 (by rw[length_append];omega) (by show s.len-_<=s.cap-_;omega) hb rfl h1 h5 (λg=>⟨(hm g).1,by have:=(hm g).2.1;show(b:Int)<=(A.length:Int);omega,(hm g).2.2⟩) λw h=>⟨_,_,rfl,?_⟩
 refine qze rfl ?_
 refine quc (λg=>by omega) λ_=>?_
 refine qm (show i64.wrap ((A.length:Int)+((hdE k n).length:Int))=((A.length+(hdE k n).length:Nat):Int)by rw[qd (by omega) (by omega)];omega) ?_
 refine qm (show i64.wrap (((A.length+(hdE k n).length:Nat):Int)+((qif k b base).length:Int))=((A.length+(hdE k n).length+(qif k b base).length:Nat):Int)by rw[qd (by omega) (by omega)];omega) ?_
 refine qkn (n:=A.length+(hdE k n).length+(qif k b base).length) rfl (by omega) (qbe ?_)
 haveI:=h.cutR s (A.length+(hdE k n).length+(qif k b base).length) s.len (s.cap-(A.length+(hdE k n).length+(qif k b base).length)) (le_refl _) (by omega) hc c3
 refine qkk.c (s:=⟨qnf s.a s.cap (A.length+(hdE k n).length+(qif k b base).length) 1,s.len-(A.length+(hdE k n).length+(qif k b base).length),s.cap-(A.length+(hdE k n).length+(qif k b base).length)⟩) (xs:=R) h hX3 (by omega) (by show s.len-_<=s.cap-_;omega) hu λt w ht htb h=>⟨t,_,_,rfl,?_⟩
 have ht:t.len=xs.length:=ht
 refine qze rfl ?_
 refine quc (λg=>by omega) λ_=>?_
 refine qm (show i64.wrap (((hdE k n).length:Int)+((qif k b base).length:Int))=(((hdE k n).length+(qif k b base).length:Nat):Int)by rw[qd (by omega) (by omega)];omega) ?_
 refine qm (show i64.wrap ((((hdE k n).length+(qif k b base).length:Nat):Int)+(m:Int))=(((hdE k n).length+(qif k b base).length+m:Nat):Int)by rw[qd (by omega) (by omega)];omega) ?_
 refine h.gst trivial λw h=>?_
 refine h.gst trivial λw h=>?_
 refine h.gI ?_
 refine qm (show i64.wrap ((A.length:Int)+(((hdE k n).length+(qif k b base).length+m:Nat):Int))=((A.length+((hdE k n).length+(qif k b base).length+m):Nat):Int)by rw[qd (by omega) (by omega)];omega) ?_
 refine qkn (n:=A.length+((hdE k n).length+(qif k b base).length+m)) rfl (by omega) ?_
 refine qkn (n:=A.length) rfl (by omega) (qbe ?_)
 haveI:=h.cutR s A.length (A.length+((hdE k n).length+(qif k b base).length+m)) (s.cap-A.length) (by omega) (by omega) hc c4
 refine qnr.c (s:=⟨qnf s.a s.cap A.length 1,A.length+((hdE k n).length+(qif k b base).length+m)-A.length,s.cap-A.length⟩) h (λx hx=>hX1 x (mem_of_mem_take hx)) (by rw[length_take,length_append,length_append];omega) λw h=>⟨_,rfl,?_⟩
 refine h.gst trivial λw h=>?_
 refine h.cpE (rb:=rb) (qie _) λw h=>?_
 have e1:({({({(({en0 with at':=(A.length:Int),kind:=(k:Int),size:=(n:Int)}:En).mid k b base hb)with data:=⟨t.a,t.len,t.cap⟩}:En)with len:=(((hdE k n).length+(qif k b base).length+m:Nat):Int)}:En)with crc:=((crcV ((hdE k n++(qif k b base++R)).take ((hdE k n).length+(qif k b base).length+m)):Nat):Int)}:En)=enRe k n b base hb A.length t ((hdE k n).length+(qif k b base).length+m) (crcV ((hdE k n++(qif k b base++R)).take ((hdE k n).length+(qif k b base).length+m))):=rfl
 have:=hk t w (by omega) htb h.sub
 rw[<-e1]at this
 exact this
theorem qyj.c(h:St F0 w0 w ps)[hr:Rdb F0 w0 s ps 1 (u8s (A++(hdE k n++(qif k b base++R))))](hX:∀x∈A++(hdE k n++(qif k b base++R)),0<=x/\x<256)(hL:(A++(hdE k n++(qif k b base++R))).length<=1000000)(hc:s.len<=s.cap)
 (hb:base.length=20) (h1:1<=k) (h7:k<=7) (h5:k≠5) (hn:n<=16384) (hm:k=6->1<=b/\b<=A.length/\(qng b).length<=8)
 (hu:Unp R (n:Int) (xs,(m:Int),0)) (hxn:xs.length=n) (hmR:m<=R.length)
 (hk:∀t w',t.len=n->(∀x∈xs,0<=x/\x<256)->St F0 w0 w' (rdA 1 t (u8s xs)::ps)->K (.returned (.tuple ⟨[.agg ⟨enC (enRe k n b base hb A.length t ((hdE k n).length+(qif k b base).length+m) (crcV ((hdE k n++(qif k b base++R)).take ((hdE k n).length+(qif k b base).length+m))))⟩,.int .i64 0]⟩)) w'):
 Calls prog 58 ⟨[.slice s.a s.len s.cap,.int .i64 (A.length:Int)]⟩ w K:=by
 have hl:=(h.rdb s).1
 rw[qk,mul_one,length_append]at hl
 refine qdc (qyj.ok _ _ _ _ ?_)
 unfold qyj
 rw[zcE]
 refine h.new λrb w h=>?_
 have h:St F0 w0 w (qqb rb (enC en0)::ps):=h
 refine quc (λg=>by omega) λ_=>quc (λg=>by omega) λ_=>?_
 refine qol.c (A:=A) (k:=k) (n:=n) (b:=b) (base:=base) (R:=R) (s:=s) h hX hL hc hb h1 h7 h5 hn hm hu hxn hmR λt w ht htb h=>⟨_,_,rfl,?_⟩
 refine h.new λeb w h=>?_
 have h:St F0 w0 w (qqb eb (enC en0)::rdA 1 t (u8s xs)::qqb rb (enC en0)::ps):=h
 refine⟨qie _,h.sE (eb:=eb) (qie _) λw h=>?_⟩
 refine qze rfl ?_
 exact h.cpE (rb:=rb) (qie _) λw h=>hk t w ht htb h.sub
end
end
section
attribute [local irreducible] apK cpK mkK br qih crcV
theorem qtob(e:En){i:Nat}(hi:i<20)(v:Int):(enC e).set (3+i) (.int .u8 v)=enC {e with base:=e.base.set i v,hb:=by rw[List.length_set];exact e.hb}:=by
 unfold enC;rw[qubb (j:=i) (by simp),List.set_append_left _ _ (by rw[qk,e.hb];exact hi),qlcb]
def b20t(base:List Int)(i:Nat):List Int:=base.take i++replicate (20-i) 0
theorem qzy{base:List Int}(hb:base.length=20){i:Nat}(hi:i<=20):(b20t base i).length=20:=by simp[b20t,hb];omega
theorem qgpb{base:List Int}(hb:base.length=20){i:Nat}(hi:i<20):(b20t base i).set i (base.getD i 0)=b20t base (i+1):=by
 unfold b20t;rw[set_nx (by rw[length_take];omega) (by omega),qpj (by omega),Nat.sub_sub]
section
variable {F0:List Nat}{w0 w:World}{ps rest r1 r2:List As}{s:Sl}{xs A R base:List Int}{K:Ending->World->Prop}{eb rb k n b m:Nat}{e:En}{l:List Value}
theorem qt.j6c{X:List Int}{p:Nat}(h:St F0 w0 w (qqb eb (enC e)::qqb rb (enC en0)::ps))[hr:Rdb F0 w0 s ps 1 (u8s X)](hX:∀x∈X,0<=x/\x<256)(hL:X.length<=1000000)(hc:s.len<=s.cap)(hn:n<=16384)(a:Nat)(hap:a<=p)(hp:p+R.length=X.length)(hR:X.drop p=R)
 (hu:Unp R (n:Int) (xs,(m:Int),0)) (hxn:xs.length=n) (hmR:m<=R.length)
 (hk:∀t w',t.len=n->(∀x∈xs,0<=x/\x<256)->St F0 w0 w' (rdA 1 t (u8s xs)::ps)->K (.returned (.tuple ⟨[.agg ⟨enC {e with data:=⟨t.a,t.len,t.cap⟩,at':=(a:Int),len:=((p+m-a:Nat):Int),crc:=((crcV ((X.drop a).take (p+m-a)):Nat):Int)}⟩,.int .i64 0]⟩)) w'):
 qt.j6 s (a:Int) ⟨rb,0,none⟩ ⟨eb,0,none⟩ (n:Int) (p:Int) (λv w'=>K (.returned v) w') w:=by
 have hl:=(h.rdb s).1
 rw[qk,mul_one]at hl
 unfold qt.j6
 refine quc (λg=>by omega) λ_=>?_
 refine qkn (n:=p) rfl (by omega) (qbe ?_)
 haveI:=h.cutR s p s.len (s.cap-p) (le_refl _) (by omega) hc (show(X.drop p).take (s.len-p)=R by rw[hR,take_of_length_le (by omega)])
 refine qyg.c (s:=⟨qnf s.a s.cap p 1,s.len-p,s.cap-p⟩) (xs:=R) h (λx hx=>hX x (List.mem_of_mem_drop (by rw[hR];exact hx))) (by omega) (by show s.len-_<=s.cap-_;omega) hu λt w ht htb h=>⟨t,_,_,rfl,?_⟩
 have ht:t.len=xs.length:=ht
 refine qze rfl ?_
 refine qze (by simp;omega) ?_
 refine h.gst trivial λw h=>?_
 refine h.gst trivial λw h=>?_
 refine qm (show i64.wrap ((p:Int)+(m:Int))=((p+m:Nat):Int)by rw[qd (by omega) (by omega)];omega) ?_
 refine qm (show i64.wrap (((p+m:Nat):Int)-(a:Int))=((p+m-a:Nat):Int)by rw[qd (by omega) (by omega)];omega) ?_
 refine h.gst trivial λw h=>?_
 refine qm (show i64.wrap ((p:Int)+(m:Int))=((p+m:Nat):Int)by rw[qd (by omega) (by omega)];omega) ?_
 refine qkn (n:=p+m) rfl (by omega) ?_
 refine qkn (n:=a) rfl (by omega) (qbe ?_)
 haveI:=h.cutR s a (p+m) (s.cap-a) (by omega) (by omega) hc rfl
 refine qxi.c (s:=⟨qnf s.a s.cap a 1,p+m-a,s.cap-a⟩) h (λx hx=>hX x (List.mem_of_mem_drop (mem_of_mem_take hx))) (by rw[length_take,length_drop];omega) λw h=>⟨_,rfl,?_⟩
 refine h.gst trivial λw h=>?_
 refine h.cpE (rb:=rb) (qie _) λw h=>?_
 exact hk t w (by omega) htb h.sub
theorem qt.c(h:St F0 w0 w ps)[hr:Rdb F0 w0 s ps 1 (u8s (A++(hdE k n++(qif k b base++R))))](hX:∀x∈A++(hdE k n++(qif k b base++R)),0<=x/\x<256)(hL:(A++(hdE k n++(qif k b base++R))).length<=1000000)(hc:s.len<=s.cap)
 (hb:base.length=20) (h1:1<=k) (h7:k<=7) (h5:k≠5) (hn:n<=16384) (hm:k=6->1<=b/\b<=A.length/\(qng b).length<=8)
 (hu:Unp R (n:Int) (xs,(m:Int),0)) (hxn:xs.length=n) (hmR:m<=R.length)
 (hk:∀t w',t.len=n->(∀x∈xs,0<=x/\x<256)->St F0 w0 w' (rdA 1 t (u8s xs)::ps)->K (.returned (.tuple ⟨[.agg ⟨enC (enRe k n b base hb A.length t ((hdE k n).length+(qif k b base).length+m) (crcV ((hdE k n++(qif k b base++R)).take ((hdE k n).length+(qif k b base).length+m))))⟩,.int .i64 0]⟩)) w'):
 Calls prog 27 ⟨[.slice s.a s.len s.cap,.int .i64 (A.length:Int)]⟩ w K:=by
 have hl:=(h.rdb s).1
 rw[qk,mul_one,length_append,length_append,length_append]at hl
 have hXl:(A++(hdE k n++(qif k b base++R))).length=A.length+((hdE k n).length+((qif k b base).length+R.length)):=by rw[length_append,length_append,length_append]
 have c1:((A++(hdE k n++(qif k b base++R))).drop A.length).take (s.len-A.length)=hdE k n++(qif k b base++R):=by
  rw[drop_left' rfl,take_of_length_le (by rw[length_append,length_append];omega)]
 have c2:((A++(hdE k n++(qif k b base++R))).drop (A.length+(hdE k n).length)).take (s.len-(A.length+(hdE k n).length))=qif k b base++R:=by
  rw[<-drop_drop,drop_left' rfl,drop_left' rfl,take_of_length_le (by rw[length_append];omega)]
 have c3:(A++(hdE k n++(qif k b base++R))).drop (A.length+(hdE k n).length+(qif k b base).length)=R:=by
  rw[<-drop_drop,<-drop_drop,drop_left' rfl,drop_left' rfl,drop_left' rfl]
 have c4:((A++(hdE k n++(qif k b base++R))).drop A.length).take (A.length+(hdE k n).length+(qif k b base).length+m-A.length)=(hdE k n++(qif k b base++R)).take ((hdE k n).length+(qif k b base).length+m):=by
  rw[drop_left' rfl];congr 1;omega
 have c5:∀i,i<(qif k b base).length->(A++(hdE k n++(qif k b base++R))).getD (A.length+(hdE k n).length+i) 0=(qif k b base).getD i 0:=by
  intro i hi;simp only[getD];rw[getElem?_append_right (by omega),getElem?_append_right (by omega),List.getElem?_append_left (by omega),show A.length+(hdE k n).length+i-A.length-(hdE k n).length=i by omega]
 have hle:=qas k (n:=n) (by omega)
 have hX2:∀x∈qif k b base++R,0<=x/\x<256:=λx hx=>hX x (mem_append_right _ (mem_append_right _ hx))
 generalize hXX:A++(hdE k n++(qif k b base++R))=X at*
 refine qdc (qt.ok _ _ _ _ ?_)
 unfold qt
 rw[zcF]
 refine h.new λrb w h=>?_
 refine h.new λeb w h=>?_
 have h:St F0 w0 w (qqb eb (enC en0)::qqb rb (enC en0)::ps):=h
 unfold qt.j1
 refine quc (λg=>by omega) λ_=>quc (λg=>by omega) λ_=>?_
 refine qkn (n:=A.length) rfl (by omega) (qbe ?_)
 haveI:=h.cutR s A.length s.len (s.cap-A.length) (le_refl _) (by omega) hc c1
 refine qhb.c (s:=⟨qnf s.a s.cap A.length 1,s.len-A.length,s.cap-A.length⟩) (k:=k) (n:=n) (tl:=qif k b base++R) h h7 (by omega) (by rw[length_append];omega) λw h=>⟨_,_,_,_,rfl,?_⟩
 unfold qt.j2
 refine qze rfl ?_
 refine qze (by simp;omega) ?_
 refine qze (by simp;omega) ?_
 unfold qt.j3
 refine h.gst trivial λw h=>?_
 refine h.gst trivial λw h=>?_
 unfold qt.j4
 refine qm (show i64.wrap ((A.length:Int)+((hdE k n).length:Int))=((A.length+(hdE k n).length:Nat):Int)by rw[qd (by omega) (by omega)];omega) ?_
 have fin:∀(e:En) w,e=({en0 with kind:=k,size:=n}:En).mid k b base hb->St F0 w0 w (qqb eb (enC e)::qqb rb (enC en0)::ps)->qt.j6 s (A.length:Int) ⟨rb,0,none⟩ ⟨eb,0,none⟩ (n:Int) ((A.length+(hdE k n).length+(qif k b base).length:Nat):Int) (λv w'=>K (.returned v) w') w:=by
  rintro e w rfl h;refine qt.j6c (X:=X) (R:=R) h hX hL hc hn A.length (by omega) (by omega) c3 hu hxn hmR λt w ht htb h=>?_;have:=hk t w ht htb h;have e2:A.length+(hdE k n).length+(qif k b base).length+m-A.length=(hdE k n).length+(qif k b base).length+m:=by omega
  rw[c4,e2];exact this
 by_cases k6:k=6
 ·obtain⟨g1,g2,g3⟩:=hm k6
  have em:qif k b base=qng b:=if_pos k6
  refine qjh (by simp;omega) ?_
  refine qkn (n:=A.length+(hdE k n).length) rfl (by omega) (qbe ?_)
  haveI:=h.cutR s (A.length+(hdE k n).length) s.len (s.cap-(A.length+(hdE k n).length)) (le_refl _) (by omega) hc c2
  refine qib.c (s:=⟨qnf s.a s.cap (A.length+(hdE k n).length) 1,s.len-(A.length+(hdE k n).length),s.cap-(A.length+(hdE k n).length)⟩) (xs:=qif k b base++R) h hX2 (by rw[length_append];omega) λw h=>⟨_,_,_,rfl,?_⟩
  rw[em,qxv R b g3]
  refine qze rfl ?_
  refine quc (λg=>by have g:(b:Int)<1:=g;omega) λ_=>?_
  refine quc (λg=>by have g:(b:Int)>(A.length:Int):=g;omega) λ_=>?_
  refine h.gst trivial λw h=>?_
  rw[em]at fin
  refine qm (show i64.wrap (((A.length+(hdE k n).length:Nat):Int)+((qng b).length:Int))=((A.length+(hdE k n).length+(qng b).length:Nat):Int)by rw[qd (by omega) (by omega)];omega) ?_
  unfold qt.j5 qt.j7
  refine qze (by simp;omega) ?_
  refine fin {en0 with kind:=k,size:=n,back:=b} w ?_ h
  unfold En.mid
  simp[k6,en0]
 ·refine qze (by simp;omega) ?_
  unfold qt.j5 qt.j7
  by_cases k7:k=7
  ·have em:qif k b base=base:=by unfold qif;rw[if_neg k6,if_pos k7]
   refine qjh (by simp;omega) ?_
   rw[em]at fin hl c5 hXl
   refine qm (show i64.wrap (((s.len:Nat):Int)-((A.length+(hdE k n).length:Nat):Int))=((s.len-(A.length+(hdE k n).length):Nat):Int)by rw[qd (by omega) (by omega)];omega) ?_
   refine quc (λg=>by omega) λ_=>?_
   unfold qt.j8 qt.j10
   refine qjf (λ(i:Nat) (i':Int) w'=>i'=i/\∃hi:i<=20,St F0 w0 w' (qqb eb (enC {en0 with kind:=k,size:=n,base:=b20t base i,hb:=qzy hb hi})::qqb rb (enC en0)::ps)) (λi=>20-i) 0 ⟨rfl,by decide,h⟩ ?_
   clear h
   rintro i i' w I μ ⟨rfl,hi,h⟩ hin
   unfold qt.b1
   refine quc (λg=>?_) (λg=>?_)
   ·have hi2:i<20:=by omega
    refine qm (show i64.wrap (((A.length+(hdE k n).length:Nat):Int)+(i:Int))=((A.length+(hdE k n).length+i:Nat):Int)by rw[qd (by omega) (by omega)];omega) ?_
    refine h.lx (s:=s) (A.length+(hdE k n).length+i) rfl (by omega) ?_
    rw[c5 i (by omega),add0]
    refine qneb (by omega) (by omega) ?_
    rw[show 3+((i:Int)).toNat*1=3+i by omega]
    refine(h.toB eb).st (by rw[qie];omega) trivial λw h=>?_
    rw[qtob _ hi2]at h
    refine qm (qd (by omega) (by omega)) ?_
    refine⟨⟨rfl,rfl,rfl,rfl,rfl,rfl⟩,hin (i+1) _ _ ⟨by omega,by omega,?_⟩ (by omega)⟩
    have e:=qgpb hb hi2
    have e2:({en0 with kind:=(k:Int),size:=(n:Int),base:=(b20t base i).set i (base.getD i 0),hb:=by rw[List.length_set];exact qzy hb hi}:En)={en0 with kind:=k,size:=n,base:=b20t base (i+1),hb:=qzy hb (by omega)}:=by
     simp only[e]
    rw[<-e2]
    exact h
   ·have:i=20:=by omega
    subst this
    unfold qt.j9
    refine qm (show i64.wrap (((A.length+(hdE k n).length:Nat):Int)+20)=((A.length+(hdE k n).length+base.length:Nat):Int)by rw[qd (by omega) (by omega)];omega) ?_
    refine fin _ w ?_ h
    unfold En.mid
    have:b20t base 20=base:=by unfold b20t;rw[take_of_length_le (by omega)];simp
    simp[k7,this,en0]
  ·have em:qif k b base=[]:=by unfold qif;rw[if_neg k6,if_neg k7]
   refine qze (by simp;omega) ?_
   rw[em]at fin
   refine fin {en0 with kind:=k,size:=n} w ?_ h
   unfold En.mid
   simp[k6,k7,en0]
end
end
section
set_option maxRecDepth 100000
def qyi(e_0:(Array Value))(Q:VWP)(w:World):Prop:=nw w e_0 45 λa1 w2=>nw w2 (zc prog 42) 42 λa3 w4=>ldI .i64 w4 (Addr.add a1 0) λx5=>ldI .i64 w4 (Addr.add a1 1) λx6=>ldI .i64 w4 (Addr.add a1 2) λx7=>ldA w4 (Addr.add a1 3) 20 λc8=>ldL w4 (Addr.add a1 23) λx9=>ldI .i64 w4 (Addr.add a1 24) λx10=>ldI .i64 w4 (Addr.add a1 25) λx11=>ldI .u32 w4 (Addr.add a1 26) λx12=>(c8).size=20/\((⟨(List.set (List.set (List.set (List.set (spl [.int .i64 x5,.int .i64 x6,.int .i64 x7,.int .u8 0,.int .u8 0,.int .u8 0,.int .u8 0,.int .u8 0,.int .u8 0,.int .u8 0,.int .u8 0,.int .u8 0,.int .u8 0,.int .u8 0,.int .u8 0,.int .u8 0,.int .u8 0,.int .u8 0,.int .u8 0,.int .u8 0,.int .u8 0,.int .u8 0,.int .u8 0,.slice none 0 0,.int .i64 0,.int .i64 0,.int .u32 0] 3 c8) 23 (sV x9)) 24 (.int .i64 x10)) 25 (.int .i64 x11)) 26 (.int .u32 x12))⟩:Array Value)).size=27/\stA w4 a3 (⟨(List.set (List.set (List.set (List.set (spl [.int .i64 x5,.int .i64 x6,.int .i64 x7,.int .u8 0,.int .u8 0,.int .u8 0,.int .u8 0,.int .u8 0,.int .u8 0,.int .u8 0,.int .u8 0,.int .u8 0,.int .u8 0,.int .u8 0,.int .u8 0,.int .u8 0,.int .u8 0,.int .u8 0,.int .u8 0,.int .u8 0,.int .u8 0,.int .u8 0,.int .u8 0,.slice none 0 0,.int .i64 0,.int .i64 0,.int .u32 0] 3 c8) 23 (sV x9)) 24 (.int .i64 x10)) 25 (.int .i64 x11)) 26 (.int .u32 x12))⟩:Array Value) λw13=>ldA w13 a3 27 λc14=>Q (.agg c14) w13
theorem qyi.ok(e_0:(Array Value))(Q:VWP)(w:World)(h:qyi e_0 Q w):Calls prog 25 ⟨[.agg e_0]⟩ w (Ret Q):=
 qhc [.cell 2 42] qde Tryz.func25 rfl rfl rfl rfl .lf (by kernel_rfl) h
end
theorem spl_go(off:Nat):∀(cs:List Value) (j:Nat) (a:Array Value),off+j+cs.length<=a.size->
 ((cs.zipIdx j).foldl (λ(a:Array Value) (x:Value×Nat)=>a.setIfInBounds (off+x.2) x.1) a).toList=a.toList.take (off+j)++cs++a.toList.drop (off+j+cs.length):=by
 intro cs
 induction cs with
 |nil=>intro j a h;simp
 |cons c cs ih=>
  intro j a h
  rw[length_cons]at h
  rw[List.zipIdx_cons,List.foldl_cons,ih (j+1) _ (by simp;omega)]
  have e:(a.setIfInBounds (off+j) c).toList=a.toList.set (off+j) c:=by simp
  rw[e]
  have ht:(a.toList.set (off+j) c).take (off+(j+1))=a.toList.take (off+j)++[c]:=by
   rw[show off+(j+1)=(off+j)+1 by omega,List.take_add_one,List.take_set_of_le (le_refl _)];congr 1;rw[List.getElem?_set_self (by simp;omega)];rfl
  have hd:(a.toList.set (off+j) c).drop (off+(j+1)+cs.length)=a.toList.drop (off+j+(c::cs).length):=by
   rw[List.drop_set_of_lt (by omega),length_cons];congr 1;omega
  rw[ht,hd,append_assoc,append_assoc,append_assoc]
  rfl
theorem qspb(l:List Value)(off:Nat)(cs:List Value)(h:off+cs.length<=l.length):spl l off ⟨cs⟩=l.take off++cs++l.drop (off+cs.length):=by
 have:=spl_go off cs 0 ⟨l⟩ (by simpa using h);unfold spl;rw[Nat.add_zero]at this
 rw[<-this];simp
theorem qgx{l cs:List Value}(h:cs.length=l.length):spl l 0 ⟨cs⟩=cs:=by
 rw[qspb l 0 cs (by omega),take_zero,nil_append,List.drop_eq_nil_of_le (by omega),append_nil]
end Go.Proofs.YtdccpphmkfaioaaGreat
