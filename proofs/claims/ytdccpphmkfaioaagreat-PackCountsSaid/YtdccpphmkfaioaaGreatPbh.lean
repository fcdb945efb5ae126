/- Own texts as one, only what is reached (shake2.py). -/
import Derived.Test.YtdccpphmkfaioaaGreatPbg
import Derived.RangeFuncIn
import Derived.RangeFuncLeaves
import Derived.RangeFuncRecord
import Derived.Test.YtdccpphmkfaioaaGreatProg
set_option linter.unusedSectionVars false
set_option linter.unusedVariables false
set_option linter.unusedSimpArgs false
namespace Go.Proofs.YtdccpphmkfaioaaGreat
open Go Go.Proofs
open Int (toNat toNat_natCast)
open Go.IntKind (i64 u32 u64)
open List (append_assoc append_nil drop_left' drop_zero getElem_mem length_append length_drop length_map length_replicate length_singleton length_take map_append mem_append mem_map mem_singleton nil_append replicate take take_left' take_of_length_le)
open Nat (blt le_refl mul_one sub_self sub_zero zero_add zero_le zero_lt_succ)
open Go.Program (bytesOf)
open Go.Proofs.Tryz (prog)
open Go.Value (int)
section
attribute [local irreducible] apK cpK mkK br qih crcV
def enW(k b:Nat)(base:List Int)(hb:base.length=20)(xs:List Int)(eff:Int)(a:Nat)(t:Sl):En:=enRe k xs.length b base hb a t (qjn k b base xs eff).length (crcV (qjn k b base xs eff))
theorem qir(A T:List Int)(k b:Nat)(base xs:List Int)(eff:Int):A++(qjn k b base xs eff++T)=A++(hdE k xs.length++(qif k b base++(frm xs (qih xs eff)++T))):=by
 simp[qjn,append_assoc]
section
variable {F0:List Nat}{w0 w:World}{ps rest r1 r2:List As}{s:Sl}{xs A T base:List Int}{K:Ending->World->Prop}{k b:Nat}{eff:Int}
theorem qyj.wr(h:St F0 w0 w ps)[hr:Rdb F0 w0 s ps 1 (u8s (A++(qjn k b base xs eff++T)))](hX:∀x∈A++(qjn k b base xs eff++T),0<=x/\x<256)(hL:(A++(qjn k b base xs eff++T)).length<=1000000)(hc:s.len<=s.cap)
 (hb:base.length=20) (hxs:∀x∈xs,0<=x/\x<256) (h1:1<=k) (h7:k<=7) (h5:k≠5) (hn:xs.length<=16384) (hm:k=6->1<=b/\b<=A.length)
 (hk:∀t w',t.len=xs.length->St F0 w0 w' (rdA 1 t (u8s xs)::ps)->K (.returned (.tuple ⟨[.agg ⟨enC (enW k b base hb xs eff A.length t)⟩,.int .i64 0]⟩)) w'):
 Calls prog 58 ⟨[.slice s.a s.len s.cap,.int .i64 (A.length:Int)]⟩ w K:=by
 have hAl:A.length<=1000000:=by rw[length_append]at hL;omega
 rw[qir]at hX hL
 have hr:Rdb F0 w0 s ps 1 (u8s (A++(hdE k xs.length++(qif k b base++(frm xs (qih xs eff)++T))))):=by rw[<-qir];exact hr
 have hT:∀x∈T,0<=x/\x<256:=λx hx=>hX x (by simp[hx])
 have hu:=qyhb (xs:=xs) (t:=T) (most:=((xs.length:Nat):Int)) (qfeb hxs (by omega) eff) hT (Int.le_refl _) (by omega)
 have hel:(hdE k xs.length).length+(qif k b base).length+(frm xs (qih xs eff)).length=(qjn k b base xs eff).length:=by unfold qjn;rw[length_append,length_append];omega
 have hte:(hdE k xs.length++(qif k b base++(frm xs (qih xs eff)++T))).take (qjn k b base xs eff).length=qjn k b base xs eff:=by
  have:hdE k xs.length++(qif k b base++(frm xs (qih xs eff)++T))=qjn k b base xs eff++T:=by simp[qjn,append_assoc]
  rw[this,take_left' rfl]
 refine qyj.c (A:=A) (k:=k) (n:=xs.length) (b:=b) (base:=base) (R:=frm xs (qih xs eff)++T) (m:=(frm xs (qih xs eff)).length) (s:=s) h hX hL hc hb h1 h7 h5 hn (λg=>⟨(hm g).1,(hm g).2,?_⟩) hu rfl (by rw[length_append];omega) λt w ht _ h=>?_
 ·have h2:=hm g
  have:=qys 3 (b/128) (by rw[show(128:Nat)^3=2097152 by decide];omega)
  rw[qng,length_append,length_singleton]
  omega
 ·rw[hel,hte]
  exact hk t w ht h
theorem qt.wr(h:St F0 w0 w ps)[hr:Rdb F0 w0 s ps 1 (u8s (A++(qjn k b base xs eff++T)))](hX:∀x∈A++(qjn k b base xs eff++T),0<=x/\x<256)(hL:(A++(qjn k b base xs eff++T)).length<=1000000)(hc:s.len<=s.cap)
 (hb:base.length=20) (hxs:∀x∈xs,0<=x/\x<256) (h1:1<=k) (h7:k<=7) (h5:k≠5) (hn:xs.length<=16384) (hm:k=6->1<=b/\b<=A.length)
 (hk:∀t w',t.len=xs.length->St F0 w0 w' (rdA 1 t (u8s xs)::ps)->K (.returned (.tuple ⟨[.agg ⟨enC (enW k b base hb xs eff A.length t)⟩,.int .i64 0]⟩)) w'):
 Calls prog 27 ⟨[.slice s.a s.len s.cap,.int .i64 (A.length:Int)]⟩ w K:=by
 have hAl:A.length<=1000000:=by rw[length_append]at hL;omega
 rw[qir]at hX hL
 have hr:Rdb F0 w0 s ps 1 (u8s (A++(hdE k xs.length++(qif k b base++(frm xs (qih xs eff)++T))))):=by rw[<-qir];exact hr
 have hT:∀x∈T,0<=x/\x<256:=λx hx=>hX x (by simp[hx])
 have hu:=qyhb (xs:=xs) (t:=T) (most:=((xs.length:Nat):Int)) (qfeb hxs (by omega) eff) hT (Int.le_refl _) (by omega)
 have hel:(hdE k xs.length).length+(qif k b base).length+(frm xs (qih xs eff)).length=(qjn k b base xs eff).length:=by unfold qjn;rw[length_append,length_append];omega
 have hte:(hdE k xs.length++(qif k b base++(frm xs (qih xs eff)++T))).take (qjn k b base xs eff).length=qjn k b base xs eff:=by
  have:hdE k xs.length++(qif k b base++(frm xs (qih xs eff)++T))=qjn k b base xs eff++T:=by simp[qjn,append_assoc]
  rw[this,take_left' rfl]
 refine qt.c (A:=A) (k:=k) (n:=xs.length) (b:=b) (base:=base) (R:=frm xs (qih xs eff)++T) (m:=(frm xs (qih xs eff)).length) (s:=s) h hX hL hc hb h1 h7 h5 hn (λg=>⟨(hm g).1,(hm g).2,?_⟩) hu rfl (by rw[length_append];omega) λt w ht _ h=>?_
 ·have h2:=hm g
  have:=qys 3 (b/128) (by rw[show(128:Nat)^3=2097152 by decide];omega)
  rw[qng,length_append,length_singleton]
  omega
 ·rw[hel,hte]
  exact hk t w ht h
theorem qyi.c{e:En}(h:St F0 w0 w ps)(hk:∀w',St F0 w0 w' ps->K (.returned (.agg ⟨enC e⟩)) w'):Calls prog 25 ⟨[.agg ⟨enC e⟩]⟩ w K:=by
 refine qdc (qyi.ok _ _ _ ?_);unfold qyi;rw[zcF];refine h.new λeb w h=>?_;refine h.new λrb w h=>?_;have h:St F0 w0 w (qqb rb (enC en0)::qqb eb (enC e)::ps):=h;refine h.gI (h.gI (h.gI ?_));rw[add0];have hbl:=(h.toB eb).blk;have e3:(⟨ivs .u8 e.base⟩:Array Value).size=20:=by show(ivs .u8 e.base).length=20;rw[qk];exact e.hb
 refine hbl.ldA (cs:=⟨ivs .u8 e.base⟩) e3 (λi hi=>?_) ?_
 ·have:(((enC e).drop 3).take 20)[i]?=(ivs .u8 e.base)[i]?:=by rw[qzeb]
  rw[List.getElem?_take,if_pos hi,List.getElem?_drop]at this
  rw[this];simp
 refine h.gL (h.gI (h.gI (h.gI ?_)));refine⟨e3,?_⟩;have ee:(List.set (List.set (List.set (List.set (spl ([.int .i64 e.kind,.int .i64 e.size,.int .i64 e.back]++(ivs .u8 b20++[.slice none 0 0,.int .i64 0,.int .i64 0,.int .u32 0])) 3 ⟨ivs .u8 e.base⟩) 23 (.slice e.data.a e.data.len e.data.cap)) 24 (.int .i64 e.at')) 25 (.int .i64 e.len)) 26 (.int .u32 e.crc))=enC e:=by
  have hs:=qspb ([.int .i64 e.kind,.int .i64 e.size,.int .i64 e.back]++(ivs .u8 b20++[.slice none 0 0,.int .i64 0,.int .i64 0,.int .u32 0])) 3 (ivs .u8 e.base) (by rw[qk,e.hb];simp[ivs,b20]);rw[hs,qk,e.hb];have:=qfw {en0 with kind:=e.kind,size:=e.size,back:=e.back} e.base e.hb;have e0:enC {en0 with kind:=e.kind,size:=e.size,back:=e.back}=[.int .i64 e.kind,.int .i64 e.size,.int .i64 e.back]++(ivs .u8 b20++[.slice none 0 0,.int .i64 0,.int .i64 0,.int .u32 0]):=rfl;rw[e0]at this
  rw[show 3+20=23 from rfl,this];have s1:=qap {en0 with kind:=e.kind,size:=e.size,back:=e.back,base:=e.base,hb:=e.hb} 0 (.slice e.data.a e.data.len e.data.cap);have s1:(enC {en0 with kind:=e.kind,size:=e.size,back:=e.back,base:=e.base,hb:=e.hb}).set 23 (.slice e.data.a e.data.len e.data.cap)=enC {en0 with kind:=e.kind,size:=e.size,back:=e.back,base:=e.base,hb:=e.hb,data:=e.data}:=s1;rw[s1];have s2:(enC {en0 with kind:=e.kind,size:=e.size,back:=e.back,base:=e.base,hb:=e.hb,data:=e.data}).set 24 (.int .i64 e.at')=enC {en0 with kind:=e.kind,size:=e.size,back:=e.back,base:=e.base,hb:=e.hb,data:=e.data,at':=e.at'}:=qap _ 1 _;rw[s2];have s3:(enC {en0 with kind:=e.kind,size:=e.size,back:=e.back,base:=e.base,hb:=e.hb,data:=e.data,at':=e.at'}).set 25 (.int .i64 e.len)=enC {en0 with kind:=e.kind,size:=e.size,back:=e.back,base:=e.base,hb:=e.hb,data:=e.data,at':=e.at',len:=e.len}:=qap _ 2 _;rw[s3];exact qap _ 3 _
 have hw:(⟨List.set (List.set (List.set (List.set (spl ([.int .i64 e.kind,.int .i64 e.size,.int .i64 e.back]++(ivs .u8 b20++[.slice none 0 0,.int .i64 0,.int .i64 0,.int .u32 0])) 3 ⟨ivs .u8 e.base⟩) 23 (.slice e.data.a e.data.len e.data.cap)) 24 (.int .i64 e.at')) 25 (.int .i64 e.len)) 26 (.int .u32 e.crc)⟩:Array Value).size=27/\stA w ⟨rb,0,none⟩ ⟨List.set (List.set (List.set (List.set (spl ([.int .i64 e.kind,.int .i64 e.size,.int .i64 e.back]++(ivs .u8 b20++[.slice none 0 0,.int .i64 0,.int .i64 0,.int .u32 0])) 3 ⟨ivs .u8 e.base⟩) 23 (.slice e.data.a e.data.len e.data.cap)) 24 (.int .i64 e.at')) 25 (.int .i64 e.len)) 26 (.int .u32 e.crc)⟩ λw13=>
  ldA w13 ⟨rb,0,none⟩ 27 λc14=>(λv w'=>K (.returned v) w') (.agg c14) w13:=by
  rw[ee]
  exact h.rtE (rb:=rb) (qie _) λw h=>hk w h.sub
 exact hw
end
end
section
attribute [local irreducible] apK cpK mkK hs qtk rounds qkj
theorem zc_u32:zc prog 40=#[.int .u32 0]:=by kernel_rfl
theorem qyqb:zc prog 87=⟨quh [0,0,0,0,0]⟩:=by kernel_rfl
theorem qjob:prog.info? 40=some Tryz.t40:=by kernel_rfl
theorem qmlb:prog.bytesOf 40<=16:=by
 rw[bytesOf,qjob];decide
section
variable {F0:List Nat}{w0 w:World}{ps:List As}
theorem St.ldo32{s:Sl}{l:List Int}{i:Int}{j:Nat}{K:Int->Prop}(h:St F0 w0 w (qcc 1 s (quh l)::ps))(hi:i=j)(hj:j<l.length)(hk:K (l.getD j 0)):ixS s.a s.len i 1 λa=>ldI .u32 w a K:=by
 subst hi;have hr:=h.ord;have hl:=hr.1;rw[qge]at hl;refine hr.ix (by decide) (by omega) (by omega) λa ha=>?_;rw[show((j:Int)).toNat*1=j by omega];exact hr.ldI ha (qhp hj) hk
theorem St.sto32{s:Sl}{l:List Int}{i v:Int}{j:Nat}{K:World->Prop}(h:St F0 w0 w (qcc 1 s (quh l)::ps))(hi:i=j)(hj:j<l.length)(hk:∀w',St F0 w0 w' (qcc 1 s (quh (l.set j v))::ps)->K w'):ixS s.a s.len i 1 λa=>Go.Proofs.YtdccpphmkfaioaaGreat.st w a (.int .u32 v) K:=by
 subst hi;have hr:=h.ord;have hl:=hr.1;rw[qge]at hl;refine hr.ix (by decide) (by omega) (by omega) λa ha=>?_;rw[show((j:Int)).toNat*1=j by omega];refine h.setO ha (by rw[qge];exact hj) trivial λw h=>hk w ?_;rw[qzw]at h;exact h
theorem St.ldx{nb n:Nat}{l:List Int}{i:Int}{j:Nat}{K:Int->Prop}(h:St F0 w0 w (qqb nb (quh l)::ps))(hi:i=j)(hn:l.length=n)(hj:j<n)(hk:K (l.getD j 0)):ixA ⟨nb,0,none⟩ n i 1 λa=>ldI .u32 w a K:=by
 subst hi;refine qxn (by omega) (by omega) ?_;exact h.ldu32' (i:=j) (by omega) (by omega) hk
theorem St.stx{nb n:Nat}{l:List Int}{i v:Int}{j:Nat}{K:World->Prop}(h:St F0 w0 w (qqb nb (quh l)::ps))(hi:i=j)(hn:l.length=n)(hj:j<n)(hk:∀w',St F0 w0 w' (qqb nb (quh (l.set j v))::ps)->K w'):ixA ⟨nb,0,none⟩ n i 1 λa=>Go.Proofs.YtdccpphmkfaioaaGreat.st w a (.int .u32 v) K:=by
 subst hi;refine qxn (by omega) (by omega) ?_;exact h.stu32 (i:=j) (by omega) (by omega) hk
theorem St.st5{nb:Nat}{c l:List Value}{n:Nat}{K:World->Prop}(h:St F0 w0 w (qqb nb c::ps))(hc:c.length=n)(hl:l.length=n)(hs:∀v∈(⟨l⟩:Array Value),qfe v)
 (hk:∀w',St F0 w0 w' (qqb nb l::ps)->K w'):Go.Proofs.YtdccpphmkfaioaaGreat.stA w ⟨nb,0,none⟩ ⟨l⟩ K:=by
 refine h.stA (o:=0) (by show 0+l.length<=c.length;omega) hs λw' h=>hk w' ?_
 have e:c.take 0++(⟨l⟩:Array Value).toList++c.drop (0+(⟨l⟩:Array Value).size)=l:=by
  rw[List.take_zero,nil_append,List.drop_eq_nil_of_le (by show c.length<=0+l.length;omega),append_nil]
 rwa[e]at h
theorem qgl{l:List Int}:∀v∈(⟨quh l⟩:Array Value),qfe v:=by
 intro v hv;have hv:v∈quh l:=by simpa using hv
 obtain⟨n,_,rfl⟩:=mem_map.1 hv;trivial
theorem qe.add{n2 n4 n8:Nat}{s x:W5}{c:List Value}(hc:c.length=5){Q:VWP}(h:St F0 w0 w (qqb n2 (quh s.l)::qqb n8 (quh x.l)::qqb n4 c::ps))
 (hk:∀w',St F0 w0 w' ps->Q (.agg ⟨quh (addW s x).l⟩) w'):qe.j5 ⟨n2,0,none⟩ ⟨n4,0,none⟩ ⟨n8,0,none⟩ Q w:=by
 unfold qe.j5 qe.j7
 refine qjf (λ(i:Nat) (i':Int) w=>i'=i/\i<=5/\St F0 w0 w (qqb n2 (quh (someW s x i))::qqb n8 (quh x.l)::qqb n4 c::ps)) (λi=>5-i) 0 ⟨rfl,by omega,h⟩ ?_
 clear h
 rintro i i' w I μ ⟨rfl,hi,h⟩ hin
 unfold qe.b1
 refine quc (λh1=>?_) (λh1=>?_)
 ·have hi5:i<5:=by omega
  refine h.drewK λw h=>?_
  refine h.ldx (j:=i) rfl rfl hi5 ?_
  refine h.at1.ldx (j:=i) rfl rfl hi5 ?_
  refine qbe ?_
  refine h.stx (j:=i) rfl rfl hi5 λw h=>?_
  refine qm (qd (by omega) (by omega)) ?_
  refine⟨⟨rfl,rfl,rfl⟩,hin (i+1) _ _ ⟨by simp,by omega,?_⟩ (by omega)⟩
  have hc:i=0\/i=1\/i=2\/i=3\/i=4:=by omega
  rcases hc with rfl|rfl|rfl|rfl|rfl<;>exact h
 ·have:i=5:=by omega
  subst this
  unfold qe.j6
  have h:St F0 w0 w (qqb n2 (quh (addW s x).l)::qqb n8 (quh x.l)::qqb n4 c::ps):=h
  refine h.ld20 rfl ?_
  refine⟨rfl,?_⟩
  refine h.at2.st5 hc rfl qgl λw h=>?_
  refine h.ld20 rfl ?_
  exact hk w h.drop.drop.drop
end
end
section
attribute [local irreducible] apK cpK mkK hs qtk rounds qkj
section
variable {F0:List Nat}{w0 w:World}{ps:List As}
theorem qe.last{n8:Nat}{x:W5}{t:Nat}{v:Int}{t2 t4:Addr}{t5:Sl}{Q:VWP}{nx:Addr->Addr->Sl->Addr->Int->World->Prop}(ht:t<80)(h:St F0 w0 w (qqb n8 (quh x.l)::ps))
 (hk:∀w',St F0 w0 w' (qqb n8 (quh [v,x.a,lf x.b 30,x.c,x.d])::ps)->nx t2 t4 t5 ⟨n8,0,none⟩ ((t:Int)+1) w'):qe.j13 t2 t4 t5 ⟨n8,0,none⟩ t v Q nx w:=by
 unfold qe.j13
 refine h.ldx (j:=3) rfl rfl (by decide) ?_
 refine h.stx (j:=4) rfl rfl (by decide) λw h=>?_
 refine h.ldx (j:=2) rfl rfl (by decide) ?_
 refine h.stx (j:=3) rfl rfl (by decide) λw h=>?_
 refine h.ldx (j:=1) rfl rfl (by decide) ?_
 refine qre.c (by decide) ⟨_,rfl,?_⟩
 refine h.stx (j:=2) rfl rfl (by decide) λw h=>?_
 refine h.ldx (j:=0) rfl rfl (by decide) ?_
 refine h.stx (j:=1) rfl rfl (by decide) λw h=>?_
 refine h.stx (j:=0) rfl rfl (by decide) λw h=>?_
 unfold qe.j10
 refine qm (qd (by omega) (by omega)) ?_
 exact hk w h
theorem qe.mid{n8:Nat}{x:W5}{l:List Int}{t:Nat}{f k:Int}{t2 t4:Addr}{t5:Sl}{Q:VWP}{nx:Addr->Addr->Sl->Addr->Int->World->Prop}(ht:t<80)(hl:l.length=80)(hf:(mixF t x.b x.c x.d)=(f,k))
 (h:St F0 w0 w (qqb n8 (quh x.l)::qcc 1 t5 (quh l)::ps))
 (hk:∀w',St F0 w0 w' (qqb n8 (quh (stepF t (l.getD t 0) x).l)::qcc 1 t5 (quh l)::ps)->nx t2 t4 t5 ⟨n8,0,none⟩ ((t:Int)+1) w'):qe.j12 t2 t4 t5 ⟨n8,0,none⟩ t f k Q nx w:=by
 have e:(stepF t (l.getD t 0) x).l=[u32.wrap (u32.wrap (u32.wrap (u32.wrap (lf x.a 5+f)+x.e)+k)+l.getD t 0),x.a,lf x.b 30,x.c,x.d]:=by
  unfold stepF;rw[hf];rfl
 rw[e]at hk
 unfold qe.j12
 refine h.drewK λw h=>?_
 have hr:=h.at1.ord
 have hlen:=hr.1
 rw[qge]at hlen
 refine h.ldx (j:=0) rfl rfl (by decide) ?_
 refine qxn (by decide) (by decide) ?_
 refine hr.ix (by decide) (by omega) (by omega) λa ha=>?_
 rw[show((t:Int)).toNat*1=t by omega]
 have l4:∀{K:Int->Prop},K x.e->ldI .u32 w ⟨n8,0+(4:Int).toNat*1,none⟩ K:=λhK=>h.ldu32' (i:=4) rfl (by show 4<5;decide) hK
 have lw:∀{K:Int->Prop},K (l.getD t 0)->ldI .u32 w (a.add t) K:=λhK=>hr.ldI ha (qhp (by omega)) hK
 refine⟨?_,?_,?_⟩
 ·refine qre.c (by decide) ⟨_,rfl,qbe ⟨?_,?_⟩⟩
  ·exact l4 (qbe (qbe (lw (qbe (qe.last ht h hk)))))
  ·exact lw (l4 (qbe (qbe (qbe (qe.last ht h hk)))))
 ·refine l4 ⟨?_,?_⟩
  ·exact qre.c (by decide) ⟨_,rfl,qbe (qbe (qbe (lw (qbe (qe.last ht h hk)))))⟩
  ·exact lw (qre.c (by decide) ⟨_,rfl,qbe (qbe (qbe (qbe (qe.last ht h hk))))⟩)
 ·refine lw ⟨?_,?_⟩
  ·exact qre.c (by decide) ⟨_,rfl,qbe (l4 (qbe (qbe (qbe (qe.last ht h hk)))))⟩
  ·exact l4 (qre.c (by decide) ⟨_,rfl,qbe (qbe (qbe (qbe (qe.last ht h hk))))⟩)
theorem qe.loop{n2 n4 n8:Nat}{s:W5}{l:List Int}{c:List Value}{t5:Sl}(hl:l.length=80)(hc:c.length=5){Q:VWP}
 (h:St F0 w0 w (qqb n8 (quh s.l)::qcc 1 t5 (quh l)::qqb n2 (quh s.l)::qqb n4 c::ps))
 (hk:∀w',St F0 w0 w' ps->Q (.agg ⟨quh (addW s (rounds l 80 s)).l⟩) w'):qe.j4 ⟨n2,0,none⟩ ⟨n4,0,none⟩ t5 ⟨n8,0,none⟩ Q w:=by
 unfold qe.j4 qe.j8
 refine qjf (λ(t:Nat) (t':Int) w=>t'=t/\t<=80/\St F0 w0 w (qqb n8 (quh (rounds l t s).l)::qcc 1 t5 (quh l)::qqb n2 (quh s.l)::qqb n4 c::ps)) (λt=>80-t) 0 ⟨rfl,by omega,by rw[rounds];exact h⟩ ?_
 clear h
 rintro t t' w I μ ⟨rfl,ht,h⟩ hin
 have hr:rounds l (t+1) s=stepF t (l.getD t 0) (rounds l t s):=by rw[rounds]
 generalize hx:rounds l t s=x at h hr
 unfold qe.b2
 refine quc (λh1=>?_) (λh1=>?_)
 ·have ht80:t<80:=by omega
  have fin:∀w',St F0 w0 w' (qqb n8 (quh (stepF t (l.getD t 0) x).l)::qcc 1 t5 (quh l)::qqb n2 (quh s.l)::qqb n4 c::ps)->
   ((⟨n2,0,none⟩:Addr)=⟨n2,0,none⟩/\(⟨n4,0,none⟩:Addr)=⟨n4,0,none⟩/\t5=t5/\(⟨n8,0,none⟩:Addr)=⟨n8,0,none⟩)/\I ((t:Int)+1) w'/\μ ((t:Int)+1) w'<μ (t:Int) w:=by
   intro w' h
   rw[<-hr]at h
   exact⟨⟨rfl,rfl,rfl,rfl⟩,hin (t+1) _ _ ⟨by simp,by omega,h⟩ (by omega)⟩
  unfold qe.j9 qe.j11
  have x1:∀{K:Int->Prop},K x.b->ixA ⟨n8,0,none⟩ 5 1 1 λa=>ldI .u32 w a K:=λhK=>h.ldx (j:=1) rfl rfl (by decide) hK
  have x2:∀{K:Int->Prop},K x.c->ixA ⟨n8,0,none⟩ 5 2 1 λa=>ldI .u32 w a K:=λhK=>h.ldx (j:=2) rfl rfl (by decide) hK
  have x3:∀{K:Int->Prop},K x.d->ixA ⟨n8,0,none⟩ 5 3 1 λa=>ldI .u32 w a K:=λhK=>h.ldx (j:=3) rfl rfl (by decide) hK
  refine quc (λh2=>?_) (λh2=>?_)
  ·refine x1 (x2 (qbe (x1 (qbe (x3 (qbe (qbe ?_)))))))
   exact qe.mid ht80 hl (by unfold mixF;rw[if_pos (by omega)];rfl) h fin
  refine quc (λh3=>?_) (λh3=>?_)
  ·refine x1 (x2 (qbe (x3 (qbe ?_))))
   exact qe.mid ht80 hl (by unfold mixF;rw[if_neg (by omega),if_pos (by omega)]) h fin
  refine quc (λh4=>?_) (λh4=>?_)
  ·refine x1 (x2 (qbe (x1 (x3 (qbe (qbe (x2 (x3 (qbe (qbe ?_))))))))))
   exact qe.mid ht80 hl (by unfold mixF;rw[if_neg (by omega),if_neg (by omega),if_pos (by omega)]) h fin
  ·refine x1 (x2 (qbe (x3 (qbe ?_))))
   exact qe.mid ht80 hl (by unfold mixF;rw[if_neg (by omega),if_neg (by omega),if_neg (by omega)]) h fin
 ·have:t=80:=by omega
  subst this
  refine qe.add (x:=x) hc (h.at2.tail λ_ _ _ h=>h.tail1) ?_
  rw[<-hx]
  exact hk
end
end
section
attribute [local irreducible] apK cpK mkK hs qtk rounds qkj
section
variable {F0:List Nat}{w0 w:World}{ps:List As}
theorem qzrb(n:Nat):replicate n (int .u32 0)=quh (replicate n 0):=by
 unfold quh;rw[List.map_replicate]
theorem qzlb{p:List Int}{t:Nat}(ht:t<16):(qsg p).take (t+1)=(qsg p).take t++[be ((p.drop (4*t)).take 4)]:=by
 have hl:(qsg p).length=16:=by simp[qsg]
 rw[List.take_succ_eq_append_getElem (by omega)];congr 1;simp[qsg]
theorem qhx{l:List Int}{k:Nat}{v:Int}(hk:0<k):(l++replicate k 0).set l.length v=(l++[v])++replicate (k-1) 0:=by
 rw[List.set_append_right _ _ (le_refl _),sub_self];cases k with
 |zero=>omega
 |succ k=>
  rw[List.replicate_succ,List.set_cons_zero,append_assoc];rfl
theorem qe.c{sl:Sl}{s:W5}{p:List Int}{K:Ending->World->Prop}(hp:p.length=64)(hpb:qxl p)(hcap:sl.len<=sl.cap)(h:St F0 w0 w ps)(hr:∀w' qs,St F0 w0 w' (qs++ps)->Rd w' 1 sl (u8s p))
 (hk:∀w',St F0 w0 w' ps->K (.returned (.agg ⟨quh (blkF s p).l⟩)) w'):Calls prog 47 ⟨[.agg ⟨quh s.l⟩,.slice sl.a sl.len sl.cap]⟩ w K:=by
 unfold blkF at hk
 have hsl:=(hr w [] h).1
 rw[qjd]at hsl
 refine qdc (qe.ok _ _ _ _ ?_)
 unfold qe
 refine h.new λn2 w h=>?_
 refine h.new λn4 w h=>?_
 rw[qyqb]at h
 refine h.make1 (n:=80) zc_u32 rfl rfl (by decide) qmlb λt5 w hl5 hc5 h=>?_
 rw[qzrb]at h
 unfold qe.j1 qe.j15
 have hb16:(qsg p).length=16:=by simp[qsg]
 refine qjf (λ(t:Nat) (t':Int) w=>t'=t/\t<=16/\St F0 w0 w (qcc 1 t5 (quh ((qsg p).take t++replicate (80-t) 0))::qqb n4 (quh [0,0,0,0,0])::qqb n2 (quh s.l)::ps)) (λt=>16-t) 0 ⟨rfl,by omega,h⟩ ?_
 clear h
 rintro t t' w I μ ⟨rfl,ht,h⟩ hin
 unfold qe.b4
 refine quc (λh1=>?_) (λh1=>?_)
 ·refine qm (qd (by omega) (by omega)) ?_
  refine⟨⟨by omega,by omega⟩,qbe ?_⟩
  have hrd:=hr w [_,_,_] h
  have e4:(4*(t:Int)).toNat=4*t:=by omega
  rw[e4]
  have hcut:=hrd.cut (n:=4*t) (m:=sl.len) (by decide) (le_refl _) (by omega) hcap (sl.cap-4*t)
  have ec:((u8s p).drop (4*t*1)).take ((sl.len-4*t)*1)=u8s (p.drop (4*t)):=by
   rw[mul_one,mul_one,take_of_length_le (by rw[length_drop,qjd];omega)];unfold u8s;rw[List.map_drop]
  rw[ec]at hcut
  refine qgi.c hcut (λx hx=>hpb x (List.mem_of_mem_drop hx)) (by rw[length_drop];omega) λw1 hm=>⟨_,rfl,?_⟩
  have h:=h.skip hm
  have hlt:((qsg p).take t).length=t:=by rw[length_take];omega
  refine h.sto32 (j:=t) rfl (by rw[length_append,hlt,length_replicate];omega) λw h=>?_
  refine qm (qd (by omega) (by omega)) ?_
  refine⟨⟨rfl,rfl,rfl,rfl⟩,hin (t+1) _ _ ⟨by simp,by omega,?_⟩ (by omega)⟩
  have es:=qhx (l:=(qsg p).take t) (k:=80-t) (v:=be ((p.drop (4*t)).take 4)) (by omega)
  rw[hlt]at es
  rw[es,show 80-t-1=80-(t+1)by omega,<-qzlb (by omega)]at h
  exact h
 have:t=16:=by omega
 subst this
 rw[take_of_length_le (by omega)]at h
 clear hin ht h1
 unfold qe.j2 qe.j14
 refine qjf (λ(t:Nat) (t':Int) w=>t'=(t:Int)+16/\t<=64/\St F0 w0 w (qcc 1 t5 (quh (qkj t (qsg p)++replicate (64-t) 0))::qqb n4 (quh [0,0,0,0,0])::qqb n2 (quh s.l)::ps)) (λt=>64-t) 0 ⟨rfl,by omega,by rw[qkj];exact h⟩ ?_
 clear h
 rintro t t' w I μ ⟨rfl,ht,h⟩ hin
 have hgl:(qkj t (qsg p)).length=t+16:=by rw[qns,hb16];omega
 unfold qe.b3
 refine quc (λh1=>?_) (λh1=>?_)
 ·refine h.drewK λw h=>?_
  have hlen:(qkj t (qsg p)++replicate (64-t) (0:Int)).length=80:=by rw[length_append,hgl,length_replicate];omega
  refine qm (qd (by omega) (by omega)) ?_
  refine h.ldo32 (j:=t+13) (by omega) (by omega) ?_
  refine qm (qd (by omega) (by omega)) ?_
  refine h.ldo32 (j:=t+8) (by omega) (by omega) ?_
  refine qbe ?_
  refine qm (qd (by omega) (by omega)) ?_
  refine h.ldo32 (j:=t+2) (by omega) (by omega) ?_
  refine qbe ?_
  refine qm (qd (by omega) (by omega)) ?_
  refine h.ldo32 (j:=t) (by omega) (by omega) ?_
  refine qbe ?_
  refine qre.c (by decide) ⟨_,rfl,?_⟩
  refine h.sto32 (j:=t+16) (by omega) (by omega) λw h=>?_
  refine qm (qd (by omega) (by omega)) ?_
  refine⟨⟨rfl,rfl,rfl⟩,hin (t+1) _ _ ⟨by omega,by omega,?_⟩ (by omega)⟩
  rw[qui (by omega),qui (by omega),qui (by omega),qui (by omega)]at h
  have es:=qhx (l:=qkj t (qsg p)) (k:=64-t) (v:=nextW (qkj t (qsg p))) (by omega)
  rw[hgl,<-qew,show 64-t-1=64-(t+1)by omega]at es
  rw[<-es]
  unfold nextW
  rw[hgl]
  exact h
 have:t=64:=by omega
 subst this
 clear hin ht h1
 rw[sub_self,List.replicate_zero,append_nil]at h
 unfold qe.j3
 refine h.at2.ld20 rfl ?_
 refine h.new λn8 w h=>?_
 rw[qyqb]at h
 refine⟨rfl,?_⟩
 refine h.st5 rfl rfl qgl λw h=>?_
 exact qe.loop (by rw[hgl]) rfl (h.tail λ_ _ _ h=>h.tail λ_ _ _ h=>h.at1) hk
end
end
section
attribute [local irreducible] apK cpK mkK hs qtk rounds qkj
theorem zc_20:zc prog 39=⟨u8s (replicate 20 0)⟩:=by kernel_rfl
theorem qanb(s:W5)(i:Nat)(hi:i<20):(s.l.flatMap word4).getD i 0=(s.l.getD (i/4) 0)/2^(24-8*(i%4))%256:=by
 have:i=0\/i=1\/i=2\/i=3\/i=4\/i=5\/i=6\/i=7\/i=8\/i=9\/i=10\/i=11\/i=12\/i=13\/i=14\/i=15\/i=16\/i=17\/i=18\/i=19:=by omega
 rcases this with rfl|rfl|rfl|rfl|rfl|rfl|rfl|rfl|rfl|rfl|rfl|rfl|rfl|rfl|rfl|rfl|rfl|rfl|rfl|rfl
 all_goals first
  |rfl
  |(show _%256=_/2^0%256;rw[Int.pow_zero,Int.ediv_one];rfl)
section
variable {F0:List Nat}{w0 w:World}{ps:List As}
theorem St.dropN{qs:List As}(h:St F0 w0 w (qs++ps)):St F0 w0 w ps:=by
 induction qs with
 |nil=>exact h
 |cons q qs ih=>exact ih h.drop
theorem St.stu8{b o:Nat}{l:List Int}{i:Nat}{v:Int}{K:World->Prop}(h:St F0 w0 w (qqb b (u8s l)::ps))(ho:o=i)(hi:i<l.length)(hk:∀w',St F0 w0 w' (qqb b (u8s (l.set i v))::ps)->K w'):Go.Proofs.YtdccpphmkfaioaaGreat.st w ⟨b,o,none⟩ (.int .u8 v) K:=by
 subst ho;refine h.st (by rw[qjd];exact hi) trivial λw' h=>hk w' ?_;rw[qzhb]at h;exact h
theorem qo.out{n2 n6:Nat}{s:W5}{c:List Value}(hc:c.length=20)(hs:okW s){Q:VWP}(h:St F0 w0 w (qqb n6 (quh s.l)::qqb n2 c::ps))
 (hk:∀w',St F0 w0 w' ps->Q (.agg ⟨u8s (s.l.flatMap word4)⟩) w'):qo.j7 ⟨n2,0,none⟩ ⟨n6,0,none⟩ Q w:=by
 unfold qo.j7
 refine h.new λn8 w h=>?_
 rw[zc_20]at h
 unfold qo.j8 qo.j10
 have hfl:(s.l.flatMap word4).length=20:=rfl
 refine qjf (λ(i:Nat) (i':Int) w=>i'=i/\i<=20/\St F0 w0 w (qqb n8 (u8s ((s.l.flatMap word4).take i++replicate (20-i) 0))::qqb n6 (quh s.l)::qqb n2 c::ps)) (λi=>20-i) 0 ⟨rfl,by omega,h⟩ ?_
 clear h
 rintro i i' w I μ ⟨rfl,hi,h⟩ hin
 unfold qo.b1
 refine quc (λh1=>?_) (λh1=>?_)
 ·have hi20:i<20:=by omega
  refine⟨by decide,?_⟩
  rw[qno (by omega)]
  refine qm (qd (by omega) (by omega)) ?_
  refine h.at1.ldx (j:=i/4) (by omega) rfl (by omega) ?_
  refine⟨by decide,?_⟩
  refine qm (qzk (by omega)) ?_
  have em:(i:Int)%4=(i%4:Nat):=by omega
  rw[em]
  refine qm (show u64.wrap ((i%4:Nat):Int)=(i%4:Nat)by rw[qgh];omega) ?_
  refine qm (show u64.wrap (8*((i%4:Nat):Int))=(8*(i%4):Nat)by rw[qgh];omega) ?_
  refine qm (show u64.wrap (24-((8*(i%4):Nat):Int))=(24-8*(i%4):Nat)by rw[qgh];omega) ?_
  refine⟨by omega,?_⟩
  refine qm (qmi .u32 _ (show 24-8*(i%4)<=32 by omega)) ?_
  refine qm (qmk _) ?_
  rw[<-qanb s i hi20]
  have hlt:((s.l.flatMap word4).take i).length=i:=by rw[length_take];omega
  refine qxn (by omega) (by omega) ?_
  refine h.stu8 (i:=i) (by omega) (by rw[length_append,hlt,length_replicate];omega) λw h=>?_
  refine qm (qd (by omega) (by omega)) ?_
  refine⟨⟨rfl,rfl,rfl⟩,hin (i+1) _ _ ⟨by simp,by omega,?_⟩ (by omega)⟩
  have es:=qhx (l:=(s.l.flatMap word4).take i) (k:=20-i) (v:=(s.l.flatMap word4).getD i 0) (by omega)
  rw[hlt]at es
  have et:(s.l.flatMap word4).take (i+1)=(s.l.flatMap word4).take i++[(s.l.flatMap word4).getD i 0]:=by
   rw[List.take_succ_eq_append_getElem (by omega)];congr 2;simp[List.getD,List.getElem?_eq_getElem (show i<(s.l.flatMap word4).length by omega)]
  rw[es,show 20-i-1=20-(i+1)by omega,<-et]at h
  exact h
 ·have:i=20:=by omega
  subst this
  have h:St F0 w0 w (qqb n8 (u8s (s.l.flatMap word4))::qqb n6 (quh s.l)::qqb n2 c::ps):=by
   rw[take_of_length_le (by omega),sub_self,List.replicate_zero,append_nil]at h;exact h
  unfold qo.j9
  have hl20:(u8s (s.l.flatMap word4)).length=20:=by rw[qjd];exact hfl
  refine h.ld20 hl20 ?_
  refine⟨hl20,?_⟩
  refine h.at2.st20 hc hl20 qjs λw h=>?_
  refine h.ld20 hl20 ?_
  exact hk w h.drop.drop.drop
theorem qo.blocks{n2:Nat}{t3:Sl}{xs:List Int}{c:List Value}(hc:c.length=20)(hxb:qxl xs)(hm:xs.length%64=0)(hL:xs.length<=1099511627776){Q:VWP}(h:St F0 w0 w (qcc 1 t3 (u8s xs)::qqb n2 c::ps))
 (hk:∀w',St F0 w0 w' ps->Q (.agg ⟨u8s ((Go.Proofs.YtdccpphmkfaioaaGreat.hs xs (xs.length/64)).l.flatMap word4)⟩) w'):qo.j5 ⟨n2,0,none⟩ t3 Q w:=by
 unfold qo.j5
 refine h.new λn6 w h=>?_
 rw[qyqb]at h
 refine⟨rfl,?_⟩
 have e0:(⟨[.int .u32 1732584193,.int .u32 4023233417,.int .u32 2562383102,.int .u32 271733878,.int .u32 3285377520]⟩:Array Value)=⟨quh (Go.Proofs.YtdccpphmkfaioaaGreat.hs xs 0).l⟩:=by rw[Go.Proofs.YtdccpphmkfaioaaGreat.hs];rfl
 rw[e0]
 refine h.st5 (n:=5) rfl rfl qgl λw h=>?_
 unfold qo.j6 qo.j11
 have hlen:=h.at1.len
 rw[qjd]at hlen
 have hcap:=h.at1.cap (by decide)
 refine qjf (λ(k:Nat) (i':Int) w=>i'=((64*k:Nat):Int)/\64*k<=xs.length/\St F0 w0 w (qqb n6 (quh (Go.Proofs.YtdccpphmkfaioaaGreat.hs xs k).l)::qcc 1 t3 (u8s xs)::qqb n2 c::ps)) (λk=>xs.length-64*k) 0 ⟨rfl,by omega,h⟩ ?_
 clear h
 rintro k i' w I μ ⟨rfl,hi,h⟩ hin
 unfold qo.b2
 refine quc (λh1=>?_) (λh1=>?_)
 ·have h64:64*k+64<=xs.length:=by omega
  refine h.drewK λw h=>?_
  refine h.ld20 (n:=5) rfl ?_
  refine qm (qd (by omega) (by omega)) ?_
  refine⟨⟨by omega,by omega⟩,⟨by omega,by omega⟩,qbe ?_⟩
  have en:(((64*k:Nat):Int)+64).toNat=64*k+64:=by omega
  have em:(((64*k:Nat):Int)).toNat=64*k:=by omega
  rw[en,em]
  have hlenb:((xs.drop (64*k)).take 64).length=64:=by rw[length_take,length_drop];omega
  refine qe.c (p:=(xs.drop (64*k)).take 64) hlenb (λx hx=>hxb x (List.mem_of_mem_drop (List.mem_of_mem_take hx))) (by show 64*k+64-64*k<=t3.cap-64*k;omega) h (λw' qs h=>?_) λw h=>⟨_,rfl,?_⟩
  ·have hrd:=h.dropN.at1.ord
   have hcut:=hrd.cut (n:=64*k) (m:=64*k+64) (by decide) (by omega) (by omega) hcap (t3.cap-64*k)
   have ec:((u8s xs).drop (64*k*1)).take ((64*k+64-64*k)*1)=u8s ((xs.drop (64*k)).take 64):=by
    rw[mul_one,mul_one,show 64*k+64-64*k=64 by omega];unfold u8s;rw[List.map_take,List.map_drop]
   rw[ec]at hcut
   exact hcut
  refine⟨rfl,?_⟩
  refine h.st5 (n:=5) rfl rfl qgl λw h=>?_
  refine qm (qd (by omega) (by omega)) ?_
  refine⟨⟨rfl,rfl,rfl⟩,hin (k+1) _ _ ⟨by omega,by omega,?_⟩ (by omega)⟩
  rw[Go.Proofs.YtdccpphmkfaioaaGreat.hs]
  exact h
 ·have:k=xs.length/64:=by omega
  subst this
  exact qo.out hc (qvpb _ _) (h.tail λ_ _ _ h=>h.drop) hk
end
end
section
attribute [local irreducible] apK cpK mkK hs qtk rounds qkj
section
variable {F0:List Nat}{w0 w:World}{ps:List As}
theorem qdpb(v:Int){i:Nat}(hi:i<8):(be8 v).take (i+1)=(be8 v).take i++[v/2^(8*(7-i))%256]:=by
 have hl:(be8 v).length=8:=by simp[be8]
 rw[List.take_succ_eq_append_getElem (by omega)];congr 2;simp[be8]
theorem qo.c{s:Sl}{xs:List Int}{K:Ending->World->Prop}(h:St F0 w0 w ps)[Rdb F0 w0 s ps 1 (u8s xs)](hx:qxl xs)(hL:xs.length<=34359738368)
 (hk:∀w',St F0 w0 w' ps->K (.returned (.agg ⟨u8s (qtk xs)⟩)) w'):Calls prog 24 ⟨[.slice s.a s.len s.cap]⟩ w K:=by
 have hsl:=(h.rdb s).1
 rw[qjd]at hsl
 refine qdc (qo.ok _ _ _ ?_)
 unfold qo
 refine h.new λn2 w h=>?_
 have hz:(zc prog 39).toList.length=20:=by rw[Array.length_toList,zc_20];rfl
 generalize (zc prog 39).toList=c at h hz
 unfold qo.j1
 refine h.clone (k:= .u8) (s2:=s) (by omega) λs1 w h=>?_
 refine h.pushI (by omega) λs2 w h=>?_
 unfold qo.j2
 refine qjf (λ(j:Nat) (o:Sl) w=>j<=(119-xs.length%64)%64/\St F0 w0 w (qcc 1 o (u8s (xs++[128]++replicate j 0))::qqb n2 c::ps)) (λj=>64-j) 0 ⟨by omega,by simpa using h⟩ ?_
 clear h
 rintro j o w I μ ⟨hj,h⟩ hin
 have hyl:(xs++[128]++replicate j 0).length=xs.length+1+j:=by simp;omega
 have hol:=h.len
 rw[qjd,hyl]at hol
 unfold qo.b4
 refine⟨by decide,?_⟩
 refine qm (qzk (by omega)) ?_
 refine qye (λh1=>?_) (λh1=>?_)
 ·have h1:¬((o.len:Nat):Int)%64=56:=by simpa using h1
  refine h.pushI (by rw[hyl];omega) λs2 w h=>?_
  refine⟨⟨rfl,rfl⟩,hin (j+1) _ _ ⟨by omega,?_⟩ (by omega)⟩
  rw[List.replicate_succ',<-append_assoc]
  exact h
 have h1:((o.len:Nat):Int)%64=56:=by simpa using h1
 have hjz:j=(119-xs.length%64)%64:=by omega
 clear hin
 unfold qo.j3
 refine qm (show u64.wrap ((s.len:Nat):Int)=xs.length by rw[qgh];omega) ?_
 refine qm (show u64.wrap ((xs.length:Int)*8)=8*(xs.length:Int)by rw[qgh];omega) ?_
 unfold qo.j4 qo.j12
 have h0:xs++[128]++replicate j 0=xs++[128]++zeros xs.length:=by rw[zeros,hjz]
 rw[h0]at h
 have hzl:(xs++[128]++zeros xs.length).length<=34359739000:=by rw[<-h0,hyl];omega
 have hbl:(be8 (8*(xs.length:Int))).length=8:=by simp[be8]
 refine qug (λ(i:Nat) (o:Sl) (i':Int) w=>i'=7-(i:Int)/\i<=8/\St F0 w0 w (qcc 1 o (u8s (xs++[128]++zeros xs.length++(be8 (8*(xs.length:Int))).take i))::qqb n2 c::ps)) (λi=>8-i) 0 ⟨rfl,by omega,by rw[List.take_zero,append_nil];exact h⟩ ?_
 clear h
 rintro i o i' w I μ ⟨rfl,hi,h⟩ hin
 unfold qo.b3
 refine quc (λh1=>?_) (λh1=>?_)
 ·have hi8:i<8:=by omega
  refine qm (show u64.wrap (7-(i:Int))=((7-i:Nat):Int)by rw[qgh];omega) ?_
  refine qm (show u64.wrap (8*((7-i:Nat):Int))=((8*(7-i):Nat):Int)by rw[qgh];omega) ?_
  refine⟨by omega,?_⟩
  refine qm (qmi .u64 _ (show 8*(7-i)<=64 by omega)) ?_
  refine qm (qmk _) ?_
  refine h.pushI (by rw[length_append,length_take,hbl];omega) λs2 w h=>?_
  refine qm (qd (by omega) (by omega)) ?_
  refine⟨⟨rfl,rfl⟩,hin (i+1) _ _ _ ⟨by omega,by omega,?_⟩ (by omega)⟩
  rw[qdpb _ hi8,<-append_assoc]
  exact h
 ·have:i=8:=by omega
  subst this
  rw[take_of_length_le (by omega)]at h
  have e:xs++[128]++zeros xs.length++be8 (8*xs.length)=qar xs:=rfl
  rw[e]at h
  have hpb:qxl (qar xs):=by
   rw[<-e];intro x hx';rcases mem_append.1 hx' with hx'|hx'
   rcases mem_append.1 hx' with hx'|hx'
   rcases mem_append.1 hx' with hx'|hx'
   ·exact hx x hx'
   ·rw[mem_singleton.1 hx'];decide
   ·rw[List.eq_of_mem_replicate hx'];decide
   ·exact qow 8 8 _ x hx'
  have hpl:(qar xs).length<=1099511627776:=by rw[<-e,length_append,hbl];omega
  refine qo.blocks hz hpb (qvx xs) hpl h λw h=>?_
  have:=hk w h
  unfold qtk sumW at this
  exact this
end
end
section
attribute [local irreducible] qih crcV
abbrev Ex:=En×List Int
structure OkE(i:Nat)(x:Ex):Prop where
 k1:1<=x.1.kind
 k7:x.1.kind<=7
 k5:x.1.kind≠5
 bk:x.1.kind=6->1<=x.1.back/\x.1.back<=i
structure PlE(x:Ex):Prop where
 xs:∀v∈x.2,0<=v/\v<256
 bs:∀v∈x.1.base,0<=v/\v<256
 ln:x.2.length<=2000
 dl:x.1.data.len=x.2.length
 dc:x.1.data.len<=x.1.data.cap
def OkX(X:List Ex)(n:Nat):Prop:=∀(i:Nat) (h:i<X.length),i<n->OkE i X[i]
def hdP(n:Nat):List Int:=([80,65,67,75]++beJ 4 4 2)++beJ 4 4 n
def bkW(A:Nat)(P:List Nat)(x:Ex):Nat:=if x.1.kind=6 then A-P.getD (P.length-x.1.back.toNat) 0 else 0
def enB(eff:Int)(A:Nat)(P:List Nat)(x:Ex):List Int:=qjn x.1.kind.toNat (bkW A P x) x.1.base x.2 eff
def stW(eff:Int)(p:List Int×List Nat)(x:Ex):List Int×List Nat:=(p.1++enB eff p.1.length p.2 x,p.2++[p.1.length])
def wrS(eff:Int)(X:List Ex)(i:Nat):List Int×List Nat:=(X.take i).foldl (stW eff) (hdP X.length,[])
abbrev bW(eff:Int)(X:List Ex)(i:Nat):List Int:=(wrS eff X i).1
abbrev pW(eff:Int)(X:List Ex)(i:Nat):List Nat:=(wrS eff X i).2
section
variable {eff:Int}{X:List Ex}{i j n:Nat}
theorem wrS_s(h:i<X.length):wrS eff X (i+1)=stW eff (wrS eff X i) X[i]:=by
 unfold wrS;rw[List.take_succ_eq_append_getElem h,List.foldl_append];rfl
theorem qepb(h:i<X.length):bW eff X (i+1)=bW eff X i++enB eff (bW eff X i).length (pW eff X i) X[i]:=by
 show(wrS eff X (i+1)).1=_;rw[wrS_s h];rfl
theorem pW_s(h:i<X.length):pW eff X (i+1)=pW eff X i++[(bW eff X i).length]:=by
 show(wrS eff X (i+1)).2=_;rw[wrS_s h];rfl
theorem qzr(n:Nat):(hdP n).length=12:=by simp[hdP,qpk]
theorem qvv:∀i,i<=X.length->(pW eff X i).length=i:=by
 intro i;induction i with
 |zero=>intro _;rfl
 |succ i ih=>intro h;rw[pW_s (by omega),length_append,ih (by omega)];rfl
theorem qupb:∀i,i<=X.length->∀j,j<i->(pW eff X i)[j]?=some (bW eff X j).length:=by
 intro i;induction i with
 |zero=>intro _ j h;omega
 |succ i ih=>
  intro h j hj;rw[pW_s (by omega)];by_cases e:j=i
  ·subst e;rw[List.getElem?_append_right (by rw[qvv j (by omega)];exact le_refl _),qvv j (by omega),sub_self];rfl
  ·rw[List.getElem?_append_left (by rw[qvv i (by omega)];omega)];exact ih (by omega) j (by omega)
theorem qwib(h:i<=X.length)(hj:j<i):(pW eff X i).getD j 0=(bW eff X j).length:=by
 rw[List.getD_eq_getElem?_getD,qupb i h j hj];rfl
def tot(X:List Ex):Nat:=(X.map λx=>x.2.length).sum
theorem tot_s(h:i<X.length):tot (X.take (i+1))=tot (X.take i)+X[i].2.length:=by
 unfold tot;rw[List.take_succ_eq_append_getElem h,map_append,List.sum_append];simp
theorem qopb:∀{X:List Ex} (i:Nat),tot (X.take i)<=tot X:=by
 intro X i;have e:tot X=tot (X.take i)+tot (X.drop i):=by
  unfold tot;rw[<-List.sum_append,<-map_append,List.take_append_drop]
 omega
structure Play(X:List Ex):Prop where
 pl:∀x∈X,PlE x
 tt:tot X<=6000
 ln:X.length<=514
theorem qrlb{x:Ex}(hA:(bW eff X i).length<=100000):bkW (bW eff X i).length (pW eff X i) x<9223372036854775808:=by
 unfold bkW;split<;>omega
theorem qzab(hP:Play X):∀i,i<=X.length->(bW eff X i).length<=12+tot (X.take i)+34*i/\12<=(bW eff X i).length:=by
 intro i;induction i with
 |zero=>intro _;show(hdP X.length).length<=_/\_<=(hdP X.length).length;rw[qzr];omega
 |succ i ih=>
  intro h;have hi:i<X.length:=by omega
  obtain⟨h1,h2⟩:=ih (by omega);have ht:=qopb (X:=X) i;have h3:=hP.tt;have h4:=hP.ln;have hp:=hP.pl _ (getElem_mem hi);have:=qyeb (k:=X[i].1.kind.toNat) (base:=X[i].1.base) (xs:=X[i].2) X[i].1.hb (qrlb (eff:=eff) (X:=X) (i:=i) (x:=X[i]) (by omega)) (by have:=hp.ln;omega) eff;rw[qepb hi,length_append,tot_s hi];unfold enB;omega
theorem qom(hP:Play X)(h:i<=X.length):(bW eff X i).length<=24000:=by
 have:=(qzab (eff:=eff) hP i h).1;have ht:=qopb (X:=X) i;have h3:=hP.tt;have h4:=hP.ln;omega
theorem bW_lt(hP:Play X)(h:i<X.length):(bW eff X i).length<(bW eff X (i+1)).length:=by
 have hm:=qom (eff:=eff) hP (show i<=X.length by omega);have hp:=hP.pl _ (getElem_mem h);have:=(qyeb (k:=X[i].1.kind.toNat) (base:=X[i].1.base) (xs:=X[i].2) X[i].1.hb (qrlb (eff:=eff) (X:=X) (i:=i) (x:=X[i]) (by omega)) (by have:=hp.ln;omega) eff).2;rw[qepb h,length_append];unfold enB;omega
theorem qdub(hP:Play X):∀d i,i+d<=X.length->(bW eff X i).length+d<=(bW eff X (i+d)).length:=by
 intro d;induction d with
 |zero=>intro i _;exact le_refl _
 |succ d ih=>
  intro i h;have h1:=ih i (by omega);have h2:(bW eff X (i+d)).length<(bW eff X (i+(d+1))).length:=bW_lt (eff:=eff) hP (show i+d<X.length by omega);omega
theorem qjqb(hP:Play X)(h:j<i)(hi:i<=X.length):(bW eff X j).length<(bW eff X i).length:=by
 have:=qdub (eff:=eff) hP (i-j) j (by omega);rw[show j+(i-j)=i by omega]at this
 omega
theorem qfpb(hP:Play X)(hK:OkX X n):∀i,i<=X.length->i<=n->∀v∈bW eff X i,0<=v/\v<256:=by
 intro i;induction i with
 |zero=>
  intro _ _ v hv;have hv:v∈hdP X.length:=hv;unfold hdP at hv;rcases mem_append.1 hv with hv|hv
  ·rcases mem_append.1 hv with hv|hv
   ·simp at hv;omega
   ·exact qow _ _ _ v hv
  ·exact qow _ _ _ v hv
 |succ i ih=>
  intro h hn v hv;have hi:i<X.length:=by omega
  rw[qepb hi]at hv;rcases mem_append.1 hv with hv|hv
  ·exact ih (by omega) (by omega) v hv
  ·have hp:=hP.pl _ (getElem_mem hi);have ho:=hK i hi (by omega);exact qtkb (by have:=ho.k7;omega) hp.bs eff v hv
theorem qnfb:∀d i,i+d<=X.length->∃T,bW eff X (i+d)=bW eff X i++T:=by
 intro d;induction d with
 |zero=>intro i _;exact⟨[],by simp⟩
 |succ d ih=>
  intro i h;obtain⟨T,e⟩:=ih i (by omega);exact⟨T++enB eff (bW eff X (i+d)).length (pW eff X (i+d)) X[i+d],by rw[<-Nat.add_assoc,qepb (by omega),e,append_assoc]⟩
theorem bW_at(h:i<X.length):∃T,bW eff X X.length=bW eff X i++(enB eff (bW eff X i).length (pW eff X i) X[i]++T):=by
 obtain⟨T,e⟩:=qnfb (eff:=eff) (X:=X) (X.length-(i+1)) (i+1) (by omega);rw[show i+1+(X.length-(i+1))=X.length by omega]at e;exact⟨T,by rw[e,qepb h,append_assoc]⟩
theorem qslb(hP:Play X)(h:i<X.length)(ho:OkE i X[i])(h6:X[i].1.kind=6):
 bkW (bW eff X i).length (pW eff X i) X[i]=(bW eff X i).length-(bW eff X (i-X[i].1.back.toNat)).length/\i-X[i].1.back.toNat<i/\(bW eff X (i-X[i].1.back.toNat)).length<(bW eff X i).length:=by
 obtain⟨h1,h2⟩:=ho.bk h6
 have hj:i-X[i].1.back.toNat<i:=by omega
 refine⟨?_,hj,qjqb hP hj (by omega)⟩
 unfold bkW
 rw[if_pos h6,qvv i (by omega),qwib (by omega) hj]
abbrev atX(X:List Ex)(i:Nat):Ex:=X.getD i (en0,[])
theorem qeub(h:i<X.length):atX X i=X[i]:=by show X.getD i _=_;rw[List.getD_eq_getElem?_getD,List.getElem?_eq_getElem h];rfl
def rdX(eff:Int)(X:List Ex)(i:Nat)(x:Ex)(t:Sl):En:=enW x.1.kind.toNat (bkW (bW eff X i).length (pW eff X i) x) x.1.base x.1.hb x.2 eff (bW eff X i).length t
def rdE(eff:Int)(X:List Ex)(i:Nat)(t:Sl):En:=rdX eff X i (atX X i) t
theorem qwz{t:Sl}(h:i<X.length):rdE eff X i t=rdX eff X i X[i] t:=by unfold rdE;rw[qeub h]
def enL(eff:Int)(X:List Ex)(T:List Sl):List En:=T.mapIdx (rdE eff X)
theorem qbl{T:List Sl}:(enL eff X T).length=T.length:=by unfold enL;rw[List.length_mapIdx]
theorem qoy{T:List Sl}(h:i<(enL eff X T).length):(enL eff X T)[i]=rdE eff X i (T[i]'(by rw[qbl]at h;exact h)):=List.getElem_mapIdx (f:=rdE eff X)
theorem enL_s{T:List Sl}{t:Sl}:enL eff X (T++[t])=enL eff X T++[rdE eff X T.length t]:=by unfold enL;rw[List.mapIdx_concat]
end
end
section
def dfK(D:Nat)(w:World)(K:WP):Prop:=w.heap[D]?=some (.deferred (some []))/\K (w.putObj D (.deferred none))
def bgK(l:Nat)(RC:LoopState->Option Code->Loop)(w:World)(K:WP):Prop:=w.heap[l]?=some (.loop (RC .ready none))/\K (w.putObj l (.loop (RC .busy none)))
def rgF(P:Program)(fv:Value)(w:World)(Rd:Array Value->Int->(World->WP->Prop)->WP->WP->WP)(Dn Rt:Nat->WP):Prop:=∃(gf:FuncId) (lb:Array Value),fv= .func (.func gf) ⟨[]⟩ lb/\qvg P gf=true/\∀RC:LoopState->Option Code->Loop,(∀(W:World) (x:Array Value) (y:Int) (R:Ending->World->Prop),W.heap[w.heap.size+1]?=some (.loop (RC .ready none))->Rd x y (bgK (w.heap.size+1) RC) (λv=>v.heap[w.heap.size+1]?=some (.loop (RC .busy none))/\R (.returned (.bool true)) (v.putObj (w.heap.size+1) (.loop (RC .ready none)))) (λv=>v.heap[w.heap.size+1]?=some (.loop (RC .busy none))/\R (.returned (.bool false)) (v.putObj (w.heap.size+1) (.loop (RC .done (some .ret))))) W->yd P (w.heap.size+1) [.agg x,.int .i64 y] W R)->Calls P gf ⟨.func (.yield (w.heap.size+1)) ⟨[]⟩ ⟨[]⟩::lb.toList⟩ ((w.alloc (.deferred (some []))).alloc (.loop (RC .ready none))) λe v=>(∃u,e= .returned u)/\((v.heap[w.heap.size+1]?=some (.loop (RC .ready none))/\Dn w.heap.size (v.putObj (w.heap.size+1) (.loop (RC .exhausted none))))\/(v.heap[w.heap.size+1]?=some (.loop (RC .done (some .ret)))/\Rt w.heap.size (v.putObj (w.heap.size+1) (.loop (RC .exhausted (some .ret))))))
section
variable {P:Program}{N:Nat}
theorem qgsb(hm:P.follows .mixedOrders=true){l R:RK}{Q:Exit->Act->World->Prop}(hR:∀a ρ w,rel [] N a ρ->R ρ w->Q .ret a w):∀(n:Nat) (c:Code) {ρ:Nat->Value} {w:World} {a:Act},rel [] N a ρ->preP P N n c {norm:=l,ret:=R,ex:=[]} ρ w->
 (∀a ρ w,rel [] N a ρ->l ρ w->(aftC n c).wpIn (fw none) 0 P Q a w)->c.wpIn (fw none) 0 P Q a w:=by
 intro n
 induction n with
 |zero=>
  intro c ρ w a hr h h2
  cases c<;>first|exact h.elim|skip
  refine wpIn_seq (wpIn_mono (qjl hm _ h none [] a hr) ?_)
  rintro e a w ⟨ρ,hr,h⟩
  cases e<;>first|exact h.elim|skip
  ·exact h2 _ _ _ hr h
  ·exact hR _ _ _ hr h
 |succ n ih=>
  intro c ρ w a hr h h2
  cases c<;>first|exact h.elim|skip
  refine wpIn_seq (wpIn_mono (qjl hm _ h none [] a hr) ?_)
  rintro e a w ⟨ρ,hr,h⟩
  cases e<;>first|exact h.elim|skip
  ·exact ih _ hr h h2
  ·exact hR _ _ _ hr h
theorem quqb{p0 p1:Tmp}{x:Array Value}{y:Int}{a:Act}{ρ:Nat->Value}(hr:rel [] N a ρ)(h0:p0<N)(h1:p1<N):
 rel [] N {tmps:=((⟨[p0,p1]⟩:Array Tmp).zip (⟨[.agg x,.int .i64 y]⟩:Array Value)).foldl (λt (p,v)=>t.setIfInBounds p v) a.tmps,defers:=[]} (upd (upd ρ p0 (.agg x)) p1 (.int .i64 y)):=by
 have e1:=qrm (d:=some p1) (qrm (d:=some p0) hr (λt e=>by cases e;exact h0) (.agg x)) (λt e=>by cases e;exact h1) (.int .i64 y)
 have ea:((a.put (some p0) (.agg x)).put (some p1) (.int .i64 y))={tmps:=((⟨[p0,p1]⟩:Array Tmp).zip (⟨[.agg x,.int .i64 y]⟩:Array Value)).foldl (λt (p,v)=>t.setIfInBounds p v) a.tmps,defers:=[]}:=by
  have:=hr.1;cases a;subst this
  simp[Act.put]
 rw[<-ea]
 exact e1
theorem ok_rf{f:FuncId}{fn:Func}{c:Code}{args:List Value}{w:World}{Q:VWP}{A:Prop}(rs:List ResultVar)(hm:P.follows .mixedOrders=true)
 (hf:P.funcs[f]?=some fn) (hb:fn.body=some c) (hN:fn.ntmps=N) (hle:Nat.ble args.length N=true) (hrs:fn.results.toList=rs)
 (n:Nat) (sl:Tl) (J:TF WP sl) {a0 az b B:Code} {id:Nat} {g:Operand} {p0 p1:Tmp} (hc:aftC n c= .seq (.seq a0 (.block id (.rangeFunc g ⟨[p0,p1]⟩ az b))) B) (h0:blt p0 N=true) (h1:blt p1 N=true)
 (e:(A,λ_=>J)=(preP P N n c {norm:=λρ w=>pt P N a0 {norm:=tm sl J,ret:=retK P rs Q,ex:=[]} ρ w,ret:=retK P rs Q,ex:=[]} (args0 args) w,
   ab sl λρ w=>rgF P (ev ρ g) w (λx y bg nx rt w=>pt P N az {norm:=λρ w=>bg w λw=>pt P N b {norm:=λ_ w=>nx w,ret:=λ_ w=>rt w,ex:=[]} ρ w,ret:=λ_ _=>False,ex:=[]} (upd (upd ρ p0 (.agg x)) p1 (.int .i64 y)) w)
    (λD w=>pt P N B {norm:=λρ w=>dfK D w λw=>retK P rs Q ρ w,ret:=λρ w=>dfK D w λw=>retK P rs Q ρ w,ex:=[]} ρ w)
    (λD w=>dfK D w λw=>retK P rs Q ρ w))) (h:A):Calls P f ⟨args⟩ w (Ret Q):=by
 injection e with e1 e2
 rw[e1]at h
 subst hN hrs
 have hle':=Nat.le_of_ble_eq_true hle
 have hr:rel [] fn.ntmps {tmps:=(⟨args⟩:Array Value)++Array.replicate (fn.ntmps-(⟨args⟩:Array Value).size) undef,defers:=[]} (args0 args):=qofb hle'
 refine(callsIn_wide (n:=0)).1 (callsIn_of_wp_marks hf hb trivial ?_)
 have fin0:∀a ρ w,rel [] fn.ntmps a ρ->retK P fn.results.toList Q ρ w->bodyPostM (fw none) 0 P fn (Ret Q) .ret a w:=by
  intro a ρ w hr h;obtain⟨v,h1,h2⟩:=qqn hr.2.2 h;show LeavesInM _ 0 P fn a.tmps (Ret Q) a.defers .returning w;rw[hr.1];exact⟨v,h1,v,rfl,h2⟩
 have finD:∀D a ρ w,rel [{target:= .collected D,args:=#[]}] fn.ntmps a ρ->dfK D w (λw=>retK P fn.results.toList Q ρ w)->bodyPostM (fw none) 0 P fn (Ret Q) .ret a w:=by
  intro D a ρ w hr h;obtain⟨v,h1,h2⟩:=qqn hr.2.2 h.2;show LeavesInM _ 0 P fn a.tmps (Ret Q) a.defers .returning w;rw[hr.1];exact⟨by simp,.inl ⟨_,_,rfl,run_takeDeferred h.1,⟨v,h1,v,rfl,h2⟩⟩⟩
 refine qgsb hm fin0 n c hr h λa ρ w hr h=>?_
 rw[hc]
 refine wpIn_seq (wpIn_seq (wpIn_mono (qjl hm a0 h none [] a hr) ?_))
 rintro e a w ⟨ρ,hr,h⟩
 cases e<;>first|exact h.elim|skip
 rotate_left
 ·exact fin0 _ _ _ hr h
 obtain⟨s,hs,h⟩:=qdib sl h
 have e3:=congrFun e2 ρ
 have h:ap sl ((λ_=>J:(Nat->Value)->TF WP sl) ρ) s w:=h
 rw[e3,qjhb sl hs]at h
 obtain⟨gf,lb,hfv,hpl,h⟩:=h
 refine wpIn_block (wpIn_rangeFunc λfid _=>?_)
 have hcall:=h λst j=>{state:=st,pending:=j,fn:=fid,tmps:=a.tmps,params:=⟨[p0,p1]⟩,assign:=az,body:=b,defers:=w.heap.size}
 let W1:World:=(w.alloc (.deferred (some []))).alloc (.loop {state:= .ready,pending:=none,fn:=fid,tmps:=a.tmps,params:=⟨[p0,p1]⟩,assign:=az,body:=b,defers:=w.heap.size})
 refine⟨w.heap.size+1,[{target:= .collected w.heap.size,args:=#[]}],W1,{target:= .fn (.func gf) lb,args:=#[.func (.yield (w.heap.size+1)) #[] #[]]},W1,gf,⟨.func (.yield (w.heap.size+1)) ⟨[]⟩ ⟨[]⟩::lb.toList⟩,W1,run_enterLoop_outer _ _ _ _ _,?_,λ_ _=>trivial,?_,λh=>(by cases h),?_⟩
 ·rw[show a.eval=ev ρ from qmp hr]
  simp only[resolve,rangeCall,hfv,Deferred.ofValue]
  simp[ev]
 ·have ea:(#[.func (.yield (w.heap.size+1)) #[] #[]]:Array Value)++lb=⟨.func (.yield (w.heap.size+1)) ⟨[]⟩ ⟨[]⟩::lb.toList⟩:=by apply Array.ext';simp
  simp only[invoke,ea]
  exact qep hpl _
 refine qkw.2 (Calls.mono (hcall ?_) ?_)
 ·intro W x y R hW hRd
  refine⟨fid,_,az,b,run_yield hW rfl,?_⟩
  refine roundIn_of_wpIn trivial ?_
  refine wpIn_mono (qjl hm az hRd (some (w.heap.size+1)) [] _ (quqb hr (Nat.le_of_ble_eq_true h0) (Nat.le_of_ble_eq_true h1))) ?_
  rintro e a2 W2 ⟨ρ2,hr2,h⟩
  cases e<;>first|exact h.elim|skip
  obtain⟨hb1,h⟩:=h
  refine⟨_,run_beginRound hb1 rfl,?_⟩
  refine wpIn_mono (qjl hm b h (some (w.heap.size+1)) [] _ hr2) ?_
  rintro e a3 W3 ⟨ρ3,hr3,h⟩
  cases e<;>first|exact h.elim|skip
  ·exact⟨_,_,run_endRound none h.1,h.2⟩
  ·exact⟨_,_,run_endRound (some .ret) h.1,h.2⟩
 ·rintro e v ⟨⟨u,rfl⟩,h|h⟩
  ·refine⟨none,_,run_endLoop h.1 (by simp),?_⟩
   show(B.wpIn (fw none) 0 P _ _ _)
   refine wpIn_mono (qjl hm B h.2 none [{target:= .collected w.heap.size,args:=#[]}] _ ⟨by rw[hr.1];rfl,hr.2.1,hr.2.2⟩) ?_
   rintro e a4 W4 ⟨ρ4,hr4,h⟩
   cases e<;>first|exact h.elim|skip
   ·exact finD _ _ _ _ hr4 h
   ·exact finD _ _ _ _ hr4 h
  ·refine⟨some .ret,_,run_endLoop h.1 (by simp),?_⟩
   refine wpIn_ret ?_
   exact finD _ _ ρ _ ⟨by rw[hr.1];rfl,hr.2.1,hr.2.2⟩ h.2
end
end
section
set_option maxRecDepth 100000
def qbg.j2(out_3:Sl)(Q:VWP)(w:World):Prop:=btS w out_3.a out_3.len λx1=>Q (.string x1) w
def qbg.b1(t7:(Array Value))(out_3:Sl)(t8:Int)(Q:VWP)(nx1:(Array Value)->Sl->Int->WP)(w:World):Prop:=br (decide (t8<20)) (((0:Int)<=t8/\t8<((20:Nat):Int))/\ptI .u8 t7 (toNat t8*1) λx2=>lt (World.drew w) λw3=>(0:Int)<=4/\lt (qal .u8 x2 4) λx4=>((0:Int)<=x4/\x4<(ByteArray.size ({data:=#[48,49,50,51,52,53,54,55,56,57,97,98,99,100,101,102]}):Int))/\lt (qfq ({data:=#[48,49,50,51,52,53,54,55,56,57,97,98,99,100,101,102]}) (toNat x4)) λx5=>lt (qdj .u8 x2 15) λx6=>((0:Int)<=x6/\x6<(ByteArray.size ({data:=#[48,49,50,51,52,53,54,55,56,57,97,98,99,100,101,102]}):Int))/\lt (qfq ({data:=#[48,49,50,51,52,53,54,55,56,57,97,98,99,100,101,102]}) (toNat x6)) λx7=>nw w3 ⟨[.int .u8 x5,.int .u8 x7]⟩ 5 λa8 w9=>rdO w9 (some a8) (2*1) λc10=>apK prog 5 w9 out_3.a out_3.len out_3.cap 2 c10 λs11 w12=>lt (i64.wrap (t8+1)) λx13=>nx1 t7 s11 x13 w12) (qbg.j2 out_3 Q w)
def qbg.l1(t7:(Array Value))(out_3:Sl)(t8:Int)(Q:VWP)(w:World):Prop:=∃(I:Sl->Int->WP) (μ:Sl->Int->World->Nat),I out_3 t8 w/\∀out_3:Sl,∀t8:Int,∀w:World,I out_3 t8 w->qbg.b1 t7 out_3 t8 Q (λt7' out_3' t8' w'=>(t7'=t7)/\I out_3' t8' w'/\μ out_3' t8' w'<μ out_3 t8 w) w
def qbg.j3(out_3:Sl)(t7:(Array Value))(t8:Int)(Q:VWP)(w:World):Prop:=qbg.l1 t7 out_3 t8 Q w
def qbg.j1(id_1:Addr)(out_3:Sl)(Q:VWP)(w:World):Prop:=ldA w id_1 20 λc14=>qbg.j3 out_3 c14 0 Q w
def qbg(id_0:(Array Value))(Q:VWP)(w:World):Prop:=nw w id_0 43 λa15 w16=>mkK prog 5 w16 0 40 λs17 w18=>qbg.j1 a15 s17 Q w18
theorem qbg.ok(id_0:(Array Value))(Q:VWP)(w:World)(h:qbg id_0 Q w):Calls prog 36 ⟨[.agg id_0]⟩ w (Ret Q):=
 qhc [.tmp 2] qde Tryz.func36 rfl rfl rfl rfl (.pr 1 [sA 1,sL 3] (λa b w=>qbg.j1 a b Q w) (.sq [sL 3] (λa w=>qbg.j2 a Q w) (.sq [sL 3,(7,.G),sI 8] (λa b c w=>qbg.j3 a b c Q w) .lf (.bk (.lo [(7,.G)] [sL 3,sI 8] (λa b c w=>qbg.l1 a b c Q w) (λnx1 a b c w=>qbg.b1 a b c Q nx1 w) λnx1=> .lf))) .lf)) (by kernel_rfl) h
def qri(b_0:Sl)(Q:VWP)(w:World):Prop:=nw w (zc prog 43) 43 λa1 w2=>br (decide ((b_0.len:Int)<20)) (((⟨[.int .u8 0,.int .u8 0,.int .u8 0,.int .u8 0,.int .u8 0,.int .u8 0,.int .u8 0,.int .u8 0,.int .u8 0,.int .u8 0,.int .u8 0,.int .u8 0,.int .u8 0,.int .u8 0,.int .u8 0,.int .u8 0,.int .u8 0,.int .u8 0,.int .u8 0,.int .u8 0]⟩:Array Value)).size=20/\stA w2 a1 (⟨[.int .u8 0,.int .u8 0,.int .u8 0,.int .u8 0,.int .u8 0,.int .u8 0,.int .u8 0,.int .u8 0,.int .u8 0,.int .u8 0,.int .u8 0,.int .u8 0,.int .u8 0,.int .u8 0,.int .u8 0,.int .u8 0,.int .u8 0,.int .u8 0,.int .u8 0,.int .u8 0]⟩:Array Value) λw3=>ldA w3 a1 20 λc4=>Q (.tuple ⟨[.agg c4,.int .i64 3]⟩) w3) (lt (i64.wrap ((b_0.len:Int)-20)) λx5=>bd x5 b_0.len λn6=>lt (⟨qnf b_0.a b_0.cap n6 1,b_0.len-n6,b_0.cap-n6⟩:Sl) λs7=>20<=s7.len/\nz s7.a λa8=>ldA w2 a8 20 λc9=>(c9).size=20/\stA w2 a1 c9 λw10=>ldA w10 a1 20 λc11=>Q (.tuple ⟨[.agg c11,.int .i64 0]⟩) w10)
theorem qri.ok(b_0:Sl)(Q:VWP)(w:World)(h:qri b_0 Q w):Calls prog 35 ⟨[sV b_0]⟩ w (Ret Q):=
 qhc [.cell 2 43,.tmp 3] qde Tryz.func35 rfl rfl rfl rfl .lf (by kernel_rfl) h
def qan(b_0:Sl)(Q:VWP)(w:World):Prop:=qilb 35 [sV b_0] w λr3 r4 w2=>nw w2 (zc prog 43) 43 λa5 w6=>(r3).size=20/\stA w6 a5 r3 λw7=>br (r4 !=0) (Q (.tuple ⟨[.string ({data:=#[]}),.int .i64 r4]⟩) w7) (ldA w7 a5 20 λc8=>Calls prog 36 ⟨[.agg c8]⟩ w7 λe9 w10=>∃r11:ByteArray,e9= .returned (.string r11)/\((ByteArray.size ({data:=#[112,97,99,107,45]})+ByteArray.size r11:Nat):Int)<=i64.max/\lt (({data:=#[112,97,99,107,45]})++r11:ByteArray) λx12=>Q (.tuple ⟨[.string x12,.int .i64 0]⟩) w10)
theorem qan.ok(b_0:Sl)(Q:VWP)(w:World)(h:qan b_0 Q w):Calls prog 13 ⟨[sV b_0]⟩ w (Ret Q):=
 qhc [.tmp 2,.tmp 3] qde Tryz.func13 rfl rfl rfl rfl .lf (by kernel_rfl) h
def qmd.j5(body_2:Sl)(n_3:Int)(Q:VWP)(w:World):Prop:=Q (.tuple ⟨[sV body_2,.int .i64 n_3,.int .i64 0]⟩) w
def qmd.j6(body_2:Sl)(n_3:Int)(t39:Bool)(Q:VWP)(w:World):Prop:=br t39 (Q (.tuple ⟨[.slice none 0 0,.int .i64 0,.int .i64 4]⟩) w) (br (decide (n_3>512)) (Q (.tuple ⟨[.slice none 0 0,.int .i64 0,.int .i64 5]⟩) w) (qmd.j5 body_2 n_3 Q w))
def qmd.j4(body_2:Sl)(n_3:Int)(id_6:Addr)(Q:VWP)(w:World):Prop:=lt (World.drew w) λw1=>(qgv 56 [sV body_2] w1 λr4 w3=>ldA w3 id_6 20 λc5=>eqA .u8 20 r4 c5 λx6=>qmd.j6 body_2 n_3 (!x6) Q w3)/\(ldA w1 id_6 20 λc7=>qgv 56 [sV body_2] w1 λr10 w9=>eqA .u8 20 r10 c7 λx11=>qmd.j6 body_2 n_3 (!x11) Q w9)
def qmd.j3(b_0:Sl)(n_3:Int)(Q:VWP)(w:World):Prop:=lt (i64.wrap ((b_0.len:Int)-20)) λx12=>bd x12 b_0.cap λn13=>lt (⟨qnf b_0.a b_0.cap 0 1,n13-0,b_0.cap-0⟩:Sl) λs14=>qilb 35 [sV b_0] w λr17 r18 w16=>nw w16 (zc prog 43) 43 λa19 w20=>(r17).size=20/\stA w20 a19 r17 λw21=>qmd.j4 s14 n_3 a19 Q w21
def qmd.j2(b_0:Sl)(r_5:OAd)(Q:VWP)(w:World):Prop:=qak 54 [.pointer r_5,.int .i64 4] w λr24 w23=>btS w23 r24.a r24.len λx25=>br (!(ByteArray.toList x25==ByteArray.toList ({data:=#[80,65,67,75]}))) (Q (.tuple ⟨[.slice none 0 0,.int .i64 0,.int .i64 2]⟩) w23) (qbk 55 [.pointer r_5] w23 λr28 w27=>br (r28 !=2) (Q (.tuple ⟨[.slice none 0 0,.int .i64 0,.int .i64 2]⟩) w27) (qbk 55 [.pointer r_5] w27 λr31 w30=>qmd.j3 b_0 r31 Q w30))
def qmd.j1(b_0:Sl)(Q:VWP)(w:World):Prop:=br (decide ((b_0.len:Int)>131072)) (Q (.tuple ⟨[.slice none 0 0,.int .i64 0,.int .i64 5]⟩) w) (br (decide ((b_0.len:Int)<32)) (Q (.tuple ⟨[.slice none 0 0,.int .i64 0,.int .i64 3]⟩) w) (qchb 53 [sV b_0] w λr34 w33=>qmd.j2 b_0 r34 Q w33))
def qmd(b_0:Sl)(Q:VWP)(w:World):Prop:=qmd.j1 b_0 Q w
theorem qmd.ok(b_0:Sl)(Q:VWP)(w:World)(h:qmd b_0 Q w):Calls prog 29 ⟨[sV b_0]⟩ w (Ret Q):=
 qhc [.tmp 2,.tmp 3,.tmp 4] qde Tryz.func29 rfl rfl rfl rfl (.sq [sL 0] (λa w=>qmd.j1 a Q w) .lf (.pr 1 [sL 0,sP 5] (λa b w=>qmd.j2 a b Q w) (.pr 1 [sL 0,sI 3] (λa b w=>qmd.j3 a b Q w) (.pr 1 [sL 2,sI 3,sA 6] (λa b c w=>qmd.j4 a b c Q w) (.sq [sL 2,sI 3] (λa b w=>qmd.j5 a b Q w) (.bk (.sq [sL 2,sI 3,sB 39] (λa b c w=>qmd.j6 a b c Q w) .lf .lf)) .lf))))) (by kernel_rfl) h
def qkm(body_0:Sl)(n_1:Int)(Q:VWP)(w:World):Prop:=nw w ⟨[sV body_0]⟩ 25 λa1 w2=>nw w2 ⟨[.int .i64 n_1]⟩ 3 λa3 w4=>Q (.func (.func 57) ⟨[]⟩ ⟨[.pointer (some a3),.pointer (some a1)]⟩) w4
theorem qkm.ok(body_0:Sl)(n_1:Int)(Q:VWP)(w:World)(h:qkm body_0 n_1 Q w):Calls prog 30 ⟨[sV body_0,.int .i64 n_1]⟩ w (Ret Q):=
 qhc [.tmp 4] qde Tryz.func30 rfl rfl rfl rfl .lf (by kernel_rfl) h
def qzd.b1(yield_0:Value)(t2:Addr)(t7 at_4 t8:Int)(Q:VWP)(nx1:Value->Addr->Int->Int->Int->WP)(w:World):Prop:=br (decide (t8<t7)) (ldL w t2 λx1=>qilb 58 [sV x1,.int .i64 at_4] w λr4 r5 w3=>nw w3 (zc prog 45) 45 λa6 w7=>(r4).size=27/\stA w7 a6 r4 λw8=>ldA w8 a6 27 λc9=>cvB prog yield_0 [.agg c9,.int .i64 r5] w8 λr11 w10=>br (!r11) (Q (.tuple ⟨[]⟩) w10) (br (r5 !=0) (Q (.tuple ⟨[]⟩) w10) (ldI .i64 w10 (Addr.add a6 25) λx12=>lt (i64.wrap (at_4+x12)) λx13=>lt (i64.wrap (t8+1)) λx14=>nx1 yield_0 t2 t7 x13 x14 w10))) (Q (.tuple ⟨[]⟩) w)
def qzd.l1(yield_0:Value)(t2:Addr)(t7 at_4 t8:Int)(Q:VWP)(w:World):Prop:=∃(I:Int->Int->WP) (μ:Int->Int->World->Nat),I at_4 t8 w/\∀at_4:Int,∀t8:Int,∀w:World,I at_4 t8 w->qzd.b1 yield_0 t2 t7 at_4 t8 Q (λyield_0' t2' t7' at_4' t8' w'=>(yield_0'=yield_0/\t2'=t2/\t7'=t7)/\I at_4' t8' w'/\μ at_4' t8' w'<μ at_4 t8 w) w
def qzd.j1(yield_0:Value)(t2:Addr)(at_4 t7 t8:Int)(Q:VWP)(w:World):Prop:=qzd.l1 yield_0 t2 t7 at_4 t8 Q w
def qzd(y0:Nat)(p1:Addr)(p2:Addr)(Q:VWP)(w:World):Prop:=ldI .i64 w p1 λx15=>qzd.j1 (.func (.yield y0) ⟨[]⟩ ⟨[]⟩) p2 12 x15 0 Q w
theorem qzd.ok(y0:Nat)(p1:Addr)(p2:Addr)(Q:VWP)(w:World)(h:qzd y0 p1 p2 Q w):Calls prog 57 ⟨[(.func (.yield y0) ⟨[]⟩ ⟨[]⟩),.pointer (some p1),.pointer (some p2)]⟩ w (Ret Q):=
 qhc [] qde Tryz.func57 rfl rfl rfl rfl (.pr 1 [(0,.V),sA 2,sI 4,sI 7,sI 8] (λa b c d e w=>qzd.j1 a b c d e Q w) (.bk (.lo [(0,.V),sA 2,sI 7] [sI 4,sI 8] (λa b c d e w=>qzd.l1 a b c d e Q w) (λnx1 a b c d e w=>qzd.b1 a b c d e Q nx1 w) λnx1=> .lf))) (by kernel_rfl) h
def qnk(e_0:(Array Value))(p1:Addr)(Q:VWP)(w:World):Prop:=nw w e_0 45 λa1 w2=>ldI .i64 w2 (Addr.add a1 0) λx3=>br (x3==6) (ldM w2 p1 λx4=>ldI .i64 w2 (Addr.add a1 24) λx5=>ldI .i64 w2 (Addr.add a1 2) λx6=>lt (i64.wrap (x5-x6)) λx7=>∃r8:Bool,lkR prog 76 (.map x4) (.int .i64 x7) false w2 (.bool r8)/\Q (.bool (!r8)) w2) (Q (.bool false) w2)
theorem qnk.ok(e_0:(Array Value))(p1:Addr)(Q:VWP)(w:World)(h:qnk e_0 p1 Q w):Calls prog 31 ⟨[.agg e_0,.pointer (some p1)]⟩ w (Ret Q):=
 qhc [.tmp 3] qde Tryz.func31 rfl rfl rfl rfl .lf (by kernel_rfl) h
def qbb.j2(Q:VWP)(w:World):Prop:=Q (.int .i64 (-1)) w
def qbb.b1(s_0:Sl)(f_1:OAd)(t7 t8:Int)(Q:VWP)(nx1:Sl->OAd->Int->Int->WP)(w:World):Prop:=br (decide (t8<t7)) (ixS s_0.a s_0.len t8 27 λa1=>ldA w a1 27 λc2=>qzcb 31 [.agg c2,.pointer f_1] w λr5 w4=>br r5 (Q (.int .i64 t8) w4) (lt (i64.wrap (t8+1)) λx6=>nx1 s_0 f_1 t7 x6 w4)) (qbb.j2 Q w)
def qbb.l1(s_0:Sl)(f_1:OAd)(t7 t8:Int)(Q:VWP)(w:World):Prop:=∃(I:Int->WP) (μ:Int->World->Nat),I t8 w/\∀t8:Int,∀w:World,I t8 w->qbb.b1 s_0 f_1 t7 t8 Q (λs_0' f_1' t7' t8' w'=>(s_0'=s_0/\f_1'=f_1/\t7'=t7)/\I t8' w'/\μ t8' w'<μ t8 w) w
def qbb.j3(s_0:Sl)(f_1:OAd)(t7 t8:Int)(Q:VWP)(w:World):Prop:=qbb.l1 s_0 f_1 t7 t8 Q w
def qbb.j1(s_0:Sl)(f_1:OAd)(Q:VWP)(w:World):Prop:=qbb.j3 s_0 f_1 (s_0.len:Int) 0 Q w
def qbb(s_0:Sl)(cap1:OAd)(Q:VWP)(w:World):Prop:=qbb.j1 s_0 cap1 Q w
theorem qbb.ok(s_0:Sl)(cap1:OAd)(Q:VWP)(w:World)(h:qbb s_0 cap1 Q w):Calls prog 59 ⟨[sV s_0,.func (.func 31) ⟨[]⟩ ⟨[.pointer cap1]⟩]⟩ w (Ret Q):=
 qhc [.tmp 4] qde Tryz.func59 rfl rfl rfl rfl (.sq [sL 0,(1,.c2 31)] (λa b w=>qbb.j1 a b Q w) .lf (.sq [] (λ w=>qbb.j2 Q w) (.sq [sL 0,(1,.c2 31),sI 7,sI 8] (λa b c d w=>qbb.j3 a b c d Q w) .lf (.bk (.lo [sL 0,(1,.c2 31),sI 7] [sI 8] (λa b c d w=>qbb.l1 a b c d Q w) (λnx1 a b c d w=>qbb.b1 a b c d Q nx1 w) λnx1=> .lf))) .lf)) (by kernel_rfl) h
def qse(s_0:Sl)(cap1:OAd)(Q:VWP)(w:World):Prop:=qbk 59 [sV s_0,.func (.func 31) ⟨[]⟩ ⟨[.pointer cap1]⟩] w λr3 w2=>Q (.bool (decide (r3>=0))) w2
theorem qse.ok(s_0:Sl)(cap1:OAd)(Q:VWP)(w:World)(h:qse s_0 cap1 Q w):Calls prog 32 ⟨[sV s_0,.func (.func 31) ⟨[]⟩ ⟨[.pointer cap1]⟩]⟩ w (Ret Q):=
 qhc [.tmp 4] qde Tryz.func32 rfl rfl rfl rfl .lf (by kernel_rfl) h
def qfg(s_0:Sl)(Q:VWP)(w:World):Prop:=bd (s_0.len:Int) s_0.cap λn1=>bd (s_0.len:Int) n1 λn2=>lt (⟨qnf s_0.a n1 0 27,n2-0,n1-0⟩:Sl) λs3=>Q (sV s3) w
theorem qfg.ok(s_0:Sl)(Q:VWP)(w:World)(h:qfg s_0 Q w):Calls prog 33 ⟨[sV s_0]⟩ w (Ret Q):=
 qhc [.tmp 2] qde Tryz.func33 rfl rfl rfl rfl .lf (by kernel_rfl) h
def qoe.ra(t2 t3:Addr)(body_4:Sl)(l_7 at_8 begins_9:Addr)(t25:Value)(x:Array Value)(y:Int)(bg:World->WP->Prop)(nx rt:WP)(w:World):Prop:=nw w (zc prog 45) 45 λa27 w28=>(x).size=27/\stA w28 a27 x λw29=>bg w29 λw30=>br (y !=0) (st w30 t2 (.slice none 0 0) λw31=>st w31 t3 (.int .i64 y) λw32=>rt w32) (ldM w30 begins_9 λx33=>ldI .i64 w30 (Addr.add a27 24) λx34=>∃w35:World,muR prog 76 (.map x33) (.int .i64 x34) (.bool true) w30 w35/\ldI .i64 w35 (Addr.add a27 24) λx36=>ldI .i64 w35 (Addr.add a27 25) λx37=>lt (i64.wrap (x36+x37)) λx38=>st w35 at_8 (.int .i64 x38) λw39=>ldL w39 l_7 λx40=>ldA w39 a27 27 λc41=>(c41).size=27/\nw w39 ⟨(spl [.int .i64 0,.int .i64 0,.int .i64 0,.int .u8 0,.int .u8 0,.int .u8 0,.int .u8 0,.int .u8 0,.int .u8 0,.int .u8 0,.int .u8 0,.int .u8 0,.int .u8 0,.int .u8 0,.int .u8 0,.int .u8 0,.int .u8 0,.int .u8 0,.int .u8 0,.int .u8 0,.int .u8 0,.int .u8 0,.int .u8 0,.slice none 0 0,.int .i64 0,.int .i64 0,.int .u32 0] 0 c41)⟩ 45 λa42 w43=>rdO w43 (some a42) (1*27) λc44=>apK prog 45 w43 x40.a x40.len x40.cap 1 c44 λs45 w46=>st w46 l_7 (sV s45) λw47=>nx w47)
def qoe.jd(t2 t3:Addr)(body_4:Sl)(l_7 at_8 begins_9:Addr)(t25:Value)(Q:VWP)(D:Nat)(w:World):Prop:=ldI .i64 w at_8 λx48=>br (decide (x48<(body_4.len:Int))) (st w t2 (.slice none 0 0) λw49=>st w49 t3 (.int .i64 2) λw50=>dfK D w50 λw51=>ldL w51 t2 λx52=>ldI .i64 w51 t3 λx53=>Q (.tuple ⟨[sV x52,.int .i64 x53]⟩) w51) (ldL w l_7 λx54=>qzcb 32 [sV x54,.func (.func 31) ⟨[]⟩ ⟨[.pointer (some begins_9)]⟩] w λr57 w56=>br r57 (st w56 t2 (.slice none 0 0) λw58=>st w58 t3 (.int .i64 2) λw59=>dfK D w59 λw60=>ldL w60 t2 λx61=>ldI .i64 w60 t3 λx62=>Q (.tuple ⟨[sV x61,.int .i64 x62]⟩) w60) (ldL w56 l_7 λx63=>qak 33 [sV x63] w56 λr66 w65=>st w65 t2 (sV r66) λw67=>st w67 t3 (.int .i64 0) λw68=>dfK D w68 λw69=>ldL w69 t2 λx70=>ldI .i64 w69 t3 λx71=>Q (.tuple ⟨[sV x70,.int .i64 x71]⟩) w69))
def qoe.jr(t2 t3:Addr)(body_4:Sl)(l_7 at_8 begins_9:Addr)(t25:Value)(Q:VWP)(D:Nat)(w:World):Prop:=dfK D w λw72=>ldL w72 t2 λx73=>ldI .i64 w72 t3 λx74=>Q (.tuple ⟨[sV x73,.int .i64 x74]⟩) w72
def qoe.j1(t2 t3:Addr)(body_4:Sl)(l_7 at_8 begins_9:Addr)(t25:Value)(Q:VWP)(w:World):Prop:=rgF prog t25 w (λx y bg nx rt w=>qoe.ra t2 t3 body_4 l_7 at_8 begins_9 t25 x y bg nx rt w) (λD w=>qoe.jd t2 t3 body_4 l_7 at_8 begins_9 t25 Q D w) λD w=>qoe.jr t2 t3 body_4 l_7 at_8 begins_9 t25 Q D w
def qoe(b_0:Sl)(Q:VWP)(w:World):Prop:=nw w (zc prog 22) 22 λa1 w2=>nw w2 (zc prog 27) 27 λa3 w4=>qqab 29 [sV b_0] w4 λr7 r8 r9 w6=>br (r9 !=0) (st w6 a1 (.slice none 0 0) λw10=>st w10 a3 (.int .i64 r9) λw11=>ldL w11 a1 λx12=>ldI .i64 w11 a3 λx13=>Q (.tuple ⟨[sV x12,.int .i64 x13]⟩) w11) (nw w6 (zc prog 22) 22 λa14 w15=>nw w15 (zc prog 3) 3 λa16 w17=>st w17 a16 (.int .i64 12) λw18=>∃n19:Nat,∃w20:World,mmR prog 76 none w18 n19 w20/\nw w20 (zc prog 76) 76 λa21 w22=>st w22 a21 (.map (some n19)) λw23=>Calls prog 30 ⟨[sV r7,.int .i64 r8]⟩ w23 λe24 w25=>∃r26:Value,e24= .returned (r26)/\qoe.j1 a1 a3 r7 a14 a16 a21 r26 Q w25)
theorem qoe.ok(b_0:Sl)(Q:VWP)(w:World)(h:qoe b_0 Q w):Calls prog 11 ⟨[sV b_0]⟩ w (Ret Q):=
 ok_rf [.cell 2 22,.cell 3 27] qde Tryz.func11 rfl rfl rfl rfl 5 [sA 2,sA 3,sL 4,sA 7,sA 8,sA 9,(25,.V)] (λa b c d e f g w=>qoe.j1 a b c d e f g Q w) rfl rfl rfl (by kernel_rfl) h
def qag(w_0:OAd)(b_1:Sl)(Q:VWP)(w:World):Prop:=nz w_0 λa1=>ldL w (Addr.add a1 0) λx2=>rdO w b_1.a (b_1.len*1) λc3=>apK prog 5 w x2.a x2.len x2.cap b_1.len c3 λs4 w5=>nz w_0 λa6=>st w5 (Addr.add a6 0) (sV s4) λw7=>Q (.tuple ⟨[]⟩) w7
theorem qag.ok(w_0:OAd)(b_1:Sl)(Q:VWP)(w:World)(h:qag w_0 b_1 Q w):Calls prog 19 ⟨[.pointer w_0,sV b_1]⟩ w (Ret Q):=
 qhc [] qde Tryz.func19 rfl rfl rfl rfl .lf (by kernel_rfl) h
def qgd.b1(b_1 t13:Sl)(t14:Int)(t15:Int)(Q:VWP)(nx1:Sl->Sl->Int->Int->WP)(w:World):Prop:=br (decide (t15<t14)) (ixS t13.a t13.len t15 1 λa1=>ldV w a1 λx2=>cv0 prog x2 [sV b_1] w λw3=>lt (i64.wrap (t15+1)) λx4=>nx1 b_1 t13 t14 x4 w3) (Q (.tuple ⟨[]⟩) w)
def qgd.l1(b_1 t13:Sl)(t14:Int)(t15:Int)(Q:VWP)(w:World):Prop:=∃(I:Int->WP) (μ:Int->World->Nat),I t15 w/\∀t15:Int,∀w:World,I t15 w->qgd.b1 b_1 t13 t14 t15 Q (λb_1' t13' t14' t15' w'=>(b_1'=b_1/\t13'=t13/\t14'=t14)/\I t15' w'/\μ t15' w'<μ t15 w) w
def qgd.j1(b_1 t13:Sl)(t14:Int)(t15:Int)(Q:VWP)(w:World):Prop:=qgd.l1 b_1 t13 t14 t15 Q w
def qgd(w_0:OAd)(b_1:Sl)(Q:VWP)(w:World):Prop:=nz w_0 λa5=>ldP w (Addr.add a5 1) λx6=>nw w ⟨[.func (.func 37) ⟨[.pointer x6]⟩ ⟨[]⟩,.func (.func 19) ⟨[.pointer w_0]⟩ ⟨[]⟩]⟩ 55 λa7 w8=>qgd.j1 b_1 ⟨(some a7),2,2⟩ ((2:Nat):Int) 0 Q w8
theorem qgd.ok(w_0:OAd)(b_1:Sl)(Q:VWP)(w:World)(h:qgd w_0 b_1 Q w):Calls prog 15 ⟨[.pointer w_0,sV b_1]⟩ w (Ret Q):=
 qhc [] qde Tryz.func15 rfl rfl rfl rfl (.sq [sL 1,sL 13,sI 14,sI 15] (λa b c d w=>qgd.j1 a b c d Q w) .lf (.bk (.lo [sL 1,sL 13,sI 14] [sI 15] (λa b c d w=>qgd.l1 a b c d Q w) (λnx1 a b c d w=>qgd.b1 a b c d Q nx1 w) λnx1=> .lf))) (by kernel_rfl) h
def qzb.j4(l_0:Sl)(w_7:OAd)(at_8:Sl)(Q:VWP)(w:World):Prop:=br (decide ((l_0.len:Int)>512)) (Q (.tuple ⟨[.slice none 0 0,.slice none 0 0,.int .i64 5]⟩) w) (nz w_7 λa1=>ldL w (Addr.add a1 0) λx2=>lt (i64.wrap ((x2.len:Int)+20)) λx3=>br (decide (x3>131072)) (Q (.tuple ⟨[.slice none 0 0,.slice none 0 0,.int .i64 5]⟩) w) (nz w_7 λa4=>ldP w (Addr.add a4 1) λx5=>qgv 18 [.pointer x5] w λr8 w7=>nw w7 (zc prog 43) 43 λa9 w10=>(r8).size=20/\stA w10 a9 r8 λw11=>lt (⟨cutP a9 20 0 1,20-0,20-0⟩:Sl) λs12=>ct_ 19 [.pointer w_7,sV s12] w11 λw14=>nz w_7 λa15=>ldL w14 (Addr.add a15 0) λx16=>qak 20 [sV x16] w14 λr19 w18=>qak 21 [sV at_8] w18 λr22 w21=>Q (.tuple ⟨[sV r19,sV r22,.int .i64 0]⟩) w21))
def qzb.j7(l_0:Sl)(effort_1:Int)(w_7:OAd)(at_8:Sl)(long_9:Bool)(t26:Sl)(t27 t28:Int)(Q:VWP)(nx1:Sl->Int->OAd->Sl->Int->Sl->Bool->Int->WP)(w:World):Prop:=lt (i64.wrap (t28+1)) λx23=>nx1 l_0 effort_1 w_7 t26 t27 at_8 long_9 x23 w
def qzb.j8(l_0:Sl)(effort_1:Int)(w_7:OAd)(at_8:Sl)(long_9:Bool)(e_11:Addr)(t26:Sl)(t27:Int)(t28:Int)(Q:VWP)(nx1:Sl->Int->OAd->Sl->Int->Sl->Bool->Int->WP)(w:World):Prop:=ldA w e_11 27 λc24=>qyu 17 [.agg c24,.int .i64 effort_1] w λr27 r28 w26=>br (r28 !=0) (Q (.tuple ⟨[.slice none 0 0,.slice none 0 0,.int .i64 r28]⟩) w26) (nz w_7 λa29=>ldL w26 (Addr.add a29 0) λx30=>nw w26 ⟨[.int .i64 (x30.len:Int)]⟩ 3 λa31 w32=>rdO w32 (some a31) (1*1) λc33=>apK prog 3 w32 at_8.a at_8.len at_8.cap 1 c33 λs34 w35=>br long_9 (nw w35 ⟨[.int .u8 0]⟩ 5 λa36 w37=>ct_ 15 [.pointer w_7,.slice (some a36) 1 1] w37 λw39=>qzb.j7 l_0 effort_1 w_7 s34 true t26 t27 t28 Q nx1 w39) (nz w_7 λa40=>ldL w35 (Addr.add a40 0) λx41=>br (decide ((x41.len:Int)>131072)) (nw w35 ⟨[.int .u8 0]⟩ 5 λa42 w43=>ct_ 15 [.pointer w_7,.slice (some a42) 1 1] w43 λw45=>qzb.j7 l_0 effort_1 w_7 s34 (decide ((x41.len:Int)>131072)) t26 t27 t28 Q nx1 w45) (ct_ 15 [.pointer w_7,sV r27] w35 λw47=>qzb.j7 l_0 effort_1 w_7 s34 (decide ((x41.len:Int)>131072)) t26 t27 t28 Q nx1 w47)))
def qzb.j6(l_0:Sl)(effort_1:Int)(w_7:OAd)(at_8:Sl)(long_9:Bool)(t26:Sl)(t27 t28:Int)(Q:VWP)(nx1:Sl->Int->OAd->Sl->Int->Sl->Bool->Int->WP)(w:World):Prop:=ixS t26.a t26.len t28 27 λa48=>ldA w a48 27 λc49=>nw w (zc prog 45) 45 λa50 w51=>(c49).size=27/\stA w51 a50 c49 λw52=>ldI .i64 w52 (Addr.add a50 0) λx53=>br (x53==6) (ldI .i64 w52 (Addr.add a50 2) λx54=>br (decide (x54<1)) (Q (.tuple ⟨[.slice none 0 0,.slice none 0 0,.int .i64 1]⟩) w52) (ldI .i64 w52 (Addr.add a50 2) λx55=>br (decide (x55>t28)) (Q (.tuple ⟨[.slice none 0 0,.slice none 0 0,.int .i64 1]⟩) w52) (lt (World.drew w52) λw56=>nz w_7 λa57=>ldL w56 (Addr.add a57 0) λx58=>ldI .i64 w56 (Addr.add a50 2) λx59=>lt (i64.wrap (t28-x59)) λx60=>ixS at_8.a at_8.len x60 1 λa61=>ldI .i64 w56 a61 λx62=>lt (i64.wrap ((x58.len:Int)-x62)) λx63=>st w56 (Addr.add a50 2) (.int .i64 x63) λw64=>qzb.j8 l_0 effort_1 w_7 at_8 long_9 a50 t26 t27 t28 Q nx1 w64))) (qzb.j8 l_0 effort_1 w_7 at_8 long_9 a50 t26 t27 t28 Q nx1 w52)
def qzb.b1(l_0:Sl)(effort_1:Int)(w_7:OAd)(t26:Sl)(t27:Int)(at_8:Sl)(long_9:Bool)(t28:Int)(Q:VWP)(nx1:Sl->Int->OAd->Sl->Int->Sl->Bool->Int->WP)(w:World):Prop:=br (decide (t28<t27)) (qzb.j6 l_0 effort_1 w_7 at_8 long_9 t26 t27 t28 Q nx1 w) (qzb.j4 l_0 w_7 at_8 Q w)
def qzb.l1(l_0:Sl)(effort_1:Int)(w_7:OAd)(t26:Sl)(t27:Int)(at_8:Sl)(long_9:Bool)(t28:Int)(Q:VWP)(w:World):Prop:=∃(I:Sl->Bool->Int->WP) (μ:Sl->Bool->Int->World->Nat),I at_8 long_9 t28 w/\∀at_8:Sl,∀long_9:Bool,∀t28:Int,∀w:World,I at_8 long_9 t28 w->qzb.b1 l_0 effort_1 w_7 t26 t27 at_8 long_9 t28 Q (λl_0' effort_1' w_7' t26' t27' at_8' long_9' t28' w'=>(l_0'=l_0/\effort_1'=effort_1/\w_7'=w_7/\t26'=t26/\t27'=t27)/\I at_8' long_9' t28' w'/\μ at_8' long_9' t28' w'<μ at_8 long_9 t28 w) w
def qzb.j5(l_0:Sl)(effort_1:Int)(w_7:OAd)(at_8:Sl)(long_9:Bool)(t26:Sl)(t27 t28:Int)(Q:VWP)(w:World):Prop:=qzb.l1 l_0 effort_1 w_7 t26 t27 at_8 long_9 t28 Q w
def qzb.j3(l_0:Sl)(effort_1:Int)(w_7:OAd)(at_8:Sl)(long_9:Bool)(Q:VWP)(w:World):Prop:=qzb.j5 l_0 effort_1 w_7 at_8 long_9 l_0 (l_0.len:Int) 0 Q w
def qzb.j2(l_0:Sl)(effort_1:Int)(w_7:OAd)(Q:VWP)(w:World):Prop:=qzb.j3 l_0 effort_1 w_7 ⟨none,0,0⟩ false Q w
def qzb.j1(l_0:Sl)(effort_1:Int)(Q:VWP)(w:World):Prop:=qchb 14 [] w λr67 w66=>nw w66 (⟨[.slice none 0 0,.pointer r67]⟩:Array Value) 54 λa68 w69=>nw w69 ⟨[.int .u8 80,.int .u8 65,.int .u8 67,.int .u8 75]⟩ 5 λa70 w71=>mkStr w71 (some a70) λw72=>qak 16 [.slice (some a70) 4 4,.int .i64 2] w72 λr75 w74=>qak 16 [sV r75,.int .i64 (l_0.len:Int)] w74 λr78 w77=>ct_ 15 [.pointer (some a68),sV r78] w77 λw80=>qzb.j2 l_0 effort_1 (some a68) Q w80
def qzb(l_0:Sl)(effort_1:Int)(Q:VWP)(w:World):Prop:=qzb.j1 l_0 effort_1 Q w
theorem qzb.ok(l_0:Sl)(effort_1:Int)(Q:VWP)(w:World)(h:qzb l_0 effort_1 Q w):Calls prog 7 ⟨[sV l_0,.int .i64 effort_1]⟩ w (Ret Q):=
 qhc [.tmp 4,.tmp 5,.tmp 6] qde Tryz.func7 rfl rfl rfl rfl (.sq [sL 0,sI 1] (λa b w=>qzb.j1 a b Q w) .lf (.pr 1 [sL 0,sI 1,sP 7] (λa b c w=>qzb.j2 a b c Q w) (.pr 1 [sL 0,sI 1,sP 7,sL 8,sB 9] (λa b c d e w=>qzb.j3 a b c d e Q w) (.sq [sL 0,sP 7,sL 8] (λa b c w=>qzb.j4 a b c Q w) (.sq [sL 0,sI 1,sP 7,sL 8,sB 9,sL 26,sI 27,sI 28] (λa b c d e f g h w=>qzb.j5 a b c d e f g h Q w) .lf (.bk (.lo [sL 0,sI 1,sP 7,sL 26,sI 27] [sL 8,sB 9,sI 28] (λa b c d e f g h w=>qzb.l1 a b c d e f g h Q w) (λnx1 a b c d e f g h w=>qzb.b1 a b c d e f g h Q nx1 w) λnx1=>(.pr 1 [sL 0,sI 1,sP 7,sL 8,sB 9,sL 26,sI 27,sI 28] (λa b c d e f g h w=>qzb.j6 a b c d e f g h Q nx1 w) (.sq [sL 0,sI 1,sP 7,sL 8,sB 9,sL 26,sI 27,sI 28] (λa b c d e f g h w=>qzb.j7 a b c d e f g h Q nx1 w) (.bk (.pr 1 [sL 0,sI 1,sP 7,sL 8,sB 9,sA 11,sL 26,sI 27,sI 28] (λa b c d e f g h i w=>qzb.j8 a b c d e f g h i Q nx1 w) .lf)) .lf))))) .lf)))) (by kernel_rfl) h
end
section
set_option maxRecDepth 100000
def qxc.j2(Q:VWP)(w:World):Prop:=Q (.bool false) w
def qxc.b1(l_0:Sl)(at_1:Int)(i_5:Int)(Q:VWP)(nx1:Sl->Int->Int->WP)(w:World):Prop:=br (decide (i_5<(l_0.len:Int))) (ixS l_0.a l_0.len i_5 27 λa1=>ldI .i64 w (Addr.add a1 24) λx2=>br (x2==at_1) (Q (.bool true) w) (lt (i64.wrap (i_5+1)) λx3=>nx1 l_0 at_1 x3 w)) (qxc.j2 Q w)
def qxc.l1(l_0:Sl)(at_1:Int)(i_5:Int)(Q:VWP)(w:World):Prop:=∃(I:Int->WP) (μ:Int->World->Nat),I i_5 w/\∀i_5:Int,∀w:World,I i_5 w->qxc.b1 l_0 at_1 i_5 Q (λl_0' at_1' i_5' w'=>(l_0'=l_0/\at_1'=at_1)/\I i_5' w'/\μ i_5' w'<μ i_5 w) w
def qxc.j3(l_0:Sl)(at_1:Int)(i_5:Int)(Q:VWP)(w:World):Prop:=qxc.l1 l_0 at_1 i_5 Q w
def qxc.j1(l_0:Sl)(at_1:Int)(Q:VWP)(w:World):Prop:=qxc.j3 l_0 at_1 0 Q w
def qxc(l_0:Sl)(at_1:Int)(Q:VWP)(w:World):Prop:=qxc.j1 l_0 at_1 Q w
theorem qxc.ok(l_0:Sl)(at_1:Int)(Q:VWP)(w:World)(h:qxc l_0 at_1 Q w):Calls prog 28 ⟨[sV l_0,.int .i64 at_1]⟩ w (Ret Q):=
 qhc [.tmp 4] qde Tryz.func28 rfl rfl rfl rfl (.sq [sL 0,sI 1] (λa b w=>qxc.j1 a b Q w) .lf (.sq [] (λ w=>qxc.j2 Q w) (.sq [sL 0,sI 1,sI 5] (λa b c w=>qxc.j3 a b c Q w) .lf (.bk (.lo [sL 0,sI 1] [sI 5] (λa b c w=>qxc.l1 a b c Q w) (λnx1 a b c w=>qxc.b1 a b c Q nx1 w) λnx1=> .lf))) .lf)) (by kernel_rfl) h
def qp.j10(out_8:Sl)(Q:VWP)(w:World):Prop:=Q (.tuple ⟨[sV out_8,.int .i64 0]⟩) w
def qp.b1(out_8:Sl)(i_13:Int)(Q:VWP)(nx1:Sl->Int->WP)(w:World):Prop:=br (decide (i_13<(out_8.len:Int))) (lt (World.drew w) λw1=>ixS out_8.a out_8.len i_13 27 λa2=>ldI .i64 w1 (Addr.add a2 0) λx3=>br (x3==6) (ixS out_8.a out_8.len i_13 27 λa4=>ldI .i64 w1 (Addr.add a4 24) λx5=>ixS out_8.a out_8.len i_13 27 λa6=>ldI .i64 w1 (Addr.add a6 2) λx7=>lt (i64.wrap (x5-x7)) λx8=>qzcb 28 [sV out_8,.int .i64 x8] w1 λr11 w10=>br (!r11) (Q (.tuple ⟨[.slice none 0 0,.int .i64 2]⟩) w10) (lt (i64.wrap (i_13+1)) λx12=>nx1 out_8 x12 w10)) (lt (i64.wrap (i_13+1)) λx13=>nx1 out_8 x13 w1)) (qp.j10 out_8 Q w)
def qp.l1(out_8:Sl)(i_13:Int)(Q:VWP)(w:World):Prop:=∃(I:Int->WP) (μ:Int->World->Nat),I i_13 w/\∀i_13:Int,∀w:World,I i_13 w->qp.b1 out_8 i_13 Q (λout_8' i_13' w'=>(out_8'=out_8)/\I i_13' w'/\μ i_13' w'<μ i_13 w) w
def qp.j11(out_8:Sl)(i_13:Int)(Q:VWP)(w:World):Prop:=qp.l1 out_8 i_13 Q w
def qp.j9(out_8:Sl)(Q:VWP)(w:World):Prop:=qp.j11 out_8 0 Q w
def qp.j8(body_4 out_8:Sl)(at_9:Int)(Q:VWP)(w:World):Prop:=br (at_9 !=(body_4.len:Int)) (Q (.tuple ⟨[.slice none 0 0,.int .i64 2]⟩) w) (qp.j9 out_8 Q w)
def qp.b2(body_4:Sl)(n_7:Int)(out_8:Sl)(at_9:Int)(i_10:Int)(Q:VWP)(nx2:Sl->Int->Sl->Int->Int->WP)(w:World):Prop:=br (decide (i_10<n_7)) (qilb 27 [sV body_4,.int .i64 at_9] w λr16 r17 w15=>nw w15 (zc prog 42) 42 λa18 w19=>(r16).size=27/\stA w19 a18 r16 λw20=>br (r17 !=0) (Q (.tuple ⟨[.slice none 0 0,.int .i64 r17]⟩) w20) (ldA w20 a18 27 λc21=>(c21).size=27/\nw w20 ⟨(spl [.int .i64 0,.int .i64 0,.int .i64 0,.int .u8 0,.int .u8 0,.int .u8 0,.int .u8 0,.int .u8 0,.int .u8 0,.int .u8 0,.int .u8 0,.int .u8 0,.int .u8 0,.int .u8 0,.int .u8 0,.int .u8 0,.int .u8 0,.int .u8 0,.int .u8 0,.int .u8 0,.int .u8 0,.int .u8 0,.int .u8 0,.slice none 0 0,.int .i64 0,.int .i64 0,.int .u32 0] 0 c21)⟩ 42 λa22 w23=>rdO w23 (some a22) (1*27) λc24=>apK prog 42 w23 out_8.a out_8.len out_8.cap 1 c24 λs25 w26=>ldI .i64 w26 (Addr.add a18 25) λx27=>lt (i64.wrap (at_9+x27)) λx28=>lt (i64.wrap (i_10+1)) λx29=>nx2 body_4 n_7 s25 x28 x29 w26)) (qp.j8 body_4 out_8 at_9 Q w)
def qp.l2(body_4:Sl)(n_7:Int)(out_8:Sl)(at_9:Int)(i_10:Int)(Q:VWP)(w:World):Prop:=∃(I:Sl->Int->Int->WP) (μ:Sl->Int->Int->World->Nat),I out_8 at_9 i_10 w/\∀out_8:Sl,∀at_9:Int,∀i_10:Int,∀w:World,I out_8 at_9 i_10 w->qp.b2 body_4 n_7 out_8 at_9 i_10 Q (λbody_4' n_7' out_8' at_9' i_10' w'=>(body_4'=body_4/\n_7'=n_7)/\I out_8' at_9' i_10' w'/\μ out_8' at_9' i_10' w'<μ out_8 at_9 i_10 w) w
def qp.j12(body_4:Sl)(n_7:Int)(out_8:Sl)(at_9:Int)(i_10:Int)(Q:VWP)(w:World):Prop:=qp.l2 body_4 n_7 out_8 at_9 i_10 Q w
def qp.j7(body_4:Sl)(n_7:Int)(out_8:Sl)(at_9:Int)(Q:VWP)(w:World):Prop:=qp.j12 body_4 n_7 out_8 at_9 0 Q w
def qp.j6(body_4:Sl)(n_7:Int)(Q:VWP)(w:World):Prop:=qp.j7 body_4 n_7 ⟨none,0,0⟩ 12 Q w
def qp.j5(body_4:Sl)(r_6:OAd)(Q:VWP)(w:World):Prop:=qbk 26 [.pointer r_6,.int .i64 4] w λr32 w31=>br (decide (r32>512)) (Q (.tuple ⟨[.slice none 0 0,.int .i64 5]⟩) w31) (qp.j6 body_4 r32 Q w31)
def qp.j4(b_0 body_4:Sl)(Q:VWP)(w:World):Prop:=nw w (⟨[sV b_0,.int .i64 8,.int .i64 0]⟩:Array Value) 69 λa33 w34=>qp.j5 body_4 (some a33) Q w34
def qp.j3(b_0 body_4:Sl)(Q:VWP)(w:World):Prop:=qgv 24 [sV body_4] w λr37 w36=>nw w36 (zc prog 39) 39 λa38 w39=>(r37).size=20/\stA w39 a38 r37 λw40=>lt (World.drew w40) λw41=>lt (⟨cutP a38 20 0 1,20-0,20-0⟩:Sl) λs42=>lt (i64.wrap ((b_0.len:Int)-20)) λx43=>bd x43 b_0.len λn44=>lt (⟨qnf b_0.a b_0.cap n44 1,b_0.len-n44,b_0.cap-n44⟩:Sl) λs45=>(btS w41 s42.a s42.len λx46=>btS w41 s45.a s45.len λx47=>br (!(ByteArray.toList x46==ByteArray.toList x47)) (Q (.tuple ⟨[.slice none 0 0,.int .i64 4]⟩) w41) (qp.j4 b_0 body_4 Q w41))/\(btS w41 s45.a s45.len λx48=>btS w41 s42.a s42.len λx49=>br (!(ByteArray.toList x49==ByteArray.toList x48)) (Q (.tuple ⟨[.slice none 0 0,.int .i64 4]⟩) w41) (qp.j4 b_0 body_4 Q w41))
def qp.j2(b_0:Sl)(Q:VWP)(w:World):Prop:=bd 4 b_0.cap λn50=>lt (⟨qnf b_0.a b_0.cap 0 1,n50-0,b_0.cap-0⟩:Sl) λs51=>btS w s51.a s51.len λx52=>br (!(ByteArray.toList x52==ByteArray.toList ({data:=#[80,65,67,75]}))) (Q (.tuple ⟨[.slice none 0 0,.int .i64 2]⟩) w) (ixS b_0.a b_0.len 4 1 λa53=>ldI .u8 w a53 λx54=>br (x54 !=0) (Q (.tuple ⟨[.slice none 0 0,.int .i64 2]⟩) w) (ixS b_0.a b_0.len 5 1 λa55=>ldI .u8 w a55 λx56=>br (x56 !=0) (Q (.tuple ⟨[.slice none 0 0,.int .i64 2]⟩) w) (ixS b_0.a b_0.len 6 1 λa57=>ldI .u8 w a57 λx58=>br (x58 !=0) (Q (.tuple ⟨[.slice none 0 0,.int .i64 2]⟩) w) (ixS b_0.a b_0.len 7 1 λa59=>ldI .u8 w a59 λx60=>br (x60 !=2) (Q (.tuple ⟨[.slice none 0 0,.int .i64 2]⟩) w) (lt (i64.wrap ((b_0.len:Int)-20)) λx61=>bd x61 b_0.cap λn62=>lt (⟨qnf b_0.a b_0.cap 0 1,n62-0,b_0.cap-0⟩:Sl) λs63=>qp.j3 b_0 s63 Q w)))))
def qp.j1(b_0:Sl)(Q:VWP)(w:World):Prop:=br (decide ((b_0.len:Int)>131072)) (Q (.tuple ⟨[.slice none 0 0,.int .i64 5]⟩) w) (br (decide ((b_0.len:Int)<32)) (Q (.tuple ⟨[.slice none 0 0,.int .i64 3]⟩) w) (qp.j2 b_0 Q w))
def qp(b_0:Sl)(Q:VWP)(w:World):Prop:=qp.j1 b_0 Q w
theorem qp.ok(b_0:Sl)(Q:VWP)(w:World)(h:qp b_0 Q w):Calls prog 10 ⟨[sV b_0]⟩ w (Ret Q):=
 qhc [.tmp 2,.tmp 3] qde Tryz.func10 rfl rfl rfl rfl (.sq [sL 0] (λa w=>qp.j1 a Q w) .lf (.pr 1 [sL 0] (λa w=>qp.j2 a Q w) (.pr 1 [sL 0,sL 4] (λa b w=>qp.j3 a b Q w) (.pr 1 [sL 0,sL 4] (λa b w=>qp.j4 a b Q w) (.sq [sL 4,sP 6] (λa b w=>qp.j5 a b Q w) .lf (.pr 1 [sL 4,sI 7] (λa b w=>qp.j6 a b Q w) (.pr 1 [sL 4,sI 7,sL 8,sI 9] (λa b c d w=>qp.j7 a b c d Q w) (.sq [sL 4,sL 8,sI 9] (λa b c w=>qp.j8 a b c Q w) (.sq [sL 4,sI 7,sL 8,sI 9,sI 10] (λa b c d e w=>qp.j12 a b c d e Q w) .lf (.bk (.lo [sL 4,sI 7] [sL 8,sI 9,sI 10] (λa b c d e w=>qp.l2 a b c d e Q w) (λnx2 a b c d e w=>qp.b2 a b c d e Q nx2 w) λnx2=> .lf))) (.sq [sL 8] (λa w=>qp.j9 a Q w) .lf (.sq [sL 8] (λa w=>qp.j10 a Q w) (.sq [sL 8,sI 13] (λa b w=>qp.j11 a b Q w) .lf (.bk (.lo [sL 8] [sI 13] (λa b w=>qp.l1 a b Q w) (λnx1 a b w=>qp.b1 a b Q nx1 w) λnx1=> .lf))) .lf)))))))))) (by kernel_rfl) h
end
section
set_option maxRecDepth 100000
def qah(Q:VWP)(w:World):Prop:=nw w ⟨[.int .u8 104,.int .u8 105]⟩ 5 λa1 w2=>mkStr w2 (some a1) λw3=>((⟨[.int .i64 3,.int .i64 0,.int .i64 0,.int .u8 0,.int .u8 0,.int .u8 0,.int .u8 0,.int .u8 0,.int .u8 0,.int .u8 0,.int .u8 0,.int .u8 0,.int .u8 0,.int .u8 0,.int .u8 0,.int .u8 0,.int .u8 0,.int .u8 0,.int .u8 0,.int .u8 0,.int .u8 0,.int .u8 0,.int .u8 0,.slice (some a1) 2 2,.int .i64 0,.int .i64 0,.int .u32 0]⟩:Array Value)).size=27/\nw w3 ⟨(spl [.int .i64 0,.int .i64 0,.int .i64 0,.int .u8 0,.int .u8 0,.int .u8 0,.int .u8 0,.int .u8 0,.int .u8 0,.int .u8 0,.int .u8 0,.int .u8 0,.int .u8 0,.int .u8 0,.int .u8 0,.int .u8 0,.int .u8 0,.int .u8 0,.int .u8 0,.int .u8 0,.int .u8 0,.int .u8 0,.int .u8 0,.slice none 0 0,.int .i64 0,.int .i64 0,.int .u32 0] 0 (⟨[.int .i64 3,.int .i64 0,.int .i64 0,.int .u8 0,.int .u8 0,.int .u8 0,.int .u8 0,.int .u8 0,.int .u8 0,.int .u8 0,.int .u8 0,.int .u8 0,.int .u8 0,.int .u8 0,.int .u8 0,.int .u8 0,.int .u8 0,.int .u8 0,.int .u8 0,.int .u8 0,.int .u8 0,.int .u8 0,.int .u8 0,.slice (some a1) 2 2,.int .i64 0,.int .i64 0,.int .u32 0]⟩:Array Value))⟩ 45 λa4 w5=>qfqb 7 [.slice (some a4) 1 1,.int .i64 1] w5 λr8 r9 r10 w7=>qyu 11 [sV r8] w7 λr13 r14 w12=>Calls prog 13 ⟨[sV r8]⟩ w12 λe15 w16=>∃r17:ByteArray,∃r18:Int,e15= .returned (.tuple ⟨[.string r17,.int .i64 r18]⟩)/\nw w16 ⟨[]⟩ 5 λa19 w20=>rdO w20 r8.a (r8.len*1) λc21=>apK prog 5 w20 (some a19) 0 0 r8.len c21 λs22 w23=>nw w23 ⟨[.int .u8 0]⟩ 5 λa24 w25=>rdO w25 (some a24) (1*1) λc26=>apK prog 5 w25 s22.a s22.len s22.cap 1 c26 λs27 w28=>qyu 11 [sV s27] w28 λr31 r32 w30=>lt (i64.wrap (r10+r14)) λx33=>lt (i64.wrap (x33+r18)) λx34=>br (x34==0) (br ((r9.len:Int)==1) (ixS r9.a r9.len 0 1 λa35=>ldI .i64 w30 a35 λx36=>br (x36==12) (br ((r13.len:Int)==1) (ixS r13.a r13.len 0 27 λa37=>ldL w30 (Addr.add a37 23) λx38=>btS w30 x38.a x38.len λx39=>br (ByteArray.toList x39==ByteArray.toList ({data:=#[104,105]})) (br (((ByteArray.size r17:Int):Int)==45) (Q (.bool (r32==4)) w30) (Q (.bool false) w30)) (Q (.bool false) w30)) (Q (.bool false) w30)) (Q (.bool false) w30)) (Q (.bool false) w30)) (Q (.bool false) w30)
theorem qah.ok(Q:VWP)(w:World)(h:qah Q w):Calls prog 5 ⟨[]⟩ w (Ret Q):=
 qhc [.tmp 0] qde Tryz.func5 rfl rfl rfl rfl .lf (by kernel_rfl) h
def qzc.j2(out_3:Sl)(Q:VWP)(w:World):Prop:=Q (sV out_3) w
def qzc.b1(l_0 out_3:Sl)(i_4:Int)(Q:VWP)(nx1:Sl->Sl->Int->WP)(w:World):Prop:=br (decide (i_4<(l_0.len:Int))) (ixS l_0.a l_0.len i_4 27 λa1=>ldA w a1 27 λc2=>qgv 25 [.agg c2] w λr5 w4=>(r5).size=27/\nw w4 ⟨(spl [.int .i64 0,.int .i64 0,.int .i64 0,.int .u8 0,.int .u8 0,.int .u8 0,.int .u8 0,.int .u8 0,.int .u8 0,.int .u8 0,.int .u8 0,.int .u8 0,.int .u8 0,.int .u8 0,.int .u8 0,.int .u8 0,.int .u8 0,.int .u8 0,.int .u8 0,.int .u8 0,.int .u8 0,.int .u8 0,.int .u8 0,.slice none 0 0,.int .i64 0,.int .i64 0,.int .u32 0] 0 r5)⟩ 42 λa6 w7=>rdO w7 (some a6) (1*27) λc8=>apK prog 42 w7 out_3.a out_3.len out_3.cap 1 c8 λs9 w10=>lt (i64.wrap (i_4+1)) λx11=>nx1 l_0 s9 x11 w10) (qzc.j2 out_3 Q w)
def qzc.l1(l_0 out_3:Sl)(i_4:Int)(Q:VWP)(w:World):Prop:=∃(I:Sl->Int->WP) (μ:Sl->Int->World->Nat),I out_3 i_4 w/\∀out_3:Sl,∀i_4:Int,∀w:World,I out_3 i_4 w->qzc.b1 l_0 out_3 i_4 Q (λl_0' out_3' i_4' w'=>(l_0'=l_0)/\I out_3' i_4' w'/\μ out_3' i_4' w'<μ out_3 i_4 w) w
def qzc.j3(l_0 out_3:Sl)(i_4:Int)(Q:VWP)(w:World):Prop:=qzc.l1 l_0 out_3 i_4 Q w
def qzc.j1(l_0 out_3:Sl)(Q:VWP)(w:World):Prop:=qzc.j3 l_0 out_3 0 Q w
def qzc(l_0:Sl)(Q:VWP)(w:World):Prop:=qzc.j1 l_0 ⟨none,0,0⟩ Q w
theorem qzc.ok(l_0:Sl)(Q:VWP)(w:World)(h:qzc l_0 Q w):Calls prog 9 ⟨[sV l_0]⟩ w (Ret Q):=
 qhc [.tmp 2] qde Tryz.func9 rfl rfl rfl rfl (.pr 1 [sL 0,sL 3] (λa b w=>qzc.j1 a b Q w) (.sq [sL 3] (λa w=>qzc.j2 a Q w) (.sq [sL 0,sL 3,sI 4] (λa b c w=>qzc.j3 a b c Q w) .lf (.bk (.lo [sL 0] [sL 3,sI 4] (λa b c w=>qzc.l1 a b c Q w) (λnx1 a b c w=>qzc.b1 a b c Q nx1 w) λnx1=> .lf))) .lf)) (by kernel_rfl) h
def trovelaw15_PackCounts.j4(n_0:Int)(l_3:Sl)(Q:VWP)(w:World):Prop:=qfqb 7 [sV l_3,.int .i64 0] w λr3 r4 r5 w2=>br (decide (n_0>512)) (br (r5==5) (Q (.bool ((r3.len:Int)==0)) w2) (Q (.bool false) w2)) (qyu 11 [sV r3] w2 λr8 r9 w7=>qyu 10 [sV r3] w7 λr12 r13 w11=>lt (i64.wrap (r5+r9)) λx14=>br (x14==0) (br (r13==0) (br ((r8.len:Int)==n_0) (br ((r12.len:Int)==n_0) (Q (.bool ((r4.len:Int)==n_0)) w11) (Q (.bool false) w11)) (Q (.bool false) w11)) (Q (.bool false) w11)) (Q (.bool false) w11))
def trovelaw15_PackCounts.b1(n_0:Int)(l_3:Sl)(i_4:Int)(Q:VWP)(nx1:Int->Sl->Int->WP)(w:World):Prop:=br (decide (i_4<n_0)) (ixS l_3.a l_3.len i_4 27 λa15=>st w (Addr.add a15 0) (.int .i64 3) λw16=>lt (i64.wrap (i_4+1)) λx17=>nx1 n_0 l_3 x17 w16) (trovelaw15_PackCounts.j4 n_0 l_3 Q w)
def trovelaw15_PackCounts.l1(n_0:Int)(l_3:Sl)(i_4:Int)(Q:VWP)(w:World):Prop:=∃(I:Int->WP) (μ:Int->World->Nat),I i_4 w/\∀i_4:Int,∀w:World,I i_4 w->trovelaw15_PackCounts.b1 n_0 l_3 i_4 Q (λn_0' l_3' i_4' w'=>(n_0'=n_0/\l_3'=l_3)/\I i_4' w'/\μ i_4' w'<μ i_4 w) w
def trovelaw15_PackCounts.j5(n_0:Int)(l_3:Sl)(i_4:Int)(Q:VWP)(w:World):Prop:=trovelaw15_PackCounts.l1 n_0 l_3 i_4 Q w
def trovelaw15_PackCounts.j3(n_0:Int)(l_3:Sl)(Q:VWP)(w:World):Prop:=trovelaw15_PackCounts.j5 n_0 l_3 0 Q w
def trovelaw15_PackCounts.j2(n_0:Int)(Q:VWP)(w:World):Prop:=mkK prog 45 w n_0 n_0 λs18 w19=>trovelaw15_PackCounts.j3 n_0 s18 Q w19
def trovelaw15_PackCounts.j1(n_0:Int)(Q:VWP)(w:World):Prop:=qzcb 5 [] w λr22 w21=>br (!r22) (Q (.bool false) w21) (br (decide (n_0<0)) (Q (.bool true) w21) (br (decide (n_0>4)) (br (decide (n_0<511)) (Q (.bool true) w21) (br (decide (n_0>513)) (Q (.bool true) w21) (trovelaw15_PackCounts.j2 n_0 Q w21))) (br (decide (n_0>513)) (Q (.bool true) w21) (trovelaw15_PackCounts.j2 n_0 Q w21))))
def trovelaw15_PackCounts(n_0:Int)(Q:VWP)(w:World):Prop:=trovelaw15_PackCounts.j1 n_0 Q w
theorem trovelaw15_PackCounts.ok(n_0:Int)(Q:VWP)(w:World)(h:trovelaw15_PackCounts n_0 Q w):Calls prog 4 ⟨[.int .i64 n_0]⟩ w (Ret Q):=
 qhc [.tmp 2] qde Tryz.func4 rfl rfl rfl rfl (.sq [sI 0] (λa w=>trovelaw15_PackCounts.j1 a Q w) .lf (.pr 1 [sI 0] (λa w=>trovelaw15_PackCounts.j2 a Q w) (.sq [sI 0,sL 3] (λa b w=>trovelaw15_PackCounts.j3 a b Q w) .lf (.sq [sI 0,sL 3] (λa b w=>trovelaw15_PackCounts.j4 a b Q w) (.sq [sI 0,sL 3,sI 4] (λa b c w=>trovelaw15_PackCounts.j5 a b c Q w) .lf (.bk (.lo [sI 0,sL 3] [sI 4] (λa b c w=>trovelaw15_PackCounts.l1 a b c Q w) (λnx1 a b c w=>trovelaw15_PackCounts.b1 a b c Q nx1 w) λnx1=> .lf))) .lf)))) (by kernel_rfl) h
end
section
open Go Go.Proofs Go.Maps
attribute [local irreducible] apK cpK mkK br qih crcV qtk
theorem qgw(a:Option Addr)(m sz:Nat):qnf a m 0 sz=a:=by
 unfold qnf;split
 ·rfl
 ·cases a with
  |none=>rfl
  |some a=>simp[Addr.add]
theorem St.nil0{F0:List Nat}{w0 w:World}{ps:List As}{sz:Nat}(h:St F0 w0 w ps):St F0 w0 w (qcc sz ⟨none,0,0⟩ []::ps):=
 h.add (f':=[]) (Mod.refl _ _) (Or.inl ⟨rfl,rfl,rfl⟩) (by intro x hx;cases hx)
instance rec_en:Rec enC 27 where
 len:=qie
 sto e v hv:=qukb e v (by simpa using hv)
 pos:=by decide
instance elt_en:EltR prog 45 27 (enC en0):=⟨⟨Tryz.t45,by kernel_rfl,rfl,by decide,by decide⟩,zcE,rfl,by decide⟩
instance elt_enr:EltR prog 42 27 (enC en0):=⟨⟨Tryz.t42,by kernel_rfl,rfl,by decide,by decide⟩,zcF,rfl,by decide⟩
section
variable {F0:List Nat}{w0 w:World}{ps rest:List As}{s t:Sl}{X:List Ex}{L D:List En}{K:Ending->World->Prop}{e:En}
theorem qzc.c(h:St F0 w0 w ps)[Rdb F0 w0 s ps 27 (L.flatMap enC)](hL:L.length<=1000000)
 (hk:∀t w',St F0 w0 w' (qcc 27 t (L.flatMap enC)::ps)->K (.returned (sV t)) w'):Calls prog 9 ⟨[sV s]⟩ w K:=by
 have hl:=h.rlen (s:=s) (f:=enC) (L:=L)
 refine qdc (qzc.ok _ _ _ ?_)
 unfold qzc qzc.j1 qzc.j3
 refine qug (λ(i:Nat) (t:Sl) (i':Int) w'=>i'=(i:Int)/\i<=L.length/\St F0 w0 w' (qcc 27 t ((L.take i).flatMap enC)::ps)) (λi=>L.length-i) 0 ⟨rfl,zero_le _,h.nil0⟩ ?_
 clear h
 rintro i t _ wL I μ ⟨rfl,hi,h⟩ hin
 unfold qzc.b1
 refine quc (λg=>?_) (λg=>?_)
 ·have hix:i<L.length:=by omega
  refine h.lr (s:=s) (f:=enC) (L:=L) i rfl hix ?_
  refine qyi.c h λw h=>⟨_,rfl,qie _,?_⟩
  rw[qgx (by rw[qie];rfl)]
  refine h.pushR (s:=t) (f:=enC) (L:=L.take i) (x:=L[i]) (by rw[length_take];omega) rfl λt' w _ h=>?_
  refine qm (e':=((i+1:Nat):Int)) (by rw[qd (by omega) (by omega)];rfl) ?_
  refine⟨rfl,hin (i+1) _ _ _ ⟨rfl,by omega,?_⟩ (by omega)⟩
  rw[List.take_succ_eq_append_getElem hix]
  exact h
 ·have:i=L.length:=by omega
  subst this
  rw[List.take_length]at h
  unfold qzc.j2
  exact hk t _ h
theorem qxc.c{a:Int}{j:Nat}(h:St F0 w0 w ps)[Rdb F0 w0 s ps 27 (L.flatMap enC)](hL:L.length<=1000000)(hj:j<L.length)(ha:L[j].at'=a)
 (hk:∀w',St F0 w0 w' ps->K (.returned (.bool true)) w'):Calls prog 28 ⟨[sV s,.int .i64 a]⟩ w K:=by
 have hl:=h.rlen (s:=s) (f:=enC) (L:=L)
 refine qdc (qxc.ok _ _ _ _ ?_)
 unfold qxc qxc.j1 qxc.j3
 refine qjf (λ(i:Nat) (i':Int) w'=>i'=(i:Int)/\i<=j/\St F0 w0 w' ps) (λi=>L.length-i) 0 ⟨rfl,zero_le _,h⟩ ?_
 clear h
 rintro i _ wL I μ ⟨rfl,hi,h⟩ hin
 unfold qxc.b1
 refine quc (λg=>?_) (λg=>by omega)
 have hix:i<L.length:=by omega
 refine h.lrI (s:=s) (f:=enC) (L:=L) i rfl hix (by decide) (qbo _ 1) ?_
 refine qye (λ_=>hk _ h) (λg2=>?_)
 have hne:i≠j:=λe=>by
  subst e;rw[ha]at g2;simp at g2
 refine qm (e':=((i+1:Nat):Int)) (by rw[qd (by omega) (by omega)];rfl) ?_
 exact⟨⟨rfl,rfl⟩,hin (i+1) _ _ ⟨rfl,by omega,h⟩ (by omega)⟩
def btL(E:List Int):List (Value×Value):=E.map λn=>(.int .i64 n,.bool true)
def i64s(E:List Int):Prop:=∀n∈E,(Lit.int .i64 n).wf=true
theorem qfab:prog.underlying 3=some (.int .i64):=by kernel_rfl
theorem qolb{E:List Int}(hE:i64s E):∀p∈btL E,∃l,keyOf prog 3 p.1=some l:=by
 intro p hp;obtain⟨n,hn,rfl⟩:=mem_map.1 hp;exact⟨_,keyOf_int_mk qfab (hE n hn)⟩
theorem St.bset{mb:Nat}{E:List Int}{k:Int}{X:World->Prop}(h:St F0 w0 w (mpA mb (btL E)::ps))(hE:i64s E)(hk:(Lit.int .i64 k).wf=true)
 (hx:∀E' w',k∈E'->(∀n∈E,n∈E')->i64s E'->St F0 w0 w' (mpA mb (btL E')::ps)->X w'):∃w',muR prog 76 (.map (some mb)) (.int .i64 k) (.bool true) w w'/\X w':=by
 refine h.mset (e:=4) (int_keyed qfab) (by kernel_rfl) (qolb hE) ⟨_,keyOf_int_mk qfab hk⟩ λkv' w' h he=>?_
 rcases he with⟨rfl,_⟩|⟨j,p,h1,h2,rfl⟩
 ·refine hx (E++[k]) w' (by simp) (λn hn=>by simp[hn]) (λn hn=>?_) (by unfold btL;rw[map_append];exact h)
  rcases mem_append.1 hn with hn|hn
  ·exact hE n hn
  ·rw[mem_singleton.1 hn];exact hk
 ·unfold btL at h1
  rw[List.getElem?_map]at h1
  cases he:E[j]? with
  |none=>rw[he]at h1;cases h1
  |some n=>
   rw[he]at h1
   injection h1 with h1
   subst h1
   injection h2 with _ h2
   subst h2
   have e:(btL E).set j (.int .i64 n,.bool true)=btL E:=by
    apply List.ext_getElem?;intro i;rw[List.getElem?_set];split
    ·rename_i hij;subst hij;unfold btL;rw[List.getElem?_map,he,length_map,if_pos (List.getElem?_eq_some_iff.1 he).1];rfl
    ·rfl
   rw[e]at h
   exact hx E w' (List.mem_of_getElem? he) (λ_ h=>h) hE h
theorem St.blook{mb:Nat}{E:List Int}{k:Int}(h:St F0 w0 w (mpA mb (btL E)::ps))(hE:i64s E)(hk:k∈E):lkR prog 76 (.map (some mb)) (.int .i64 k) false w (.bool true):=by
 have hz:(zeroValue (4:TypeId)).run prog w= .ok (.bool false) w:=by kernel_rfl
 rcases h.mlook (int_keyed qfab) (by kernel_rfl:prog.underlying 76=some (.map 3 4)) (qolb hE) false hz ⟨_,keyOf_int_mk qfab (hE k hk)⟩with⟨_,h4⟩|⟨j,p,h3,h4,h5⟩
 ·exact absurd rfl (h4 (.int .i64 k,.bool true) (mem_map.2 ⟨k,hk,rfl⟩))
 ·obtain⟨n,_,rfl⟩:=mem_map.1 (List.mem_of_getElem? h3);exact h5
theorem qnk.c{mb cb:Nat}{E:List Int}(h:St F0 w0 w (mpA mb (btL E)::qqb cb [.map (some mb)]::ps))(hE:i64s E)(he:e.kind=6->e.at'-e.back∈E/\ -9223372036854775808<=e.at'-e.back/\e.at'-e.back<9223372036854775808)
 (hk:∀w',St F0 w0 w' (mpA mb (btL E)::qqb cb [.map (some mb)]::ps)->K (.returned (.bool false)) w'):Calls prog 31 ⟨[.agg ⟨enC e⟩,.pointer (some ⟨cb,0,none⟩)]⟩ w K:=by
 refine qdc (qnk.ok _ _ _ _ ?_)
 unfold qnk
 refine h.new λeb w h=>?_
 have h:St F0 w0 w (qqb eb (enC e)::mpA mb (btL E)::qqb cb [.map (some mb)]::ps):=h
 refine h.gI (qye (λg=>?_) (λ_=>hk w h.drop))
 have h6:e.kind=6:=by simpa using g
 obtain⟨h1,h2,h3⟩:=he h6
 refine(h.toB cb).blk.ldM rfl ?_
 refine h.gI (h.gI ?_)
 refine qm (qd h2 h3) ?_
 exact⟨true,h.drop.blook hE h1,hk w h.drop⟩
theorem qjq.c{mb cb:Nat}{E:List Int}(h:St F0 w0 w (mpA mb (btL E)::qqb cb [.map (some mb)]::ps))[Rdb F0 w0 s ps 27 (L.flatMap enC)](hL:L.length<=1000000)(hE:i64s E)(he:∀e∈L,e.kind=6->e.at'-e.back∈E/\ -9223372036854775808<=e.at'-e.back/\e.at'-e.back<9223372036854775808)
 (hk:∀w',St F0 w0 w' (mpA mb (btL E)::qqb cb [.map (some mb)]::ps)->K (.returned (.bool false)) w'):Calls prog 32 ⟨[sV s,.func (.func 31) ⟨[]⟩ ⟨[.pointer (some ⟨cb,0,none⟩)]⟩]⟩ w K:=by
 have hl:=h.rlen (s:=s) (f:=enC) (L:=L)
 refine qdc (qse.ok _ _ _ _ ?_)
 unfold qse
 refine qdc (qbb.ok _ _ _ _ ?_)
 unfold qbb qbb.j1 qbb.j3
 refine qjf (λ(i:Nat) (i':Int) w'=>i'=(i:Int)/\i<=L.length/\St F0 w0 w' (mpA mb (btL E)::qqb cb [.map (some mb)]::ps)) (λi=>L.length-i) 0 ⟨rfl,zero_le _,h⟩ ?_
 clear h
 rintro i _ wL I μ ⟨rfl,hi,h⟩ hin
 unfold qbb.b1
 refine quc (λg=>?_) (λg=>?_)
 ·have hix:i<L.length:=by omega
  refine h.lr (s:=s) (f:=enC) (L:=L) i rfl hix ?_
  refine qnk.c h hE (he _ (getElem_mem hix)) λw h=>⟨_,rfl,?_⟩
  refine qze rfl ?_
  refine qm (e':=((i+1:Nat):Int)) (by rw[qd (by omega) (by omega)];rfl) ?_
  exact⟨⟨rfl,rfl,rfl⟩,hin (i+1) _ _ ⟨rfl,by omega,h⟩ (by omega)⟩
 ·unfold qbb.j2
  exact⟨_,rfl,hk _ h⟩
theorem qiv.c(h:St F0 w0 w ps)(hc:s.len<=s.cap)(hk:K (.returned (.slice s.a s.len s.len)) w):Calls prog 33 ⟨[sV s]⟩ w K:=by
 refine qdc (qfg.ok _ _ _ ?_);unfold qfg;refine qkn (n:=s.len) rfl hc (qkn (n:=s.len) rfl (le_refl _) (qbe ?_));rw[qgw];exact hk
end
end
section
attribute [local irreducible] apK cpK mkK br qih crcV qtk qvg cv0
theorem qqnb:qvg prog 37=true:=by kernel_rfl
theorem qonb:qvg prog 19=true:=by kernel_rfl
abbrev wrC(out:Sl)(hb:Nat):List Value:=[.slice out.a out.len out.cap,.pointer (some ⟨hb,0,none⟩)]
section
variable {F0:List Nat}{w0 w:World}{ps rest:List As}{s t b out:Sl}{X:List Ex}{K:Ending->World->Prop}{wb hb:Nat}{O zs:List Int}{eff:Int}
theorem qag.c(h:St F0 w0 w (qqb wb (wrC out hb)::qcc 1 out (u8s O)::ps))[Rdb F0 w0 b ps 1 (u8s zs)](hO:O.length<=1000000)(hz:zs.length<=1000000)
 (hk:∀out' w',St F0 w0 w' (qqb wb (wrC out' hb)::qcc 1 out' (u8s (O++zs))::ps)->K (.returned (.tuple ⟨[]⟩)) w'):Calls prog 19 ⟨[.pointer (some ⟨wb,0,none⟩),sV b]⟩ w K:=by
 refine qdc (qag.ok _ _ _ _ ?_)
 unfold qag
 refine qkd (h.gL ?_)
 refine h.at1.appI (s:=out) (s2:=b) (zs:=O) (ys:=zs) (by omega) λout' w h=>?_
 refine qkd (h.gst (b:=wb) (l':=wrC out' hb) (g:=⟨rfl,zero_lt_succ _⟩) trivial λw h=>?_)
 exact hk out' w h
theorem qgd.c(h:St F0 w0 w (qqb wb (wrC out hb)::qcc 1 out (u8s O)::shA hb O::ps))[i:Rdb F0 w0 b ps 1 (u8s zs)](hz:qxl zs)(hO:O.length<=1000000)(hzl:zs.length<=1000000)
 (hk:∀out' w',St F0 w0 w' (qqb wb (wrC out' hb)::qcc 1 out' (u8s (O++zs))::shA hb (O++zs)::ps)->K (.returned (.tuple ⟨[]⟩)) w'):Calls prog 15 ⟨[.pointer (some ⟨wb,0,none⟩),sV b]⟩ w K:=by
 refine qdc (qgd.ok _ _ _ _ ?_)
 unfold qgd
 refine qkd ?_
 refine h.gP ?_
 refine h.new λnb w h=>?_
 have h:=h.ownB (n:=2) rfl
 have h:St F0 w0 w (qcc 1 ⟨some ⟨nb,0,none⟩,2,2⟩ [.func (.func 37) ⟨[.pointer (some ⟨hb,0,none⟩)]⟩ ⟨[]⟩,.func (.func 19) ⟨[.pointer (some ⟨wb,0,none⟩)]⟩ ⟨[]⟩]::qqb wb (wrC out hb)::qcc 1 out (u8s O)::shA hb O::ps):=h
 obtain⟨fs,hfs⟩:∃fs:List Value,fs=[.func (.func 37) ⟨[.pointer (some ⟨hb,0,none⟩)]⟩ ⟨[]⟩,.func (.func 19) ⟨[.pointer (some ⟨wb,0,none⟩)]⟩ ⟨[]⟩]:=⟨_,rfl⟩
 rw[<-hfs]at h
 unfold qgd.j1
 refine qjf (λ(i:Nat) (i':Int) w'=>i'=(i:Int)/\i<=2/\∃out',St F0 w0 w' (qcc 1 ⟨some ⟨nb,0,none⟩,2,2⟩ fs::qqb wb (wrC out' hb)::qcc 1 out' (u8s (if i=2 then O++zs else O))::shA hb (if i=0 then O else O++zs)::ps)) (λi=>2-i) 0 ⟨rfl,by decide,out,h⟩ ?_
 clear h
 rintro i _ wL I μ ⟨rfl,hi,out',h⟩ hin
 unfold qgd.b1
 refine quc (λg=>?_) (λg=>?_)
 ·have hr:=h.rdb ⟨some ⟨nb,0,none⟩,2,2⟩
  have hfl:fs.length=2:=by rw[hfs];rfl
  refine hr.ix (by decide) (by omega) (by omega) λa ha=>?_
  have ei:((i:Int)).toNat*1=i:=by omega
  rw[ei]
  rcases(show i=0\/i=1 by omega)with rfl|rfl
  ·refine⟨.func (.func 37) ⟨[.pointer (some ⟨hb,0,none⟩)]⟩ ⟨[]⟩,by rw[hr.cell ha (by omega),hfs];rfl,?_⟩
   refine cv0_i (al:=[.pointer (some ⟨hb,0,none⟩),.slice b.a b.len b.cap]) qqnb rfl ?_
   have h:St F0 w0 wL (qcc 1 ⟨some ⟨nb,0,none⟩,2,2⟩ fs::qqb wb (wrC out' hb)::qcc 1 out' (u8s O)::shA hb O::ps):=h
   refine qbd.c h.at3 (λw' p h=>i.rd (h.drop.drop.drop.drop)) hz (by omega) λw h=>⟨rfl,?_⟩
   refine qm (e':=((1:Nat):Int)) (by decide) ?_
   have h:St F0 w0 w (qcc 1 ⟨some ⟨nb,0,none⟩,2,2⟩ fs::qqb wb (wrC out' hb)::qcc 1 out' (u8s O)::shA hb (O++zs)::ps):=h.sub
   exact⟨⟨rfl,rfl,rfl⟩,hin 1 _ _ ⟨rfl,by decide,out',h⟩ (by decide)⟩
  ·refine⟨.func (.func 19) ⟨[.pointer (some ⟨wb,0,none⟩)]⟩ ⟨[]⟩,by rw[hr.cell ha (by omega),hfs];rfl,?_⟩
   refine cv0_i (al:=[.pointer (some ⟨wb,0,none⟩),.slice b.a b.len b.cap]) qonb rfl ?_
   have h:St F0 w0 wL (qcc 1 ⟨some ⟨nb,0,none⟩,2,2⟩ fs::qqb wb (wrC out' hb)::qcc 1 out' (u8s O)::shA hb (O++zs)::ps):=h
   have h:St F0 w0 wL (qqb wb (wrC out' hb)::qcc 1 out' (u8s O)::qcc 1 ⟨some ⟨nb,0,none⟩,2,2⟩ fs::shA hb (O++zs)::ps):=h.sub
   refine qag.c h hO hzl λout2 w h=>⟨rfl,?_⟩
   refine qm (e':=((2:Nat):Int)) (by decide) ?_
   have h:St F0 w0 w (qcc 1 ⟨some ⟨nb,0,none⟩,2,2⟩ fs::qqb wb (wrC out2 hb)::qcc 1 out2 (u8s (O++zs))::shA hb (O++zs)::ps):=h.sub
   exact⟨⟨rfl,rfl,rfl⟩,hin 2 _ _ ⟨rfl,by decide,out2,h⟩ (by decide)⟩
 ·have:i=2:=by omega
  subst this
  exact hk out' _ h.drop
end
end
section
attribute [local irreducible] apK cpK mkK br qih crcV qtk qvg cv0
abbrev pI(eff:Int)(X:List Ex)(i:Nat):List Int:=(pW eff X i).map λ(n:Nat)=>(n:Int)
theorem pI_s{eff:Int}{X:List Ex}{i:Nat}(h:i<X.length):pI eff X (i+1)=pI eff X i++[((bW eff X i).length:Int)]:=by
 show List.map _ (pW eff X (i+1))=_;rw[pW_s h,map_append];rfl
theorem pI_get{eff:Int}{X:List Ex}{i j:Nat}(h:i<=X.length)(hj:j<i):(pI eff X i)[j]?=some ((bW eff X j).length:Int):=by
 show(List.map _ (pW eff X i))[j]?=_;rw[List.getElem?_map,qupb i h j hj];rfl
theorem qzz{eff:Int}{X:List Ex}{i:Nat}(h:i<=X.length):(pI eff X i).length=i:=by
 show(List.map _ (pW eff X i)).length=_;rw[length_map,qvv i h]
theorem zcI:zc prog 43=⟨u8s b20⟩:=by kernel_rfl
section
variable {F0:List Nat}{w0 w:World}{ps rest:List As}{s t b out:Sl}{X:List Ex}{K:Ending->World->Prop}{wb hb:Nat}{O zs:List Int}{eff:Int}
theorem qsf.c{cs:List Value}(h:St F0 w0 w (rdA 1 s cs::ps))(hc:s.len<=s.cap)(hk:∀s':Sl,s'.len=s.len->s'.cap=s.len->St F0 w0 w (rdA 1 s' cs::ps)->K (.returned (sV s')) w):Calls prog 21 ⟨[sV s]⟩ w K:=by
 refine qdc (qsf.ok _ _ _ ?_);unfold qsf;refine⟨⟨by omega,by omega⟩,⟨by omega,by omega⟩,qbe ?_⟩;exact hk ⟨_,_,_⟩ (by simp) (by simp) (h.recap (qgw _ _ _) (by simp))
abbrev pkB(eff:Int)(X:List Ex):List Int:=bW eff X X.length++qtk (bW eff X X.length)
theorem qzb.end(h:St F0 w0 w (qqb wb (wrC out hb)::qcc 1 out (u8s (bW eff X X.length))::shA hb (bW eff X X.length)::qcc 1 t (ivs .i64 (pI eff X X.length))::ps))(hP:Play X)(hK:OkX X X.length)(hs:s.len=X.length)
 (hk5:512<X.length->∀w',St F0 w0 w' ps->K (.returned (.tuple ⟨[.slice none 0 0,.slice none 0 0,.int .i64 5]⟩)) w')
 (hk0:X.length<=512->∀(b u:Sl) w',b.len=(pkB eff X).length->b.cap=b.len->u.len=X.length->u.cap=u.len->St F0 w0 w' (rdA 1 b (u8s (pkB eff X))::rdA 1 u (ivs .i64 (pI eff X X.length))::ps)->K (.returned (.tuple ⟨[sV b,sV u,.int .i64 0]⟩)) w'):
 qzb.j4 s (some ⟨wb,0,none⟩) t (λv w'=>K (.returned v) w') w:=by
 have hm:=qom (eff:=eff) hP (le_refl X.length)
 have hol:=h.at1.len
 rw[qk]at hol
 unfold qzb.j4
 refine quc (λg=>hk5 (by omega) w (h.drop.drop.drop.drop)) λg=>?_
 refine qkd (h.gL ?_)
 refine qm (qd (by simp only;omega) (by simp only;omega)) ?_
 refine quc (λg=>by simp only at g;omega) λ_=>?_
 refine qkd (h.gP ?_)
 refine qrb.c h.at2 (by omega) λw h=>⟨_,rfl,?_⟩
 refine h.new λnb w h=>?_
 have hsl:(qtk (bW eff X X.length)).length=20:=qoi _
 refine⟨by show(u8s _).length=20;rw[qk,hsl],?_⟩
 rw[zcI]at h
 refine h.sA (b:=nb) (l':=u8s (qtk (bW eff X X.length))) (n:=20) (by show(u8s b20).length=20;rw[qk];rfl) (by rw[qk,hsl]) (λv hv=>qpe v hv) λw h=>?_
 have h:=h.ownB (n:=20) (by rw[qk,hsl])
 refine qbe ?_
 have e:(⟨cutP ⟨nb,0,none⟩ 20 0 1,20-0,20-0⟩:Sl)=⟨some ⟨nb,0,none⟩,20,20⟩:=rfl
 rw[e]
 have h:St F0 w0 w (qqb wb (wrC out hb)::qcc 1 out (u8s (bW eff X X.length))::qcc 1 ⟨some ⟨nb,0,none⟩,20,20⟩ (u8s (qtk (bW eff X X.length)))::qcc 1 t (ivs .i64 (pI eff X X.length))::ps):=h.sub
 refine qag.c (zs:=qtk (bW eff X X.length)) h (by omega) (by omega) λout2 w h=>⟨rfl,?_⟩
 refine qkd (h.gL ?_)
 have hl2:=h.at1.len
 rw[qk]at hl2
 refine qad.c (s:=out2) h.at1.ro (h.at1.cap (by decide)) λb h1 h2 h=>⟨b,rfl,?_⟩
 have h:St F0 w0 w (qcc 1 t (ivs .i64 (pI eff X X.length))::rdA 1 b (u8s (pkB eff X))::ps):=h.sub
 have hl3:=h.len
 rw[qk,qzz (le_refl _)]at hl3
 refine qsf.c h.ro (h.cap (by decide)) λu g1 g2 h=>⟨u,rfl,?_⟩
 have el:(pkB eff X).length=(bW eff X X.length++qtk (bW eff X X.length)).length:=rfl
 exact hk0 (by omega) b u w (by omega) (by omega) (by omega) (by omega) h.at1
theorem qzb.c(h:St F0 w0 w ps)[Rdb F0 w0 s ps 27 ((X.map Prod.fst).flatMap enC)](hP:Play X)(hd:∀x∈X,Rdb F0 w0 x.1.data ps 1 (u8s x.2))
 (hk1:¬OkX X X.length->∀w',St F0 w0 w' ps->K (.returned (.tuple ⟨[.slice none 0 0,.slice none 0 0,.int .i64 1]⟩)) w')
 (hk5:OkX X X.length->512<X.length->∀w',St F0 w0 w' ps->K (.returned (.tuple ⟨[.slice none 0 0,.slice none 0 0,.int .i64 5]⟩)) w')
 (hk0:OkX X X.length->X.length<=512->∀(b u:Sl) w',b.len=(pkB eff X).length->b.cap=b.len->u.len=X.length->u.cap=u.len->St F0 w0 w' (rdA 1 b (u8s (pkB eff X))::rdA 1 u (ivs .i64 (pI eff X X.length))::ps)->K (.returned (.tuple ⟨[sV b,sV u,.int .i64 0]⟩)) w'):
 Calls prog 7 ⟨[sV s,.int .i64 eff]⟩ w K:=by
 have hl:=h.rlen (s:=s) (f:=enC) (L:=X.map Prod.fst)
 rw[length_map]at hl
 have hln:=hP.ln
 refine qdc (qzb.ok _ _ _ _ ?_)
 unfold qzb qzb.j1
 refine qkq.c h λhb w h=>⟨_,rfl,?_⟩
 refine h.new λwb w h=>?_
 refine h.new λnb w h=>?_
 have h:St F0 w0 w (qqb nb (u8s [80,65,67,75])::qqb wb (wrC ⟨none,0,0⟩ hb)::shA hb []::ps):=h
 refine h.str (b:=nb) (n:=4) rfl λw h=>?_
 refine qfi.d (s:=⟨some ⟨nb,0,none⟩,4,4⟩) (v:=2) (xs:=[80,65,67,75]) h (by decide) λp1 w _ _ h=>⟨p1,rfl,?_⟩
 refine qfi.d (s:=p1) (v:=(s.len:Int)) (xs:=[80,65,67,75]++beJ 4 4 2) h (by simp[qpk]) λp2 w _ _ h=>⟨p2,rfl,?_⟩
 rw[show(s.len:Int)=((X.length:Nat):Int)by rw[hl]]at h
 have h:St F0 w0 w (qcc 1 ⟨none,0,0⟩ (u8s [])::rdA 1 p2 (u8s (hdP X.length))::rdA 1 p1 _::rdA 1 _ _::qqb wb (wrC ⟨none,0,0⟩ hb)::shA hb []::ps):=h.nil0 (sz:=1)
 have h:St F0 w0 w (qqb wb (wrC ⟨none,0,0⟩ hb)::qcc 1 ⟨none,0,0⟩ (u8s [])::shA hb []::rdA 1 p2 (u8s (hdP X.length))::ps):=h.sub
 have hdo:qxl (hdP X.length):=qfpb (eff:=eff) (n:=0) hP (λi _ h=>by omega) 0 (zero_le _) (le_refl _)
 refine qgd.c (b:=p2) (zs:=hdP X.length) h hdo (by decide) (by rw[qzr];decide) λout w h=>⟨rfl,?_⟩
 rw[nil_append]at h
 have h:St F0 w0 w (qqb wb (wrC out hb)::qcc 1 out (u8s (bW eff X 0))::shA hb (bW eff X 0)::rdA 1 p2 _::ps):=h
 have h:St F0 w0 w (qcc 1 ⟨none,0,0⟩ (ivs .i64 (pI eff X 0))::qqb wb (wrC out hb)::qcc 1 out (u8s (bW eff X 0))::shA hb (bW eff X 0)::rdA 1 p2 _::ps):=h.nil0 (sz:=1)
 unfold qzb.j2 qzb.j3 qzb.j5
 refine loop3 (λ(i:Nat) (t:Sl) (lg:Bool) (i':Int) w'=>lg=false/\i'=(i:Int)/\i<=X.length/\OkX X i/\∃out,St F0 w0 w' (qqb wb (wrC out hb)::qcc 1 out (u8s (bW eff X i))::shA hb (bW eff X i)::qcc 1 t (ivs .i64 (pI eff X i))::ps)) (λi=>X.length-i) 0 ⟨rfl,rfl,zero_le _,λi _ h=>by omega,out,h.sub⟩ ?_
 clear h
 rintro i t _ _ wL I μ ⟨rfl,rfl,hi,hO,out,h⟩ hin
 unfold qzb.b1
 refine quc (λg=>?_) (λg=>?_)
 rotate_left
 ·have:i=X.length:=by omega
  subst this
  exact qzb.end h hP hO hl.symm (hk5 hO) (hk0 hO)
 have hix:i<X.length:=by omega
 have hm:i<(X.map Prod.fst).length:=by rw[length_map];exact hix
 have hmx:=qom (eff:=eff) hP (show i<=X.length by omega)
 have hmn:=(qzab (eff:=eff) hP i (by omega)).2
 have hp:=hP.pl _ (getElem_mem hix)
 have hge:(X.map Prod.fst)[i]=X[i].1:=List.getElem_map ..
 have bad:∀w,¬OkE i X[i]->St F0 w0 w ps->K (.returned (.tuple ⟨[.slice none 0 0,.slice none 0 0,.int .i64 1]⟩)) w:=λw hn h=>hk1 (λg=>hn (g i hix hix)) w h
 unfold qzb.j6
 refine h.lr (s:=s) (f:=enC) (L:=X.map Prod.fst) i rfl hm ?_
 rw[hge,zcE]
 refine h.new λeb w h=>?_
 have h:St F0 w0 w (qqb eb (enC en0)::qqb wb (wrC out hb)::qcc 1 out (u8s (bW eff X i))::shA hb (bW eff X i)::qcc 1 t (ivs .i64 (pI eff X i))::ps):=h
 refine⟨qie _,h.sE (eb:=eb) (qie _) λw h=>?_⟩
 have haveD:∀ps',Rdb F0 w0 X[i].1.data (ps'++ps) 1 (u8s X[i].2):=λps'=>by
  induction ps' with
  |nil=>exact hd _ (getElem_mem hix)
  |cons q r ih=>exact Rdb.tl
 have hol:out.len=(bW eff X i).length:=by
  have:=h.drop.drop.len;rw[qk]at this
  omega
 have j8:∀e w,(e={X[i].1 with back:=e.back})->(X[i].1.kind=6->OkE i X[i]/\e.back=((bkW (bW eff X i).length (pW eff X i) X[i]:Nat):Int))->St F0 w0 w (qqb eb (enC e)::qqb wb (wrC out hb)::qcc 1 out (u8s (bW eff X i))::shA hb (bW eff X i)::qcc 1 t (ivs .i64 (pI eff X i))::ps)->
  qzb.j8 s eff (some ⟨wb,0,none⟩) t false ⟨eb,0,none⟩ s (s.len:Int) (i:Int) (λv w'=>K (.returned v) w') (λl_0' effort_1' w_7' t26' t27' at_8' long_9' t28' w'=>(l_0'=s/\effort_1'=eff/\w_7'=some ⟨wb,0,none⟩/\t26'=s/\t27'=(s.len:Int))/\I at_8' long_9' t28' w'/\μ at_8' long_9' t28' w'<μ t false (i:Int) wL) w:=by
  intro e w he h6 h
  have ek:e.kind=X[i].1.kind:=by rw[he]
  have ed:e.data=X[i].1.data:=by rw[he]
  have eb':e.base=X[i].1.base:=by rw[he]
  unfold qzb.j8
  refine h.lE (eb:=eb) ?_
  by_cases hv:OkE i X[i]
  ·haveI:Rdb F0 w0 e.data (qqb eb (enC e)::qqb wb (wrC out hb)::qcc 1 out (u8s (bW eff X i))::shA hb (bW eff X i)::qcc 1 t (ivs .i64 (pI eff X i))::ps) 1 (u8s X[i].2):=by
    rw[ed];exact haveD [qqb eb (enC e),qqb wb (wrC out hb),qcc 1 out (u8s (bW eff X i)),shA hb (bW eff X i),qcc 1 t (ivs .i64 (pI eff X i))]
   have h1:=hv.k1
   have h7:=hv.k7
   have h5:=hv.k5
   have hbl:=qrlb (eff:=eff) (X:=X) (i:=i) (x:=X[i]) (by omega)
   refine qgc.c (e:=e) (xs:=X[i].2) (k:=X[i].1.kind.toNat) (b:=bkW (bW eff X i).length (pW eff X i) X[i]) h hp.xs (by have:=hp.ln;omega) (by rw[ed];exact hp.dc) (by omega) (by omega) (by omega) (by omega) (λg=>?_) hbl λr w hr1 hr2 h=>⟨r,_,rfl,?_⟩
   ·have h66:X[i].1.kind=6:=by omega
    have:=qslb (eff:=eff) hP hix hv h66
    exact⟨(h6 h66).2,by omega⟩
   rw[eb']at h hr1
   have hE:qjn X[i].1.kind.toNat (bkW (bW eff X i).length (pW eff X i) X[i]) X[i].1.base X[i].2 eff=enB eff (bW eff X i).length (pW eff X i) X[i]:=rfl
   rw[hE]at h hr1
   refine qze rfl ?_
   refine qkd (h.gL ?_)
   have h:St F0 w0 w (qqb wb (wrC out hb)::qcc 1 out (u8s (bW eff X i))::shA hb (bW eff X i)::qcc 1 t (ivs .i64 (pI eff X i))::rdA 1 r (u8s (enB eff (bW eff X i).length (pW eff X i) X[i]))::ps):=h.sub
   refine h.pushI (s:=t) (by rw[qzz (by omega)];omega) λt' w h=>?_
   rw[show((out.len:Nat):Int)=((bW eff X i).length:Int)by rw[hol],<-pI_s hix]at h
   refine qze rfl ?_
   refine qkd (h.gL ?_)
   refine quc (λg=>by simp only at g;omega) λ_=>?_
   have hlt:(bW eff X (i+1)).length<=24000:=qom (eff:=eff) hP (by omega)
   rw[qepb hix,length_append]at hlt
   have hoE:qxl (enB eff (bW eff X i).length (pW eff X i) X[i]):=qtkb (by omega) hp.bs eff
   have h:St F0 w0 w (qqb wb (wrC out hb)::qcc 1 out (u8s (bW eff X i))::shA hb (bW eff X i)::qcc 1 t' (ivs .i64 (pI eff X (i+1)))::rdA 1 r (u8s (enB eff (bW eff X i).length (pW eff X i) X[i]))::ps):=h.sub
   refine qgd.c (b:=r) (zs:=enB eff (bW eff X i).length (pW eff X i) X[i]) h hoE (by omega) (by omega) λout2 w h=>⟨rfl,?_⟩
   rw[<-qepb hix]at h
   unfold qzb.j7
   refine qm (e':=((i+1:Nat):Int)) (by rw[qd (by omega) (by omega)];rfl) ?_
   refine⟨⟨rfl,rfl,rfl,rfl,rfl⟩,hin (i+1) _ _ _ _ ⟨?_,rfl,by omega,λj hj hlt=>?_,out2,h.sub⟩ (by omega)⟩
   ·show decide _=false
    rw[hol]
    exact decide_eq_false (by omega)
   ·rcases Nat.lt_or_ge j i with hji|hji
    ·exact hO j hj hji
    ·have:j=i:=by omega
     subst this
     exact hv
  ·refine qgc.bad (e:=e) h (by rw[ed,hp.dl];have:=hp.ln;omega) ?_ λw h=>⟨⟨none,0,0⟩,_,rfl,qjh rfl (bad w hv (h.drop.drop.drop.drop.drop))⟩
   rw[ek]
   by_cases g1:1<=X[i].1.kind
   ·by_cases g7:X[i].1.kind<=7
    ·by_cases g5:X[i].1.kind=5
     ·exact Or.inr (Or.inr (Or.inr (Or.inl g5)))
     ·by_cases g6:X[i].1.kind=6
      ·exact absurd (h6 g6).1 hv
      ·exact absurd ⟨g1,g7,g5,λg=>absurd g g6⟩ hv
    ·exact Or.inr (Or.inr (Or.inl (by omega)))
   ·exact Or.inr (Or.inl (by omega))
 refine h.gI (qye (λg=>?_) (λg=>?_))
 ·have h6:X[i].1.kind=6:=by simpa using g
  refine h.gI (quc (λg1=>?_) λg1=>?_)
  ·exact bad _ (λhv=>by have:=(hv.bk h6).1;omega) h.drop.drop.drop.drop.drop
  refine h.gI (quc (λg2=>?_) λg2=>?_)
  ·exact bad _ (λhv=>by have:=(hv.bk h6).2;omega) h.drop.drop.drop.drop.drop
  refine h.drewK λw h=>?_
  refine qkd (h.gL (h.gI ?_))
  have hj:i-X[i].1.back.toNat<i:=by omega
  refine qm (e':=((i-X[i].1.back.toNat:Nat):Int)) (by rw[qd (by omega) (by omega)];omega) ?_
  have hbj:=qom (eff:=eff) hP (show i-X[i].1.back.toNat<=X.length by omega)
  have hbl:=qjqb (eff:=eff) hP hj (by omega)
  have hr:=h.rdb t
  have htl:=hr.1
  rw[qk,qzz (by omega)]at htl
  refine hr.ix (by decide) (by omega) (by omega) λa ha=>?_
  refine⟨((bW eff X (i-X[i].1.back.toNat)).length:Int),?_,?_⟩
  ·rw[toNat_natCast,hr.cell ha (by rw[qk,qzz (by omega)];omega),mul_one,qsm (by rw[qzz (by omega)];omega),List.getD_eq_getElem?_getD,pI_get (by omega) hj];rfl
  have hbk:bkW (bW eff X i).length (pW eff X i) X[i]=(bW eff X i).length-(bW eff X (i-X[i].1.back.toNat)).length:=by
   unfold bkW;rw[if_pos h6,qvv i (by omega),qwib (by omega) hj]
  refine qm (e':=((bkW (bW eff X i).length (pW eff X i) X[i]:Nat):Int)) (by rw[qd (by simp only;omega) (by simp only;omega),hbk];simp only;omega) ?_
  refine h.gst (b:=eb) trivial λw h=>?_
  refine j8 {X[i].1 with back:=((bkW (bW eff X i).length (pW eff X i) X[i]:Nat):Int)} _ rfl (λ_=>⟨⟨by omega,by omega,by omega,λ_=>⟨by omega,by omega⟩⟩,rfl⟩) h
 ·have h6:X[i].1.kind≠6:=by simpa using g
  exact j8 X[i].1 _ rfl (λg=>absurd g h6) h
end
end
section
attribute [local irreducible] apK cpK mkK br qih crcV qtk qvg cv0
section
variable {F0:List Nat}{w0 w:World}{ps rest:List As}{s t b out:Sl}{X:List Ex}{K:Ending->World->Prop}{xs:List Int}
theorem zc_20b:zc prog 39=⟨u8s b20⟩:=by kernel_rfl
end
end
section
attribute [local irreducible] apK cpK mkK br qih crcV qtk qvg cv0
abbrev bdZ(Z:List Int):List Int:=Z.take (Z.length-20)
abbrev tlZ(Z:List Int):List Int:=Z.drop (Z.length-20)
theorem tk_hd{A R:List Int}{v:Int}{p:Nat}(hp:p=A.length):tkS (A++(beJ 4 4 v++R)) p 0 4=(beJ 4 4 v,p+4,0):=by
 subst hp;unfold tkS;rw[if_pos ⟨rfl,by decide,by simp[qpk];omega⟩];show(take 4 (List.drop A.length _),A.length+4,(0:Int))=_;rw[drop_left' rfl,take_left' (qpk 4 4 v)]
theorem qosb{A R:List Int}{v:Int}{p:Nat}(hp:p=A.length)(hv:0<=v/\v<4294967296):nuS (A++(beJ 4 4 v++R)) p 0 4=(v,p+4,0):=by
 have e:=qwlb 4 v;rw[show(2:Int)^(8*4)=4294967296 by decide,Int.emod_eq_of_lt hv.1 hv.2]at e;unfold nuS;have t:tkS (A++(beJ 4 4 v++R)) p 0 ((4:Nat):Int)=(beJ 4 4 v,p+4,0):=tk_hd hp;rw[t];simp only
 rw[e,if_neg (by omega)]
section
variable {F0:List Nat}{w0 w:World}{ps rest:List As}{b:Sl}{K:Ending->World->Prop}{Z R:List Int}{n:Nat}
theorem qri.c(h:St F0 w0 w ps)[Rdb F0 w0 b ps 1 (u8s Z)](h20:20<=Z.length)(hL:Z.length<=1000000)(hc:b.len<=b.cap)
 (hk:∀w',St F0 w0 w' ps->K (.returned (.tuple ⟨[.agg ⟨u8s (tlZ Z)⟩,.int .i64 0]⟩)) w'):Calls prog 35 ⟨[sV b]⟩ w K:=by
 have hl:=(h.rdb b).1
 rw[qk,mul_one]at hl
 refine qdc (qri.ok _ _ _ ?_)
 unfold qri
 rw[zcI]
 refine h.new λnb w h=>?_
 have h:St F0 w0 w (qqb nb (u8s b20)::ps):=h
 refine quc (λg=>by omega) λ_=>?_
 refine qm (e':=((b.len-20:Nat):Int)) (by rw[qd (by omega) (by omega)];omega) ?_
 refine qkn (n:=b.len-20) rfl (by omega) (qbe ⟨by simp only;omega,?_⟩)
 have ht:(tlZ Z).length=20:=by show(Z.drop _).length=20;rw[length_drop];omega
 haveI:=h.cutR b (b.len-20) b.len (b.cap-(b.len-20)) (le_refl _) (by omega) hc (show(Z.drop (b.len-20)).take (b.len-(b.len-20))=tlZ Z by rw[<-hl,take_of_length_le (by rw[length_drop];omega)])
 refine qfjb ((h.rdb ⟨qnf b.a b.cap (b.len-20) 1,b.len-(b.len-20),b.cap-(b.len-20)⟩).rdO (by rw[qk];omega) ?_) (by decide)
 refine⟨by show(u8s (tlZ Z)).length=20;rw[qk,ht],?_⟩
 refine h.sA (b:=nb) (l':=u8s (tlZ Z)) (n:=20) (by rw[qk];rfl) (by rw[qk,ht]) (λv hv=>qpe v hv) λw h=>?_
 refine h.blk.ldA (cs:=⟨u8s (tlZ Z)⟩) (by show(u8s (tlZ Z)).length=20;rw[qk,ht]) (λi hi=>by rw[zero_add];simp) ?_
 exact hk w h.drop
theorem qmd.c(h:St F0 w0 w ps)[Rdb F0 w0 b ps 1 (u8s Z)](hZ:Z=hdP n++R)(hb:qxl Z)(h32:32<=Z.length)(hL:Z.length<=131072)(hc:b.len<=b.cap)(hn:n<=512)
 (hk0:qtk (bdZ Z)=tlZ Z->∀w',St F0 w0 w' ps->K (.returned (.tuple ⟨[.slice b.a (b.len-20) b.cap,.int .i64 (n:Int),.int .i64 0]⟩)) w')
 (hk4:qtk (bdZ Z)≠tlZ Z->∀w',St F0 w0 w' ps->K (.returned (.tuple ⟨[.slice none 0 0,.int .i64 0,.int .i64 4]⟩)) w'):
 Calls prog 29 ⟨[sV b]⟩ w K:=by
 have hl:=(h.rdb b).1
 rw[qk,mul_one]at hl
 refine qdc (qmd.ok _ _ _ ?_)
 unfold qmd qmd.j1
 refine quc (λg=>by omega) λ_=>quc (λg=>by omega) λ_=>?_
 refine qpq.c (s:=b) h hb (by omega) λrb w h=>⟨_,rfl,?_⟩
 unfold qmd.j2
 have e0:Z=[]++([80,65,67,75]++(beJ 4 4 2++(beJ 4 4 (n:Int)++R))):=by rw[hZ];simp[hdP]
 have e1:Z=[80,65,67,75]++(beJ 4 4 2++(beJ 4 4 (n:Int)++R)):=by rw[hZ];simp[hdP]
 have e2:Z=([80,65,67,75]++beJ 4 4 2)++(beJ 4 4 (n:Int)++R):=by rw[hZ];simp[hdP]
 have t1:tkS Z 0 0 4=([80,65,67,75],4,0):=by
  unfold tkS;rw[if_pos ⟨rfl,by decide,by omega⟩,e1];rfl
 refine qfh.c (rb:=rb) (n:=4) h λr w h=>⟨r,rfl,?_⟩
 rw[t1]at h
 refine h.bt (s:=r) (xs:=[80,65,67,75]) (by decide) ?_
 refine qze (by decide+kernel) ?_
 have n1:nuS Z 4 0 4=(2,8,0):=by rw[e1];exact qosb rfl (by decide)
 refine qjg.c (rb:=rb) h hb λw h=>⟨_,rfl,?_⟩
 rw[n1]at h|-
 refine qze rfl ?_
 have n2:nuS Z 8 0 4=((n:Int),12,0):=by rw[e2];exact qosb (by simp[qpk]) (by omega)
 refine qjg.c (rb:=rb) h hb λw h=>⟨_,rfl,?_⟩
 rw[n2]at h|-
 have h:St F0 w0 w ps:=h.sub
 unfold qmd.j3
 refine qm (e':=((b.len-20:Nat):Int)) (by rw[qd (by omega) (by omega)];omega) ?_
 refine qkn (n:=b.len-20) rfl (by omega) (qbe ?_)
 refine qri.c (b:=b) h (by omega) (by omega) hc λw h=>⟨_,_,rfl,?_⟩
 rw[zcI]
 refine h.new λnb w h=>?_
 have h:St F0 w0 w (qqb nb (u8s b20)::ps):=h
 have ht:(tlZ Z).length=20:=by show(Z.drop _).length=20;rw[length_drop];omega
 refine⟨by show(u8s (tlZ Z)).length=20;rw[qk,ht],?_⟩
 refine h.sA (b:=nb) (l':=u8s (tlZ Z)) (n:=20) (by rw[qk];rfl) (by rw[qk,ht]) (λv hv=>qpe v hv) λw h=>?_
 unfold qmd.j4
 refine h.drewK λw h=>?_
 have ecut:(⟨qnf b.a b.cap 0 1,b.len-20-0,b.cap-0⟩:Sl)=⟨b.a,b.len-20,b.cap⟩:=by rw[qgw];rfl
 have hcut:∀qs,Rdb F0 w0 ⟨b.a,b.len-20,b.cap⟩ (qs++ps) 1 (u8s (bdZ Z)):=λqs=>by
  haveI:Rdb F0 w0 b (qs++ps) 1 (u8s Z):=by
   induction qs with
   |nil=>assumption
   |cons q r ih=>exact Rdb.tl
  rw[<-ecut];exact Rdb.cutAs this 0 (b.len-20) (b.cap-0) (by omega) (zero_le _) hc (by rw[drop_zero,<-hl];rfl)
 rw[ecut]
 have hall:qxl (bdZ Z):=λv hv=>hb v (List.mem_of_mem_take hv)
 have hbl:(bdZ Z).length<=34359738368:=by show(Z.take _).length<=_;rw[length_take];omega
 have sl:(qtk (bdZ Z)).length=20:=qoi _
 have ld:∀{w} {Q:Array Value->Prop},St F0 w0 w (qqb nb (u8s (tlZ Z))::ps)->Q ⟨u8s (tlZ Z)⟩->ldA w ⟨nb,0,none⟩ 20 Q:=λh hq=>
  h.blk.ldA (cs:=⟨u8s (tlZ Z)⟩) (by show(u8s (tlZ Z)).length=20;rw[qk,ht]) (λi hi=>by rw[zero_add];simp) hq
 have j6:∀w t,(t=!(qtk (bdZ Z)==tlZ Z))->St F0 w0 w (qqb nb (u8s (tlZ Z))::ps)->qmd.j6 ⟨b.a,b.len-20,b.cap⟩ (n:Int) t (λv w'=>K (.returned v) w') w:=λw t e h=>by
  unfold qmd.j6;by_cases g:qtk (bdZ Z)=tlZ Z
  ·refine qze (by rw[e,g];simp) ?_;refine quc (λg=>by omega) λ_=>?_;unfold qmd.j5;exact hk0 g w h.drop
  ·exact qjh (by rw[e];simpa using g) (hk4 g w h.drop)
 have hs:∀{w} {Q:Ending->World->Prop},St F0 w0 w (qqb nb (u8s (tlZ Z))::ps)->(∀w',St F0 w0 w' (qqb nb (u8s (tlZ Z))::ps)->Q (.returned (.agg ⟨u8s (qtk (bdZ Z))⟩)) w')->Calls prog 56 ⟨[.slice b.a (b.len-20) b.cap]⟩ w Q:=λh hq=>
  qqr.c (s:=⟨b.a,b.len-20,b.cap⟩) h (λw' p q h=>(hcut [p,q,qqb nb (u8s (tlZ Z))]).rd h) hall hbl hq
 refine⟨?_,?_⟩
 ·refine hs h λw h=>⟨_,rfl,?_⟩
  refine ld h ?_
  exact eqA_i sl ht (j6 _ _ rfl h)
 ·refine ld h ?_
  refine hs h λw h=>⟨_,rfl,?_⟩
  exact eqA_i sl ht (j6 _ _ rfl h)
end
end
section
attribute [local irreducible] apK cpK mkK br qih crcV qtk qvg
def obA(b:Nat)(o:Obj):As where
 hd w F:=w.heap[b]?=some o/\F=[b]
 keep:=by
  rintro w w' F G ⟨h,rfl⟩ m hd
  have hl:b<w.heap.size:=(Array.getElem?_eq_some_iff.1 h).1
  exact⟨by rw[m.frame b hl (hd b (by simp))];exact h,rfl⟩
 lt:=by
  rintro w F ⟨h,rfl⟩ x hx
  have:x=b:=by simpa using hx
  subst this
  exact(Array.getElem?_eq_some_iff.1 h).1
abbrev bgA(l:List As):As:=allA l
section
variable {F0:List Nat}{w0 w:World}{ps rest:List As}{p:As}{B:List As}{s t b:Sl}{o o':Obj}{bb:Nat}
theorem St.obj(h:St F0 w0 w (obA bb o::ps)):w.heap[bb]?=some o:=by
 obtain⟨F,h,_⟩:=h.get;exact h
theorem St.newO(o:Obj)(h:St F0 w0 w ps):St F0 w0 (w.alloc o) (obA w.heap.size o::ps):=
 h.add (Mod.alloc w _) ⟨World.alloc_heap_new w o,rfl⟩ (λx hx=>Or.inr (by have:x=w.heap.size:=(by simpa using hx);omega))
theorem St.putO(o':Obj)(h:St F0 w0 w (obA bb o::ps)):St F0 w0 (w.putObj bb o') (obA bb o'::ps):=by
 obtain⟨f,⟨hb,rfl⟩,hst⟩:=h.step;have hl:bb<w.heap.size:=(Array.getElem?_eq_some_iff.1 hb).1;refine hst _ [bb] _ ⟨rfl,rfl,rfl,by simp,λx hx hF=>?_⟩ (Gr.refl _ _) ⟨World.putObj_heap_same hl,rfl⟩;exact World.putObj_heap_other (λe=>hF (by simp[e]))
theorem St.bg0(h:St F0 w0 w ps):St F0 w0 w (bgA []::ps):=by
 obtain⟨m,F,hF,hr⟩:=h;exact⟨m,F,⟨[],F,rfl,hF,rfl,by simp⟩,hr⟩
theorem St.bgIn(h:St F0 w0 w (p::bgA B::ps)):St F0 w0 w (bgA (p::B)::ps):=St.join (q:=allA B) h
theorem bg_rd{sz:Nat}{cs:List Value}:∀{B:List As} {ps:List As},rdA sz t cs∈B->St F0 w0 w (bgA B::ps)->Rd w sz t cs:=by
 intro B;induction B with
 |nil=>intro ps h;cases h
 |cons q B ih=>
  intro ps hm h;have h:St F0 w0 w (q::bgA B::ps):=St.split (q:=allA B) h;rcases List.mem_cons.1 hm with e|hm
  ·rw[<-e]at h;exact h.rd
  ·exact ih hm h.drop
theorem Rdb.bag{sz:Nat}{cs:List Value}(hm:rdA sz t cs∈B):Rdb F0 w0 t (bgA B::ps) sz cs:=⟨λh=>bg_rd hm h⟩
end
theorem qiq(xs:List Int):qxl (qtk xs):=by
 intro x hx;unfold qtk at hx;obtain⟨v,_,hx⟩:=List.mem_flatMap.1 hx;have m:∀y:Int,0<=y%256/\y%256<256:=λy=>by omega
 unfold word4 at hx;simp only[List.mem_cons,List.not_mem_nil,or_false]at hx;rcases hx with rfl|rfl|rfl|rfl<;>exact m _
theorem qnpb:zc prog 22=#[.slice none 0 0]:=by kernel_rfl
theorem qodb:zc prog 27=#[.int .i64 0]:=by kernel_rfl
theorem zc_int:zc prog 3=#[.int .i64 0]:=by kernel_rfl
theorem zc_mib:zc prog 76=#[.map none]:=by kernel_rfl
theorem qpnb:qvg prog 57=true:=by kernel_rfl
def InB(X:List Ex)(T:List Sl)(B:List As):Prop:=∀(i:Nat) (h:i<T.length),rdA 1 T[i] (u8s (atX X i).2)∈B
section
variable {F0:List Nat}{w0 w:World}{ps rest:List As}{s t b:Sl}{X:List Ex}{K:Ending->World->Prop}{eff:Int}
theorem qoe.c{Z:List Int}(h:St F0 w0 w ps)[Rdb F0 w0 b ps 1 (u8s Z)](hZ:Z=pkB eff X)(hc:b.len<=b.cap)(hP:Play X)(hO:OkX X X.length)(hn:X.length<=512)
 (hk:∀(l:Sl) (T:List Sl) (B:List As) w',T.length=X.length->InB X T B->St F0 w0 w' (rdA 27 l ((enL eff X T).flatMap enC)::bgA B::ps)->K (.returned (.tuple ⟨[sV l,.int .i64 0]⟩)) w'):
 Calls prog 11 ⟨[sV b]⟩ w K:=by
 have hl:=(h.rdb b).1
 rw[qk,mul_one]at hl
 have hmx:=qom (eff:=eff) hP (le_refl X.length)
 have hmn:=(qzab (eff:=eff) hP X.length (le_refl _)).2
 have hsl:(qtk (bW eff X X.length)).length=20:=qoi _
 have hZl:Z.length=(bW eff X X.length).length+20:=by rw[hZ,length_append,hsl]
 have hBo:=qfpb (eff:=eff) hP hO X.length (le_refl _) (le_refl _)
 have hbd:bdZ Z=bW eff X X.length:=by
  show Z.take _=_;rw[hZl,Nat.add_sub_cancel,hZ,take_left' rfl]
 have htl:tlZ Z=qtk (bW eff X X.length):=by
  show Z.drop _=_;rw[hZl,Nat.add_sub_cancel,hZ,drop_left' rfl]
 obtain⟨T0,hT0⟩:=qnfb (eff:=eff) (X:=X) X.length 0 (by omega)
 rw[zero_add]at hT0
 have hT0:bW eff X X.length=hdP X.length++T0:=hT0
 have hcut:∀qs,Rdb F0 w0 ⟨b.a,b.len-20,b.cap⟩ (qs++ps) 1 (u8s (bW eff X X.length)):=λqs=>by
  haveI:Rdb F0 w0 b (qs++ps) 1 (u8s Z):=by
   induction qs with
   |nil=>assumption
   |cons q r ih=>exact Rdb.tl
  have e:(⟨qnf b.a b.cap 0 1,b.len-20-0,b.cap⟩:Sl)=⟨b.a,b.len-20,b.cap⟩:=by rw[qgw];rfl
  rw[<-e];exact Rdb.cutAs this 0 (b.len-20) b.cap (by omega) (zero_le _) hc (by rw[drop_zero,sub_zero,<-hl];exact hbd)
 refine qdc (qoe.ok _ _ _ ?_)
 unfold qoe
 rw[qnpb,qodb]
 refine h.new λb2 w h=>?_
 refine h.new λb3 w h=>?_
 have h:St F0 w0 w (qqb b3 [.int .i64 0]::qqb b2 [.slice none 0 0]::ps):=h
 refine qmd.c (b:=b) (Z:=Z) (n:=X.length) (R:=T0++qtk (bW eff X X.length)) h (by rw[hZ];show bW eff X X.length++_=_;rw[hT0,append_assoc]) (λv hv=>?_) (by omega) (by omega) hc hn (λ_ w h=>⟨⟨b.a,b.len-20,b.cap⟩,_,_,rfl,?_⟩) (λg=>absurd (by rw[hbd,htl]) g)
 ·rw[hZ]at hv
  exact(mem_append.1 hv).elim (hBo v) (qiq _ v)
 refine qze rfl ?_
 rw[zc_int,zc_mib]
 refine h.new λlb w h=>?_
 refine h.new λab w h=>?_
 have h:St F0 w0 w (qqb ab [.int .i64 0]::qqb lb [.slice none 0 0]::qqb b3 [.int .i64 0]::qqb b2 [.slice none 0 0]::ps):=h
 refine h.fst (b:=ab) (l':=[.int .i64 12]) (g:=⟨rfl,zero_lt_succ _⟩) trivial λw h=>?_
 refine h.mmake λmb w h=>?_
 refine h.new λcb w h=>?_
 have h:St F0 w0 w (qqb cb [.map none]::mpA mb []::qqb ab [.int .i64 12]::qqb lb [.slice none 0 0]::qqb b3 [.int .i64 0]::qqb b2 [.slice none 0 0]::ps):=h
 refine h.fst (b:=cb) (l':=[.map (some mb)]) (g:=⟨rfl,zero_lt_succ _⟩) trivial λw h=>?_
 refine qdc (qkm.ok _ _ _ _ ?_)
 unfold qkm
 refine h.new λyb w h=>?_
 refine h.new λnb w h=>?_
 have h:St F0 w0 w (qqb nb [.int .i64 (X.length:Int)]::qqb yb [.slice b.a (b.len-20) b.cap]::qqb cb [.map (some mb)]::mpA mb (btL [])::qqb ab [.int .i64 12]::qqb lb [.slice none 0 0]::qqb b3 [.int .i64 0]::qqb b2 [.slice none 0 0]::ps):=h
 refine⟨_,rfl,?_⟩
 unfold qoe.j1
 refine⟨_,_,rfl,qpnb,λRC hR=>?_⟩
 obtain⟨D,hD⟩:∃D,D=w.heap.size:=⟨_,rfl⟩
 have h:=h.newO (.deferred (some []))
 have h:=h.newO (.loop (RC .ready none))
 rw[World.size_alloc]at h
 rw[<-hD]at h hR|-
 have h:St F0 w0 _ (obA (D+1) (.loop (RC .ready none))::obA D (.deferred (some []))::qqb nb [.int .i64 (X.length:Int)]::qqb yb [.slice b.a (b.len-20) b.cap]::qqb cb [.map (some mb)]::mpA mb (btL [])::qqb ab [.int .i64 12]::qqb lb [.slice none 0 0]::qqb b3 [.int .i64 0]::qqb b2 [.slice none 0 0]::ps):=h
 refine qdc (qzd.ok _ _ _ _ _ ?_)
 unfold qzd
 refine h.fI (b:=nb) ?_
 unfold qzd.j1
 have i0:∀{m:Nat},m<=24000->(Lit.int .i64 (m:Int)).wf=true:=λ{m} hm=>by
  have h1:i64.min= -9223372036854775808:=rfl;have h2:i64.max=9223372036854775807:=rfl;have:i64.min<=(m:Int)/\(m:Int)<=i64.max:=by omega
  simpa [Lit.wf]using this
 refine qug (λ(a:Nat×List Sl×List As×List Int×Sl) (at' i':Int) w'=>i'=(a.1:Int)/\at'=((bW eff X a.1).length:Int)/\a.1<=X.length/\a.2.1.length=a.1/\InB X a.2.1 a.2.2.1/\i64s a.2.2.2.1/\(∀j,j<a.1->((bW eff X j).length:Int)∈a.2.2.2.1)/\
  St F0 w0 w' (obA (D+1) (.loop (RC .ready none))::obA D (.deferred (some []))::qqb nb [.int .i64 (X.length:Int)]::qqb yb [.slice b.a (b.len-20) b.cap]::qqb cb [.map (some mb)]::mpA mb (btL a.2.2.2.1)::qqb ab [.int .i64 ((bW eff X a.1).length:Int)]::qqb lb [.slice a.2.2.2.2.a a.2.2.2.2.len a.2.2.2.2.cap]::qqb b3 [.int .i64 0]::qqb b2 [.slice none 0 0]::qcc 27 a.2.2.2.2 ((enL eff X a.2.1).flatMap enC)::bgA a.2.2.1::ps)) (λa=>X.length-a.1)
  (0,[],[],[],⟨none,0,0⟩) ⟨rfl,by show(12:Int)=((hdP X.length).length:Int);rw[qzr];rfl,zero_le _,rfl,λi h=>absurd h (Nat.not_lt_zero _),λn hn=>(by cases hn),λj hj=>absurd hj (Nat.not_lt_zero _),?_⟩ ?_
 ·have h:=h.bg0
  have h:=h.nil0 (sz:=27)
  have e:((bW eff X 0).length:Int)=12:=by show((hdP X.length).length:Int)=12;rw[qzr];rfl
  simp only
  rw[e]
  have h:St F0 w0 _ (qcc 27 ⟨none,0,0⟩ ((enL eff X []).flatMap enC)::bgA []::obA (D+1) (.loop (RC .ready none))::obA D (.deferred (some []))::qqb nb [.int .i64 (X.length:Int)]::qqb yb [.slice b.a (b.len-20) b.cap]::qqb cb [.map (some mb)]::mpA mb (btL [])::qqb ab [.int .i64 12]::qqb lb [.slice none 0 0]::qqb b3 [.int .i64 0]::qqb b2 [.slice none 0 0]::ps):=h
  exact h.sub
 clear h
 rintro⟨i,T,B,E,t⟩ _ _ wL I μ ⟨rfl,rfl,hi,hT,hB,hE,hEj,h⟩ hin
 simp only at hi hT hB hE hEj h hin|-
 unfold qzd.b1
 refine quc (λg=>?_) (λg=>?_)
 ·have hix:i<X.length:=by omega
  have hv:=hO i hix hix
  have hp:=hP.pl _ (getElem_mem hix)
  have hmi:=qom (eff:=eff) hP (show i<=X.length by omega)
  have hmj:=qom (eff:=eff) hP (show i+1<=X.length by omega)
  obtain⟨T',hT'⟩:=bW_at (eff:=eff) hix
  have hk1:=hv.k1
  have hk7:=hv.k7
  have hk5:=hv.k5
  refine h.fL (b:=yb) ?_
  obtain⟨qs,hqs⟩:∃qs,qs=[obA (D+1) (.loop (RC .ready none)),obA D (.deferred (some [])),qqb nb [.int .i64 (X.length:Int)],qqb yb [.slice b.a (b.len-20) b.cap],qqb cb [.map (some mb)],mpA mb (btL E),qqb ab [.int .i64 ((bW eff X i).length:Int)],qqb lb [.slice t.a t.len t.cap],qqb b3 [.int .i64 0],qqb b2 [.slice none 0 0],qcc 27 t ((enL eff X T).flatMap enC),bgA B]:=⟨_,rfl⟩
  have h:St F0 w0 wL (qs++ps):=by rw[hqs];exact h
  haveI:Rdb F0 w0 ⟨b.a,b.len-20,b.cap⟩ (qs++ps) 1 (u8s (bW eff X i++(qjn X[i].1.kind.toNat (bkW (bW eff X i).length (pW eff X i) X[i]) X[i].1.base X[i].2 eff++T'))):=by
   have:=hcut qs;rw[hT']at this
   exact this
  have hXo:∀v∈bW eff X i++(qjn X[i].1.kind.toNat (bkW (bW eff X i).length (pW eff X i) X[i]) X[i].1.base X[i].2 eff++T'),0<=v/\v<256:=λv hv=>hBo v (by rw[hT'];exact hv)
  have hXl:(bW eff X i++(qjn X[i].1.kind.toNat (bkW (bW eff X i).length (pW eff X i) X[i]) X[i].1.base X[i].2 eff++T')).length<=1000000:=by
   have:(bW eff X i++(qjn X[i].1.kind.toNat (bkW (bW eff X i).length (pW eff X i) X[i]) X[i].1.base X[i].2 eff++T')).length=(bW eff X X.length).length:=by rw[hT'];rfl
   omega
  refine qyj.wr (s:=⟨b.a,b.len-20,b.cap⟩) (A:=bW eff X i) (T:=T') (k:=X[i].1.kind.toNat) (b:=bkW (bW eff X i).length (pW eff X i) X[i]) (base:=X[i].1.base) (xs:=X[i].2) (eff:=eff) h hXo hXl (by simp only;omega) X[i].1.hb hp.xs (by omega) (by omega) (by omega) (by have:=hp.ln;omega) (λg=>?_) λt' w ht' h=>⟨_,_,rfl,?_⟩
  ·have:=qslb (eff:=eff) hP hix hv (by omega)
   omega
  have hE1:enW X[i].1.kind.toNat (bkW (bW eff X i).length (pW eff X i) X[i]) X[i].1.base X[i].1.hb X[i].2 eff (bW eff X i).length t'=rdE eff X i t':=by rw[qwz hix];rfl
  rw[hE1,zcE]
  have heat:(rdE eff X i t').at'=((bW eff X i).length:Int):=rfl
  have helen:(rdE eff X i t').len=((enB eff (bW eff X i).length (pW eff X i) X[i]).length:Int):=by rw[qwz hix];rfl
  have hnx:(bW eff X (i+1)).length=(bW eff X i).length+(enB eff (bW eff X i).length (pW eff X i) X[i]).length:=by rw[qepb hix,length_append]
  rw[hqs]at h
  refine h.new λeb w h=>?_
  have h:St F0 w0 w (qqb eb (enC en0)::rdA 1 t' (u8s X[i].2)::obA (D+1) (.loop (RC .ready none))::obA D (.deferred (some []))::qqb nb [.int .i64 (X.length:Int)]::qqb yb [.slice b.a (b.len-20) b.cap]::qqb cb [.map (some mb)]::mpA mb (btL E)::qqb ab [.int .i64 ((bW eff X i).length:Int)]::qqb lb [.slice t.a t.len t.cap]::qqb b3 [.int .i64 0]::qqb b2 [.slice none 0 0]::qcc 27 t ((enL eff X T).flatMap enC)::bgA B::ps):=h
  refine⟨qie _,h.sE (eb:=eb) (qie _) λw h=>h.lE (eb:=eb) ?_⟩
  refine hR w ⟨enC (rdE eff X i t')⟩ 0 _ h.drop.drop.obj ?_
  unfold qoe.ra
  rw[zcE]
  refine h.new λxb w h=>?_
  have h:St F0 w0 w (qqb xb (enC en0)::qqb eb (enC (rdE eff X i t'))::rdA 1 t' (u8s X[i].2)::obA (D+1) (.loop (RC .ready none))::obA D (.deferred (some []))::qqb nb [.int .i64 (X.length:Int)]::qqb yb [.slice b.a (b.len-20) b.cap]::qqb cb [.map (some mb)]::mpA mb (btL E)::qqb ab [.int .i64 ((bW eff X i).length:Int)]::qqb lb [.slice t.a t.len t.cap]::qqb b3 [.int .i64 0]::qqb b2 [.slice none 0 0]::qcc 27 t ((enL eff X T).flatMap enC)::bgA B::ps):=h
  refine⟨qie _,h.sE (eb:=xb) (qie _) λw h=>?_⟩
  have h:=h.at3
  refine⟨h.obj,?_⟩
  have h:=h.putO (.loop (RC .busy none))
  refine qze rfl ?_
  refine h.fM (b:=cb) ?_
  refine h.gI (b:=xb) ?_
  rw[heat]
  obtain⟨rs,hrs⟩:∃rs,rs=obA (D+1) (.loop (RC .busy none))::qqb xb (enC (rdE eff X i t'))::qqb eb (enC (rdE eff X i t'))::rdA 1 t' (u8s X[i].2)::obA D (.deferred (some []))::qqb nb [.int .i64 (X.length:Int)]::qqb yb [.slice b.a (b.len-20) b.cap]::qqb cb [.map (some mb)]::qqb ab [.int .i64 ((bW eff X i).length:Int)]::qqb lb [.slice t.a t.len t.cap]::qqb b3 [.int .i64 0]::qqb b2 [.slice none 0 0]::qcc 27 t ((enL eff X T).flatMap enC)::bgA B::ps:=⟨_,rfl⟩
  have h:St F0 w0 _ (mpA mb (btL E)::obA (D+1) (.loop (RC .busy none))::qqb xb (enC (rdE eff X i t'))::qqb eb (enC (rdE eff X i t'))::rdA 1 t' (u8s X[i].2)::obA D (.deferred (some []))::qqb nb [.int .i64 (X.length:Int)]::qqb yb [.slice b.a (b.len-20) b.cap]::qqb cb [.map (some mb)]::qqb ab [.int .i64 ((bW eff X i).length:Int)]::qqb lb [.slice t.a t.len t.cap]::qqb b3 [.int .i64 0]::qqb b2 [.slice none 0 0]::qcc 27 t ((enL eff X T).flatMap enC)::bgA B::ps):=h.sub
  rw[<-hrs]at h
  refine h.bset hE (i0 hmi) λE' w hE1' hE2 hE3 h=>?_
  rw[hrs]at h
  refine h.gI (b:=xb) ?_
  refine h.gI (b:=xb) ?_
  rw[heat,helen]
  refine qm (e':=((bW eff X (i+1)).length:Int)) (by rw[qd (by omega) (by omega)];omega) ?_
  refine h.fst (b:=ab) (l':=[.int .i64 ((bW eff X (i+1)).length:Int)]) (g:=⟨rfl,zero_lt_succ _⟩) trivial λw h=>?_
  refine h.fL (b:=lb) ?_
  refine h.lE (eb:=xb) ⟨qie _,?_⟩
  rw[qgx (by rw[qie];rfl)]
  refine h.pushR (s:=t) (f:=enC) (L:=enL eff X T) (x:=rdE eff X i t') (by rw[qbl];omega) rfl λs' w _ h=>?_
  have he:enL eff X T++[rdE eff X i t']=enL eff X (T++[t']):=by rw[enL_s,hT]
  rw[he]at h
  refine h.fst (b:=lb) (l':=[.slice s'.a s'.len s'.cap]) (g:=⟨rfl,zero_lt_succ _⟩) trivial λw h=>?_
  have h:St F0 w0 w (obA (D+1) (.loop (RC .busy none))::qqb eb (enC (rdE eff X i t'))::rdA 1 t' (u8s X[i].2)::obA D (.deferred (some []))::qqb nb [.int .i64 (X.length:Int)]::qqb yb [.slice b.a (b.len-20) b.cap]::qqb cb [.map (some mb)]::mpA mb (btL E')::qqb ab [.int .i64 ((bW eff X (i+1)).length:Int)]::qqb lb [.slice s'.a s'.len s'.cap]::qqb b3 [.int .i64 0]::qqb b2 [.slice none 0 0]::qcc 27 s' ((enL eff X (T++[t'])).flatMap enC)::bgA B::ps):=h.sub
  refine⟨h.obj,true,rfl,?_⟩
  have h:=h.putO (.loop (RC .ready none))
  refine qze rfl (qze rfl ?_)
  refine h.gI (b:=eb) ?_
  rw[helen]
  refine qm (e':=((bW eff X (i+1)).length:Int)) (by rw[qd (by omega) (by omega)];omega) ?_
  refine qm (e':=((i+1:Nat):Int)) (by rw[qd (by omega) (by omega)];rfl) ?_
  have h:St F0 w0 _ (rdA 1 t' (u8s X[i].2)::bgA B::obA (D+1) (.loop (RC .ready none))::obA D (.deferred (some []))::qqb nb [.int .i64 (X.length:Int)]::qqb yb [.slice b.a (b.len-20) b.cap]::qqb cb [.map (some mb)]::mpA mb (btL E')::qqb ab [.int .i64 ((bW eff X (i+1)).length:Int)]::qqb lb [.slice s'.a s'.len s'.cap]::qqb b3 [.int .i64 0]::qqb b2 [.slice none 0 0]::qcc 27 s' ((enL eff X (T++[t'])).flatMap enC)::ps):=h.sub
  have h:=h.bgIn
  refine⟨⟨rfl,rfl,rfl⟩,hin (i+1,T++[t'],rdA 1 t' (u8s X[i].2)::B,E',s') _ _ _ ⟨rfl,rfl,by simp only;omega,by simp only[length_append,length_singleton];omega,λj hj=>?_,hE3,λj hj=>?_,h.sub⟩ (by simp only;omega)⟩
  ·simp only at hj|-
   rw[length_append,length_singleton,hT]at hj
   by_cases hji:j<i
   ·rw[List.getElem_append_left (by omega)]
    exact List.mem_cons_of_mem _ (hB j (by omega))
   ·have:j=i:=by omega
    subst this
    rw[List.getElem_append_right (by omega),qeub hix]
    simp
  ·simp only at hj
   by_cases hji:j<i
   ·exact hE2 _ (hEj j hji)
   ·have:j=i:=by omega
    subst this
    exact hE1'
 ·have:i=X.length:=by omega
  subst this
  refine⟨⟨_,rfl⟩,Or.inl ⟨h.obj,?_⟩⟩
  have h:=h.putO (.loop (RC .exhausted none))
  unfold qoe.jd
  refine h.fI (b:=ab) ?_
  refine quc (λg=>by simp only at g;omega) λ_=>?_
  refine h.fL (b:=lb) ?_
  obtain⟨rs,hrs⟩:∃rs,rs=obA (D+1) (.loop (RC .exhausted none))::obA D (.deferred (some []))::qqb lb [.slice t.a t.len t.cap]::qqb b3 [.int .i64 0]::qqb b2 [.slice none 0 0]::qcc 27 t ((enL eff X T).flatMap enC)::bgA B::ps:=⟨_,rfl⟩
  have h:St F0 w0 _ (mpA mb (btL E)::qqb cb [.map (some mb)]::obA (D+1) (.loop (RC .exhausted none))::obA D (.deferred (some []))::qqb lb [.slice t.a t.len t.cap]::qqb b3 [.int .i64 0]::qqb b2 [.slice none 0 0]::qcc 27 t ((enL eff X T).flatMap enC)::bgA B::ps):=h.sub
  rw[<-hrs]at h
  haveI:Rdb F0 w0 t rs 27 ((enL eff X T).flatMap enC):=by rw[hrs];infer_instance
  refine qjq.c (s:=t) (L:=enL eff X T) h (by rw[qbl];omega) hE (λe he h6=>?_) λw h=>⟨_,rfl,qze rfl ?_⟩
  ·obtain⟨j,hj,rfl⟩:=List.getElem_of_mem he
   have hjl:=hj
   rw[qbl,hT]at hjl
   have hv:=hO j hjl hjl
   rw[qoy]at h6|-
   have e1:(rdE eff X j (T[j]'(by omega))).kind=((X[j].1.kind.toNat:Nat):Int):=by rw[qwz hjl];rfl
   have h66:X[j].1.kind=6:=by have:=hv.k1;omega
   have hb6:=qslb (eff:=eff) hP hjl hv h66
   have e2:(rdE eff X j (T[j]'(by omega))).back=((bkW (bW eff X j).length (pW eff X j) X[j]:Nat):Int):=by
    rw[qwz hjl];show(if X[j].1.kind.toNat=6 then _ else(0:Int))=_;rw[if_pos (by omega)]
   have e3:(rdE eff X j (T[j]'(by omega))).at'=((bW eff X j).length:Int):=rfl
   have hmj:=qom (eff:=eff) hP (show j<=X.length by omega)
   rw[e2,e3]
   have:=hEj (j-X[j].1.back.toNat) (by omega)
   have e4:((bW eff X j).length:Int)-((bkW (bW eff X j).length (pW eff X j) X[j]:Nat):Int)=((bW eff X (j-X[j].1.back.toNat)).length:Int):=by omega
   rw[e4]
   exact⟨this,by omega,by have:=hb6.2.2;omega⟩
  have h:St F0 w0 w rs:=h.drop.drop
  rw[hrs]at h
  refine h.fL (b:=lb) ?_
  have hcap:=h.drop.drop.drop.drop.drop.cap (by decide)
  refine qiv.c (s:=t) h hcap ⟨⟨t.a,t.len,t.len⟩,rfl,?_⟩
  refine h.fst (b:=b2) (l':=[.slice t.a t.len t.len]) (g:=⟨rfl,zero_lt_succ _⟩) trivial λw h=>?_
  refine h.fst (b:=b3) (l':=[.int .i64 0]) (g:=⟨rfl,zero_lt_succ _⟩) trivial λw h=>?_
  have h:St F0 w0 w (obA D (.deferred (some []))::qcc 27 t ((enL eff X T).flatMap enC)::qqb b3 [.int .i64 0]::qqb b2 [.slice t.a t.len t.len]::bgA B::ps):=h.sub
  refine⟨h.obj,?_⟩
  have h:=h.putO (.deferred none)
  refine h.fL (b:=b2) (h.fI (b:=b3) ?_)
  have h:=(h.drop.ro).recap (s':=⟨t.a,t.len,t.len⟩) rfl rfl
  exact hk ⟨t.a,t.len,t.len⟩ T B _ hT hB (h.tail λ_ _ _ h=>h.drop.drop)
end
end
section
attribute [local irreducible] apK cpK mkK br qih crcV qtk qvg
section
variable {F0:List Nat}{w0 w:World}{ps rest:List As}{s t b:Sl}{X:List Ex}{K:Ending->World->Prop}{eff:Int}{L:List En}
theorem qp.j9c{Q:VWP}(h:St F0 w0 w ps)[Rdb F0 w0 s ps 27 (L.flatMap enC)](hL:L.length<=1000000)(hl:∀e∈L,e.kind=6->∃(j:Nat) (hj:j<L.length),L[j].at'=e.at'-e.back/\ -9223372036854775808<=e.at'-e.back/\e.at'-e.back<9223372036854775808)
 (hk:∀w',St F0 w0 w' ps->Q (.tuple ⟨[sV s,.int .i64 0]⟩) w'):qp.j9 s Q w:=by
 have hsl:=h.rlen (s:=s) (f:=enC) (L:=L)
 unfold qp.j9 qp.j11
 refine qjf (λ(i:Nat) (i':Int) w'=>i'=(i:Int)/\i<=L.length/\St F0 w0 w' ps) (λi=>L.length-i) 0 ⟨rfl,zero_le _,h⟩ ?_
 clear h
 rintro i _ wL I μ ⟨rfl,hi,h⟩ hin
 unfold qp.b1
 refine quc (λg=>?_) (λg=>?_)
 ·have hix:i<L.length:=by omega
  refine h.drewK λw h=>?_
  have nxt:∀w,St F0 w0 w ps->lt (i64.wrap ((i:Int)+1)) λx=>(s=s)/\I x w/\μ x w<μ (i:Int) wL:=λw h=>by
   refine qm (e':=((i+1:Nat):Int)) (by rw[qd (by omega) (by omega)];rfl) ?_;exact⟨rfl,hin (i+1) _ _ ⟨rfl,by omega,h⟩ (by omega)⟩
  refine h.lrI (s:=s) (f:=enC) (L:=L) (v:=L[i].kind) i rfl hix (by decide) rfl ?_
  refine qye (λg6=>?_) (λ_=>nxt w h)
  obtain⟨j,hj,e1,e2,e3⟩:=hl _ (getElem_mem hix) (by simpa using g6)
  refine h.lrI (s:=s) (f:=enC) (L:=L) i rfl hix (by decide) (qbo _ 1) ?_
  refine h.lrI (s:=s) (f:=enC) (L:=L) (v:=L[i].back) i rfl hix (by decide) rfl ?_
  refine qm (qd e2 e3) ?_
  refine qxc.c (s:=s) (L:=L) h hL hj e1 λw h=>⟨_,rfl,?_⟩
  exact qze rfl (nxt w h)
 ·unfold qp.j10
  exact hk _ h
theorem qp.c{Z:List Int}(h:St F0 w0 w ps)[Rdb F0 w0 b ps 1 (u8s Z)](hZ:Z=pkB eff X)(hc:b.len<=b.cap)(hP:Play X)(hO:OkX X X.length)(hn:X.length<=512)
 (hk:∀(l:Sl) (T:List Sl) (B:List As) w',T.length=X.length->InB X T B->St F0 w0 w' (rdA 27 l ((enL eff X T).flatMap enC)::bgA B::ps)->K (.returned (.tuple ⟨[sV l,.int .i64 0]⟩)) w'):
 Calls prog 10 ⟨[sV b]⟩ w K:=by
 have hl:=(h.rdb b).1
 rw[qk,mul_one]at hl
 have hmx:=qom (eff:=eff) hP (le_refl X.length)
 have hmn:=(qzab (eff:=eff) hP X.length (le_refl _)).2
 have hsl:(qtk (bW eff X X.length)).length=20:=qoi _
 have hZl:Z.length=(bW eff X X.length).length+20:=by rw[hZ,length_append,hsl]
 have hBo:=qfpb (eff:=eff) hP hO X.length (le_refl _) (le_refl _)
 have hZo:qxl Z:=λv hv=>by
  rw[hZ]at hv;exact(mem_append.1 hv).elim (hBo v) (qiq _ v)
 have hbd:bdZ Z=bW eff X X.length:=by
  show Z.take _=_;rw[hZl,Nat.add_sub_cancel,hZ,take_left' rfl]
 have htl:tlZ Z=qtk (bW eff X X.length):=by
  show Z.drop _=_;rw[hZl,Nat.add_sub_cancel,hZ,drop_left' rfl]
 obtain⟨T0,hT0⟩:=qnfb (eff:=eff) (X:=X) X.length 0 (by omega)
 rw[zero_add]at hT0
 have hT0:bW eff X X.length=hdP X.length++T0:=hT0
 obtain⟨R,hR⟩:∃R,R=T0++qtk (bW eff X X.length):=⟨_,rfl⟩
 have hZR:Z=hdP X.length++R:=by rw[hZ,hR,<-append_assoc,<-hT0]
 have hcut:∀qs,Rdb F0 w0 ⟨b.a,b.len-20,b.cap⟩ (qs++ps) 1 (u8s (bW eff X X.length)):=λqs=>by
  haveI:Rdb F0 w0 b (qs++ps) 1 (u8s Z):=by
   induction qs with
   |nil=>assumption
   |cons q r ih=>exact Rdb.tl
  have e:(⟨qnf b.a b.cap 0 1,b.len-20-0,b.cap⟩:Sl)=⟨b.a,b.len-20,b.cap⟩:=by rw[qgw];rfl
  rw[<-e];exact Rdb.cutAs this 0 (b.len-20) b.cap (by omega) (zero_le _) hc (by rw[drop_zero,sub_zero,<-hl];exact hbd)
 refine qdc (qp.ok _ _ _ ?_)
 unfold qp qp.j1
 refine quc (λg=>by omega) λ_=>quc (λg=>by omega) λ_=>?_
 unfold qp.j2
 refine qkn (n:=4) rfl (by omega) (qbe ?_)
 have e0:Z.take 4=[80,65,67,75]:=by rw[hZR];rfl
 haveI:=h.cutR b 0 4 (b.cap-0) (by omega) (zero_le _) hc (show(Z.drop 0).take (4-0)=[80,65,67,75]by rw[drop_zero,sub_zero];exact e0)
 refine h.bt (s:=⟨qnf b.a b.cap 0 1,4-0,b.cap-0⟩) (xs:=[80,65,67,75]) (by decide) ?_
 refine qze (by decide+kernel) ?_
 have hr:=h.rdb b
 have hd2:beJ 4 4 2=[0,0,0,2]:=by decide
 have e1:Z=[80,65,67,75,0,0,0,2]++(beJ 4 4 (X.length:Int)++R):=by rw[hZR];unfold hdP;rw[hd2,append_assoc];rfl
 have ld:∀(j:Nat) (v:Int),j<Z.length->Z[j]?=some v->∀{Q:Int->Prop},Q v->ixS b.a b.len (j:Int) 1 λa=>ldI .u8 w a Q:=λj v hj he Q hq=>by
  refine hr.ix (by decide) (by omega) (by omega) λa ha=>?_;refine⟨v,?_,hq⟩;rw[toNat_natCast,hr.cell ha (by rw[qk];omega),mul_one,qsm hj,List.getD_eq_getElem?_getD,he];rfl
 refine ld 4 0 (by omega) (by rw[e1];rfl) (qze rfl ?_)
 refine ld 5 0 (by omega) (by rw[e1];rfl) (qze rfl ?_)
 refine ld 6 0 (by omega) (by rw[e1];rfl) (qze rfl ?_)
 refine ld 7 2 (by omega) (by rw[e1];rfl) (qze rfl ?_)
 refine qm (e':=((b.len-20:Nat):Int)) (by rw[qd (by omega) (by omega)];omega) ?_
 refine qkn (n:=b.len-20) rfl (by omega) (qbe ?_)
 have ecut:(⟨qnf b.a b.cap 0 1,b.len-20-0,b.cap-0⟩:Sl)=⟨b.a,b.len-20,b.cap⟩:=by rw[qgw];rfl
 rw[ecut]
 unfold qp.j3
 haveI:Rdb F0 w0 ⟨b.a,b.len-20,b.cap⟩ ps 1 (u8s (bW eff X X.length)):=hcut []
 refine qo.c (s:=⟨b.a,b.len-20,b.cap⟩) (xs:=bW eff X X.length) h hBo (by omega) λw h=>⟨_,rfl,?_⟩
 rw[zc_20b]
 refine h.new λnb w h=>?_
 have h:St F0 w0 w (qqb nb (u8s b20)::ps):=h
 refine⟨by show(u8s _).length=20;rw[qk,hsl],?_⟩
 refine h.sA (b:=nb) (l':=u8s (qtk (bW eff X X.length))) (n:=20) (by rw[qk];rfl) (by rw[qk,hsl]) (λv hv=>qpe v hv) λw h=>?_
 refine h.drewK λw h=>?_
 have h:=h.ownB (n:=20) (by rw[qk,hsl])
 refine qbe ?_
 have e:(⟨cutP ⟨nb,0,none⟩ 20 0 1,20-0,20-0⟩:Sl)=⟨some ⟨nb,0,none⟩,20,20⟩:=rfl
 rw[e]
 refine qm (e':=((b.len-20:Nat):Int)) (by rw[qd (by omega) (by omega)];omega) ?_
 refine qkn (n:=b.len-20) rfl (by omega) (qbe ?_)
 haveI:=h.cutR b (b.len-20) b.len (b.cap-(b.len-20)) (le_refl _) (by omega) hc (show(Z.drop (b.len-20)).take (b.len-(b.len-20))=qtk (bW eff X X.length)by rw[<-htl,<-hl,take_of_length_le (by rw[length_drop];omega)])
 have j4:qp.j4 b ⟨b.a,b.len-20,b.cap⟩ (λv w'=>K (.returned v) w') w:=by
  have h:St F0 w0 w ps:=h.drop;unfold qp.j4;refine h.new λrb w h=>?_;have h:St F0 w0 w (brR rb (b,8,0)::ps):=h;unfold qp.j5;have n2:nuS Z 8 0 4=((X.length:Int),12,0):=by rw[e1];exact qosb rfl (by omega)
  refine qab.c (n:=4) (rb:=rb) hZo (by decide) h (by omega) (by omega) hc λw h=>⟨_,rfl,?_⟩;rw[n2]at h|-
  refine quc (λg=>by simp only at g;omega) λ_=>?_;have h:St F0 w0 w ps:=h.drop;unfold qp.j6 qp.j7 qp.j12;refine loop3 (λ(a:Nat×List Sl×List As) (t:Sl) (at' i':Int) w'=>i'=(a.1:Int)/\at'=((bW eff X a.1).length:Int)/\a.1<=X.length/\a.2.1.length=a.1/\InB X a.2.1 a.2.2/\St F0 w0 w' (qcc 27 t ((enL eff X a.2.1).flatMap enC)::bgA a.2.2::ps)) (λa=>X.length-a.1)
   (0,[],[]) ⟨rfl,by show(12:Int)=((hdP X.length).length:Int);rw[qzr];rfl,zero_le _,rfl,λi h=>absurd h (Nat.not_lt_zero _),(h.bg0).nil0 (sz:=27)⟩ ?_
  clear h;rintro⟨i,T,B⟩ t _ _ wL I μ ⟨rfl,rfl,hi,hT,hB,h⟩ hin;simp only at hi hT hB h hin|-
  unfold qp.b2;refine quc (λg=>?_) (λg=>?_)
  ·have hix:i<X.length:=by omega
   have hv:=hO i hix hix;have hp:=hP.pl _ (getElem_mem hix);have hmi:=qom (eff:=eff) hP (show i<=X.length by omega);have hmj:=qom (eff:=eff) hP (show i+1<=X.length by omega);obtain⟨T',hT'⟩:=bW_at (eff:=eff) hix;have hk1:=hv.k1;have hk7:=hv.k7;have hk5:=hv.k5;haveI:Rdb F0 w0 ⟨b.a,b.len-20,b.cap⟩ (qcc 27 t ((enL eff X T).flatMap enC)::bgA B::ps) 1 (u8s (bW eff X i++(qjn X[i].1.kind.toNat (bkW (bW eff X i).length (pW eff X i) X[i]) X[i].1.base X[i].2 eff++T'))):=by
    have:=hcut [qcc 27 t ((enL eff X T).flatMap enC),bgA B];rw[hT']at this
    exact this
   have hXo:∀v∈bW eff X i++(qjn X[i].1.kind.toNat (bkW (bW eff X i).length (pW eff X i) X[i]) X[i].1.base X[i].2 eff++T'),0<=v/\v<256:=λv hv=>hBo v (by rw[hT'];exact hv);have hXl:(bW eff X i++(qjn X[i].1.kind.toNat (bkW (bW eff X i).length (pW eff X i) X[i]) X[i].1.base X[i].2 eff++T')).length<=1000000:=by
    have:(bW eff X i++(qjn X[i].1.kind.toNat (bkW (bW eff X i).length (pW eff X i) X[i]) X[i].1.base X[i].2 eff++T')).length=(bW eff X X.length).length:=by rw[hT'];rfl
    omega
   refine qt.wr (s:=⟨b.a,b.len-20,b.cap⟩) (A:=bW eff X i) (T:=T') (k:=X[i].1.kind.toNat) (b:=bkW (bW eff X i).length (pW eff X i) X[i]) (base:=X[i].1.base) (xs:=X[i].2) (eff:=eff) h hXo hXl (by simp only;omega) X[i].1.hb hp.xs (by omega) (by omega) (by omega) (by have:=hp.ln;omega) (λg=>?_) λt' w ht' h=>⟨_,_,rfl,?_⟩
   ·have:=qslb (eff:=eff) hP hix hv (by omega);omega
   have hE1:enW X[i].1.kind.toNat (bkW (bW eff X i).length (pW eff X i) X[i]) X[i].1.base X[i].1.hb X[i].2 eff (bW eff X i).length t'=rdE eff X i t':=by rw[qwz hix];rfl
   rw[hE1,zcF];have helen:(rdE eff X i t').len=((enB eff (bW eff X i).length (pW eff X i) X[i]).length:Int):=by rw[qwz hix];rfl
   have hnx:(bW eff X (i+1)).length=(bW eff X i).length+(enB eff (bW eff X i).length (pW eff X i) X[i]).length:=by rw[qepb hix,length_append]
   refine h.new λeb w h=>?_;have h:St F0 w0 w (qqb eb (enC en0)::rdA 1 t' (u8s X[i].2)::qcc 27 t ((enL eff X T).flatMap enC)::bgA B::ps):=h;refine⟨qie _,h.sE (eb:=eb) (qie _) λw h=>?_⟩;refine qze rfl ?_;refine h.lE (eb:=eb) ⟨qie _,?_⟩;rw[qgx (by rw[qie];rfl)];refine h.pushR (s:=t) (f:=enC) (L:=enL eff X T) (x:=rdE eff X i t') (by rw[qbl];omega) rfl λs' w _ h=>?_;have he:enL eff X T++[rdE eff X i t']=enL eff X (T++[t']):=by rw[enL_s,hT]
   rw[he]at h;refine h.gI (b:=eb) ?_;rw[helen];refine qm (e':=((bW eff X (i+1)).length:Int)) (by rw[qd (by omega) (by omega)];omega) ?_;refine qm (e':=((i+1:Nat):Int)) (by rw[qd (by omega) (by omega)];rfl) ?_;have h:St F0 w0 w (rdA 1 t' (u8s X[i].2)::bgA B::qcc 27 s' ((enL eff X (T++[t'])).flatMap enC)::ps):=h.sub;have h:=h.bgIn;refine⟨⟨rfl,rfl⟩,hin (i+1,T++[t'],rdA 1 t' (u8s X[i].2)::B) _ _ _ _ ⟨rfl,rfl,by simp only;omega,by simp only[length_append,length_singleton];omega,λj hj=>?_,h.sub⟩ (by simp only;omega)⟩;simp only at hj|-
   rw[length_append,length_singleton,hT]at hj;by_cases hji:j<i
   ·rw[List.getElem_append_left (by omega)];exact List.mem_cons_of_mem _ (hB j (by omega))
   ·have:j=i:=by omega
    subst this
    rw[List.getElem_append_right (by omega),qeub hix];simp
  ·have:i=X.length:=by omega
   subst this
   unfold qp.j8;refine qze (by simp only[bne_eq_false_iff_eq];omega) ?_;refine qp.j9c (s:=t) (L:=enL eff X T) h (by rw[qbl];omega) (λe he h6=>?_) λw h=>?_
   ·obtain⟨j,hj,rfl⟩:=List.getElem_of_mem he;have hjl:=hj;rw[qbl,hT]at hjl;have hv:=hO j hjl hjl;rw[qoy]at h6|-
    have e1:(rdE eff X j (T[j]'(by omega))).kind=((X[j].1.kind.toNat:Nat):Int):=by rw[qwz hjl];rfl
    have h66:X[j].1.kind=6:=by have:=hv.k1;omega
    have hb6:=qslb (eff:=eff) hP hjl hv h66;have e2:(rdE eff X j (T[j]'(by omega))).back=((bkW (bW eff X j).length (pW eff X j) X[j]:Nat):Int):=by
     rw[qwz hjl];show(if X[j].1.kind.toNat=6 then _ else(0:Int))=_;rw[if_pos (by omega)]
    have e3:(rdE eff X j (T[j]'(by omega))).at'=((bW eff X j).length:Int):=rfl;have hmj:=qom (eff:=eff) hP (show j<=X.length by omega);rw[e2,e3];refine⟨j-X[j].1.back.toNat,by rw[qbl];omega,?_,by omega,by omega⟩;rw[qoy];show((bW eff X (j-X[j].1.back.toNat)).length:Int)=_;omega
   ·exact hk t T B w hT hB (h.ro)
 refine⟨?_,?_⟩
 ·refine h.bt (s:=⟨some ⟨nb,0,none⟩,20,20⟩) (qiq _) (h.bt (s:=⟨qnf b.a b.cap (b.len-20) 1,b.len-(b.len-20),b.cap-(b.len-20)⟩) (qiq _) ?_)
  exact qze (by simp) j4
 ·refine h.bt (s:=⟨qnf b.a b.cap (b.len-20) 1,b.len-(b.len-20),b.cap-(b.len-20)⟩) (qiq _) (h.bt (s:=⟨some ⟨nb,0,none⟩,20,20⟩) (qiq _) ?_)
  exact qze (by simp) j4
end
end
section
def knE(s:Sl):En:={en0 with kind:=3,data:=s}
abbrev knX(s:Sl):List Ex:=[(knE s,[104,105])]
def knB:List Int:=hdP 1++qjn 3 0 b20 [104,105] 1
theorem qwsb:knB.length<=100:=by decide+kernel
theorem kn_bad:qtk (knB++(qtk knB).take 1)≠(qtk knB).drop 1++[0]:=by decide+kernel
attribute [local irreducible] qih crcV
theorem kn_bW(s:Sl):bW 1 (knX s) (knX s).length=knB:=rfl
attribute [local irreducible] apK cpK mkK br qtk qvg
theorem qifb(s:ByteArray)(i:Nat):0<=qfq s i/\qfq s i<256:=by
 unfold qfq;have:=(s.data.toList.getD i 0).toNat_lt;omega
section
variable {F0:List Nat}{w0 w:World}{ps rest:List As}{s t b:Sl}{K:Ending->World->Prop}{Z ids:List Int}
theorem St.make0{n:Nat}{K:Sl->World->Prop}(h:St F0 w0 w ps)(hn:n<=1000000)(hk:∀s w',St F0 w0 w' (qcc 1 s (u8s [])::ps)->K s w'):mkK prog 5 w 0 n K:=by
 unfold mkK;have hb:prog.bytesOf 5<=16:=Elt.bytes;refine⟨⟨by omega,by omega,by omega,?_⟩,?_⟩
 ·have:prog.bytesOf 5*n<=16*n:=Nat.mul_le_mul_right _ hb;have e2:((prog.bytesOf 5:Int)*(n:Int))=((prog.bytesOf 5*n:Nat):Int):=by simp
  rw[e2];have:((prog.bytesOf 5*n:Nat):Int)<=((16*n:Nat):Int):=by exact_mod_cast this
  have h3:(2:Int)^48=281474976710656:=by decide
  omega
 ·refine hk ⟨newAt w,0,_⟩ _ ?_;rw[qzqb];refine h.add (f':=[w.heap.size]) (Mod.alloc _ _) (Or.inr ⟨w.heap.size,replicate n (.int .u8 0),rfl,?_,by simp,by simp,rfl⟩) (λx hx=>Or.inr (by have:x=w.heap.size:=(by simpa using hx);omega));have:=Blk.new w (qqm ((n:Int)).toNat #[int .u8 0].toList) 5;rw[toNat_natCast]at this|-
  rw[show(#[int .u8 0]:Array Value).toList=[int .u8 0]from rfl,qlx]at this|-
  exact this
theorem qbg.c(h:St F0 w0 w ps)(hi:ids.length=20)(hb:qxl ids)(hk:∀(r:ByteArray) w',r.size=40->St F0 w0 w' ps->K (.returned (.string r)) w'):Calls prog 36 ⟨[.agg ⟨u8s ids⟩]⟩ w K:=by
 refine qdc (qbg.ok _ _ _ ?_);unfold qbg;refine h.new λib w h=>?_;have h:St F0 w0 w (qqb ib (u8s ids)::ps):=h;refine h.make0 (n:=40) (by decide) λo w h=>?_;unfold qbg.j1;refine h.drop.blk.ldA (cs:=⟨u8s ids⟩) (by show(u8s ids).length=20;rw[qk,hi]) (λi hi=>by rw[zero_add];simp) ?_;unfold qbg.j3;refine qug (λ(a:Nat×List Int) (o:Sl) (i':Int) w'=>i'=(a.1:Int)/\a.1<=20/\a.2.length=2*a.1/\qxl a.2/\St F0 w0 w' (qcc 1 o (u8s a.2)::qqb ib (u8s ids)::ps)) (λa=>20-a.1) (0,[]) ⟨rfl,zero_le _,rfl,λv hv=>(by cases hv),h⟩ ?_;clear h;rintro⟨i,ys⟩ o _ wL I μ ⟨rfl,hi2,hy,hyb,h⟩ hin;simp only at hi2 hy hyb h hin|-
 unfold qbg.b1;refine quc (λg=>?_) (λg=>?_)
 ·have hil:i<ids.length:=by omega
  have hx:=hb _ (qme hil);refine⟨⟨by omega,by omega⟩,ids.getD i 0,?_,?_⟩
  ·rw[toNat_natCast,mul_one];have:=qsm (k:= .u8) hil;simpa using this
  refine h.drewK λw h=>⟨by decide,?_⟩;have e1:qal .u8 (ids.getD i 0) 4=ids.getD i 0/16:=qmi .u8 _ (t:=4) (by decide);have e2:qdj .u8 (ids.getD i 0) 15=ids.getD i 0%16:=qsk .u8 _ (t:=4) (by decide);have hsz:ByteArray.size {data:=#[48,49,50,51,52,53,54,55,56,57,97,98,99,100,101,102]}=16:=rfl;refine qm e1 ⟨⟨by omega,by rw[hsz];omega⟩,qbe (qm e2 ⟨⟨by omega,by rw[hsz];omega⟩,qbe ?_⟩)⟩;have b1:=qifb {data:=#[48,49,50,51,52,53,54,55,56,57,97,98,99,100,101,102]} (ids.getD i 0/16).toNat;have b2:=qifb {data:=#[48,49,50,51,52,53,54,55,56,57,97,98,99,100,101,102]} (ids.getD i 0%16).toNat;generalize qfq _ (ids.getD i 0/16).toNat=c1 at b1|-
  generalize qfq _ (ids.getD i 0%16).toNat=c2 at b2|-
  refine h.new λnb w h=>?_;have h:=h.ownB (n:=2) rfl;have h:St F0 w0 w (qcc 1 ⟨some ⟨nb,0,none⟩,2,2⟩ (u8s [c1,c2])::qcc 1 o (u8s ys)::qqb ib (u8s ids)::ps):=h;refine h.appI (s:=o) (s2:=⟨some ⟨nb,0,none⟩,2,2⟩) (zs:=ys) (ys:=[c1,c2]) (by simp;omega) λo' w h=>?_;refine qm (e':=((i+1:Nat):Int)) (by rw[qd (by omega) (by omega)];rfl) ?_;refine⟨rfl,hin (i+1,ys++[c1,c2]) _ _ _ ⟨rfl,by simp only;omega,by simp;omega,λv hv=>?_,h.sub⟩ (by simp only;omega)⟩;rcases mem_append.1 hv with hv|hv
  ·exact hyb v hv
  ·simp at hv;rcases hv with rfl|rfl
   ·exact b1
   ·exact b2
 ·unfold qbg.j2;refine h.bt (s:=o) hyb ?_;refine hk _ _ ?_ h.drop.drop;show(u8 ys).length=40;have:(u8 ys).length=ys.length:=by simp[u8]
  omega
theorem qan.c(h:St F0 w0 w ps)[Rdb F0 w0 b ps 1 (u8s Z)](h20:20<=Z.length)(hL:Z.length<=1000000)(hb:qxl Z)(hc:b.len<=b.cap)
 (hk:∀(r:ByteArray) w',r.size=45->St F0 w0 w' ps->K (.returned (.tuple ⟨[.string r,.int .i64 0]⟩)) w'):Calls prog 13 ⟨[sV b]⟩ w K:=by
 refine qdc (qan.ok _ _ _ ?_)
 unfold qan
 refine qri.c (b:=b) h h20 hL hc λw h=>⟨_,_,rfl,?_⟩
 rw[zcI]
 refine h.new λnb w h=>?_
 have h:St F0 w0 w (qqb nb (u8s b20)::ps):=h
 have ht:(tlZ Z).length=20:=by show(Z.drop _).length=20;rw[length_drop];omega
 refine⟨by show(u8s (tlZ Z)).length=20;rw[qk,ht],?_⟩
 refine h.sA (b:=nb) (l':=u8s (tlZ Z)) (n:=20) (by rw[qk];rfl) (by rw[qk,ht]) (λv hv=>qpe v hv) λw h=>?_
 refine qze rfl ?_
 refine h.blk.ldA (cs:=⟨u8s (tlZ Z)⟩) (by show(u8s (tlZ Z)).length=20;rw[qk,ht]) (λi hi=>by rw[zero_add];simp) ?_
 refine qbg.c h ht (λv hv=>hb v (List.mem_of_mem_drop hv)) λr w hr h=>⟨r,rfl,?_⟩
 have e1:ByteArray.size ({data:=#[112,97,99,107,45]}:ByteArray)=5:=rfl
 refine⟨by rw[e1,hr];decide,qbe ?_⟩
 refine hk _ w ?_ h.drop
 rw[ByteArray.size_append,e1,hr]
end
end
section
attribute [local irreducible] apK cpK mkK br qih crcV qtk qvg knB
theorem qeob(a:Option Addr):spl [.int .i64 0,.int .i64 0,.int .i64 0,.int .u8 0,.int .u8 0,.int .u8 0,.int .u8 0,.int .u8 0,.int .u8 0,.int .u8 0,.int .u8 0,.int .u8 0,.int .u8 0,.int .u8 0,.int .u8 0,.int .u8 0,.int .u8 0,.int .u8 0,.int .u8 0,.int .u8 0,.int .u8 0,.int .u8 0,.int .u8 0,.slice none 0 0,.int .i64 0,.int .i64 0,.int .u32 0] 0 (⟨[.int .i64 3,.int .i64 0,.int .i64 0,.int .u8 0,.int .u8 0,.int .u8 0,.int .u8 0,.int .u8 0,.int .u8 0,.int .u8 0,.int .u8 0,.int .u8 0,.int .u8 0,.int .u8 0,.int .u8 0,.int .u8 0,.int .u8 0,.int .u8 0,.int .u8 0,.int .u8 0,.int .u8 0,.int .u8 0,.int .u8 0,.slice a 2 2,.int .i64 0,.int .i64 0,.int .u32 0]⟩:Array Value)=enC (knE ⟨a,2,2⟩):=qgx rfl
theorem kn_ok(s:Sl):OkX (knX s) (knX s).length:=λi h _=>by
 have:i=0:=by simp at h;exact h
 subst this
 exact⟨(by decide:(1:Int)<=3),(by decide:(3:Int)<=7),(by decide:(3:Int)≠5),λh=>absurd h (by decide:(3:Int)≠6)⟩
theorem qvsb{s:Sl}(hl:s.len=2)(hc:s.len<=s.cap):Play (knX s):=by
 refine⟨λx hx=>?_,(by decide:(2:Nat)<=6000),(by decide:(1:Nat)<=514)⟩;rw[mem_singleton.1 hx];exact⟨(by decide:∀v∈([104,105]:List Int),0<=v/\v<256),(by decide:∀v∈b20,0<=v/\v<256),(by decide:(2:Nat)<=2000),hl,hc⟩
section
variable {F0:List Nat}{w0 w:World}{ps rest:List As}{s t b:Sl}{K:Ending->World->Prop}{Z R ids:List Int}{n:Nat}
theorem qoe.e4(h:St F0 w0 w ps)[Rdb F0 w0 b ps 1 (u8s Z)](hZ:Z=hdP n++R)(hb:qxl Z)(h32:32<=Z.length)(hL:Z.length<=131072)(hc:b.len<=b.cap)(hn:n<=512)(hne:qtk (bdZ Z)≠tlZ Z)
 (hk:∀w',St F0 w0 w' ps->K (.returned (.tuple ⟨[.slice none 0 0,.int .i64 4]⟩)) w'):Calls prog 11 ⟨[sV b]⟩ w K:=by
 refine qdc (qoe.ok _ _ _ ?_)
 unfold qoe
 rw[qnpb,qodb]
 refine h.new λb2 w h=>?_
 refine h.new λb3 w h=>?_
 have h:St F0 w0 w (qqb b3 [.int .i64 0]::qqb b2 [.slice none 0 0]::ps):=h
 refine qmd.c (b:=b) (Z:=Z) (n:=n) (R:=R) h hZ hb h32 hL hc hn (λg=>absurd g hne) (λ_ w h=>⟨⟨none,0,0⟩,_,_,rfl,?_⟩)
 refine qjh rfl ?_
 refine h.fst (b:=b2) (l':=[.slice none 0 0]) (g:=⟨rfl,zero_lt_succ _⟩) trivial λw h=>?_
 refine h.fst (b:=b3) (l':=[.int .i64 4]) (g:=⟨rfl,zero_lt_succ _⟩) trivial λw h=>?_
 refine h.fL (b:=b2) (h.fI (b:=b3) ?_)
 exact hk w h.drop.drop
theorem qah.c(h:St F0 w0 w ps)(hk:∀w',St F0 w0 w' ps->K (.returned (.bool true)) w'):Calls prog 5 ⟨[]⟩ w K:=by
 refine qdc (qah.ok _ _ ?_);unfold qah;refine h.new λnb w h=>?_;have h:St F0 w0 w (qqb nb (u8s [104,105])::ps):=h;refine h.str (b:=nb) (n:=2) rfl λw h=>?_;obtain⟨s,hs⟩:∃s:Sl,s=⟨some ⟨nb,0,none⟩,2,2⟩:=⟨_,rfl⟩;have h:St F0 w0 w (rdA 1 s (u8s [104,105])::ps):=by rw[hs];exact h
 refine⟨rfl,?_⟩;rw[qeob,<-hs];refine h.new λeb w h=>?_;have h:St F0 w0 w (qqb eb (enC (knE s))::rdA 1 s (u8s [104,105])::ps):=h;have h:=h.ownBR (sz:=27) (n:=1) (by rw[qie]);have hm:((knX s).map Prod.fst).flatMap enC=enC (knE s):=by simp
 rw[<-hm]at h;have hsl:s.len=2:=by rw[hs]
 have hsc:s.len<=s.cap:=by rw[hs];exact le_refl _
 have hP:=qvsb hsl hsc;have hO:=kn_ok s;have hB1:bW 1 (knX s) (knX s).length=knB:=kn_bW s;have hp1:pI 1 (knX s) (knX s).length=[12]:=by show[((hdP 1).length:Int)]=[12];rw[qzr];rfl
 have hkl:=qwsb;refine qzb.c (s:=⟨some ⟨eb,0,none⟩,1,1⟩) (X:=knX s) (eff:=1) h hP (λx hx=>by rw[mem_singleton.1 hx];show Rdb F0 w0 s _ 1 _;infer_instance) (λg=>absurd hO g) (λ_ g=>absurd g (by decide:¬(512:Nat)<1)) λ_ _ b u w hb1 hb2 hu1 hu2 h=>⟨b,u,_,rfl,?_⟩;have hmx:=qom (eff:=1) hP (le_refl (knX s).length);have hmn:=(qzab (eff:=1) hP (knX s).length (le_refl _)).2;have hs20:(qtk (bW 1 (knX s) (knX s).length)).length=20:=qoi _;have hZl:(pkB 1 (knX s)).length=(bW 1 (knX s) (knX s).length).length+20:=by rw[length_append,hs20]
 have hZo:qxl (pkB 1 (knX s)):=λv hv=>(mem_append.1 hv).elim (qfpb (eff:=1) hP hO _ (le_refl _) (le_refl _) v) (qiq _ v);refine qoe.c (b:=b) (X:=knX s) (eff:=1) h rfl (by omega) hP hO (by decide:(1:Nat)<=512) λl T B w hT hB h=>⟨l,_,rfl,?_⟩;refine qan.c (b:=b) h (by omega) (by omega) hZo (by omega) λnm w hnm h=>⟨nm,_,rfl,?_⟩;refine h.new λab w h=>?_;have h:=h.own0;refine h.appI (s:=⟨some ⟨ab,0,none⟩,0,0⟩) (s2:=b) (zs:=[]) (ys:=pkB 1 (knX s)) (k:= .u8) (by rw[hZl,List.length_nil];omega) λo w h=>?_;rw[nil_append]at h;refine h.new λzb w h=>?_;have h:=h.ownB (n:=1) rfl;have h:St F0 w0 w (qcc 1 ⟨some ⟨zb,0,none⟩,1,1⟩ (u8s [0])::qcc 1 o (u8s (pkB 1 (knX s)))::rdA 27 l ((enL 1 (knX s) T).flatMap enC)::bgA B::rdA 1 b (u8s (pkB 1 (knX s)))::rdA 1 u (ivs .i64 (pI 1 (knX s) (knX s).length))::qcc 27 ⟨some ⟨eb,0,none⟩,1,1⟩ (((knX s).map Prod.fst).flatMap enC)::rdA 1 s (u8s [104,105])::ps):=h;refine h.appI (s:=o) (s2:=⟨some ⟨zb,0,none⟩,1,1⟩) (zs:=pkB 1 (knX s)) (ys:=[0]) (k:= .u8) (by rw[hZl];show _+1<=_;omega) λo2 w h=>?_;have hoc:=h.cap (by decide);have h2l:(pkB 1 (knX s)++[0]).length=(bW 1 (knX s) (knX s).length).length+21:=by rw[length_append,hZl];rfl
 obtain⟨T0,hT0⟩:=qnfb (eff:=1) (X:=knX s) (knX s).length 0 (Nat.le_of_eq (zero_add _));rw[zero_add]at hT0;refine qoe.e4 (b:=o2) (Z:=pkB 1 (knX s)++[0]) (n:=1) (R:=T0++(qtk (bW 1 (knX s) (knX s).length)++[0])) h (by show(bW 1 (knX s) (knX s).length++_)++_=_;rw[append_assoc,hT0,append_assoc];rfl) (λv hv=>?_) (by omega) (by omega) hoc (by decide) ?_ λw h=>⟨⟨none,0,0⟩,_,rfl,?_⟩
 ·rcases mem_append.1 hv with hv|hv
  ·exact hZo v hv
  ·simp at hv;omega
 ·have e1:bdZ (pkB 1 (knX s)++[0])=knB++(qtk knB).take 1:=by
   show take _ _=_;rw[h2l,hB1];show take (knB.length+21-20) ((bW 1 (knX s) (knX s).length++_)++_)=_;rw[hB1,append_assoc,show knB.length+21-20=knB.length+1 by omega,List.take_length_add_append,List.take_append_of_le_length (by rw[qoi];decide)]
  have e2:tlZ (pkB 1 (knX s)++[0])=(qtk knB).drop 1++[0]:=by
   show List.drop _ _=_;rw[h2l,hB1];show List.drop (knB.length+21-20) ((bW 1 (knX s) (knX s).length++_)++_)=_;rw[hB1,append_assoc,show knB.length+21-20=knB.length+1 by omega,List.drop_length_add_append,List.drop_append_of_le_length (by rw[qoi];decide)]
  rw[e1,e2];exact kn_bad
 refine qm (e':=(0:Int)) (by decide) (qm (e':=(0:Int)) (by decide) ?_);refine qjh rfl ?_;have hul:u.len=1:=by rw[hu1];rfl
 refine qjh (by rw[hul];rfl) ?_;have hr:=h.rdb u;rw[hp1]at hr;refine hr.ix (by decide) (by decide) (by omega) λa ha=>?_;refine⟨12,by rw[hr.cell ha (by decide)];rfl,?_⟩;refine qjh rfl ?_;have hT1:T.length=1:=hT;have hll:=h.rlen (s:=l) (f:=enC) (L:=enL 1 (knX s) T);rw[qbl,hT1]at hll;refine qjh (by rw[<-hll];rfl) ?_;have hle:0<(enL 1 (knX s) T).length:=by rw[qbl,hT1];decide
 refine h.lrL (s:=l) (f:=enC) (L:=enL 1 (knX s) T) (v:=T[0]) 0 rfl hle (by decide) (by rw[qoy];exact qbo _ 0) ?_;haveI:=Rdb.bag (F0:=F0) (w0:=w0) (ps:=rdA 1 b (u8s (pkB 1 (knX s)))::rdA 1 u (ivs .i64 (pI 1 (knX s) (knX s).length))::qcc 27 ⟨some ⟨eb,0,none⟩,1,1⟩ (((knX s).map Prod.fst).flatMap enC)::rdA 1 s (u8s [104,105])::ps) (hB 0 (by omega));refine h.bt (s:=T[0]) (xs:=[104,105]) (by decide) ?_;refine qjh (by decide+kernel) ?_;refine qjh (by rw[hnm];rfl) ?_;exact hk w h.sub
end
end
section
attribute [local irreducible] apK cpK mkK br
theorem qpib{α:Type}{f:α->List Value}(n:Nat)(x:α):qqm n (f x)=(replicate n x).flatMap f:=by
 induction n with
 |zero=>rfl
 |succ n ih=>
  show f x++qqm n (f x)=_;rw[ih,List.replicate_succ,List.flatMap_cons]
section
variable {α:Type}{f:α->List Value}{sz:Nat}{P:Program}{e:TypeId}{z:List Value}{F0:List Nat}{w0 w:World}{ps rest:List As}{s:Sl}{L:List α}
theorem St.makeR [r:Rec f sz]{n:Nat}{l c:Int}{x0:α}{K:Sl->World->Prop}[he:EltR P e sz z](hz:z=f x0)(h:St F0 w0 w ps)(hl:l=n)(hc:c=n)(hn:n<=1000000)
 (hk:∀s w',s.len=n->s.cap=n->St F0 w0 w' (qcc sz s ((replicate n x0).flatMap f)::ps)->K s w'):mkK P e w l c K:=by
 subst hl hc
 obtain⟨i,h1,h2,h3,h4⟩:=he.info
 have hb:P.bytesOf e=i.bytes:=by simp[bytesOf,h1]
 unfold mkK
 refine⟨⟨by omega,by omega,by omega,?_⟩,?_⟩
 ·rw[hb]
  have:i.bytes*n<=1024*1000000:=Nat.mul_le_mul h4 hn
  have e2:(2:Int)^48=281474976710656:=by decide
  rw[e2]
  have h5:((i.bytes:Int)*(n:Int))=((i.bytes*n:Nat):Int):=by simp
  rw[h5]
  omega
 ·rw[toNat_natCast]
  refine hk _ _ rfl rfl ?_
  have e1:qqm n (Go.Proofs.YtdccpphmkfaioaaGreat.zc P e).toList=(replicate n x0).flatMap f:=by
   rw[he.zc,hz];exact qpib n x0
  rw[e1]
  have h2:=h.new (t:=e) (cs:=⟨(replicate n x0).flatMap f⟩) (K:=λa w'=>a=⟨w.heap.size,0,none⟩->St F0 w0 w' (qcc sz ⟨some a,n,n⟩ ((replicate n x0).flatMap f)::ps)) (λnb w' h _=>h.ownBR (by rw[qej,length_replicate]))
  exact h2 rfl
theorem St.sF [r:Rec f sz](h:St F0 w0 w (qcc sz s (L.flatMap f)::ps)){n:Int}{o:Nat}{v:Value}{x:α}{K:World->Prop}(j:Nat)(hi:n=j)(hj:j<L.length)(ho:o<sz)(hs:qfe v)(hx:f x=(f L[j]).set o v)(hk:∀w',St F0 w0 w' (qcc sz s ((L.set j x).flatMap f)::ps)->K w'):
 ixS s.a s.len n sz λa=>Go.Proofs.YtdccpphmkfaioaaGreat.st w (Addr.add a o) v K:=by
 subst hi
 have hl:=h.len
 rw[qej]at hl
 have hp:=r.pos
 have hsl:=Nat.eq_of_mul_eq_mul_right hp hl
 obtain⟨F,hw,hst⟩:=h.step
 have hle:(j+1)*sz<=L.length*sz:=Nat.mul_le_mul_right _ hj
 rw[Nat.add_mul,Nat.one_mul]at hle
 have hfl:(f L[j]).length=sz:=r.len _
 rcases hw with⟨rfl,hnil,_⟩|⟨ob,rs,h1,hb,h2,h3,rfl⟩
 ·simp only at hsl;omega
 ·unfold ixS
  rw[h1]
  refine⟨⟨by omega,by omega⟩,?_⟩
  rw[qyf,zero_add,toNat_natCast]
  show Go.Proofs.YtdccpphmkfaioaaGreat.st w (Addr.add ⟨ob,j*sz,none⟩ o) v K
  rw[qyf]
  have hdec:L.flatMap f=(L.take j).flatMap f++(f L[j]++(L.drop (j+1)).flatMap f):=by
   conv=>lhs;rw[<-List.take_append_drop j L,List.drop_eq_getElem_cons hj]
   rw[qkp,qpn]
  have htl:((L.take j).flatMap f).length=j*sz:=by rw[qej,length_take,Nat.min_eq_left (by omega)]
  have hset:(L.set j x).flatMap f=(L.flatMap f).set (j*sz+o) v:=by
   rw[List.set_eq_take_append_cons_drop,if_pos hj,qkp,qpn,hx];conv=>rhs;rw[hdec]
   rw[List.set_append_right _ _ (by omega),htl,show j*sz+o-j*sz=o by omega,List.set_append_left _ _ (by omega)]
  refine hb.st (by rw[length_append,qej];omega) hs λw' hm hb'=>hk w' (hst w' [ob] _ hm (Gr.refl _ _) (Or.inr ⟨ob,rs,h1,?_,?_,?_,rfl⟩))
  ·rw[List.set_append_left _ _ (by rw[qej];omega)]at hb'
   rw[hset]
   exact hb'
  ·rw[qej,List.length_set,hsl]
  ·rw[length_append,qej,List.length_set,<-h3,length_append,qej]
end
end
section
attribute [local irreducible] apK cpK mkK br qih crcV qtk qvg
def cnE:En:={en0 with kind:=3}
def cnX(m:Nat):List Ex:=replicate m (cnE,[])
def cnL(m i:Nat):List En:=replicate i cnE++replicate (m-i) en0
theorem qklb{m i:Nat}(h:i<=m):(cnL m i).length=m:=by unfold cnL;simp;omega
theorem qwtb{m i:Nat}(h:i<m):(cnL m i).set i cnE=cnL m (i+1):=by
 unfold cnL;rw[List.set_append_right _ _ (by simp),length_replicate,sub_self,show m-i=(m-(i+1))+1 by omega,List.replicate_succ,List.set_cons_zero,List.replicate_succ'];simp
theorem qvtb(m:Nat):(cnX m).map Prod.fst=cnL m m:=by unfold cnX cnL;rw[sub_self];simp
theorem cnX_ok(m:Nat):OkX (cnX m) (cnX m).length:=λi h _=>by
 have:(cnX m)[i]=(cnE,[]):=List.getElem_replicate ..;rw[this];exact⟨(by decide:(1:Int)<=3),(by decide:(3:Int)<=7),(by decide:(3:Int)≠5),λh=>absurd h (by decide:(3:Int)≠6)⟩
theorem qzob{m:Nat}(hm:m<=514):Play (cnX m):=by
 refine⟨λx hx=>?_,?_,by unfold cnX;simp;exact hm⟩
 ·rw[List.eq_of_mem_replicate hx];exact⟨λv hv=>(by cases hv),(by decide:∀v∈b20,0<=v/\v<256),(by decide:(0:Nat)<=2000),rfl,le_refl _⟩
 ·unfold tot cnX;simp
section
variable {W w:World}{K:Ending->World->Prop}{s:Sl}{n:Int}
theorem trovelaw15_PackCounts.j4c{m:Nat}(h:St [] W w [qcc 27 s ((cnL m m).flatMap enC)])(hn:n=m)(hm:m<=513)(hk:∀w',Mod [] W w'->K (.returned (.bool true)) w'):trovelaw15_PackCounts.j4 n s (λv w'=>K (.returned v) w') w:=by
 have hk:∀{w' ps},St [] W w' ps->K (.returned (.bool true)) w':=λh=>hk _ h.mod;have hP:=qzob (m:=m) (by omega);have hO:=cnX_ok m;have hX:(cnX m).length=m:=by unfold cnX;simp
 rw[<-qvtb]at h;have hd:∀ps,∀x∈cnX m,Rdb [] W x.1.data ps 1 (u8s x.2):=λps x hx=>by
  rw[List.eq_of_mem_replicate hx];exact Rdb.nil 0
 unfold trovelaw15_PackCounts.j4;refine qzb.c (s:=s) (X:=cnX m) h hP (hd _) (λg=>absurd hO g) (λ_ g5 w h=>⟨⟨none,0,0⟩,⟨none,0,0⟩,_,rfl,?_⟩) (λg g5 b u w hb1 hb2 hu1 hu2 h=>⟨b,u,_,rfl,?_⟩)
 ·rw[hX]at g5;exact qjh (by simp;omega) (qjh rfl (hk h))
 ·rw[hX]at g5;refine qze (by simp;omega) ?_;refine qoe.c (b:=b) (X:=cnX m) (eff:=0) h rfl (by omega) hP g (by omega) λx T2 B2 w hT2 hB2 h=>⟨x,_,rfl,?_⟩;refine qp.c (b:=b) (X:=cnX m) (eff:=0) h rfl (by omega) hP g (by omega) λy T1 B1 w hT1 hB1 h=>⟨y,_,rfl,?_⟩;have h1:=h.rlen (s:=x) (f:=enC) (L:=enL 0 (cnX m) T2);have h2:=h.rlen (s:=y) (f:=enC) (L:=enL 0 (cnX m) T1);rw[qbl,hT2,hX]at h1;rw[qbl,hT1,hX]at h2;rw[hX]at hu1;refine qm (e':=0) rfl (qjh rfl (qjh rfl (qjh (by rw[hn];simp;omega) (qjh (by rw[hn];simp;omega) ?_))));rw[hu1,hn,show((((m:Nat):Int)==((m:Nat):Int)))=true by simp];exact hk h
theorem trovelaw15_PackCounts.j2c{m:Nat}(h:St [] W w [])(hn:n=m)(hm:m<=513)(hk:∀w',Mod [] W w'->K (.returned (.bool true)) w'):trovelaw15_PackCounts.j2 n (λv w'=>K (.returned v) w') w:=by
 unfold trovelaw15_PackCounts.j2;refine h.makeR (n:=m) (x0:=en0) (f:=enC) rfl hn hn (by omega) λs w hs hc h=>?_;unfold trovelaw15_PackCounts.j3 trovelaw15_PackCounts.j5;have h:St [] W w [qcc 27 s ((cnL m 0).flatMap enC)]:=by
  unfold cnL;exact h
 refine qjf (λ(i:Nat) (i':Int) w'=>i'=(i:Int)/\i<=m/\St [] W w' [qcc 27 s ((cnL m i).flatMap enC)]) (λi=>m-i) 0 ⟨rfl,zero_le _,h⟩ ?_;clear h;rintro i _ wL I μ ⟨rfl,hi,h⟩ hin;unfold trovelaw15_PackCounts.b1;refine quc (λg=>?_) (λg=>?_)
 ·have him:i<m:=by omega
  refine h.sF (f:=enC) (x:=cnE) (L:=cnL m i) i rfl (by rw[qklb hi];exact him) (by decide) trivial ?_ λw h=>?_
  ·have:(cnL m i)[i]'(by rw[qklb hi];exact him)=en0:=by
    unfold cnL;rw[List.getElem_append_right (by simp)];simp
   rw[this];rfl
  ·rw[qwtb him]at h;refine qm (e':=((i+1:Nat):Int)) (by rw[qd (by omega) (by omega)];rfl) ?_;exact⟨⟨rfl,rfl⟩,hin (i+1) _ _ ⟨rfl,by omega,h⟩ (by omega)⟩
 ·have:i=m:=by omega
  subst this
  exact trovelaw15_PackCounts.j4c h hn hm hk
end
theorem trovelaw15_PackCounts.law(n:Int)(W:World)(w1:(Lit.int .i64 n).wf=true):
 Calls prog 4 ⟨[.int .i64 n]⟩ W λe w'=>e= .returned (.bool true)/\Mod [] W w':=by
 have h:St [] W W []:=St.start0
 have fin:∀{w ps},St [] W w ps->(Ending.returned (Value.bool true)= .returned (.bool true)/\Mod [] W w):=λh=>⟨rfl,h.mod⟩
 refine qdc (trovelaw15_PackCounts.ok n _ _ ?_)
 unfold trovelaw15_PackCounts trovelaw15_PackCounts.j1
 refine qah.c h λw h=>⟨_,rfl,?_⟩
 refine qze rfl ?_
 have go:0<=n->n<=513->trovelaw15_PackCounts.j2 n (λv w'=>Ending.returned v= .returned (.bool true)/\Mod [] W w') w:=λh0 h1=>trovelaw15_PackCounts.j2c (m:=n.toNat) (K:=λe w'=>e= .returned (.bool true)/\Mod [] W w') h (by omega) (by omega) λw' hm=>⟨rfl,hm⟩
 refine quc (λg=>fin h) (λg=>?_)
 refine quc (λg2=>?_) (λg2=>?_)
 ·refine quc (λg3=>fin h) (λg3=>?_)
  refine quc (λg4=>fin h) (λg4=>go (by omega) (by omega))
 ·refine quc (λg4=>fin h) (λg4=>go (by omega) (by omega))
end
end Go.Proofs.YtdccpphmkfaioaaGreat
