/- Own texts as one, only what is reached (shake2.py). -/
import Derived.Test.YtdccpphmkfaioaaGreatPbb
import Derived.Test.YtdccpphmkfaioaaGreatProg
set_option linter.unusedSectionVars false
set_option linter.unusedVariables false
set_option linter.unusedSimpArgs false
namespace Go.Proofs.YtdccpphmkfaioaaGreat
open Go Go.Proofs
open Int (pow_pos toNat_natCast)
open Go.IntKind (i64 u32 u64)
open List (append_assoc append_nil count_le_length drop_zero ext_getElem getD getD_eq_getElem?_getD getElem?_append_left getElem?_append_right getElem?_eq_getElem getElem?_eq_none getElem?_map getElem?_range getElem_mem length length_append length_set length_singleton length_take mem_append mem_map mem_singleton nil_append range range_succ replicate take_left' take_length take_zero)
open Nat (add_mul add_sub_cancel le_refl le_trans lt_or_ge mul_comm pow_le_pow_right pow_succ sub_self succ_mul zero_add)
open Go.Proofs.Tryz (prog)
section
attribute [local irreducible] apK cpK mkK hs
theorem qdz:(zc prog 90).size=70:=by kernel_rfl
theorem qijb:spl (zc prog 90).toList 0 (⟨[.int .u32 1732584193,.int .u32 4023233417,.int .u32 2562383102,.int .u32 271733878,.int .u32 3285377520]⟩:Array Value)=qrh init5 (replicate 64 0) 0:=by kernel_rfl
def beJ(n j:Nat)(v:Int):List Int:=(range j).map λi=>v/2^(8*(n-1-i))%256
theorem qpk(n j:Nat)(v:Int):(beJ n j v).length=j:=by simp[beJ]
theorem qlfb(n j:Nat)(v:Int):beJ n (j+1) v=beJ n j v++[v/2^(8*(n-1-j))%256]:=by simp[beJ,range_succ]
theorem qow(n j:Nat)(v:Int):qxl (beJ n j v):=by
 intro x hx;obtain⟨i,_,rfl⟩:=mem_map.1 hx;omega
section
variable {F0:List Nat}{w0 w:World}{ps:List As}
theorem St.blkrd{b n:Nat}{l:List Value}(h:St F0 w0 w (qqb b l::ps))(hn:l.length=n):St F0 w0 w (rdA 1 ⟨some ⟨b,0,none⟩,n,n⟩ l::ps):=by
 refine h.mp ?_;rintro F ⟨hb,rfl⟩;exact⟨by simp[hn],Or.inr ⟨b,0,l,rfl,hb.rb,rfl,λi hi=>by rw[zero_add]⟩⟩
theorem qaj.c{hb:Nat}{xs:List Int}{K:Ending->World->Prop}(h:St F0 w0 w (shA hb xs::ps))(hk:∀tb w',St F0 w0 w' (shA tb xs::shA hb xs::ps)->K (.returned (.pointer (some ⟨tb,0,none⟩))) w'):Calls prog 42 ⟨[.pointer (some ⟨hb,0,none⟩)]⟩ w K:=by
 refine qdc (qaj.ok _ _ _ ?_);unfold qaj;obtain⟨rest,r1,r2,r3,h⟩:=qhib h;have hlen:=qco (s:=hs xs (xs.length/64)) (n:=(xs.length:Int)) r1;refine qkd (h.blk.ldA (cs:=⟨qrh (hs xs (xs.length/64)) rest (xs.length:Int)⟩) hlen (λj hj=>by rw[qcl,zero_add]) ?_);refine h.new λnb w h=>?_;refine⟨hlen,?_⟩;have hz:(zc prog 90).toList.length=70:=by rw[Array.length_toList];exact qdz
 refine h.stA (o:=0) (by rw[hz,zero_add];show(qrh _ _ _).length<=70;omega) ?_ λw h=>?_
 ·intro v hv;have hv:v∈qrh (hs xs (xs.length/64)) rest (xs.length:Int):=by simpa using hv
  unfold qrh at hv;rcases mem_append.1 hv with hv|hv
  ·obtain⟨n,_,rfl⟩:=mem_map.1 hv;trivial
  rcases mem_append.1 hv with hv|hv
  ·obtain⟨n,_,rfl⟩:=mem_map.1 hv;trivial
  ·rw[mem_singleton.1 hv];trivial
 ·have e:(zc prog 90).toList.take 0++(⟨qrh (hs xs (xs.length/64)) rest (xs.length:Int)⟩:Array Value).toList++(zc prog 90).toList.drop (0+(⟨qrh (hs xs (xs.length/64)) rest (xs.length:Int)⟩:Array Value).size)=qrh (hs xs (xs.length/64)) rest (xs.length:Int):=by
   rw[take_zero,nil_append,List.drop_eq_nil_of_le (by rw[hz];show 70<=0+(qrh _ _ _).length;omega),append_nil]
  rw[e]at h;exact hk nb w ((qyfb r1 r2 r3 h).tail λ_ _ _ h=>qyfb r1 r2 r3 h)
theorem new_as{nb:Nat}{l m:List Value}(e:l=m)(h:St F0 w0 w (qqb nb (⟨l⟩:Array Value).toList::ps)):St F0 w0 w (qqb nb m::ps):=by
 subst e;exact h
theorem qkq.c{K:Ending->World->Prop}(h:St F0 w0 w ps)(hk:∀hb w',St F0 w0 w' (shA hb []::ps)->K (.returned (.pointer (some ⟨hb,0,none⟩))) w'):Calls prog 14 ⟨[]⟩ w K:=by
 refine qdc (qkq.ok _ _ ?_);unfold qkq;refine⟨rfl,?_⟩;refine h.new λnb w h=>?_;have h:=new_as qijb h;refine hk nb w (qyfb (xs:=[]) (rest:=replicate 64 0) (by decide) rfl ?_ ?_)
 ·intro x hx;rw[List.eq_of_mem_replicate hx];decide
 ·have e:hs [] (([]:List Int).length/64)=init5:=by show hs [] 0=init5;rw[hs]
  rw[e];exact h
theorem qrg.c{s:Sl}{xs:List Int}{v:Int}{n:Nat}{K:Ending->World->Prop}(h:St F0 w0 w ps)(hr:Rd w 1 s (u8s xs))(hL:xs.length<=1099511627776)(hn:n<=8)
 (hk:∀s' w',s'.len=xs.length+n->s'.cap=s'.len->St F0 w0 w' (rdA 1 s' (u8s (xs++beJ n n v))::ps)->K (.returned (.slice s'.a s'.len s'.cap)) w'):Calls prog 38 ⟨[.slice s.a s.len s.cap,.int .i64 v,.int .i64 ((8*n:Nat):Int)]⟩ w K:=by
 refine qdc (qrg.ok _ _ _ _ _ ?_)
 unfold qrg
 refine qhd.c h hr (by omega) λs1 w h=>⟨s1,rfl,?_⟩
 unfold qrg.j1
 refine qug (λ(j:Nat) (b':Int) (o':Sl) w=>b'=((8*(n-j):Nat):Int)/\j<=n/\St F0 w0 w (qcc 1 o' (u8s (xs++beJ n j v))::ps)) (λj=>n-j) 0 ⟨rfl,by omega,by simpa [beJ]using h⟩ ?_
 clear h
 rintro j b' o w I μ ⟨rfl,hj,h⟩ hin
 unfold qrg.b1
 refine quc (λh1=>?_) (λh1=>?_)
 ·refine qm (qd (by omega) (by omega)) ?_
  have e:((8*(n-j):Nat):Int)-8=((8*(n-1-j):Nat):Int):=by omega
  rw[e]
  refine⟨by omega,?_⟩
  refine qm (qmi .i64 _ (show 8*(n-1-j)<=64 by omega)) ?_
  refine qm (qmk _) ?_
  refine h.new λnb w h=>?_
  refine h.rdB rfl ?_
  refine h.drop.append_u8 (by rw[length_append,qpk];omega) rfl λs2 w h=>?_
  refine⟨rfl,hin (j+1) _ _ _ ⟨?_,by omega,?_⟩ (by omega)⟩
  ·rw[show n-1-j=n-(j+1)by omega]
  ·rw[qlfb,<-append_assoc]
   exact h
 ·have:j=n:=by omega
  subst this
  have hcap:=h.cap (by decide)
  have hlen:=h.len
  rw[qjd,length_append,qpk]at hlen
  unfold qrg.j2
  refine qad.c h.ro hcap λs3 hs1 hs2 h=>⟨s3,rfl,hk s3 w (by omega) (by omega) h⟩
end
end
section
attribute [local irreducible] apK cpK mkK hs
def okW(s:W5):Prop:=∀x∈s.l,0<=x/\x<4294967296
theorem qvpb(xs:List Int):∀n,okW (hs xs n)
 |0=>by
  rw[hs];intro x hx;simp[W5.l,init5]at hx;rcases hx with rfl|rfl|rfl|rfl|rfl<;>decide
 |n+1=>by
  rw[hs];unfold blkF;generalize rounds _ 80 _=y;generalize hs xs n=z;intro x hx;simp only[W5.l,addW,qtg,List.mem_cons,List.not_mem_nil,or_false]at hx;rcases hx with rfl|rfl|rfl|rfl|rfl<;>omega
theorem qnv:(zc prog 43).size=20:=by kernel_rfl
theorem beJ4(x:Int):beJ 4 4 x=word4 x:=by
 simp[beJ,word4,range_succ]
theorem be8_eq(v:Int):beJ 8 8 v=be8 v:=rfl
section
variable {F0:List Nat}{w0 w:World}{ps:List As}
theorem qfi.c{s:Sl}{xs:List Int}{v:Int}{K:Ending->World->Prop}(h:St F0 w0 w ps)(hr:Rd w 1 s (u8s xs))(hL:xs.length<=1099511627776)
 (hk:∀s' w',s'.len=xs.length+4->s'.cap=s'.len->St F0 w0 w' (rdA 1 s' (u8s (xs++word4 v))::ps)->K (.returned (.slice s'.a s'.len s'.cap)) w'):Calls prog 16 ⟨[.slice s.a s.len s.cap,.int .i64 v]⟩ w K:=by
 refine qdc (qfi.ok _ _ _ _ ?_)
 unfold qfi
 refine qrg.c (n:=4) h hr hL (by decide) λs' w h1 h2 h=>⟨s',rfl,?_⟩
 rw[beJ4]at h
 exact hk s' w h1 h2 h
theorem qin.c{s:Sl}{xs:List Int}{v:Int}{K:Ending->World->Prop}(h:St F0 w0 w ps)(hr:Rd w 1 s (u8s xs))(hL:xs.length<=1099511627776)
 (hk:∀s' w',s'.len=xs.length+8->s'.cap=s'.len->St F0 w0 w' (rdA 1 s' (u8s (xs++be8 v))::ps)->K (.returned (.slice s'.a s'.len s'.cap)) w'):Calls prog 43 ⟨[.slice s.a s.len s.cap,.int .i64 v]⟩ w K:=by
 refine qdc (qin.ok _ _ _ _ ?_)
 unfold qin
 refine qrg.c (n:=8) h hr hL (by decide) λs' w h1 h2 h=>⟨s',rfl,?_⟩
 rw[be8_eq]at h
 exact hk s' w h1 h2 h
theorem qoi(xs:List Int):(qtk xs).length=20:=rfl
theorem qrb.out{tb nb:Nat}{zs:List Int}{c:List Value}(hc:c.length=20){Q:VWP}(h:St F0 w0 w (shA tb zs::qqb nb c::ps))
 (hk:∀w',St F0 w0 w' ps->Q (.agg ⟨u8s ((hs zs (zs.length/64)).l.flatMap word4)⟩) w'):qrb.j4 ⟨nb,0,none⟩ (some ⟨tb,0,none⟩) ⟨none,0,0⟩ Q w:=by
 unfold qrb.j4
 obtain⟨rest,r1,r2,r3,h⟩:=qhib h
 have hok:=qvpb zs (zs.length/64)
 generalize hs zs (zs.length/64)=s at h hk hok
 refine qkd (h.blk.ldA (cs:=⟨quh s.l⟩) rfl (λj hj=>?_) ?_)
 ·rw[qcl]
  unfold qrh
  rw[getElem?_append_left (by rw[qge,W5.l_length];omega)]
  congr 1
  omega
 unfold qrb.j6
 refine qug (λ(i:Nat) (o':Sl) (i':Int) w=>i'=i/\i<=5/\o'.len=4*i/\St F0 w0 w (rdA 1 o' (u8s ((s.l.take i).flatMap word4))::qqb nb c::ps)) (λi=>5-i) 0 ⟨rfl,by omega,rfl,(h.drop.nil 1).ro⟩ ?_
 clear h
 rintro i o i' w I μ ⟨rfl,hi,ho,h⟩ hin
 unfold qrb.b1
 refine quc (λh1=>?_) (λh1=>?_)
 ·refine⟨by omega,?_⟩
  have ei:((i:Int)).toNat*1=i:=by omega
  have hil:i<s.l.length:=by rw[W5.l_length];omega
  rw[ei]
  refine⟨s.l[i],?_,?_⟩
  ·rw[qcl];simp[quh,hil]
  have hb:=hok s.l[i] (getElem_mem hil)
  refine qm (qd (by omega) (by omega)) ?_
  have hlen:=h.rd.1
  rw[qjd]at hlen
  refine qfi.c h h.rd (by omega) λo2 w l1 l2 h=>⟨o2,rfl,?_⟩
  refine qm (qd (by omega) (by omega)) ?_
  refine⟨⟨rfl,rfl⟩,hin (i+1) _ _ _ ⟨by simp,by omega,by omega,?_⟩ (by omega)⟩
  rw[List.take_succ_eq_append_getElem hil,List.flatMap_append,List.flatMap_singleton]
  exact h.tail λ_ _ _ h=>h.drop
 ·have:i=5:=by omega
  subst this
  have hfl:s.l.take 5=s.l:=rfl
  rw[hfl]at h
  unfold qrb.j5
  refine⟨by omega,?_⟩
  have hr:=h.rd
  obtain⟨a,ha,_⟩:=hr.2 0 (by show 0<20;decide)
  rw[ha]
  refine qkd ⟨⟨u8s (s.l.flatMap word4)⟩,rfl,λj hj=>?_,?_⟩
  ·rw[hr.cell ha (by show j<20;exact hj),qcl]
  refine⟨rfl,?_⟩
  refine h.at1.stA (o:=0) (by rw[hc];exact le_refl 20) ?_ λw h=>?_
  ·intro v hv
   have hv:v∈u8s (s.l.flatMap word4):=by simpa using hv
   obtain⟨n,_,rfl⟩:=mem_map.1 hv
   trivial
  ·have e:c.take 0++(⟨u8s (s.l.flatMap word4)⟩:Array Value).toList++c.drop (0+(⟨u8s (s.l.flatMap word4)⟩:Array Value).size)=u8s (s.l.flatMap word4):=by
    rw[take_zero,nil_append,List.drop_eq_nil_of_le (by rw[hc];exact le_refl 20),append_nil]
   rw[e]at h
   refine h.blk.ldA (cs:=⟨u8s (s.l.flatMap word4)⟩) rfl (λj hj=>by rw[qcl,zero_add]) ?_
   exact hk w h.drop.drop
theorem St.tail1{p q r:As}(h:St F0 w0 w (p::q::r::ps)):St F0 w0 w (p::r::ps):=h.tail λ_ _ _ h=>h.drop
theorem qrb.c{hb:Nat}{xs:List Int}{K:Ending->World->Prop}(h:St F0 w0 w (shA hb xs::ps))(hL:xs.length<=34359738368)
 (hk:∀w',St F0 w0 w' (shA hb xs::ps)->K (.returned (.agg ⟨u8s (qtk xs)⟩)) w'):Calls prog 18 ⟨[.pointer (some ⟨hb,0,none⟩)]⟩ w K:=by
 refine qdc (qrb.ok _ _ _ ?_)
 unfold qrb
 refine h.new λnb w h=>?_
 have hz:(zc prog 43).toList.length=20:=by rw[Array.length_toList];exact qnv
 generalize (zc prog 43).toList=c at h hz
 unfold qrb.j1
 refine qaj.c h.at1 λtb w h=>⟨_,rfl,?_⟩
 refine h.new λn1 w h=>?_
 have h:=(h.blkrd (n:=1) rfl).at1
 refine qbd.c (s:=⟨some ⟨n1,0,none⟩,1,1⟩) (zs:=[128]) h (λw' p h=>h.drop.rd) (by intro x hx;rw[mem_singleton.1 hx];decide) (by simp;omega) λw h=>⟨rfl,?_⟩
 have h:=h.tail1
 unfold qrb.j2
 refine loop0 (λ(j:Nat) w=>j<=(119-xs.length%64)%64/\St F0 w0 w (shA tb (xs++[128]++replicate j 0)::shA hb xs::qqb nb c::ps)) (λj=>64-j) 0 ⟨by omega,by simpa using h⟩ ?_
 clear h
 rintro j w I μ ⟨hj,h⟩ hin
 unfold qrb.b2
 obtain⟨rest,r1,r2,r3,h⟩:=qhib h
 have hyl:(xs++[128]++replicate j 0).length=xs.length+1+j:=by simp;omega
 refine qkd (h.blk.ldI (o:=69) (qjr r1) ?_)
 have h:=qyfb r1 r2 r3 h
 refine⟨by decide,?_⟩
 refine qm (qzk (by omega)) ?_
 refine qye (λh1=>?_) (λh1=>?_)
 ·have h1:¬((xs++[128]++replicate j 0).length:Int)%64=56:=by simpa using h1
  refine h.new λn2 w h=>?_
  have h:=(h.blkrd (n:=1) rfl).at1
  refine qbd.c (s:=⟨some ⟨n2,0,none⟩,1,1⟩) (zs:=[0]) h (λw' p h=>h.drop.rd) (by intro x hx;rw[mem_singleton.1 hx];decide) (by simp;omega) λw h=>⟨rfl,?_⟩
  refine⟨⟨rfl,rfl,rfl⟩,hin (j+1) _ ⟨by omega,?_⟩ (by omega)⟩
  rw[List.replicate_succ',<-append_assoc]
  exact h.tail1
 ·have h1:((xs++[128]++replicate j 0).length:Int)%64=56:=by simpa using h1
  have hjz:j=(119-xs.length%64)%64:=by omega
  unfold qrb.j3
  obtain⟨rest,r1,r2,r3,h2⟩:=qhib h.at1
  refine qkd (h2.blk.ldI (o:=69) (qjr r1) ?_)
  refine qm (qd (by omega) (by omega)) ?_
  refine qin.c (s:=⟨none,0,0⟩) (xs:=[]) h ⟨rfl,λi hi=>by simp[u8s]at hi⟩ (by simp) λs w l1 l2 h=>⟨s,rfl,?_⟩
  refine qbd.c (zs:=be8 (8*xs.length)) h.at1 (λw' p h=>h.drop.rd) (qow 8 8 _) (by rw[hyl];show _+8<=_;omega) λw h=>⟨rfl,?_⟩
  have e:xs++[128]++replicate j 0++be8 (8*xs.length)=qar xs:=by rw[qar,zeros,hjz]
  rw[e]at h
  refine qrb.out hz (h.tail1.tail λ_ _ _ h=>h.at1) λw h=>hk w h
end
end
section
set_option maxRecDepth 100000
def qpq(b_0:Sl)(Q:VWP)(w:World):Prop:=qak 61 [sV b_0] w λr3 w2=>nw w2 (⟨[sV r3,.int .i64 0,.int .i64 0]⟩:Array Value) 118 λa4 w5=>Q (.pointer (some a4)) w5
theorem qpq.ok(b_0:Sl)(Q:VWP)(w:World)(h:qpq b_0 Q w):Calls prog 53 ⟨[sV b_0]⟩ w (Ret Q):=
 qhc [.tmp 2] qde Tryz.func53 rfl rfl rfl rfl .lf (by kernel_rfl) h
def qji(r_0:OAd)(Q:VWP)(w:World):Prop:=nz r_0 λa1=>ldI .i64 w (Addr.add a1 2) λx2=>Q (.int .i64 x2) w
theorem qji.ok(r_0:OAd)(Q:VWP)(w:World)(h:qji r_0 Q w):Calls prog 116 ⟨[.pointer r_0]⟩ w (Ret Q):=
 qhc [.tmp 2] qde Tryz.func116 rfl rfl rfl rfl .lf (by kernel_rfl) h
def qth(r_0:OAd)(Q:VWP)(w:World):Prop:=nz r_0 λa1=>ldI .i64 w (Addr.add a1 2) λx2=>br (x2 !=0) (Q (.int .i64 0) w) (lt (World.drew w) λw3=>nz r_0 λa4=>ldL w3 (Addr.add a4 0) λx5=>nz r_0 λa6=>ldI .i64 w3 (Addr.add a6 1) λx7=>lt (i64.wrap ((x5.len:Int)-x7)) λx8=>Q (.int .i64 x8) w3)
theorem qth.ok(r_0:OAd)(Q:VWP)(w:World)(h:qth r_0 Q w):Calls prog 85 ⟨[.pointer r_0]⟩ w (Ret Q):=
 qhc [.tmp 2] qde Tryz.func85 rfl rfl rfl rfl .lf (by kernel_rfl) h
def qnd.j1(r_0:OAd)(n_1:Int)(Q:VWP)(w:World):Prop:=nz r_0 λa1=>ldI .i64 w (Addr.add a1 2) λx2=>br (x2 !=0) (Q (.slice none 0 0) w) (nz r_0 λa3=>ldI .i64 w (Addr.add a3 1) λx4=>lt (i64.wrap (x4+n_1)) λx5=>nz r_0 λa6=>st w (Addr.add a6 1) (.int .i64 x5) λw7=>lt (World.drew w7) λw8=>nz r_0 λa9=>ldL w8 (Addr.add a9 0) λx10=>nz r_0 λa11=>ldI .i64 w8 (Addr.add a11 1) λx12=>lt (i64.wrap (x12-n_1)) λx13=>nz r_0 λa14=>ldI .i64 w8 (Addr.add a14 1) λx15=>bd x15 x10.cap λn16=>bd x13 n16 λn17=>lt (⟨qnf x10.a x10.cap n17 1,n16-n17,x10.cap-n17⟩:Sl) λs18=>Q (sV s18) w8)
def qnd(r_0:OAd)(n_1:Int)(Q:VWP)(w:World):Prop:=nz r_0 λa19=>ldI .i64 w (Addr.add a19 2) λx20=>br (x20==0) (br (decide (n_1<0)) (nz r_0 λa21=>st w (Addr.add a21 2) (.int .i64 3) λw22=>qnd.j1 r_0 n_1 Q w22) (qbk 85 [.pointer r_0] w λr25 w24=>br (decide (n_1>r25)) (nz r_0 λa26=>st w24 (Addr.add a26 2) (.int .i64 3) λw27=>qnd.j1 r_0 n_1 Q w27) (qnd.j1 r_0 n_1 Q w24))) (qnd.j1 r_0 n_1 Q w)
theorem qnd.ok(r_0:OAd)(n_1:Int)(Q:VWP)(w:World)(h:qnd r_0 n_1 Q w):Calls prog 71 ⟨[.pointer r_0,.int .i64 n_1]⟩ w (Ret Q):=
 qhc [.tmp 4] qde Tryz.func71 rfl rfl rfl rfl (.pr 1 [sP 0,sI 1] (λa b w=>qnd.j1 a b Q w) .lf) (by kernel_rfl) h
def qvb.j2(v_5:Int)(Q:VWP)(w:World):Prop:=Q (.int .i64 v_5) w
def qvb.b1(t10:Sl)(t11:Int)(v_5 t12:Int)(Q:VWP)(nx1:Sl->Int->Int->Int->WP)(w:World):Prop:=br (decide (t12<t11)) (ixS t10.a t10.len t12 1 λa1=>ldI .u8 w a1 λx2=>(0:Int)<=8/\lt (qzi .i64 v_5 8) λx3=>lt (i64.wrap x2) λx4=>lt (orV .i64 x3 x4) λx5=>lt (i64.wrap (t12+1)) λx6=>nx1 t10 t11 x5 x6 w) (qvb.j2 v_5 Q w)
def qvb.l1(t10:Sl)(t11:Int)(v_5 t12:Int)(Q:VWP)(w:World):Prop:=∃(I:Int->Int->WP) (μ:Int->Int->World->Nat),I v_5 t12 w/\∀v_5:Int,∀t12:Int,∀w:World,I v_5 t12 w->qvb.b1 t10 t11 v_5 t12 Q (λt10' t11' v_5' t12' w'=>(t10'=t10/\t11'=t11)/\I v_5' t12' w'/\μ v_5' t12' w'<μ v_5 t12 w) w
def qvb.j3(v_5:Int)(t10:Sl)(t11 t12:Int)(Q:VWP)(w:World):Prop:=qvb.l1 t10 t11 v_5 t12 Q w
def qvb.j1(r_0:OAd)(n_1:Int)(v_5:Int)(Q:VWP)(w:World):Prop:=qak 71 [.pointer r_0,.int .i64 n_1] w λr9 w8=>qvb.j3 v_5 r9 (r9.len:Int) 0 Q w8
def qvb(r_0:OAd)(n_1:Int)(Q:VWP)(w:World):Prop:=qvb.j1 r_0 n_1 0 Q w
theorem qvb.ok(r_0:OAd)(n_1:Int)(Q:VWP)(w:World)(h:qvb r_0 n_1 Q w):Calls prog 72 ⟨[.pointer r_0,.int .i64 n_1]⟩ w (Ret Q):=
 qhc [.tmp 4] qde Tryz.func72 rfl rfl rfl rfl (.pr 1 [sP 0,sI 1,sI 5] (λa b c w=>qvb.j1 a b c Q w) (.sq [sI 5] (λa w=>qvb.j2 a Q w) (.sq [sI 5,sL 10,sI 11,sI 12] (λa b c d w=>qvb.j3 a b c d Q w) .lf (.bk (.lo [sL 10,sI 11] [sI 5,sI 12] (λa b c d w=>qvb.l1 a b c d Q w) (λnx1 a b c d w=>qvb.b1 a b c d Q nx1 w) λnx1=> .lf))) .lf)) (by kernel_rfl) h
def qjg(r_0:OAd)(Q:VWP)(w:World):Prop:=qbk 72 [.pointer r_0,.int .i64 4] w λr3 w2=>Q (.int .i64 r3) w2
theorem qjg.ok(r_0:OAd)(Q:VWP)(w:World)(h:qjg r_0 Q w):Calls prog 55 ⟨[.pointer r_0]⟩ w (Ret Q):=
 qhc [.tmp 2] qde Tryz.func55 rfl rfl rfl rfl .lf (by kernel_rfl) h
def qfh(r_0:OAd)(n_1:Int)(Q:VWP)(w:World):Prop:=qak 71 [.pointer r_0,.int .i64 n_1] w λr3 w2=>qak 61 [sV r3] w2 λr6 w5=>qak 20 [sV r6] w5 λr9 w8=>Q (sV r9) w8
theorem qfh.ok(r_0:OAd)(n_1:Int)(Q:VWP)(w:World)(h:qfh r_0 n_1 Q w):Calls prog 54 ⟨[.pointer r_0,.int .i64 n_1]⟩ w (Ret Q):=
 qhc [.tmp 4] qde Tryz.func54 rfl rfl rfl rfl .lf (by kernel_rfl) h
def qqc.j3(out_5 l_6:Sl)(Q:VWP)(w:World):Prop:=ct_ 62 [sV l_6] w λw2=>rdO w2 l_6.a (l_6.len*1) λc3=>apK prog 5 w2 out_5.a out_5.len out_5.cap l_6.len c3 λs4 w5=>qak 20 [sV s4] w5 λr8 w7=>Q (sV r8) w7
def qqc.b1(out_5:Sl)(v_1:Int)(l_6:Sl)(Q:VWP)(nx1:Sl->Int->Sl->WP)(w:World):Prop:=br (decide (v_1>0)) (lt (i64.wrap (v_1-1)) λx9=>lt (qdj .i64 x9 127) λx10=>lt (orV .i64 x10 128) λx11=>lt (IntKind.u8.wrap x11) λx12=>nw w ⟨[.int .u8 x12]⟩ 5 λa13 w14=>rdO w14 (some a13) (1*1) λc15=>apK prog 5 w14 l_6.a l_6.len l_6.cap 1 c15 λs16 w17=>(0:Int)<=7/\lt (qal .i64 x9 7) λx18=>nx1 out_5 x18 s16 w17) (qqc.j3 out_5 l_6 Q w)
def qqc.l1(out_5:Sl)(v_1:Int)(l_6:Sl)(Q:VWP)(w:World):Prop:=∃(I:Int->Sl->WP) (μ:Int->Sl->World->Nat),I v_1 l_6 w/\∀v_1:Int,∀l_6:Sl,∀w:World,I v_1 l_6 w->qqc.b1 out_5 v_1 l_6 Q (λout_5' v_1' l_6' w'=>(out_5'=out_5)/\I v_1' l_6' w'/\μ v_1' l_6' w'<μ v_1 l_6 w) w
def qqc.j4(v_1:Int)(out_5:Sl)(l_6:Sl)(Q:VWP)(w:World):Prop:=qqc.l1 out_5 v_1 l_6 Q w
def qqc.j2(v_1:Int)(out_5:Sl)(l_6:Sl)(Q:VWP)(w:World):Prop:=(0:Int)<=7/\lt (qal .i64 v_1 7) λx19=>qqc.j4 x19 out_5 l_6 Q w
def qqc.j1(v_1:Int)(out_5:Sl)(Q:VWP)(w:World):Prop:=br (decide (v_1<0)) (Q (sV out_5) w) (lt (qdj .i64 v_1 127) λx20=>lt (IntKind.u8.wrap x20) λx21=>nw w ⟨[.int .u8 x21]⟩ 5 λa22 w23=>qqc.j2 v_1 out_5 ⟨(some a22),1,1⟩ Q w23)
def qqc(b_0:Sl)(v_1:Int)(Q:VWP)(w:World):Prop:=qak 61 [sV b_0] w λr26 w25=>qqc.j1 v_1 r26 Q w25
theorem qqc.ok(b_0:Sl)(v_1:Int)(Q:VWP)(w:World)(h:qqc b_0 v_1 Q w):Calls prog 40 ⟨[sV b_0,.int .i64 v_1]⟩ w (Ret Q):=
 qhc [.tmp 4] qde Tryz.func40 rfl rfl rfl rfl (.pr 1 [sI 1,sL 5] (λa b w=>qqc.j1 a b Q w) (.pr 1 [sI 1,sL 5,sL 6] (λa b c w=>qqc.j2 a b c Q w) (.sq [sL 5,sL 6] (λa b w=>qqc.j3 a b Q w) (.sq [sI 1,sL 5,sL 6] (λa b c w=>qqc.j4 a b c Q w) .lf (.bk (.lo [sL 5] [sI 1,sL 6] (λa b c w=>qqc.l1 a b c Q w) (λnx1 a b c w=>qqc.b1 a b c Q nx1 w) λnx1=> .lf))) .lf))) (by kernel_rfl) h
def qpc.j2(b_0:Sl)(Q:VWP)(w:World):Prop:=br (decide ((b_0.len:Int)>=8)) (Q (.tuple ⟨[.int .i64 0,.int .i64 0,.int .i64 5]⟩) w) (Q (.tuple ⟨[.int .i64 0,.int .i64 0,.int .i64 3]⟩) w)
def qpc.j5(b_0:Sl)(v_2:Int)(t7:Sl)(t8:Int)(t9:Int)(Q:VWP)(nx1:Sl->Sl->Int->Int->Int->WP)(w:World):Prop:=lt (i64.wrap (t9+1)) λx1=>nx1 b_0 t7 t8 v_2 x1 w
def qpc.j7(b_0:Sl)(v_2:Int)(i_5 c_6:Int)(t7:Sl)(t8 t9:Int)(Q:VWP)(nx1:Sl->Sl->Int->Int->Int->WP)(w:World):Prop:=lt (qdj .u8 c_6 127) λx2=>lt (i64.wrap x2) λx3=>lt (orV .i64 v_2 x3) λx4=>br (decide (c_6<128)) (lt (i64.wrap (i_5+1)) λx5=>Q (.tuple ⟨[.int .i64 x4,.int .i64 x5,.int .i64 0]⟩) w) (qpc.j5 b_0 x4 t7 t8 t9 Q nx1 w)
def qpc.j6(b_0:Sl)(v_2:Int)(i_5 c_6:Int)(t7:Sl)(t8 t9:Int)(Q:VWP)(nx1:Sl->Sl->Int->Int->Int->WP)(w:World):Prop:=br (i_5==8) (Q (.tuple ⟨[.int .i64 0,.int .i64 0,.int .i64 5]⟩) w) (br (decide (i_5>0)) (lt (i64.wrap (v_2+1)) λx6=>(0:Int)<=7/\lt (qzi .i64 x6 7) λx7=>qpc.j7 b_0 x7 i_5 c_6 t7 t8 t9 Q nx1 w) (qpc.j7 b_0 v_2 i_5 c_6 t7 t8 t9 Q nx1 w))
def qpc.j4(b_0:Sl)(v_2:Int)(t7:Sl)(t8:Int)(t9:Int)(Q:VWP)(nx1:Sl->Sl->Int->Int->Int->WP)(w:World):Prop:=ixS t7.a t7.len t9 1 λa8=>ldI .u8 w a8 λx9=>qpc.j6 b_0 v_2 t9 x9 t7 t8 t9 Q nx1 w
def qpc.b1(b_0 t7:Sl)(t8:Int)(v_2 t9:Int)(Q:VWP)(nx1:Sl->Sl->Int->Int->Int->WP)(w:World):Prop:=br (decide (t9<t8)) (qpc.j4 b_0 v_2 t7 t8 t9 Q nx1 w) (qpc.j2 b_0 Q w)
def qpc.l1(b_0 t7:Sl)(t8:Int)(v_2 t9:Int)(Q:VWP)(w:World):Prop:=∃(I:Int->Int->WP) (μ:Int->Int->World->Nat),I v_2 t9 w/\∀v_2:Int,∀t9:Int,∀w:World,I v_2 t9 w->qpc.b1 b_0 t7 t8 v_2 t9 Q (λb_0' t7' t8' v_2' t9' w'=>(b_0'=b_0/\t7'=t7/\t8'=t8)/\I v_2' t9' w'/\μ v_2' t9' w'<μ v_2 t9 w) w
def qpc.j3(b_0:Sl)(v_2:Int)(t7:Sl)(t8:Int)(t9:Int)(Q:VWP)(w:World):Prop:=qpc.l1 b_0 t7 t8 v_2 t9 Q w
def qpc.j1(b_0:Sl)(v_2:Int)(Q:VWP)(w:World):Prop:=qpc.j3 b_0 v_2 b_0 (b_0.len:Int) 0 Q w
def qpc(b_0:Sl)(Q:VWP)(w:World):Prop:=qpc.j1 b_0 0 Q w
theorem qpc.ok(b_0:Sl)(Q:VWP)(w:World)(h:qpc b_0 Q w):Calls prog 114 ⟨[sV b_0]⟩ w (Ret Q):=
 qhc [.tmp 2,.tmp 3,.tmp 4] qde Tryz.func114 rfl rfl rfl rfl (.sq [sL 0,sI 2] (λa b w=>qpc.j1 a b Q w) .lf (.sq [sL 0] (λa w=>qpc.j2 a Q w) (.sq [sL 0,sI 2,sL 7,sI 8,sI 9] (λa b c d e w=>qpc.j3 a b c d e Q w) .lf (.bk (.lo [sL 0,sL 7,sI 8] [sI 2,sI 9] (λa b c d e w=>qpc.l1 a b c d e Q w) (λnx1 a b c d e w=>qpc.b1 a b c d e Q nx1 w) λnx1=>(.pr 1 [sL 0,sI 2,sL 7,sI 8,sI 9] (λa b c d e w=>qpc.j4 a b c d e Q nx1 w) (.sq [sL 0,sI 2,sL 7,sI 8,sI 9] (λa b c d e w=>qpc.j5 a b c d e Q nx1 w) (.bk (.sq [sL 0,sI 2,sI 5,(6,.I .u8),sL 7,sI 8,sI 9] (λa b c d e f g w=>qpc.j6 a b c d e f g Q nx1 w) .lf (.pr 1 [sL 0,sI 2,sI 5,(6,.I .u8),sL 7,sI 8,sI 9] (λa b c d e f g w=>qpc.j7 a b c d e f g Q nx1 w) .lf))) .lf))))) .lf)) (by kernel_rfl) h
end
section
set_option maxRecDepth 100000
def qxe(r_0:OAd)(n_1:Int)(Q:VWP)(w:World):Prop:=nz r_0 λa1=>ldI .i64 w (Addr.add a1 2) λx2=>br (x2 !=0) (Q (.slice none 0 0) w) (lt (World.drew w) λw3=>br (decide (n_1<0)) (nz r_0 λa4=>st w3 (Addr.add a4 2) (.int .i64 3) λw5=>Q (.slice none 0 0) w5) (nz r_0 λa6=>ldL w3 (Addr.add a6 0) λx7=>nz r_0 λa8=>ldI .i64 w3 (Addr.add a8 1) λx9=>lt (i64.wrap ((x7.len:Int)-x9)) λx10=>br (decide (n_1>x10)) (nz r_0 λa11=>st w3 (Addr.add a11 2) (.int .i64 3) λw12=>Q (.slice none 0 0) w12) (lt (World.drew w3) λw13=>nz r_0 λa14=>ldL w13 (Addr.add a14 0) λx15=>nz r_0 λa16=>ldI .i64 w13 (Addr.add a16 1) λx17=>nz r_0 λa18=>ldI .i64 w13 (Addr.add a18 1) λx19=>lt (i64.wrap (x19+n_1)) λx20=>bd x20 x15.cap λn21=>bd x17 n21 λn22=>lt (⟨qnf x15.a x15.cap n22 1,n21-n22,x15.cap-n22⟩:Sl) λs23=>nw w13 ⟨[]⟩ 5 λa24 w25=>rdO w25 s23.a (s23.len*1) λc26=>apK prog 5 w25 (some a24) 0 0 s23.len c26 λs27 w28=>nz r_0 λa29=>ldI .i64 w28 (Addr.add a29 1) λx30=>lt (i64.wrap (x30+n_1)) λx31=>nz r_0 λa32=>st w28 (Addr.add a32 1) (.int .i64 x31) λw33=>Q (sV s27) w33)))
theorem qxe.ok(r_0:OAd)(n_1:Int)(Q:VWP)(w:World)(h:qxe r_0 n_1 Q w):Calls prog 48 ⟨[.pointer r_0,.int .i64 n_1]⟩ w (Ret Q):=
 qhc [.tmp 4] qde Tryz.func48 rfl rfl rfl rfl .lf (by kernel_rfl) h
def qab.j3(r_0:OAd)(was_5:Int)(u_7:Int)(Q:VWP)(w:World):Prop:=br (decide (u_7>9223372036854775807)) (nz r_0 λa1=>st w (Addr.add a1 1) (.int .i64 was_5) λw2=>nz r_0 λa3=>st w2 (Addr.add a3 2) (.int .i64 5) λw4=>Q (.int .i64 0) w4) (lt (i64.wrap u_7) λx5=>Q (.int .i64 x5) w)
def qab.b1(r_0:OAd)(was_5:Int)(x_6:Sl)(u_7:Int)(i_8:Int)(Q:VWP)(nx1:OAd->Int->Sl->Int->Int->WP)(w:World):Prop:=br (decide (i_8<(x_6.len:Int))) ((0:Int)<=8/\lt (qzi .u64 u_7 8) λx6=>ixS x_6.a x_6.len i_8 1 λa7=>ldI .u8 w a7 λx8=>lt (u64.wrap x8) λx9=>lt (orV .u64 x6 x9) λx10=>lt (i64.wrap (i_8+1)) λx11=>nx1 r_0 was_5 x_6 x10 x11 w) (qab.j3 r_0 was_5 u_7 Q w)
def qab.l1(r_0:OAd)(was_5:Int)(x_6:Sl)(u_7:Int)(i_8:Int)(Q:VWP)(w:World):Prop:=∃(I:Int->Int->WP) (μ:Int->Int->World->Nat),I u_7 i_8 w/\∀u_7:Int,∀i_8:Int,∀w:World,I u_7 i_8 w->qab.b1 r_0 was_5 x_6 u_7 i_8 Q (λr_0' was_5' x_6' u_7' i_8' w'=>(r_0'=r_0/\was_5'=was_5/\x_6'=x_6)/\I u_7' i_8' w'/\μ u_7' i_8' w'<μ u_7 i_8 w) w
def qab.j4(r_0:OAd)(was_5:Int)(x_6:Sl)(u_7:Int)(i_8:Int)(Q:VWP)(w:World):Prop:=qab.l1 r_0 was_5 x_6 u_7 i_8 Q w
def qab.j2(r_0:OAd)(was_5:Int)(x_6:Sl)(u_7:Int)(Q:VWP)(w:World):Prop:=qab.j4 r_0 was_5 x_6 u_7 0 Q w
def qab.j1(r_0:OAd)(n_1:Int)(was_5:Int)(Q:VWP)(w:World):Prop:=qak 48 [.pointer r_0,.int .i64 n_1] w λr14 w13=>qab.j2 r_0 was_5 r14 0 Q w13
def qab(r_0:OAd)(n_1:Int)(Q:VWP)(w:World):Prop:=nz r_0 λa15=>ldI .i64 w (Addr.add a15 1) λx16=>qab.j1 r_0 n_1 x16 Q w
theorem qab.ok(r_0:OAd)(n_1:Int)(Q:VWP)(w:World)(h:qab r_0 n_1 Q w):Calls prog 26 ⟨[.pointer r_0,.int .i64 n_1]⟩ w (Ret Q):=
 qhc [.tmp 4] qde Tryz.func26 rfl rfl rfl rfl (.pr 1 [sP 0,sI 1,sI 5] (λa b c w=>qab.j1 a b c Q w) (.pr 1 [sP 0,sI 5,sL 6,(7,.I .u64)] (λa b c d w=>qab.j2 a b c d Q w) (.sq [sP 0,sI 5,(7,.I .u64)] (λa b c w=>qab.j3 a b c Q w) (.sq [sP 0,sI 5,sL 6,(7,.I .u64),sI 8] (λa b c d e w=>qab.j4 a b c d e Q w) .lf (.bk (.lo [sP 0,sI 5,sL 6] [(7,.I .u64),sI 8] (λa b c d e w=>qab.l1 a b c d e Q w) (λnx1 a b c d e w=>qab.b1 a b c d e Q nx1 w) λnx1=> .lf))) .lf))) (by kernel_rfl) h
def qib.j2(Q:VWP)(w:World):Prop:=Q (.tuple ⟨[.int .i64 0,.int .i64 0,.int .i64 5]⟩) w
def qib.j5(b_0:Sl)(v_5:Int)(i_6:Int)(Q:VWP)(nx1:Sl->Int->Int->WP)(w:World):Prop:=lt (i64.wrap (i_6+1)) λx1=>nx1 b_0 v_5 x1 w
def qib.j6(b_0:Sl)(v_5:Int)(i_6:Int)(Q:VWP)(nx1:Sl->Int->Int->WP)(w:World):Prop:=(0:Int)<=7/\lt (qzi .i64 v_5 7) λx2=>ixS b_0.a b_0.len i_6 1 λa3=>ldI .u8 w a3 λx4=>lt (qdj .u8 x4 127) λx5=>lt (i64.wrap x5) λx6=>lt (orV .i64 x2 x6) λx7=>ixS b_0.a b_0.len i_6 1 λa8=>ldI .u8 w a8 λx9=>br (decide (x9<128)) (lt (i64.wrap (i_6+1)) λx10=>Q (.tuple ⟨[.int .i64 x7,.int .i64 x10,.int .i64 0]⟩) w) (qib.j5 b_0 x7 i_6 Q nx1 w)
def qib.j4(b_0:Sl)(v_5:Int)(i_6:Int)(Q:VWP)(nx1:Sl->Int->Int->WP)(w:World):Prop:=br (i_6==(b_0.len:Int)) (Q (.tuple ⟨[.int .i64 0,.int .i64 0,.int .i64 3]⟩) w) (br (decide (i_6>0)) (lt (i64.wrap (v_5+1)) λx11=>qib.j6 b_0 x11 i_6 Q nx1 w) (qib.j6 b_0 v_5 i_6 Q nx1 w))
def qib.b1(b_0:Sl)(v_5:Int)(i_6:Int)(Q:VWP)(nx1:Sl->Int->Int->WP)(w:World):Prop:=br (decide (i_6<8)) (qib.j4 b_0 v_5 i_6 Q nx1 w) (qib.j2 Q w)
def qib.l1(b_0:Sl)(v_5:Int)(i_6:Int)(Q:VWP)(w:World):Prop:=∃(I:Int->Int->WP) (μ:Int->Int->World->Nat),I v_5 i_6 w/\∀v_5:Int,∀i_6:Int,∀w:World,I v_5 i_6 w->qib.b1 b_0 v_5 i_6 Q (λb_0' v_5' i_6' w'=>(b_0'=b_0)/\I v_5' i_6' w'/\μ v_5' i_6' w'<μ v_5 i_6 w) w
def qib.j3(b_0:Sl)(v_5:Int)(i_6:Int)(Q:VWP)(w:World):Prop:=qib.l1 b_0 v_5 i_6 Q w
def qib.j1(b_0:Sl)(v_5:Int)(Q:VWP)(w:World):Prop:=qib.j3 b_0 v_5 0 Q w
def qib(b_0:Sl)(Q:VWP)(w:World):Prop:=qib.j1 b_0 0 Q w
theorem qib.ok(b_0:Sl)(Q:VWP)(w:World)(h:qib b_0 Q w):Calls prog 50 ⟨[sV b_0]⟩ w (Ret Q):=
 qhc [.tmp 2,.tmp 3,.tmp 4] qde Tryz.func50 rfl rfl rfl rfl (.pr 1 [sL 0,sI 5] (λa b w=>qib.j1 a b Q w) (.sq [] (λ w=>qib.j2 Q w) (.sq [sL 0,sI 5,sI 6] (λa b c w=>qib.j3 a b c Q w) .lf (.bk (.lo [sL 0] [sI 5,sI 6] (λa b c w=>qib.l1 a b c Q w) (λnx1 a b c w=>qib.b1 a b c Q nx1 w) λnx1=>(.sq [sL 0,sI 5,sI 6] (λa b c w=>qib.j4 a b c Q nx1 w) .lf (.sq [sL 0,sI 5,sI 6] (λa b c w=>qib.j5 a b c Q nx1 w) (.bk (.pr 1 [sL 0,sI 5,sI 6] (λa b c w=>qib.j6 a b c Q nx1 w) .lf)) .lf))))) .lf)) (by kernel_rfl) h
end
section
attribute [local irreducible] apK cpK mkK
theorem qqv(k:IntKind){x y:Int}(h:x%2^k.bits=y%2^k.bits):k.wrap x=k.wrap y:=by simp only[IntKind.wrap,h]
theorem qxw(k:IntKind)(x:Int):k.wrap x%2^k.bits=x%2^k.bits:=by
 simp only[IntKind.wrap];split
 ·rw[Int.sub_emod_right,Int.emod_emod]
 ·rw[Int.emod_emod]
theorem qxib{k:IntKind}(hb:k.bits=64){v c:Int}(hc:0<=c/\c<256):orV k (qzi k v 8) c=k.wrap (v*256+c):=by
 obtain⟨n,rfl⟩:∃n:Nat,c=n:=⟨c.toNat,by omega⟩;unfold orV qzi;have h8:min (8:Int).toNat k.bits=8:=by rw[hb];rfl
 rw[h8];have e1:=qnq k.bits (k.wrap (v*2^8));rw[qxw]at e1;have e2:(BitVec.ofInt k.bits (n:Int)).toNat=n:=qwj _ _ (by rw[hb];omega);rw[BitVec.toNat_or,e2];generalize (BitVec.ofInt k.bits (k.wrap (v*2^8))).toNat=A at e1;have h28:(2:Int)^8=256:=by decide
 have h64:(2:Int)^k.bits=18446744073709551616:=by rw[hb];decide
 rw[h28,h64]at e1;obtain⟨q,rfl⟩:∃q,A=2^8*q:=⟨A/256,by omega⟩;have:=Nat.two_pow_add_eq_or_of_lt (i:=8) (b:=n) (by omega) q;rw[<-this];apply qqv;rw[h64];have h28n:(2:Nat)^8=256:=by decide
 rw[h28n]at e1|-
 omega
theorem qvlb(k:IntKind)(hb:k.bits=64)(a:Int)(l:List Int)(c:Int)(hc:0<=c/\c<256):orV k (qzi k (k.wrap (be l)) 8) c=k.wrap (be (l++[c])):=by
 rw[qxib hb hc,qidb];apply qqv;have h64:(2:Int)^k.bits=18446744073709551616:=by rw[hb];decide
 have:=qxw k (be l);rw[h64]at this|-
 omega
theorem be_beJ(n:Nat)(v:Int):∀j,j<=n->be (beJ n j v)=v/2^(8*(n-j))%2^(8*j):=by
 intro j;induction j with
 |zero=>intro _;simp[beJ,be,Int.emod_one]
 |succ j ih=>
  intro hj;rw[qlfb,qidb,ih (by omega),show n-1-j=n-(j+1)by omega];have e1:v/2^(8*(n-j))=v/2^(8*(n-(j+1)))/256:=by
   rw[show 8*(n-j)=8*(n-(j+1))+8 by omega,Int.pow_add,show(2:Int)^8=256 by decide,Int.ediv_ediv_of_nonneg (Int.le_of_lt (pow_pos (by decide)))]
  have e2:(2:Int)^(8*(j+1))=256*2^(8*j):=by rw[show 8*(j+1)=8+8*j by omega,Int.pow_add];rfl
  rw[e1,e2];generalize v/2^(8*(n-(j+1)))=x;have hp:(0:Int)<2^(8*j):=pow_pos (by decide);generalize (2:Int)^(8*j)=m at hp;have h1:=Int.mul_ediv_add_emod (x/256) m;have h2:=Int.mul_ediv_add_emod x 256;have h3:=Int.emod_lt_of_pos (x/256) hp;have h4:=Int.emod_nonneg (x/256) (show m≠0 by omega);have h5:x=(x/256%m*256+x%256)+(x/256/m)*(256*m):=by
   have e:(x/256/m)*(256*m)=256*(m*(x/256/m)):=by rw[<-Int.mul_assoc,Int.mul_comm (x/256/m) 256,Int.mul_assoc,Int.mul_comm (x/256/m) m]
   rw[e];omega
  have h6:=Int.add_mul_emod_self_right (x/256%m*256+x%256) (x/256/m) (256*m);rw[<-h5]at h6;have h7:(x/256%m*256+x%256)%(256*m)=x/256%m*256+x%256:=Int.emod_eq_of_lt (by omega) (by omega);rw[h6,h7]
theorem qwlb(n:Nat)(v:Int):be (beJ n n v)=v%2^(8*n):=by
 rw[be_beJ n v n (le_refl _),sub_self,Nat.mul_zero,Int.pow_zero,Int.ediv_one]
theorem qulb{l:List Int}(h:qxl l){n:Nat}(hn:l.length<=n):0<=be l/\be l<2^(8*n):=by
 have:=be_lt l h;refine⟨this.1,Int.lt_of_lt_of_le this.2 ?_⟩;have e:(256:Int)^l.length=2^(8*l.length):=by rw[show(256:Int)=2^8 by decide,<-Int.pow_mul]
 rw[e];exact_mod_cast pow_le_pow_right (by decide) (show 8*l.length<=8*n by omega)
def tkS(xs:List Int)(at':Nat)(err n:Int):List Int×Nat×Int:=
 if err=0/\0<=n/\n<=xs.length-at' then((xs.drop at').take n.toNat,at'+n.toNat,0)else([],at',if err=0 then 3 else err)
def nuS(xs:List Int)(at':Nat)(err:Int)(n:Nat):Int×Nat×Int:=
 if 9223372036854775807<be (tkS xs at' err n).1 then(0,at',5)else(be (tkS xs at' err n).1,(tkS xs at' err n).2)
def brA(rb:Nat)(x:List Int×Nat×Int):As:=exA λs:Sl=>ifA (x.2.1<=x.1.length/\s.len<=s.cap/\qxl x.1/\x.1.length<=1099511627776)<|andA (qqb rb [.slice s.a s.len s.cap,.int .i64 (x.2.1:Int),.int .i64 x.2.2]) (qcc 1 s (u8s x.1))
section
variable {F0:List Nat}{w0 w:World}{ps rest:List As}{rb at':Nat}{xs:List Int}{err:Int}
theorem qbub(h:St F0 w0 w ps)[PkF brA rb ps (xs,at',err) rest]:∃s:Sl,at'<=xs.length/\s.len<=s.cap/\s.len=xs.length/\qxl xs/\xs.length<=1099511627776/\St F0 w0 w (qqb rb [.slice s.a s.len s.cap,.int .i64 (at':Int),.int .i64 err]::qcc 1 s (u8s xs)::rest):=by
 obtain⟨s,h⟩:=(h.toF brA rb).exE;obtain⟨⟨h1,h2,h3,h4⟩,h⟩:=h.ifE;have h:=h.split;have hl:=h.at1.len;rw[qk]at hl;exact⟨s,h1,h2,by simp only at hl;omega,h3,h4,h⟩
theorem qplb{s:Sl}(h1:at'<=xs.length)(h2:s.len<=s.cap)(h3:qxl xs)(h4:xs.length<=1099511627776)(h:St F0 w0 w (qqb rb [.slice s.a s.len s.cap,.int .i64 (at':Int),.int .i64 err]::qcc 1 s (u8s xs)::rest)):St F0 w0 w (brA rb (xs,at',err)::rest):=
 (h.join.ifI (c:=at'<=xs.length/\s.len<=s.cap/\qxl xs/\xs.length<=1099511627776) ⟨h1,h2,h3,h4⟩).exI (p:=λs:Sl=>ifA (at'<=xs.length/\s.len<=s.cap/\qxl xs/\xs.length<=1099511627776)<|andA (qqb rb [.slice s.a s.len s.cap,.int .i64 (at':Int),.int .i64 err]) (qcc 1 s (u8s xs))) s
theorem qpq.c{s:Sl}{K:Ending->World->Prop}(h:St F0 w0 w ps)[Rdb F0 w0 s ps 1 (u8s xs)](hx:qxl xs)(hL:xs.length<=1099511627776)
 (hk:∀nb w',St F0 w0 w' (brA nb (xs,0,0)::ps)->K (.returned (.pointer (some ⟨nb,0,none⟩))) w'):Calls prog 53 ⟨[.slice s.a s.len s.cap]⟩ w K:=by
 refine qdc (qpq.ok _ _ _ ?_)
 unfold qpq
 refine qhd.c h (h.rdb s) (by omega) λs1 w h=>⟨s1,rfl,?_⟩
 have hc:=h.cap (by decide)
 refine h.new λnb w h=>?_
 exact hk nb w (qplb (Nat.zero_le _) hc hx hL h)
theorem qji.c{K:Ending->World->Prop}(h:St F0 w0 w ps)[PkF brA rb ps (xs,at',err) rest](hk:K (.returned (.int .i64 err)) w):Calls prog 116 ⟨[.pointer (some ⟨rb,0,none⟩)]⟩ w K:=by
 refine qdc (qji.ok _ _ _ ?_);unfold qji;obtain⟨s,h1,h2,h3,h4,h5,h⟩:=qbub (rb:=rb) h;exact qkd (h.fI hk)
theorem qth.r{s:Sl}{K:Ending->World->Prop}(h:St F0 w0 w (qqb rb [.slice s.a s.len s.cap,.int .i64 (at':Int),.int .i64 err]::rest))(hl:at'<=s.len)(hL:s.len<=1099511627776)
 (hk:∀w',St F0 w0 w' (qqb rb [.slice s.a s.len s.cap,.int .i64 (at':Int),.int .i64 err]::rest)->K (.returned (.int .i64 (if err=0 then(s.len:Int)-at' else 0))) w'):Calls prog 85 ⟨[.pointer (some ⟨rb,0,none⟩)]⟩ w K:=by
 refine qdc (qth.ok _ _ _ ?_)
 unfold qth
 refine qkd (h.fI (qye (λg=>?_) (λg=>?_)))
 ·rw[if_neg (by simpa using g)]at hk
  exact hk w h
 ·rw[if_pos (by simpa using g)]at hk
  refine h.drewK λw h=>?_
  refine qkd (h.fL (qkd (h.fI ?_)))
  refine qm (qd (by simp only;omega) (by simp only;omega)) ?_
  exact hk w h
theorem qnd.r{s:Sl}{n:Int}{K:Ending->World->Prop}(h:St F0 w0 w (qqb rb [.slice s.a s.len s.cap,.int .i64 (at':Int),.int .i64 err]::rest))(hl:at'<=s.len)(hc:s.len<=s.cap)(hL:s.len<=1099511627776)
 (hk:∀(m:Nat) w',err=0->n=m->m<=s.len-at'->St F0 w0 w' (qqb rb [.slice s.a s.len s.cap,.int .i64 ((at'+m:Nat):Int),.int .i64 0]::rest)->K (.returned (.slice (qnf s.a s.cap at' 1) (at'+m-at') (s.cap-at'))) w')
 (hk2:∀w',¬(err=0/\0<=n/\n<=(s.len:Int)-at')->St F0 w0 w' (qqb rb [.slice s.a s.len s.cap,.int .i64 (at':Int),.int .i64 (if err=0 then 3 else err)]::rest)->K (.returned (.slice none 0 0)) w'):
 Calls prog 71 ⟨[.pointer (some ⟨rb,0,none⟩),.int .i64 n]⟩ w K:=by
 refine qdc (qnd.ok _ _ _ _ ?_)
 unfold qnd
 have bad:∀(e:Int) w',e≠0->e=(if err=0 then 3 else err)->¬(err=0/\0<=n/\n<=(s.len:Int)-at')->St F0 w0 w' (qqb rb [.slice s.a s.len s.cap,.int .i64 (at':Int),.int .i64 e]::rest)->qnd.j1 (some ⟨rb,0,none⟩) n (λv w'=>K (.returned v) w') w':=by
  intro e w he e1 hn h;unfold qnd.j1;refine qkd (h.fI (qjh (by simpa using he) ?_));subst e1;exact hk2 w hn h
 refine qkd (h.fI (qye (λg=>?_) (λg=>?_)))
 ·have g:err=0:=by simpa using g
  subst g
  refine quc (λg=>?_) (λg=>?_)
  ·refine qkd (h.fst trivial λw h=>?_)
   exact bad 3 w (by decide) rfl (by omega) h
  ·refine qth.r h hl hL λw h=>⟨_,rfl,?_⟩
   rw[if_pos rfl]
   refine quc (λg2=>?_) (λg2=>?_)
   ·refine qkd (h.fst trivial λw h=>?_)
    exact bad 3 w (by decide) rfl (by omega) h
   ·obtain⟨m,rfl⟩:∃m:Nat,n=m:=⟨n.toNat,by omega⟩
    unfold qnd.j1
    refine qkd (h.fI (qze (by simp) ?_))
    refine qkd (h.fI ?_)
    refine qm (qd (by omega) (by omega)) ?_
    refine qkd (h.fst trivial λw h=>?_)
    refine h.drewK λw h=>?_
    refine qkd (h.fL (qkd (h.fI ?_)))
    refine qm (qd (by omega) (by omega)) ?_
    refine qkd (h.fI ?_)
    refine qkn (n:=at'+m) (by omega) (by simp only;omega) ?_
    refine qkn (n:=at') (by omega) (by omega) (qbe ?_)
    exact hk m w rfl rfl (by omega) (by rw[Int.natCast_add];exact h)
 ·have g:err≠0:=by simpa using g
  exact bad err w g (by rw[if_neg g]) (λe=>g e.1) h
end
end
section
attribute [local irreducible] apK cpK mkK
theorem qqpb{xs:List Int}(hx:qxl xs)(at':Nat)(err n:Int):qxl (tkS xs at' err n).1/\(tkS xs at' err n).1.length<=n.toNat/\(tkS xs at' err n).1.length<=xs.length/\(at'<=xs.length->(tkS xs at' err n).2.1<=xs.length):=by
 unfold tkS;split
 ·refine⟨λx h=>hx x (List.mem_of_mem_drop (List.mem_of_mem_take h)),by simp;omega,by simp;omega,λ_=>by simp only;omega⟩
 ·exact⟨λx h=>by simp at h,by simp,by simp,λh=>h⟩
theorem qpz{xs:List Int}{i:Nat}(h:i<xs.length):xs.take (i+1)=xs.take i++[xs.getD i 0]:=by
 rw[List.take_succ_eq_append_getElem h];simp[getD,getElem?_eq_getElem h]
theorem qkr{xs:List Int}(hx:qxl xs){i:Nat}(h:i<xs.length):0<=xs.getD i 0/\xs.getD i 0<256:=by
 have:xs.getD i 0=xs[i]:=by simp[getD,getElem?_eq_getElem h]
 rw[this];exact hx _ (getElem_mem h)
section
variable {F0:List Nat}{w0 w:World}{ps rest:List As}{rb at':Nat}{xs:List Int}{err:Int}
theorem qvb.loop{t:Sl}{ys:List Int}{Q:VWP}(h:St F0 w0 w ps)[Rdb F0 w0 t ps 1 (u8s ys)](hy:qxl ys)(hL:ys.length<=1099511627776)
 (hk:∀w',St F0 w0 w' ps->Q (.int .i64 (i64.wrap (be ys))) w'):qvb.j3 0 t ((t.len:Nat):Int) 0 Q w:=by
 unfold qvb.j3
 have hl:=(h.rdb t).1
 rw[qk]at hl
 refine qug (λ(i:Nat) (v i':Int) w'=>i'=i/\i<=ys.length/\v=i64.wrap (be (ys.take i))/\St F0 w0 w' ps) (λi=>ys.length-i) 0 ⟨rfl,by omega,rfl,h⟩ ?_
 clear h
 rintro i v i' w I μ ⟨rfl,hi,rfl,h⟩ hin
 unfold qvb.b1
 refine quc (λg=>?_) (λg=>?_)
 ·have hiy:i<ys.length:=by omega
  have hc:=qkr hy hiy
  refine h.lx i rfl hiy ⟨by decide,qbe ?_⟩
  refine qm (qd (by omega) (by omega)) ?_
  refine qm (qvlb .i64 rfl 0 _ _ hc) ?_
  rw[<-qpz hiy]
  refine qm (qd (by omega) (by omega)) ?_
  exact⟨⟨rfl,rfl⟩,hin (i+1) _ _ _ ⟨by omega,by omega,rfl,h⟩ (by omega)⟩
 ·have:i=ys.length:=by omega
  subst this
  rw[take_length]
  exact hk w h
theorem qvb.c{n:Nat}{K:Ending->World->Prop}(h:St F0 w0 w ps)[PkF brA rb ps (xs,at',err) rest]
 (hk:∀w',St F0 w0 w' (brA rb (xs,(tkS xs at' err n).2)::rest)->K (.returned (.int .i64 (i64.wrap (be (tkS xs at' err n).1)))) w'):Calls prog 72 ⟨[.pointer (some ⟨rb,0,none⟩),.int .i64 (n:Int)]⟩ w K:=by
 refine qdc (qvb.ok _ _ _ _ ?_)
 unfold qvb qvb.j1
 obtain⟨s,h1,h2,h3,h4,h5,h⟩:=qbub (rb:=rb) h
 refine qnd.r h (by omega) h2 (by omega) (λm w e1 e2 e3 g=>⟨⟨_,_,_⟩,rfl,?_⟩) (λw hn h=>⟨⟨none,0,0⟩,rfl,?_⟩)
 ·have e2:n=m:=by omega
  subst e2 e1
  have h:=g
  have et:tkS xs at' 0 n=((xs.drop at').take n,at'+n,0):=by unfold tkS;rw[if_pos ⟨rfl,by omega,by omega⟩,toNat_natCast]
  rw[et]at hk
  haveI:=h.cutR s at' (at'+n) (s.cap-at') (ys:=(xs.drop at').take n) (by omega) (by omega) h2 (by rw[show at'+n-at'=n by omega])
  refine qvb.loop (t:=⟨qnf s.a s.cap at' 1,at'+n-at',s.cap-at'⟩) (ys:=(xs.drop at').take n) h (λx hx=>h4 x (List.mem_of_mem_drop (List.mem_of_mem_take hx))) (by simp;omega) λw h=>?_
  exact hk w (qplb (by omega) h2 h4 h5 h)
 ·have et:tkS xs at' err n=([],at',if err=0 then 3 else err):=by unfold tkS;rw[if_neg (by omega)]
  rw[et]at hk
  haveI:=Rdb.nil (F0:=F0) (w0:=w0) (ps:=qqb rb [.slice s.a s.len s.cap,.int .i64 (at':Int),.int .i64 (if err=0 then 3 else err)]::qcc 1 s (u8s xs)::rest) 0
  refine qvb.loop (t:=⟨none,0,0⟩) (ys:=[]) h (λx hx=>by cases hx) (by simp) λw h=>?_
  exact hk w (qplb h1 h2 h4 h5 h)
theorem qgjb{n:Nat}(hx:qxl xs)(hn:n<=4):i64.wrap (be (tkS xs at' err n).1)=(nuS xs at' err n).1/\(nuS xs at' err n).2=(tkS xs at' err n).2:=by
 have h:=qqpb hx at' err n;have h2:=qulb h.1 (n:=4) (by omega);have h3:(2:Int)^(8*4)=4294967296:=by decide
 rw[h3]at h2;unfold nuS;rw[if_neg (by omega),qd (by omega) (by omega)];exact⟨rfl,rfl⟩
theorem qjg.c{K:Ending->World->Prop}(h:St F0 w0 w ps)[PkF brA rb ps (xs,at',err) rest](hx:qxl xs)
 (hk:∀w',St F0 w0 w' (brA rb (xs,(nuS xs at' err 4).2)::rest)->K (.returned (.int .i64 (nuS xs at' err 4).1)) w'):Calls prog 55 ⟨[.pointer (some ⟨rb,0,none⟩)]⟩ w K:=by
 refine qdc (qjg.ok _ _ _ ?_)
 unfold qjg
 obtain⟨e1,e2⟩:=qgjb (at':=at') (err:=err) hx (show 4<=4 by decide)
 refine qvb.c (n:=4) h λw h=>⟨_,rfl,?_⟩
 rw[<-e2]at h
 rw[e1]
 exact hk w h
theorem qfh.c{n:Int}{K:Ending->World->Prop}(h:St F0 w0 w ps)[PkF brA rb ps (xs,at',err) rest]
 (hk:∀s' w',St F0 w0 w' (rdA 1 s' (u8s (tkS xs at' err n).1)::brA rb (xs,(tkS xs at' err n).2)::rest)->K (.returned (.slice s'.a s'.len s'.cap)) w'):Calls prog 54 ⟨[.pointer (some ⟨rb,0,none⟩),.int .i64 n]⟩ w K:=by
 refine qdc (qfh.ok _ _ _ _ ?_)
 unfold qfh
 obtain⟨s,h1,h2,h3,h4,h5,h⟩:=qbub (rb:=rb) h
 refine qnd.r h (by omega) h2 (by omega) (λm w e1 e2 e3 g=>⟨⟨_,_,_⟩,rfl,?_⟩) (λw hn h=>⟨⟨none,0,0⟩,rfl,?_⟩)
 ·subst e2 e1
  have h:=g
  have et:tkS xs at' 0 m=((xs.drop at').take m,at'+m,0):=by unfold tkS;rw[if_pos ⟨rfl,by omega,by omega⟩,toNat_natCast]
  rw[et]at hk
  have hr:=(h.cutR s at' (at'+m) (s.cap-at') (ys:=(xs.drop at').take m) (by omega) (by omega) h2 (by rw[show at'+m-at'=m by omega])).rd h
  refine qhd.c h hr (by simp;omega) λs1 w h=>⟨s1,rfl,?_⟩
  refine qad.c h.ro (h.cap (by decide)) λs2 _ _ h=>⟨s2,rfl,?_⟩
  exact hk s2 w (h.tail λ_ _ _ h=>qplb (by omega) h2 h4 h5 h)
 ·have et:tkS xs at' err n=([],at',if err=0 then 3 else err):=by unfold tkS;rw[if_neg (by omega)]
  rw[et]at hk
  refine qhd.c (s:=⟨none,0,0⟩) (xs:=[]) h ((Rdb.nil 0).rd h) (by simp) λs1 w h=>⟨s1,rfl,?_⟩
  refine qad.c h.ro (h.cap (by decide)) λs2 _ _ h=>⟨s2,rfl,?_⟩
  exact hk s2 w (h.tail λ_ _ _ h=>qplb h1 h2 h4 h5 h)
def brR(rb:Nat)(x:Sl×Nat×Int):As:=qqb rb [.slice x.1.a x.1.len x.1.cap,.int .i64 (x.2.1:Int),.int .i64 x.2.2]
theorem brR_o{s:Sl}(h:St F0 w0 w ps)[PkF brR rb ps (s,at',err) rest]:St F0 w0 w (qqb rb [.slice s.a s.len s.cap,.int .i64 (at':Int),.int .i64 err]::rest):=h.toF brR rb
theorem qxe.c{s:Sl}{n:Int}{K:Ending->World->Prop}(h:St F0 w0 w ps)[PkF brR rb ps (s,at',err) rest][Rdb F0 w0 s rest 1 (u8s xs)](ha:at'<=xs.length)(hL:xs.length<=1099511627776)(hc:s.len<=s.cap)
 (hk:∀s' w',St F0 w0 w' (qcc 1 s' (u8s (tkS xs at' err n).1)::brR rb (s,(tkS xs at' err n).2)::rest)->K (.returned (.slice s'.a s'.len s'.cap)) w'):Calls prog 48 ⟨[.pointer (some ⟨rb,0,none⟩),.int .i64 n]⟩ w K:=by
 refine qdc (qxe.ok _ _ _ _ ?_)
 unfold qxe
 have h:=brR_o (rb:=rb) h
 have hl:=(h.rdb s).1
 rw[qk]at hl
 have bad:∀(e:Int) w',e=(if err=0 then 3 else err)->¬(err=0/\0<=n/\n<=(xs.length:Int)-at')->St F0 w0 w' (qqb rb [.slice s.a s.len s.cap,.int .i64 (at':Int),.int .i64 e]::rest)->K (.returned (.slice none 0 0)) w':=by
  intro e w e1 hn h;subst e1;have et:tkS xs at' err n=([],at',if err=0 then 3 else err):=by unfold tkS;rw[if_neg (by omega)]
  rw[et]at hk;exact hk ⟨none,0,0⟩ w (h.nil 1)
 refine qkd (h.fI (qye (λg=>?_) (λg=>?_)))
 ·have g:err≠0:=by simpa using g
  exact bad err w (by rw[if_neg g]) (λe=>g e.1) h
 ·have g:err=0:=by simpa using g
  subst g
  refine h.drewK λw h=>?_
  refine quc (λg=>?_) (λg=>?_)
  ·refine qkd (h.fst trivial λw h=>?_)
   exact bad 3 w rfl (by omega) h
  refine qkd (h.fL (qkd (h.fI ?_)))
  refine qm (qd (by simp only;omega) (by simp only;omega)) ?_
  refine quc (λg2=>?_) (λg2=>?_)
  ·simp only at g2
   refine qkd (h.fst trivial λw h=>?_)
   exact bad 3 w rfl (by omega) h
  ·simp only at g2
   obtain⟨m,rfl⟩:∃m:Nat,n=m:=⟨n.toNat,by omega⟩
   refine h.drewK λw h=>?_
   refine qkd (h.fL (qkd (h.fI (qkd (h.fI ?_)))))
   refine qm (qd (by omega) (by omega)) ?_
   refine qkn (n:=at'+m) (by omega) (by simp only;omega) ?_
   refine qkn (n:=at') (by omega) (by omega) (qbe ?_)
   have et:tkS xs at' 0 m=((xs.drop at').take m,at'+m,0):=by unfold tkS;rw[if_pos ⟨rfl,by omega,by omega⟩,toNat_natCast]
   rw[et]at hk
   haveI:=h.cutR s at' (at'+m) (s.cap-at') (ys:=(xs.drop at').take m) (by omega) (by omega) hc (by rw[show at'+m-at'=m by omega])
   refine h.clone (k:= .u8) (s2:=⟨qnf s.a s.cap at' 1,at'+m-at',s.cap-at'⟩) (ys:=(xs.drop at').take m) (by simp;omega) λs1 w h=>?_
   refine qkd (h.fI ?_)
   refine qm (qd (by omega) (by omega)) ?_
   refine qkd (h.fst trivial λw h=>?_)
   have h:=h.at1
   rw[<-Int.natCast_add]at h
   exact hk s1 w h
theorem qab.c{s:Sl}{n:Nat}{K:Ending->World->Prop}(hx:qxl xs)(hn:n<=8)(h:St F0 w0 w ps)[PkF brR rb ps (s,at',err) rest][Rdb F0 w0 s rest 1 (u8s xs)](ha:at'<=xs.length)(hL:xs.length<=1099511627776)(hc:s.len<=s.cap)
 (hk:∀w',St F0 w0 w' (brR rb (s,(nuS xs at' err n).2)::rest)->K (.returned (.int .i64 (nuS xs at' err n).1)) w'):Calls prog 26 ⟨[.pointer (some ⟨rb,0,none⟩),.int .i64 (n:Int)]⟩ w K:=by
 refine qdc (qab.ok _ _ _ _ ?_)
 unfold qab qab.j1
 have h:=brR_o (rb:=rb) h
 have h:St F0 w0 w (brR rb (s,at',err)::rest):=h
 have hh:St F0 w0 w (qqb rb [.slice s.a s.len s.cap,.int .i64 (at':Int),.int .i64 err]::rest):=h
 refine qkd (hh.fI ?_)
 refine qxe.c (xs:=xs) (n:=n) h ha hL hc λs1 w h=>⟨s1,rfl,?_⟩
 have hok:=qqpb hx at' err n
 have hb:=qulb hok.1 (n:=8) (by omega)
 have h3:(2:Int)^(8*8)=18446744073709551616:=by decide
 rw[h3]at hb
 unfold nuS at hk
 generalize tkS xs at' err n=t at h hok hb hk
 obtain⟨ys,at2,err2⟩:=t
 simp only at h hok hb hk
 unfold qab.j2 qab.j4
 have hl:=h.len
 rw[qk]at hl
 refine qug (λ(i:Nat) (v i':Int) w'=>i'=i/\i<=ys.length/\v=u64.wrap (be (ys.take i))/\St F0 w0 w' (qcc 1 s1 (u8s ys)::brR rb (s,at2,err2)::rest)) (λi=>ys.length-i) 0 ⟨rfl,by omega,rfl,h⟩ ?_
 clear h
 rintro i v i' w I μ ⟨rfl,hi,rfl,h⟩ hin
 unfold qab.b1
 refine quc (λg=>?_) (λg=>?_)
 ·have hiy:i<ys.length:=by omega
  have hcc:=qkr hok.1 hiy
  refine⟨by decide,qbe ?_⟩
  refine h.lx i rfl hiy ?_
  refine qm (show u64.wrap (ys.getD i 0)=ys.getD i 0 by rw[qgh];omega) ?_
  refine qm (qvlb .u64 rfl 0 _ _ hcc) ?_
  rw[<-qpz hiy]
  refine qm (qd (by omega) (by omega)) ?_
  exact⟨⟨rfl,rfl,rfl⟩,hin (i+1) _ _ _ ⟨by omega,by omega,rfl,h⟩ (by omega)⟩
 ·have:i=ys.length:=by omega
  subst this
  rw[take_length]
  have ew:u64.wrap (be ys)=be ys:=by rw[qgh];omega
  rw[ew]
  unfold qab.j3
  have h:St F0 w0 w (qqb rb [.slice s.a s.len s.cap,.int .i64 (at2:Int),.int .i64 err2]::rest):=h.drop
  refine quc (λg=>?_) (λg=>?_)
  ·rw[if_pos (by omega)]at hk
   refine qkd (h.fst trivial λw h=>?_)
   refine qkd (h.fst trivial λw h=>?_)
   exact hk w h
  ·rw[if_neg (by omega)]at hk
   refine qm (qd (by omega) (by omega)) ?_
   exact hk w h
end
end
def qqj(u:Nat):List Int:=if h:u=0 then[]else qqj ((u-1)/128)++[(((u-1)%128+128:Nat):Int)]
termination_by u
decreasing_by omega
def qng(v:Nat):List Int:=qqj (v/128)++[((v%128:Nat):Int)]
def ended(l:List Int):Prop:=∃i x,l=i++[x]/\x<128/\∀y∈i,128<=y
theorem qzib(u:Nat):∀y∈qqj u,128<=y:=by
 induction u using qqj.induct with
 |case1=>rw[qqj,dif_pos rfl];simp
 |case2 u h ih=>
  rw[qqj,dif_neg h];intro y hy;rcases mem_append.1 hy with hy|hy
  ·exact ih y hy
  ·have:=mem_singleton.1 hy;omega
theorem qwpb(v:Nat):ended (qng v):=⟨_,_,rfl,by omega,qzib _⟩
theorem qsi(u:Nat):(qqj u).length=if u=0 then 0 else(qqj ((u-1)/128)).length+1:=by
 conv=>lhs;rw[qqj]
 split<;>simp
def qtrb:Nat->Int->List Int->Int×Int×Int
 |i,_,[]=>if 9<=i then(0,0,5)else(0,0,3)
 |i,v,c::r=>if i=9 then(0,0,5)else if c<128 then(v+c%128*2^(7*i),i+1,0)else qtrb (i+1) (v+c%128*2^(7*i)) r
def qjj:Nat->Int->List Int->Int×Int×Int
 |i,_,[]=>if 8<=i then(0,0,5)else(0,0,3)
 |i,v,c::r=>if i=8 then(0,0,5)else
  if c<128 then((if 0<i then(v+1)*128 else v)+c%128,i+1,0)else qjj (i+1) ((if 0<i then(v+1)*128 else v)+c%128) r
theorem qbjb(t:List Int):∀(u:Nat),(qqj u).length<=7->qjj 0 0 (qqj u++t)=qjj (qqj u).length (if u=0 then 0 else(u:Int)-1) t:=by
 intro u;induction u using qqj.induct generalizing t with
 |case1=>intro _;rw[qqj,dif_pos rfl];rfl
 |case2 u h ih=>
  intro hl;rw[qsi,if_neg h]at hl|-
  rw[qqj,dif_neg h,append_assoc,ih _ (by omega),List.singleton_append,qjj,if_neg (by omega),if_neg (by omega)];congr 1;rw[if_neg h];by_cases h0:(u-1)/128=0
  ·have:(qqj ((u-1)/128)).length=0:=by rw[h0,qsi,if_pos rfl]
   rw[this,if_neg (by omega),if_pos h0];omega
  ·have:0<(qqj ((u-1)/128)).length:=by rw[qsi,if_neg h0];omega
   rw[if_pos this,if_neg h0];omega
theorem qxv(t:List Int)(v:Nat)(h:(qng v).length<=8):qjj 0 0 (qng v++t)=((v:Int),((qng v).length:Int),0):=by
 have hl:(qng v).length=(qqj (v/128)).length+1:=by simp[qng]
 rw[hl]at h|-
 rw[qng,append_assoc,qbjb _ _ (by omega),List.singleton_append,qjj,if_neg (by omega),if_pos (by omega)];refine Prod.ext ?_ (Prod.ext rfl rfl);by_cases h0:v/128=0
 ·have:(qqj (v/128)).length=0:=by rw[h0,qsi,if_pos rfl]
  show(if 0<(qqj (v/128)).length then((if v/128=0 then(0:Int)else((v/128:Nat):Int)-1)+1)*128 else(if v/128=0 then(0:Int)else((v/128:Nat):Int)-1))+((v%128:Nat):Int)%128=(v:Int);rw[this,if_neg (by omega),if_pos h0];omega
 ·have:0<(qqj (v/128)).length:=by rw[qsi,if_neg h0];omega
  simp only[this,h0,if_true,if_false];omega
theorem qys:∀(n u:Nat),u<128^n->(qqj u).length<=n:=by
 intro n;induction n with
 |zero=>intro u h;rw[qsi,if_pos (by omega)];omega
 |succ n ih=>
  intro u h;rw[qsi];split
  ·omega
  ·have:=ih ((u-1)/128) (by rw[pow_succ]at h;omega);omega
section
attribute [local irreducible] apK cpK mkK
theorem qpw{k:IntKind}(hk:7<k.bits)(x:Int):qdj k x 127=x%128:=by
 have h:=qsk k x hk;rw[show(2:Int)^7-1=127 by decide,show(2:Int)^7=128 by decide]at h;exact h
theorem or128{x:Int}(h:0<=x/\x<128):orV .i64 x 128=x+128:=by
 obtain⟨n,rfl⟩:∃n:Nat,x=n:=⟨x.toNat,by omega⟩;have e:=qvr .i64 (a:=n) (b:=1) (t:=7) (by omega) (by show n+1*2^7<2^63;omega);rw[show((1:Nat):Int)*2^7=128 by decide]at e;exact e
theorem shr7(n:Nat):qal .i64 (n:Int) 7=((n/128:Nat):Int):=by
 have h:=qmi .i64 (n:Int) (t:=7) (by decide);rw[show(2:Int)^7=128 by decide]at h;rw[Int.natCast_ediv];exact h
section
variable {F0:List Nat}{w0 w:World}{ps rest:List As}{xs:List Int}
theorem qhd.d{s:Sl}{K:Ending->World->Prop}(h:St F0 w0 w ps)[Rdb F0 w0 s ps 1 (u8s xs)](hlen:xs.length<=35184372088832)
 (hk:∀s' w',St F0 w0 w' (qcc 1 s' (u8s xs)::ps)->K (.returned (.slice s'.a s'.len s'.cap)) w'):Calls prog 61 ⟨[.slice s.a s.len s.cap]⟩ w K:=
 qhd.c h (h.rdb s) hlen hk
theorem qad.d{s:Sl}{ys:List Int}{K:Ending->World->Prop}(h:St F0 w0 w (qcc 1 s (u8s ys)::ps))
 (hk:∀s':Sl,s'.len=ys.length->s'.cap=s'.len->St F0 w0 w (rdA 1 s' (u8s ys)::ps)->K (.returned (.slice s'.a s'.len s'.cap)) w):Calls prog 20 ⟨[.slice s.a s.len s.cap]⟩ w K:=by
 have hl:=h.len
 rw[qk]at hl
 exact qad.c h.ro (h.cap (by decide)) λs' h1 h2 h=>hk s' (by omega) (by omega) h
theorem qpc.c{s:Sl}{K:Ending->World->Prop}(h:St F0 w0 w ps)[Rdb F0 w0 s ps 1 (u8s xs)](hx:qxl xs)(hL:xs.length<=1000000000)
 (hk:∀w',St F0 w0 w' ps->K (.returned (.tuple ⟨[.int .i64 (qjj 0 0 xs).1,.int .i64 (qjj 0 0 xs).2.1,.int .i64 (qjj 0 0 xs).2.2]⟩)) w'):
 Calls prog 114 ⟨[.slice s.a s.len s.cap]⟩ w K:=by
 refine qdc (qpc.ok _ _ _ ?_)
 unfold qpc qpc.j1 qpc.j3
 have hl:=(h.rdb s).1
 rw[qk]at hl
 refine qug (λ(i:Nat) (v i':Int) w'=>i'=i/\i<=xs.length/\i<=8/\0<=v/\(i=0->v=0)/\(0<i->v*128+384<=130*128^i)/\qjj i v (xs.drop i)=qjj 0 0 xs/\St F0 w0 w' ps) (λi=>xs.length-i) 0 ⟨rfl,by omega,by omega,by omega,λ_=>rfl,λg=>by omega,rfl,h⟩ ?_
 clear h
 rintro i v i' w I μ ⟨rfl,hi,hi9,hv0,hz,hv1,hd,h⟩ hin
 unfold qpc.b1
 refine quc (λg=>?_) (λg=>?_)
 ·have hix:i<xs.length:=by omega
  have hc:=qkr hx hix
  have ed:xs.drop i=xs.getD i 0::xs.drop (i+1):=by
   rw[List.drop_eq_getElem_cons hix];simp[getD,getElem?_eq_getElem hix]
  unfold qpc.j4
  refine h.lx i rfl hix ?_
  rw[ed]at hd
  generalize xs.getD i 0=c at hc hd|-
  rw[qjj]at hd
  unfold qpc.j6
  refine qye (λg2=>?_) (λg2=>?_)
  ·have:i=8:=by have:(i:Int)=8:=by simpa using g2
                omega
   rw[if_pos this]at hd
   rw[<-hd]at hk
   exact hk w h
  ·have:i≠8:=by have:¬(i:Int)=8:=by simpa using g2
                omega
   rw[if_neg this]at hd
   have hP:(128:Int)^i<=128^7:=by exact_mod_cast pow_le_pow_right (by decide) (show i<=7 by omega)
   rw[show(128:Int)^7=562949953421312 by decide]at hP
   have hP0:(0:Int)<128^i:=pow_pos (by decide)
   have hP1:(128:Int)^(i+1)=128*128^i:=by rw[Int.pow_succ,Int.mul_comm]
   have end7:∀u:Int,0<=u->u<=1000000000000000->(if 0<i then(v+1)*128 else v)=u*128->(0<i->u=v+1)->qpc.j7 s (u*128) (i:Int) c s ((s.len:Nat):Int) (i:Int) (λv w'=>K (.returned v) w') (λb_0' t7' t8' v_2' t9' w'=>(b_0'=s/\t7'=s/\t8'=((s.len:Nat):Int))/\I v_2' t9' w'/\μ v_2' t9' w'<μ v i w) w:=by
    intro u hu0 hu1 hu2 hu3;rw[hu2]at hd;obtain⟨u,rfl⟩:∃t:Nat,u=t:=⟨u.toNat,by omega⟩;obtain⟨m,hm⟩:∃m:Nat,c%128=m:=⟨(c%128).toNat,by omega⟩;rw[hm]at hd;unfold qpc.j7;refine qm (qpw (by decide) _) ?_;refine qm (qd (by omega) (by omega)) ?_;rw[hm];have eo:=qbr .i64 (a:=m) (b:=u) (t:=7) (by omega) (by show m+u*2^7<2^63;omega);rw[show(2:Int)^7=128 by decide]at eo;refine qm eo ?_;rw[Int.add_comm (m:Int)];refine quc (λg3=>?_) (λg3=>?_)
    ·rw[if_pos g3]at hd;refine qm (qd (by omega) (by omega)) ?_;rw[<-hd]at hk;exact hk w h
    ·rw[if_neg g3]at hd;unfold qpc.j5;refine qm (qd (by omega) (by omega)) ?_;refine⟨⟨rfl,rfl,rfl⟩,hin (i+1) _ _ _ ⟨by omega,by omega,by omega,by omega,by omega,λ_=>?_,hd,h⟩ (by omega)⟩;by_cases h0:0<i
     ·have h5:=hv1 h0;have h6:=hu3 h0;omega
     ·have h1:i=0:=by omega
      have h2:=hz h1;rw[if_neg h0]at hu2;subst h1;rw[hP1];simp only[Int.pow_zero]at hP|-
      omega
   refine quc (λg3=>?_) (λg3=>?_)
   ·have h0:0<i:=by omega
    have h5:=hv1 h0
    refine qm (qd (by omega) (by omega)) ?_
    refine⟨by decide,?_⟩
    have es:=qmj .i64 (x:=v+1) (t:=7) (by decide) (by omega) (by rw[show(2:Int)^(i64.bits-1)=9223372036854775808 by decide,show(2:Int)^7=128 by decide];omega)
    rw[show(2:Int)^7=128 by decide]at es
    refine qm es ?_
    exact end7 (v+1) (by omega) (by omega) (by rw[if_pos h0]) (λ_=>rfl)
   ·have h0:i=0:=by omega
    have:=end7 0 (by omega) (by omega) (by rw[if_neg (by omega),hz h0];rfl) (λg=>by omega)
    rw[show(0:Int)*128=v by rw[hz h0];rfl]at this
    exact this
 ·have:i=xs.length:=by omega
  subst this
  rw[List.drop_length,qjj]at hd
  unfold qpc.j2
  rw[<-hd]at hk
  refine quc (λg=>?_) (λg=>?_)
  ·rw[if_pos (by omega)]at hk
   exact hk w h
  ·rw[if_neg (by omega)]at hk
   exact hk w h
def rvL(xs:List Int)(i:Nat):List Int:=(range xs.length).map λj=>if j<i\/xs.length-i<=j then xs.getD (xs.length-1-j) 0 else xs.getD j 0
theorem qqh(xs:List Int)(i:Nat):(rvL xs i).length=xs.length:=by simp[rvL]
theorem qlp(xs:List Int)(i:Nat){j:Nat}(h:j<xs.length):(rvL xs i).getD j 0=if j<i\/xs.length-i<=j then xs.getD (xs.length-1-j) 0 else xs.getD j 0:=by
 unfold rvL;rw[getD_eq_getElem?_getD,getElem?_map,getElem?_range h];rfl
theorem qmy{l m:List Int}(hl:l.length=m.length)(h:∀j,j<l.length->l.getD j 0=m.getD j 0):l=m:=by
 apply ext_getElem hl;intro j h1 h2;have:=h j h1;simpa [getD,getElem?_eq_getElem h1,getElem?_eq_getElem h2]using this
theorem qveb{l:List Int}{i j:Nat}{v:Int}(h:i<l.length):(l.set i v).getD j 0=if i=j then v else l.getD j 0:=by
 rw[getD_eq_getElem?_getD,List.getElem?_set];split
 ·rename_i e;subst e;simp[h]
 ·rw[getD_eq_getElem?_getD]
theorem qdnb(xs:List Int):rvL xs 0=xs:=qmy (qqh xs 0) λj h=>by
 rw[qqh]at h;rw[qlp xs 0 h,if_neg (by omega)]
theorem qlab{xs:List Int}{j:Nat}(h:j<xs.length):xs.reverse.getD j 0=xs.getD (xs.length-1-j) 0:=by
 rw[getD_eq_getElem?_getD,List.getElem?_reverse h,getD_eq_getElem?_getD]
theorem qxrb{xs:List Int}{i:Nat}(h:xs.length-1<=2*i)(h2:2*i<=xs.length+1):rvL xs i=xs.reverse:=qmy (by rw[qqh,List.length_reverse]) λj hj=>by
 rw[qqh]at hj;rw[qlp xs i hj,qlab hj];split
 ·rfl
 ·congr 1;omega
theorem qenb{xs:List Int}{i:Nat}(h:i<xs.length-1-i):((rvL xs i).set i ((rvL xs i).getD (xs.length-1-i) 0)).set (xs.length-1-i) ((rvL xs i).getD i 0)=rvL xs (i+1):=qmy (by simp[rvL]) λj hj=>by
 simp only[length_set,qqh]at hj;have e1:(rvL xs i).getD (xs.length-1-i) 0=xs.getD (xs.length-1-i) 0:=by rw[qlp xs i (by omega),if_neg (by omega)]
 have e2:(rvL xs i).getD i 0=xs.getD i 0:=by rw[qlp xs i (by omega),if_neg (by omega)]
 rw[qveb (by rw[length_set,qqh];omega),qveb (by rw[qqh];omega),e1,e2,qlp xs i hj,qlp xs (i+1) hj];by_cases h1:xs.length-1-i=j
 ·rw[if_pos h1,if_pos (by omega)];congr 1;omega
 ·rw[if_neg h1];by_cases h2:i=j
  ·rw[if_pos h2,if_pos (by omega)];congr 1;omega
  ·rw[if_neg h2];by_cases h3:j<i\/xs.length-i<=j
   ·rw[if_pos h3,if_pos (by omega)]
   ·rw[if_neg h3,if_neg (by omega)]
theorem qvc.c{s:Sl}{K:Ending->World->Prop}(h:St F0 w0 w ps)[PkO s ps 1 (u8s xs) rest](hL:xs.length<=1000000000000)
 (hk:∀w',St F0 w0 w' (qcc 1 s (u8s xs.reverse)::rest)->K (.returned (.tuple ⟨[]⟩)) w'):Calls prog 62 ⟨[.slice s.a s.len s.cap]⟩ w K:=by
 refine qdc (qvc.ok _ _ _ ?_)
 unfold qvc
 have h:=h.toO s
 have hl:=h.len
 rw[qk]at hl
 refine qm (qd (by omega) (by omega)) ?_
 unfold qvc.j1
 refine qug (λ(i:Nat) (i' j':Int) w'=>i'=i/\j'=(xs.length:Int)-1-i/\2*i<=xs.length+1/\St F0 w0 w' (qcc 1 s (u8s (rvL xs i))::rest)) (λi=>xs.length-i) 0 ⟨rfl,by omega,by omega,by rw[qdnb];exact h⟩ ?_
 clear h
 rintro i i' j' w I μ ⟨rfl,rfl,hi,h⟩ hin
 unfold qvc.b1
 refine quc (λg=>?_) (λg=>?_)
 ·have hlt:i<xs.length-1-i:=by omega
  refine h.drewK λw h=>?_
  refine h.lx (xs.length-1-i) (by omega) (by rw[qqh];omega) ?_
  refine h.lx i rfl (by rw[qqh];omega) ?_
  refine h.sx i rfl (by rw[qqh];omega) λw h=>?_
  refine h.sx (xs.length-1-i) (by omega) (by rw[length_set,qqh];omega) λw h=>?_
  refine qm (qd (by omega) (by omega)) ?_
  refine qm (qd (by omega) (by omega)) ?_
  rw[qenb hlt]at h
  exact⟨rfl,hin (i+1) _ _ _ ⟨by omega,by omega,by omega,h⟩ (by omega)⟩
 ·rw[qxrb (by omega) hi]at h
  exact hk w h
theorem qqc.c{s:Sl}{n:Nat}{K:Ending->World->Prop}(h:St F0 w0 w ps)[Rdb F0 w0 s ps 1 (u8s xs)](hL:xs.length<=1000000000)(hn:n<9223372036854775808)
 (hk:∀s' w',s'.len=xs.length+(qng n).length->s'.cap=s'.len->St F0 w0 w' (rdA 1 s' (u8s (xs++qng n))::ps)->K (.returned (.slice s'.a s'.len s'.cap)) w'):
 Calls prog 40 ⟨[.slice s.a s.len s.cap,.int .i64 (n:Int)]⟩ w K:=by
 refine qdc (qqc.ok _ _ _ _ ?_)
 unfold qqc qqc.j1
 refine qhd.d h (by omega) λs1 w h=>⟨s1,rfl,?_⟩
 refine quc (λg=>by omega) λ_=>?_
 refine qm (qpw (by decide) _) ?_
 refine qm (show IntKind.u8.wrap ((n:Int)%128)=((n%128:Nat):Int)by rw[qmk];omega) ?_
 refine h.new λnb w h=>?_
 have h:=h.ownB (n:=1) rfl
 unfold qqc.j2 qqc.j4
 refine⟨by decide,qm (shr7 n) ?_⟩
 have h9:=qys 9 (n/128) (by rw[show(128:Nat)^9=9223372036854775808 by decide];omega)
 refine qug (λ(a:Nat×List Int) (v:Int) (o:Sl) w'=>v=a.1/\a.1<=n/\qqj a.1++a.2.reverse=qqj (n/128)/\St F0 w0 w' (qcc 1 o (u8s ([((n%128:Nat):Int)]++a.2))::qcc 1 s1 (u8s xs)::ps)) (λa=>a.1) (n/128,[]) ⟨rfl,by simp only;omega,by simp,by simpa using h⟩ ?_
 clear h
 rintro⟨v,p⟩ v' o w I μ ⟨rfl,hv,hp,h⟩ hin
 simp only at hv hp h hin|-
 have hpl:p.length<=9:=by have:=congrArg length hp;rw[length_append,List.length_reverse]at this;omega
 unfold qqc.b1
 refine quc (λg=>?_) (λg=>?_)
 ·refine qm (show i64.wrap ((v:Int)-1)=((v-1:Nat):Int)by rw[qd (by omega) (by omega)];omega) ?_
  refine qm (qpw (by decide) _) ?_
  refine qm (or128 (by omega)) ?_
  refine qm (show IntKind.u8.wrap (((v-1:Nat):Int)%128+128)=(((v-1)%128+128:Nat):Int)by rw[qmk];omega) ?_
  refine h.pushI (by rw[length_append,length_singleton];omega) λo2 w h=>?_
  refine⟨by decide,qm (shr7 (v-1)) ?_⟩
  refine⟨rfl,hin ((v-1)/128,p++[(((v-1)%128+128:Nat):Int)]) _ _ _ ⟨rfl,by simp only;omega,?_,?_⟩ (by simp only;omega)⟩
  ·rw[<-hp,List.reverse_append]
   conv=>rhs;rw[qqj,dif_neg (by omega),append_assoc]
   rfl
  ·rw[append_assoc]at h
   exact h
 ·have hv0:v=0:=by omega
  subst hv0
  have e0:qqj 0=[]:=by rw[qqj,dif_pos rfl]
  rw[e0,nil_append]at hp
  unfold qqc.j3
  refine qvc.c h (by rw[length_append,length_singleton];omega) λw h=>⟨rfl,?_⟩
  have e:([((n%128:Nat):Int)]++p).reverse=qng n:=by rw[List.reverse_append,hp];rfl
  rw[e]at h
  have hl2:(qng n).length<=10:=by rw[qng,length_append];simp;omega
  refine h.appI (s:=s1) (s2:=o) (by omega) λs2 w h=>?_
  refine qad.d h λs3 h1 h2 h=>⟨s3,rfl,?_⟩
  exact hk s3 w (by rw[h1,length_append]) h2 (h.tail λ_ _ _ h=>h.drop)
end
end
theorem lext{l m:List Int}(hl:l.length=m.length)(h:∀j,j<l.length->l.getD j 0=m.getD j 0):l=m:=by
 apply ext_getElem hl;intro j h1 h2;have:=h j h1;simpa [getD,getElem?_eq_getElem h1,getElem?_eq_getElem h2]using this
theorem qkkb{l:List Int}{i j:Nat}{v:Int}(h:i<l.length):(l.set i v).getD j 0=if i=j then v else l.getD j 0:=by
 rw[getD_eq_getElem?_getD,List.getElem?_set];split
 ·rename_i e;subst e;simp[h]
 ·rw[getD_eq_getElem?_getD]
theorem qpj{xs:List Int}{i:Nat}(h:i<xs.length):xs.take (i+1)=xs.take i++[xs.getD i 0]:=by
 rw[List.take_succ_eq_append_getElem h];simp[getD,getElem?_eq_getElem h]
theorem quu{xs:List Int}{i:Nat}(h:i<xs.length):xs.drop i=xs.getD i 0::xs.drop (i+1):=by
 rw[List.drop_eq_getElem_cons h];simp[getD,getElem?_eq_getElem h]
theorem qme{xs:List Int}{i:Nat}(h:i<xs.length):xs.getD i 0∈xs:=by simp[getD,getElem?_eq_getElem h]
theorem set_nx{l:List Int}{k i:Nat}{v:Int}(hi:i=l.length)(hk:0<k):(l++replicate k 0).set i v=(l++[v])++replicate (k-1) 0:=by
 subst hi;rw[List.set_append_right _ _ (le_refl _),sub_self];cases k with
 |zero=>omega
 |succ k=>
  rw[List.replicate_succ,List.set_cons_zero,append_assoc];rfl
def qzl(n:Nat)(f:Nat->Int):List Int:=(range n).map f
theorem qod(n:Nat)(f:Nat->Int):(qzl n f).length=n:=by simp[qzl]
theorem qqg{n i:Nat}{f:Nat->Int}(h:i<n):(qzl n f).getD i 0=f i:=by
 unfold qzl;rw[getD_eq_getElem?_getD,getElem?_map,getElem?_range h];rfl
theorem qvd{n:Nat}{f g:Nat->Int}(h:∀i,i<n->f i=g i):qzl n f=qzl n g:=by
 unfold qzl;exact List.map_congr_left λi hi=>h i (List.mem_range.1 hi)
theorem qhl{n i:Nat}{f:Nat->Int}{v:Int}:(qzl n f).set i v=qzl n λm=>if m=i then v else f m:=by
 apply lext
 ·simp[qzl]
 ·intro j hj;rw[length_set,qod]at hj;rw[qqg hj];by_cases hi:i<n
  ·rw[qkkb (by rw[qod];exact hi),qqg hj];by_cases e:i=j
   ·rw[if_pos e,if_pos e.symm]
   ·rw[if_neg e,if_neg λh=>e h.symm]
  ·rw[List.set_eq_of_length_le (by rw[qod];omega),qqg hj,if_neg (by omega)]
theorem qjm(n:Nat):replicate n 0=qzl n λ_=>0:=by
 apply lext
 ·simp[qzl]
 ·intro j hj;have hj:j<n:=by simpa using hj
  rw[qqg hj];simp[getD,List.getElem?_replicate,hj]
section
attribute [local irreducible] apK cpK mkK br
theorem eand15(n:Nat):qdj .i64 (n:Int) 15=((n%16:Nat):Int):=by
 have:=qsk .i64 (n:Int) (t:=4) (by decide);rw[show(2:Int)^4-1=15 by decide,show(2:Int)^4=16 by decide]at this
 rw[this];omega
theorem eshr4(n:Nat):qal .i64 (n:Int) 4=((n/16:Nat):Int):=by
 have:=qmi .i64 (n:Int) (t:=4) (by decide);rw[show(2:Int)^4=16 by decide]at this
 rw[show(4:Int)=((4:Nat):Int)from rfl,this];omega
theorem qmob{k n:Nat}(hk:k<=7):IntKind.u8.wrap (orV .i64 (qzi .i64 (k:Int) 4) (((n%16:Nat):Int)))=((k*16+n%16:Nat):Int):=by
 have h1:=qmj .i64 (x:=(k:Int)) (t:=4) (by decide) (by omega) (by rw[show(2:Int)^4=16 by decide,show(2:Int)^(IntKind.bits .i64-1)=9223372036854775808 by decide];omega);rw[show((4:Nat):Int)=4 from rfl]at h1;have h2:=qbr .i64 (a:=n%16) (b:=k) (t:=4) (by rw[show 2^4=16 by decide];omega) (by rw[show 2^4=16 by decide,show 2^(IntKind.bits .i64-1)=9223372036854775808 by decide];omega);rw[h1,h2,show(2:Int)^4=16 by decide,qmk];omega
theorem eor128{c:Nat}(hc:c<128):orV .u8 (c:Int) 128=((c+128:Nat):Int):=by
 have:=qxs (k:= .u8) rfl (a:=c) (b:=1) (t:=7) (by rw[show 2^7=128 by decide];omega) (by rw[show 2^7=128 by decide,show 2^(IntKind.bits .u8)=256 by decide];omega);rw[show((1:Nat):Int)*2^7=128 by decide]at this
 rw[this];omega
theorem qitb(n:Nat):IntKind.u8.wrap (qdj .i64 (n:Int) 127)=((n%128:Nat):Int):=by
 rw[qpw (by decide),qmk];omega
section
variable {F0:List Nat}{w0 w:World}{ps rest:List As}{s:Sl}{xs tl:List Int}{K:Ending->World->Prop}
theorem qec.bad{k n:Int}(hb:k<1\/7<k\/n<0\/1099511627776<n)(hk:K (.returned (.tuple ⟨[.slice none 0 0,.int .i64 1]⟩)) w):Calls prog 39 ⟨[.slice s.a s.len s.cap,.int .i64 k,.int .i64 n]⟩ w K:=by
 refine qdc (qec.ok _ _ _ _ _ ?_);unfold qec;refine quc (λ_=>hk) λg1=>quc (λ_=>hk) λg2=>quc (λ_=>hk) λg3=>quc (λ_=>hk) λg4=>?_;omega
theorem qec.c{k n:Nat}(h:St F0 w0 w ps)[Rdb F0 w0 s ps 1 (u8s xs)](hL:xs.length<=1000000000)(h1:1<=k)(h7:k<=7)(hn:n<=1099511627776)
 (hk:∀t w',t.len=xs.length+(hdE k n).length->t.cap=t.len->St F0 w0 w' (rdA 1 t (u8s (xs++hdE k n))::ps)->K (.returned (.tuple ⟨[.slice t.a t.len t.cap,.int .i64 0]⟩)) w'):
 Calls prog 39 ⟨[.slice s.a s.len s.cap,.int .i64 (k:Int),.int .i64 (n:Int)]⟩ w K:=by
 have hle:=qas k hn
 refine qdc (qec.ok _ _ _ _ _ ?_)
 unfold qec
 refine quc (λg=>by omega) λ_=>quc (λg=>by omega) λ_=>quc (λg=>by omega) λ_=>quc (λg=>by omega) λ_=>?_
 unfold qec.j1
 refine⟨by decide,qbe (qm (eand15 n) (qbe (qm (qmob h7) ?_)))⟩
 refine qhd.d h (by omega) λs1 w h=>⟨s1,rfl,?_⟩
 unfold qec.j2 qec.j4
 refine⟨by decide,qm (eshr4 n) ?_⟩
 refine loop3 (λ(a:Nat×Nat×List Int) (v c:Int) (o:Sl) w'=>v=a.1/\c=a.2.1/\a.2.1<128/\a.1<=n/\a.2.2++hdF a.2.1 a.1=hdE k n/\St F0 w0 w' (qcc 1 o (u8s (xs++a.2.2))::ps)) (λa=>a.1) (n/16,k*16+n%16,[]) ⟨rfl,rfl,by simp only;omega,by simp only;omega,rfl,by simpa using h⟩ ?_
 clear h
 rintro⟨v,c,p⟩ v' c' o w I μ ⟨rfl,rfl,hc,hv,hp,h⟩ hin
 simp only at hc hv hp h hin|-
 have hpl:p.length<=7:=by have:=congrArg length hp;rw[length_append]at this;omega
 unfold qec.b1
 refine quc (λg=>?_) (λg=>?_)
 ·refine qm (eor128 hc) ?_
  refine h.pushI (by rw[length_append];omega) λo2 w h=>?_
  refine qbe (qm (qitb v) ⟨by decide,qm (shr7 v) ?_⟩)
  refine⟨trivial,hin (v/128,v%128,p++[((c+128:Nat):Int)]) _ _ _ _ ⟨rfl,rfl,by simp only;omega,by simp only;omega,?_,?_⟩ (by simp only;omega)⟩
  ·rw[<-hp,append_assoc,qekb c (s:=v) (by omega)];rfl
  ·rw[append_assoc]at h;exact h
 ·have hv0:v=0:=by omega
  subst hv0
  rw[qpgb]at hp
  unfold qec.j3
  refine h.pushI (by rw[length_append];omega) λo2 w h=>?_
  rw[append_assoc,hp]at h
  refine qad.d h λs2 h1 h2 h=>⟨s2,rfl,?_⟩
  exact hk s2 w (by rw[h1,length_append]) h2 h
end
theorem qzpb{c:Nat}:i64.wrap (qdj .u8 (qal .u8 (c:Int) 4) 7)=((c/16%8:Nat):Int):=by
 have h1:=qmi .u8 (c:Int) (t:=4) (by decide);rw[show(2:Int)^4=16 by decide,show((4:Nat):Int)=4 from rfl]at h1;have h2:=qsk .u8 ((c:Int)/16) (t:=3) (by decide);rw[show(2:Int)^3-1=7 by decide,show(2:Int)^3=8 by decide]at h2;rw[h1,h2,qd (by omega) (by omega)];omega
theorem qvkb{c:Nat}:i64.wrap (qdj .u8 (c:Int) 15)=((c%16:Nat):Int):=by
 have h2:=qsk .u8 (c:Int) (t:=4) (by decide);rw[show(2:Int)^4-1=15 by decide,show(2:Int)^4=16 by decide]at h2;rw[h2,qd (by omega) (by omega)];omega
theorem qafb{c:Nat}:i64.wrap (qdj .u8 (c:Int) 127)=((c%128:Nat):Int):=by
 rw[qpw (by decide),qd (by omega) (by omega)];omega
theorem hd_or{a b t P:Nat}(hP:P=2^t)(ha:a<P)(ht:t<=60)(hs:a+b*P<9223372036854775808):orV .i64 (a:Int) (qzi .i64 (b:Int) (t:Int))=((a+b*P:Nat):Int):=by
 subst hP;have e:(2:Int)^t=((2^t:Nat):Int):=by simp
 have h1:=qmj .i64 (x:=(b:Int)) (t:=t) (by show t<=64;omega) (by omega) (by rw[e,show(2:Int)^(IntKind.bits .i64-1)=9223372036854775808 by decide];have:0<=a:=by omega
                                                                            omega)
 have h2:=qvr .i64 (a:=a) (b:=b) (t:=t) ha (by rw[show 2^(IntKind.bits .i64-1)=9223372036854775808 by decide];exact hs);rw[h1,h2,e];omega
def HdAt(k n:Nat)(tl:List Int)(i size:Nat)(r:List Int):Prop:=i<=6/\∃s,s≠0/\r=hdF (s%128) (s/128)++tl/\size<2^(4+7*(i-1))/\size+s*2^(4+7*(i-1))=n
theorem qhy{k n i size:Nat}{tl r:List Int}(hn:n<=1099511627776)(hi:1<=i)(h:HdAt k n tl i size r):
 ∃(c:Nat) (r':List Int),r=(c:Int)::r'/\c<256/\orV .i64 (size:Int) (qzi .i64 ((c%128:Nat):Int) ((4+7*(i-1):Nat):Int))=((size+c%128*2^(4+7*(i-1)):Nat):Int)/\
  ((c<128/\r'=tl/\size+c%128*2^(4+7*(i-1))=n)\/(128<=c/\HdAt k n tl (i+1) (size+c%128*2^(4+7*(i-1))) r')):=by
 obtain⟨hi6,s,hs,hr,h1,h2⟩:=h
 have hP:∃P,P=2^(4+7*(i-1))/\16<=P/\(128*P)=2^(4+7*(i+1-1))/\(i=6->P=549755813888):=by
  refine⟨_,rfl,?_,?_,?_⟩
  ·have:2^4<=2^(4+7*(i-1)):=pow_le_pow_right (by decide) (by omega);simpa using this
  ·rw[show 4+7*(i+1-1)=(4+7*(i-1))+7 by omega,Nat.pow_add _ (4+7*(i-1)) 7];omega
  ·intro e;subst e;decide
 obtain⟨P,e,hP16,hP7,hP6⟩:=hP
 rw[<-e]at h1 h2
 rw[<-e]
 have hm:s*P=s%128*P+s/128*(128*P):=by
  have:s=s%128+128*(s/128):=by omega
  conv=>lhs;rw[this,add_mul]
  rw[mul_comm 128 (s/128),Nat.mul_assoc]
 have hcP:s%128*P<=127*P:=Nat.mul_le_mul_right _ (by omega)
 by_cases h0:s/128=0
 ·refine⟨s%128,tl,by rw[hr,h0,qpgb];rfl,by omega,?_,Or.inl ⟨by omega,rfl,?_⟩⟩
  ·rw[Nat.mod_mod]
   refine hd_or e h1 (by omega) ?_
   have:s/128*(128*P)=0:=by rw[h0];simp
   omega
  ·rw[Nat.mod_mod]
   have:s/128*(128*P)=0:=by rw[h0];simp
   omega
 ·have hge:1*(128*P)<=s/128*(128*P):=Nat.mul_le_mul_right _ (by omega)
  have hi5:i<=5:=by
   rcases lt_or_ge 5 i with g|g
   ·have:=hP6 (by omega);omega
   ·exact g
  have e1:(s%128+128)%128=s%128:=by omega
  refine⟨s%128+128,hdF (s/128%128) (s/128/128)++tl,by rw[hr,qekb _ h0];rfl,by omega,?_,Or.inr ⟨by omega,by omega,s/128,h0,rfl,?_,?_⟩⟩
  ·rw[e1]
   refine hd_or e h1 (by omega) (by omega)
  ·rw[e1,<-hP7];omega
  ·rw[e1,<-hP7];omega
theorem qdkb{k n:Nat}(hk:k<=7)(hn:n<=1099511627776)(tl:List Int):∃(c:Nat) (r':List Int),hdE k n++tl=(c:Int)::r'/\c<256/\c/16%8=k/\c%16=n%16/\((c<128/\r'=tl/\n%16=n)\/(128<=c/\HdAt k n tl 1 (n%16) r')):=by
 by_cases h0:n/16=0
 ·exact⟨k*16+n%16,tl,by rw[hdE,h0,qpgb];rfl,by omega,by omega,by omega,Or.inl ⟨by omega,rfl,by omega⟩⟩
 ·refine⟨k*16+n%16+128,hdF (n/16%128) (n/16/128)++tl,by rw[hdE,qekb _ h0];rfl,by omega,by omega,by omega,Or.inr ⟨by omega,by omega,n/16,h0,rfl,?_,?_⟩⟩
  ·show n%16<16;omega
  ·show n%16+n/16*16=n;omega
theorem qxk{xs r:List Int}{i:Nat}{c:Int}(h:xs.drop i=c::r):i<xs.length/\xs.getD i 0=c/\xs.drop (i+1)=r:=by
 have hi:i<xs.length:=by
  rcases lt_or_ge i xs.length with g|g
  ·exact g
  ·rw[List.drop_eq_nil_of_le g]at h;cases h
 rw[quu hi]at h;injection h with h1 h2;exact⟨hi,h1,h2⟩
theorem qbt{xs tl:List Int}{i:Nat}(h:xs.drop (i+1)=tl)(hi:i<xs.length):i+1=xs.length-tl.length:=by
 have:=congrArg length h;rw[List.length_drop]at this
 omega
section
variable {F0:List Nat}{w0 w:World}{ps rest:List As}{s:Sl}{tl:List Int}{K:Ending->World->Prop}
theorem qoc.c{k n:Nat}(h:St F0 w0 w ps)[Rdb F0 w0 s ps 1 (u8s (hdE k n++tl))](hk7:k<=7)(hn:n<=1099511627776)(hL:tl.length<=1000000000)
 (hk:∀w',St F0 w0 w' ps->K (.returned (.tuple ⟨[.int .i64 (k:Int),.int .i64 (n:Int),.int .i64 ((hdE k n).length:Int),.int .i64 0]⟩)) w'):Calls prog 86 ⟨[.slice s.a s.len s.cap]⟩ w K:=by
 have hl:=(h.rdb s).1
 rw[qk,Nat.mul_one]at hl
 have hle:=qas k hn
 obtain⟨c0,r0,e0,hc0,hk0,hm0,hor⟩:=qdkb hk7 hn tl
 have hxl:(hdE k n++tl).length-tl.length=(hdE k n).length:=by rw[length_append];omega
 generalize hX:hdE k n++tl=X at*
 refine qdc (qoc.ok _ _ _ ?_)
 unfold qoc qoc.j1 qoc.j3
 refine loop3 (λ(i:Nat) (kd sz:Int) (i':Int) w'=>i'=i/\(i=0\/1<=i/\kd=(k:Int)/\∃size:Nat,sz=(size:Int)/\HdAt k n tl i size (X.drop i))/\St F0 w0 w' ps) (λi=>10-i) 0 ⟨rfl,Or.inl rfl,h⟩ ?_
 clear h
 rintro i kd sz i' w I μ ⟨rfl,hcase,h⟩ hin
 unfold qoc.b1
 have hget:∃(c:Nat),i<X.length/\X.getD i 0=(c:Int)/\c<256/\i<=6:=by
  rcases hcase with rfl|⟨h1,rfl,size,rfl,hat⟩
  ·have:=qxk (xs:=X) (i:=0) (by rw[drop_zero];exact e0);exact⟨c0,this.1,this.2.1,hc0,by omega⟩
  ·obtain⟨c,r',e,hc,_⟩:=qhy hn h1 hat;have:=qxk e;exact⟨c,this.1,this.2.1,hc,hat.1⟩
 obtain⟨c,hi,hgc,hc,hi6⟩:=hget
 refine quc (λg=>?_) (λg=>by omega)
 unfold qoc.j4
 refine h.lx (s:=s) i rfl hi ?_
 rw[hgc]
 unfold qoc.j6
 refine qye (λg=>by simp at g;omega) (λg8=>?_)
 refine qye (λg=>?_) (λg=>?_)
 ·have i0:i=0:=by simpa using g
  subst i0
  have hd0:=qxk (xs:=X) (i:=0) (by rw[drop_zero];exact e0)
  have hcc:c=c0:=by have:=hd0.2.1;omega
  subst hcc
  refine⟨by decide,qbe (qbe (qm qzpb (qbe (qm qvkb ?_))))⟩
  rw[hk0,hm0]
  unfold qoc.j7
  rcases hor with⟨g1,g2,g3⟩|⟨g1,g2⟩
  ·refine quc (λ_=>?_) (λg=>by omega)
   refine qm (qd (by omega) (by omega)) ?_
   have:=qbt (i:=0) (by rw[hd0.2.2,g2]) hi
   rw[hxl]at this
   rw[g3,show((0:Nat):Int)+1=((hdE k n).length:Int)by omega]
   exact hk w h
  ·refine quc (λg=>by omega) (λ_=>?_)
   unfold qoc.j5
   refine qm (qd (by omega) (by omega)) ?_
   refine⟨⟨rfl,rfl,rfl⟩,hin 1 _ _ _ _ ⟨rfl,Or.inr ⟨le_refl _,rfl,_,rfl,?_⟩,h⟩ (by omega)⟩
   rw[hd0.2.2];exact g2
 ·have i1:1<=i:=by rcases Nat.eq_zero_or_pos i with e|e
                   ·subst e;simp at g
                   ·exact e
  rcases hcase with rfl|⟨_,rfl,size,rfl,hat⟩
  ·omega
  obtain⟨c2,r',e,_,hor2,hst⟩:=qhy hn i1 hat
  have hd1:=qxk e
  have hcc:c=c2:=by have:=hd1.2.1;omega
  subst hcc
  refine qbe (qm qafb ?_)
  refine qm (show i64.wrap ((i:Int)-1)=((i-1:Nat):Int)by rw[qd (by omega) (by omega)];omega) ?_
  refine qm (show i64.wrap (7*((i-1:Nat):Int))=((7*(i-1):Nat):Int)by rw[qd (by omega) (by omega)];omega) ?_
  refine qm (show i64.wrap (4+((7*(i-1):Nat):Int))=((4+7*(i-1):Nat):Int)by rw[qd (by omega) (by omega)];omega) ⟨by omega,qbe (qm hor2 ?_)⟩
  unfold qoc.j7
  rcases hst with⟨g1,g2,g3⟩|⟨g1,g2⟩
  ·refine quc (λ_=>?_) (λg=>by omega)
   refine qm (qd (by omega) (by omega)) ?_
   have:=qbt (i:=i) (by rw[hd1.2.2,g2]) hi
   rw[hxl]at this
   rw[g3,show(i:Int)+1=((i+1:Nat):Int)by omega,this]
   exact hk w h
  ·refine quc (λg=>by omega) (λ_=>?_)
   unfold qoc.j5
   refine qm (qd (by omega) (by omega)) ?_
   refine⟨⟨rfl,rfl,rfl⟩,hin (i+1) _ _ _ _ ⟨by omega,Or.inr ⟨by omega,rfl,_,rfl,?_⟩,h⟩ (by omega)⟩
   rw[hd1.2.2];exact g2
theorem qhb.c{k n:Nat}(h:St F0 w0 w ps)[Rdb F0 w0 s ps 1 (u8s (hdE k n++tl))](hk7:k<=7)(hn:n<=1099511627776)(hL:tl.length<=1000000000)
 (hk:∀w',St F0 w0 w' ps->K (.returned (.tuple ⟨[.int .i64 (k:Int),.int .i64 (n:Int),.int .i64 ((hdE k n).length:Int),.int .i64 0]⟩)) w'):Calls prog 49 ⟨[.slice s.a s.len s.cap]⟩ w K:=by
 have hl:=(h.rdb s).1
 rw[qk,Nat.mul_one]at hl
 have hle:=qas k hn
 obtain⟨c0,r0,e0,hc0,hk0,hm0,hor⟩:=qdkb hk7 hn tl
 have hxl:(hdE k n++tl).length-tl.length=(hdE k n).length:=by rw[length_append];omega
 generalize hX:hdE k n++tl=X at*
 refine qdc (qhb.ok _ _ _ ?_)
 unfold qhb qhb.j1 qhb.j2 qhb.j4
 refine loop3 (λ(i:Nat) (kd sz:Int) (i':Int) w'=>i'=i/\(i=0\/1<=i/\kd=(k:Int)/\∃size:Nat,sz=(size:Int)/\HdAt k n tl i size (X.drop i))/\St F0 w0 w' ps) (λi=>10-i) 0 ⟨rfl,Or.inl rfl,h⟩ ?_
 clear h
 rintro i kd sz i' w I μ ⟨rfl,hcase,h⟩ hin
 unfold qhb.b1
 have hget:∃(c:Nat),i<X.length/\X.getD i 0=(c:Int)/\c<256/\i<=6:=by
  rcases hcase with rfl|⟨h1,rfl,size,rfl,hat⟩
  ·have:=qxk (xs:=X) (i:=0) (by rw[drop_zero];exact e0);exact⟨c0,this.1,this.2.1,hc0,by omega⟩
  ·obtain⟨c,r',e,hc,_⟩:=qhy hn h1 hat;have:=qxk e;exact⟨c,this.1,this.2.1,hc,hat.1⟩
 obtain⟨c,hi,hgc,hc,hi6⟩:=hget
 refine quc (λg=>?_) (λg=>by omega)
 unfold qhb.j5
 refine qye (λg=>by simp at g;omega) (λg8=>?_)
 refine qye (λg=>?_) (λg=>?_)
 ·have i0:i=0:=by simpa using g
  subst i0
  have hd0:=qxk (xs:=X) (i:=0) (by rw[drop_zero];exact e0)
  have hcc:c=c0:=by have:=hd0.2.1;omega
  subst hcc
  refine h.lx (s:=s) 0 rfl hi ?_
  rw[hgc]
  refine⟨by decide,qbe (qbe (qm qzpb ?_))⟩
  refine h.lx (s:=s) 0 rfl hi ?_
  rw[hgc]
  refine qbe (qm qvkb ?_)
  rw[hk0,hm0]
  unfold qhb.j7
  refine h.lx (s:=s) 0 rfl hi ?_
  rw[hgc]
  rcases hor with⟨g1,g2,g3⟩|⟨g1,g2⟩
  ·refine quc (λ_=>?_) (λg=>by omega)
   refine qm (qd (by omega) (by omega)) ?_
   have:=qbt (i:=0) (by rw[hd0.2.2,g2]) hi
   rw[hxl]at this
   rw[g3,show((0:Nat):Int)+1=((hdE k n).length:Int)by omega]
   exact hk w h
  ·refine quc (λg=>by omega) (λ_=>?_)
   unfold qhb.j6
   refine qm (qd (by omega) (by omega)) ?_
   refine⟨rfl,hin 1 _ _ _ _ ⟨rfl,Or.inr ⟨le_refl _,rfl,_,rfl,?_⟩,h⟩ (by omega)⟩
   rw[hd0.2.2];exact g2
 ·have i1:1<=i:=by rcases Nat.eq_zero_or_pos i with e|e
                   ·subst e;simp at g
                   ·exact e
  rcases hcase with rfl|⟨_,rfl,size,rfl,hat⟩
  ·omega
  obtain⟨c2,r',e,_,hor2,hst⟩:=qhy hn i1 hat
  have hd1:=qxk e
  have hcc:c=c2:=by have:=hd1.2.1;omega
  subst hcc
  refine h.lx (s:=s) i rfl hi ?_
  rw[hgc]
  refine qbe (qm qafb ?_)
  refine qm (show i64.wrap ((i:Int)-1)=((i-1:Nat):Int)by rw[qd (by omega) (by omega)];omega) ?_
  refine qm (show u64.wrap ((i-1:Nat):Int)=((i-1:Nat):Int)by rw[qgh];omega) ?_
  refine qm (show u64.wrap (7*((i-1:Nat):Int))=((7*(i-1):Nat):Int)by rw[qgh];omega) ?_
  refine qm (show u64.wrap (4+((7*(i-1):Nat):Int))=((4+7*(i-1):Nat):Int)by rw[qgh];omega) ⟨by omega,qbe (qm hor2 ?_)⟩
  unfold qhb.j7
  refine h.lx (s:=s) i rfl hi ?_
  rw[hgc]
  rcases hst with⟨g1,g2,g3⟩|⟨g1,g2⟩
  ·refine quc (λ_=>?_) (λg=>by omega)
   refine qm (qd (by omega) (by omega)) ?_
   have:=qbt (i:=i) (by rw[hd1.2.2,g2]) hi
   rw[hxl]at this
   rw[g3,show(i:Int)+1=((i+1:Nat):Int)by omega,this]
   exact hk w h
  ·refine quc (λg=>by omega) (λ_=>?_)
   unfold qhb.j6
   refine qm (qd (by omega) (by omega)) ?_
   refine⟨rfl,hin (i+1) _ _ _ _ ⟨by omega,Or.inr ⟨by omega,rfl,_,rfl,?_⟩,h⟩ (by omega)⟩
   rw[hd1.2.2];exact g2
end
end
section
set_option maxRecDepth 100000
def qyg(z_0:Sl)(most_1:Int)(Q:VWP)(w:World):Prop:=br (decide ((z_0.len:Int)<2)) (Q (.tuple ⟨[.slice none 0 0,.int .i64 0,.int .i64 3]⟩) w) (lt (World.drew w) λw1=>ixS z_0.a z_0.len 0 1 λa2=>ldI .u8 w1 a2 λx3=>lt (qdj .u8 x3 15) λx4=>br (x4 !=8) (Q (.tuple ⟨[.slice none 0 0,.int .i64 0,.int .i64 2]⟩) w1) (ixS z_0.a z_0.len 0 1 λa5=>ldI .u8 w1 a5 λx6=>(0:Int)<=4/\lt (qal .u8 x6 4) λx7=>br (decide (x7>7)) (Q (.tuple ⟨[.slice none 0 0,.int .i64 0,.int .i64 2]⟩) w1) (ixS z_0.a z_0.len 0 1 λa8=>ldI .u8 w1 a8 λx9=>lt (i64.wrap x9) λx10=>(0:Int)<=8/\lt (qzi .i64 x10 8) λx11=>ixS z_0.a z_0.len 1 1 λa12=>ldI .u8 w1 a12 λx13=>lt (i64.wrap x13) λx14=>lt (orV .i64 x11 x14) λx15=>(31:Int)≠0/\lt (Int.tmod x15 31) λx16=>br (x16 !=0) (Q (.tuple ⟨[.slice none 0 0,.int .i64 0,.int .i64 2]⟩) w1) (ixS z_0.a z_0.len 1 1 λa17=>ldI .u8 w1 a17 λx18=>lt (qdj .u8 x18 32) λx19=>br (x19 !=0) (Q (.tuple ⟨[.slice none 0 0,.int .i64 0,.int .i64 2]⟩) w1) (bd 2 z_0.len λn20=>lt (⟨qnf z_0.a z_0.cap n20 1,z_0.len-n20,z_0.cap-n20⟩:Sl) λs21=>qqab 69 [sV s21,.int .i64 most_1] w1 λr24 r25 r26 w23=>br (r26 !=0) (Q (.tuple ⟨[.slice none 0 0,.int .i64 0,.int .i64 r26]⟩) w23) (lt (i64.wrap (r25+2)) λx27=>lt (i64.wrap ((z_0.len:Int)-x27)) λx28=>br (decide (x28<4)) (Q (.tuple ⟨[.slice none 0 0,.int .i64 0,.int .i64 3]⟩) w23) (lt (World.drew w23) λw29=>ixS z_0.a z_0.len x27 1 λa30=>ldI .u8 w29 a30 λx31=>lt (u32.wrap x31) λx32=>(0:Int)<=24/\lt (qzi .u32 x32 24) λx33=>lt (i64.wrap (x27+1)) λx34=>ixS z_0.a z_0.len x34 1 λa35=>ldI .u8 w29 a35 λx36=>lt (u32.wrap x36) λx37=>(0:Int)<=16/\lt (qzi .u32 x37 16) λx38=>lt (orV .u32 x33 x38) λx39=>lt (i64.wrap (x27+2)) λx40=>ixS z_0.a z_0.len x40 1 λa41=>ldI .u8 w29 a41 λx42=>lt (u32.wrap x42) λx43=>(0:Int)<=8/\lt (qzi .u32 x43 8) λx44=>lt (orV .u32 x39 x44) λx45=>lt (i64.wrap (x27+3)) λx46=>ixS z_0.a z_0.len x46 1 λa47=>ldI .u8 w29 a47 λx48=>lt (u32.wrap x48) λx49=>lt (orV .u32 x45 x49) λx50=>qlj 66 [sV r24] w29 λr53 w52=>br (x50 !=r53) (Q (.tuple ⟨[.slice none 0 0,.int .i64 0,.int .i64 4]⟩) w52) (lt (i64.wrap (x27+4)) λx54=>Q (.tuple ⟨[sV r24,.int .i64 x54,.int .i64 0]⟩) w52))))))))
theorem qyg.ok(z_0:Sl)(most_1:Int)(Q:VWP)(w:World)(h:qyg z_0 most_1 Q w):Calls prog 51 ⟨[sV z_0,.int .i64 most_1]⟩ w (Ret Q):=
 qhc [.tmp 4,.tmp 5,.tmp 6] qde Tryz.func51 rfl rfl rfl rfl .lf (by kernel_rfl) h
end
def hc(l:List Int)(n:Nat):Nat:=if n=0 then 0 else l.count (n:Int)
def hf(l:List Int):Nat->Nat
 |0=>0
 |n+1=>2*(hf l n+hc l n)
def kr(l:List Int):Nat:=(l.map λx=>if 0<x then 2^(15-x.toNat)else 0).sum
def okL(l:List Int):Prop:=∀x∈l,0<=x/\x<=15
def krN(l:List Int):Nat->Nat
 |0=>0
 |n+1=>krN l n+hc l (n+1)*2^(15-(n+1))
theorem qwo(l:List Int)(x:Int)(n:Nat):hc (l++[x]) n=hc l n+if 0<n/\x=n then 1 else 0:=by
 unfold hc;by_cases h:n=0
 ·simp[h]
 ·rw[if_neg h,if_neg h,List.count_append,List.count_singleton];by_cases h2:x=n
  ·simp[h2];omega
  ·simp[h2]
theorem qdy(l:List Int)(x:Int):kr (l++[x])=kr l+if 0<x then 2^(15-x.toNat)else 0:=by simp[kr]
theorem qdob(l:List Int)(x:Int)(n:Nat)(h0:0<=x):krN (l++[x]) n=krN l n+if 0<x/\x<=n then 2^(15-x.toNat)else 0:=by
 induction n with
 |zero=>rw[krN,krN,if_neg (by omega)]
 |succ n ih=>
  rw[krN,krN,ih,qwo,add_mul];by_cases h:x=((n+1:Nat):Int)
  ·rw[if_neg (by omega),if_pos ⟨by omega,h⟩,if_pos (by omega),show x.toNat=n+1 by omega];omega
  ·rw[if_neg (show ¬(0<n+1/\x=((n+1:Nat):Int))from λe=>h e.2)];by_cases h2:0<x/\x<=(n:Int)
   ·rw[if_pos h2,if_pos (by omega)];omega
   ·rw[if_neg h2,if_neg (by omega)];omega
theorem qnn{P:List Int->Prop}(h0:P [])(h1:∀l x,P l->P (l++[x]))(l:List Int):P l:=by
 have key:∀l:List Int,P l.reverse:=by
  intro l;induction l with
  |nil=>exact h0
  |cons x l ih=>rw[List.reverse_cons];exact h1 _ _ ih
 have:=key l.reverse;rwa[List.reverse_reverse]at this
theorem kr_eq(l:List Int)(h:okL l):kr l=krN l 15:=by
 induction l using qnn with
 |h0=>simp[kr,krN,hc]
 |h1 l x ih=>
  have hx:=h x (by simp);rw[qdy,qdob _ _ _ hx.1,ih (λy hy=>h y (by simp[hy]))];congr 1;by_cases h2:0<x
  ·rw[if_pos h2,if_pos ⟨h2,by omega⟩]
  ·rw[if_neg h2,if_neg (by omega)]
theorem qfy(l:List Int):∀(m n:Nat),n<=m->krN l n<=krN l m:=by
 intro m;induction m with
 |zero=>intro n h;rw[show n=0 by omega];omega
 |succ m ih=>
  intro n h;rcases lt_or_ge m n with h1|h1
  ·rw[show n=m+1 by omega];omega
  ·have:=ih n h1;rw[krN];omega
theorem hf_kr(l:List Int):∀n,n<=15->(hf l n+hc l n)*2^(15-n)=krN l n:=by
 intro n;induction n with
 |zero=>intro _;simp[hf,hc,krN]
 |succ n ih=>
  intro h;rw[krN,<-ih (by omega),hf,add_mul,show 15-n=(15-(n+1))+1 by omega,pow_succ];congr 1;rw[mul_comm 2,Nat.mul_assoc,mul_comm 2]
theorem hf_le(l:List Int)(h:okL l)(hk:kr l<=2^15){n:Nat}(hn:n<=15):hf l n+hc l n<=2^n:=by
 have h1:=hf_kr l n hn;have h2:=qfy l 15 n hn;rw[kr_eq l h]at hk;have h3:(hf l n+hc l n)*2^(15-n)<=2^n*2^(15-n):=by
  rw[h1,<-Nat.pow_add,show n+(15-n)=15 by omega];omega
 exact Nat.le_of_mul_le_mul_right h3 (Nat.pow_pos (by decide))
theorem qbtb(l:List Int)(n:Nat):∀d,(hf l n+hc l n)*2^(d+1)<=hf l (n+d+1):=by
 intro d;induction d with
 |zero=>rw[hf];omega
 |succ d ih=>
  rw[show n+(d+1)+1=(n+d+1)+1 by omega,hf,pow_succ,<-Nat.mul_assoc];omega
def qpg(l:List Int)(i:Nat):Nat:=if 0<l.getD i 0 then hf l (l.getD i 0).toNat+(l.take i).count (l.getD i 0)else 0
def qwl(l:List Int):List Int:=(range l.length).map λi=>(qpg l i:Int)
def qgn(l:List Int)(n:Nat):List Nat:=(range l.length).filter λi=>l.getD i 0==(n:Int)
def qdf(l:List Int):Nat->List Nat
 |0=>[]
 |n+1=>qdf l n++qgn l (n+1)
theorem qer(l:List Int)(x:Int):(l++[x]).getD l.length 0=x:=by simp[getD]
theorem qnl{l m:List Int}{i:Nat}(h:i<l.length):(l++m).getD i 0=l.getD i 0:=by simp[getD,getElem?_append_left h]
theorem qvo(l:List Int)(x:Int)(n:Nat):qgn (l++[x]) n=qgn l n++if x=n then[l.length]else[]:=by
 unfold qgn;rw[length_append,length_singleton,range_succ,List.filter_append];congr 1
 ·apply List.filter_congr;intro i hi;rw[qnl (List.mem_range.1 hi)]
 ·rw[List.filter_cons,qer,List.filter_nil];by_cases h:x=n<;>simp[h]
theorem qog(l:List Int)(n:Nat):(qgn l n).length=l.count (n:Int):=by
 induction l using qnn with
 |h0=>rfl
 |h1 l x ih=>
  rw[qvo,length_append,ih,List.count_append,List.count_singleton];by_cases h:x=n<;>simp[h]
theorem qzs(l:List Int)(n:Nat):∀{k i:Nat},(qgn l n)[k]?=some i->i<l.length/\l.getD i 0=n/\(l.take i).count (n:Int)=k:=by
 induction l using qnn with
 |h0=>intro k i h;simp[qgn]at h
 |h1 l x ih=>
  intro k i h;rw[qvo]at h;rcases lt_or_ge k (qgn l n).length with hk|hk
  ·rw[getElem?_append_left hk]at h;obtain⟨h1,h2,h3⟩:=ih h;refine⟨by simp;omega,by rw[qnl h1];exact h2,?_⟩;rw[List.take_append_of_le_length (by omega)];exact h3
  ·rw[getElem?_append_right hk]at h;by_cases hx:x=n
   ·rw[if_pos hx]at h;have hk2:k-(qgn l n).length=0:=by
     rcases lt_or_ge (k-(qgn l n).length) 1 with h1|h1
     ·omega
     ·rw[getElem?_eq_none (by simpa using h1)]at h;cases h
    rw[hk2]at h;have hi:l.length=i:=by simpa using h
    subst hi;refine⟨by simp,by rw[qer];exact hx,?_⟩;rw[take_left' rfl,<-qog];omega
   ·rw[if_neg hx]at h;simp at h
theorem qzjb{l:List Int}{n k i:Nat}(hn:0<n)(h:(qgn l n)[k]?=some i):qpg l i=hf l n+k:=by
 obtain⟨h1,h2,h3⟩:=qzs l n h;unfold qpg;rw[h2,if_pos (by omega),h3];simp
theorem qncb(l:List Int):∀{i:Nat},i<l.length->∀n:Nat,l.getD i 0=n->(qgn l n)[(l.take i).count (n:Int)]?=some i:=by
 induction l using qnn with
 |h0=>intro i h;simp at h
 |h1 l x ih=>
  intro i h n hn;rw[qvo];rcases lt_or_ge i l.length with hi|hi
  ·rw[qnl hi]at hn;have h1:=ih hi n hn;rw[List.take_append_of_le_length (by omega),getElem?_append_left]
   ·exact h1
   ·rcases lt_or_ge ((l.take i).count (n:Int)) (qgn l n).length with h2|h2
    ·exact h2
    ·rw[getElem?_eq_none h2]at h1;cases h1
  ·have:i=l.length:=by simp at h;omega
   subst this
   rw[qer]at hn;rw[take_left' rfl,<-qog,getElem?_append_right (le_refl _),sub_self,if_pos hn];rfl
theorem qasb{l:List Int}{i n:Nat}(hi:i<l.length)(hn:l.getD i 0=n):(l.take i).count (n:Int)<l.count (n:Int):=by
 have h:=qncb l hi n hn;rw[<-qog l];rcases lt_or_ge ((l.take i).count (n:Int)) (qgn l n).length with h2|h2
 ·exact h2
 ·rw[getElem?_eq_none h2]at h;cases h
theorem qnob{l:List Int}{i m n:Nat}(hm:l.getD i 0=m)(hn:n<m):(hf l n+hc l n)*2^(m-n)<=qpg l i:=by
 unfold qpg;rw[hm,if_pos (by omega)];have:=qbtb l n (m-n-1);rw[show m-n-1+1=m-n by omega,show n+(m-n-1)+1=m by omega]at this
 simp only[toNat_natCast];omega
theorem qiy{l:List Int}{i m:Nat}(hi:i<l.length)(hm:l.getD i 0=m)(h0:0<m):hf l m<=qpg l i/\qpg l i<hf l m+hc l m:=by
 unfold qpg hc;rw[hm,if_pos (by omega),if_neg (by omega)];have:=qasb hi hm;simp only[toNat_natCast];omega
def qcj(l:List Int):Nat->Nat
 |0=>1
 |n+1=>if 0<l.count ((n+1:Nat):Int)then n+1 else qcj l n
def hdec(l:List Int)(b:List Bool):Nat->Nat->Nat->Nat->Int×Int×Nat
 |0,_,_,p=>(0,2,p)
 |f+1,n,v,p=>
  match b[p]? with
  |none=>(0,3,p)
  |some x=>
   if 2*v+x.toNat<hf l n+hc l n then(((qgn l n).getD (2*v+x.toNat-hf l n) 0:Nat),0,p+1)
   else hdec l b f (n+1) (2*v+x.toNat) (p+1)
def hnext(l:List Int)(b:List Bool)(p:Nat):Int×Int×Nat:=hdec l b (qcj l 15) 1 0 p
def cbits(c n:Nat):List Bool:=(range n).map λi=>c.testBit (n-1-i)
theorem qdp(c n:Nat):(cbits c n).length=n:=by simp[cbits]
theorem qljb{l:List Int}{m:Nat}(h:0<l.count (m:Int)):∀n,m<=n->m<=qcj l n:=by
 intro n;induction n with
 |zero=>intro h;rw[qcj];omega
 |succ n ih=>
  intro h1;rw[qcj];split
  ·omega
  ·rename_i h2;rcases lt_or_ge n m with h3|h3
   ·have:m=n+1:=by omega
    subst this;exact absurd h h2
   ·exact ih h3
theorem qktb(c k:Nat):c/2^k=2*(c/2^(k+1))+(c.testBit k).toNat:=by
 rw[pow_succ,<-Nat.div_div_eq_div_mul,Nat.testBit_eq_decide_div_mod_eq];by_cases h:c/2^k%2=1
 ·simp[h];omega
 ·simp[h];omega
theorem qckb{l:List Int}{i m:Nat}(hi:i<l.length)(hm:l.getD i 0=m)(h0:0<m){b:List Bool}{p:Nat}(hb:(b.drop p).take m=cbits (qpg l i) m)(hsz:qpg l i<2^m):
 ∀f j,j<m->m<=f+j->hdec l b f (j+1) (qpg l i/2^(m-j)) (p+j)=((i:Int),0,p+m):=by
 intro f
 induction f with
 |zero=>intro j h1 h2;omega
 |succ f ih=>
  intro j h1 h2
  have hx:b[p+j]?=some ((qpg l i).testBit (m-1-j)):=by
   have e:((b.drop p).take m)[j]?=some ((qpg l i).testBit (m-1-j)):=by
    rw[hb];unfold cbits;rw[getElem?_map,getElem?_range h1];rfl
   rw[List.getElem?_take,if_pos h1,List.getElem?_drop]at e;exact e
  rw[hdec,hx]
  simp only
  have hv:2*(qpg l i/2^(m-j))+((qpg l i).testBit (m-1-j)).toNat=qpg l i/2^(m-(j+1)):=by
   rw[qktb (qpg l i) (m-(j+1)),show m-(j+1)+1=m-j by omega,show m-1-j=m-(j+1)by omega]
  rw[hv]
  by_cases hj:j+1=m
  ·obtain⟨g1,g2⟩:=qiy hi hm h0
   rw[hj,sub_self,Nat.pow_zero,Nat.div_one,if_pos g2]
   refine Prod.ext ?_ (Prod.ext rfl ?_)
   ·have hh:=qncb l hi m hm
    have e:qpg l i-hf l m=(l.take i).count (m:Int):=by
     unfold qpg;rw[hm,if_pos (by omega)];simp
    show(((qgn l m).getD (qpg l i-hf l m) 0:Nat):Int)=(i:Int)
    rw[e,getD_eq_getElem?_getD,hh]
    rfl
   ·show p+j+1=p+m
    omega
  ·have hge:=qnob (l:=l) hm (show j+1<m by omega)
   have:¬qpg l i/2^(m-(j+1))<hf l (j+1)+hc l (j+1):=by
    have:=(Nat.le_div_iff_mul_le (Nat.pow_pos (by decide):0<2^(m-(j+1)))).2 hge;omega
   rw[if_neg this]
   have:=ih (j+1) (by omega) (by omega)
   rw[show p+j+1=p+(j+1)by omega]
   exact this
theorem qngb{l:List Int}(hl:okL l){i m:Nat}(hi:i<l.length)(hm:l.getD i 0=m)(h0:0<m){b:List Bool}{p:Nat}(hb:(b.drop p).take m=cbits (qpg l i) m)(hsz:qpg l i<2^m):hnext l b p=((i:Int),0,p+m):=by
 have hmem:(m:Int)∈l:=by
  rw[<-hm];simp[getD,getElem?_eq_getElem hi]
 have hm15:m<=15:=by have:=(hl _ hmem).2;omega
 have:=qckb hi hm h0 hb hsz (qcj l 15) 0 h0 (by have:=qljb (List.count_pos_iff.2 hmem) 15 hm15;omega);rw[Nat.sub_zero,Nat.div_eq_of_lt hsz,Nat.add_zero]at this
 exact this
instance (l:List Int):Decidable (okL l):=inferInstanceAs (Decidable (∀x∈l,0<=x/\x<=15))
def qzn(l:List Int):Bool×Int:=if 288<l.length then(false,1)else if ¬okL l then(false,1)else if 32768<kr l then(false,2)else(decide (kr l=32768),0)
theorem qku{l:List Int}(h:(qzn l).2=0):okL l/\kr l<=32768/\l.length<=288/\(qzn l).1=decide (kr l=32768):=by
 unfold qzn at h|-
 split at h
 ·cases h
 ·split at h
  ·cases h
  ·split at h
   ·cases h
   ·rename_i h1 h2 h3;rw[if_neg h1,if_neg h2,if_neg h3];exact⟨Decidable.not_not.1 h2,by omega,by omega,rfl⟩
theorem qxx{l:List Int}{x:Int}(h:okL (l++[x])):okL l/\0<=x/\x<=15:=⟨λy hy=>h y (by simp[hy]),h x (by simp)⟩
def clL(l:List Int):List Int:=qzl 16 λn=>(hc l n:Int)
theorem qxf(l:List Int):(clL l).length=16:=qod _ _
theorem qet(l:List Int){n:Nat}(h:n<16):(clL l).getD n 0=hc l n:=qqg h
theorem qztb:clL []=replicate 16 0:=by decide
theorem qytb{l:List Int}{x:Int}(h0:0<x)(h1:x<=15):(clL l).set x.toNat ((hc l x.toNat:Int)+1)=clL (l++[x]):=by
 unfold clL;rw[qhl];refine qvd λi hi=>?_;rw[qwo];by_cases h:i=x.toNat
 ·rw[if_pos h,if_pos (by omega),h];omega
 ·rw[if_neg h,if_neg (by omega)];omega
theorem clL_no{l:List Int}{x:Int}(h0:x<=0):clL (l++[x])=clL l:=by
 unfold clL;refine qvd λi hi=>?_;rw[qwo,if_neg (by omega)];omega
theorem qoob(l:List Int)(n:Nat):hc l n<=l.length:=by
 unfold hc;split
 ·omega
 ·exact count_le_length
theorem kr_le(l:List Int):kr l<=l.length*16384:=by
 induction l using qnn with
 |h0=>simp[kr]
 |h1 l x ih=>
  rw[qdy,length_append,length_singleton];have:(if 0<x then 2^(15-x.toNat)else 0)<=16384:=by
   split
   ·exact le_trans (pow_le_pow_right (by decide) (show 15-x.toNat<=14 by omega)) (by decide)
   ·omega
  omega
theorem qtjb(l:List Int)(i:Nat):kr (l.take i)<=kr l:=by
 have:l=l.take i++l.drop i:=(List.take_append_drop i l).symm;conv=>rhs;rw[this]
 unfold kr;rw[List.map_append,List.sum_append];omega
theorem qlgb{l:List Int}{x:Int}(h0:0<=x)(n:Nat):(qdf (l++[x]) n).length=(qdf l n).length+if 0<x/\x<=n then 1 else 0:=by
 induction n with
 |zero=>rw[qdf,qdf,if_neg (by omega)];rfl
 |succ n ih=>
  rw[qdf,qdf,length_append,length_append,ih,qvo,length_append];by_cases h:x=((n+1:Nat):Int)
  ·rw[if_neg (by omega),if_pos h,if_pos (by omega)];simp;omega
  ·rw[if_neg h];by_cases h2:0<x/\x<=(n:Int)
   ·rw[if_pos h2,if_pos (by omega)];simp;omega
   ·rw[if_neg h2,if_neg (by omega)];simp
theorem qzmb(l:List Int)(h:okL l):(2*(qdf l 15).length:Int)-hc l 1<=(l.filter (0<·)).sum/\hc l 1<=(qdf l 15).length/\(hc l 1=(qdf l 15).length->(l.filter (0<·)).sum=((qdf l 15).length:Int)):=by
 induction l using qnn with
 |h0=>simp[qdf,qgn,hc]
 |h1 l x ih=>
  obtain⟨hl,hx0,hx1⟩:=qxx h;obtain⟨i1,i2,i3⟩:=ih hl;rw[qlgb hx0,qwo,List.filter_append,List.sum_append];by_cases h0:0<x
  ·have e:([x].filter (0<·)).sum=x:=by simp[h0]
   rw[e,if_pos (show 0<x/\x<=((15:Nat):Int)by omega)];by_cases h1:x=((1:Nat):Int)
   ·rw[if_pos ⟨by decide,h1⟩];refine⟨by omega,by omega,λe=>?_⟩;have:=i3 (by omega);omega
   ·rw[if_neg (λe=>h1 e.2)];refine⟨by omega,by omega,λe=>by omega⟩
  ·have e:([x].filter (0<·)).sum=0:=by simp[h0]
   rw[e,if_neg (by omega),if_neg (by omega)];simpa using⟨i1,i2,i3⟩
def hhalf(l:List Int):Bool:=decide ((qdf l 15).length=0\/((qdf l 15).length=1/\hc l 1=1))
theorem qat{l:List Int}(h:okL l):hhalf l=decide ((l.filter (0<·)).sum<=1):=by
 obtain⟨h1,h2,h3⟩:=qzmb l h;unfold hhalf;apply Bool.eq_iff_iff.2;rw[decide_eq_true_eq,decide_eq_true_eq];constructor
 ·rintro(h4|⟨h4,h5⟩)
  ·have:=h3 (by omega);omega
  ·have:=h3 (by omega);omega
 ·intro h4;omega
def qqk(l:List Int)(half:Bool):Int:=if(qzn l).2≠0 then(qzn l).2 else if(qzn l).1=false/\(half&&hhalf l)=false then 2 else 0
theorem qakb{l:List Int}{half:Bool}(h:qqk l half=0):(qzn l).2=0:=by
 unfold qqk at h;split at h
 ·rename_i h1;exact absurd h h1
 ·rename_i h1;exact Decidable.not_not.1 h1
theorem qmgb{l:List Int}:∀n,qcj l n=if qdf l n=[]then 1 else(l.getD ((qdf l n).getD ((qdf l n).length-1) 0) 0).toNat:=by
 intro n;induction n with
 |zero=>rfl
 |succ n ih=>
  rw[qcj,qdf];have hl:=qog l (n+1);by_cases h:0<l.count ((n+1:Nat):Int)
  ·rw[if_pos h,if_neg (by intro e;have:=congrArg length e;rw[length_append,hl,List.length_nil]at this;omega)];have e:(qdf l n++qgn l (n+1)).getD ((qdf l n++qgn l (n+1)).length-1) 0=(qgn l (n+1)).getD ((qgn l (n+1)).length-1) 0:=by
    rw[length_append,getD_eq_getElem?_getD,getElem?_append_right (by omega),getD_eq_getElem?_getD];congr 2;omega
   rw[e];have hk:(qgn l (n+1)).length-1<(qgn l (n+1)).length:=by omega
   have:=qzs l (n+1) (getElem?_eq_getElem hk);have e2:(qgn l (n+1)).getD ((qgn l (n+1)).length-1) 0=(qgn l (n+1))[(qgn l (n+1)).length-1]:=by
    rw[getD_eq_getElem?_getD,getElem?_eq_getElem hk];rfl
   rw[e2,this.2.1];omega
  ·rw[if_neg h];have:qgn l (n+1)=[]:=List.eq_nil_of_length_eq_zero (by omega);rw[this,append_nil,ih]
theorem qxjb{l:List Int}:∀n,∀i∈qdf l n,i<l.length/\0<l.getD i 0:=by
 intro n;induction n with
 |zero=>intro i h;simp[qdf]at h
 |succ n ih=>
  intro i h;rw[qdf]at h;rcases mem_append.1 h with h|h
  ·exact ih i h
  ·obtain⟨k,hk⟩:=List.getElem?_of_mem h;obtain⟨h1,h2,_⟩:=qzs l (n+1) hk;exact⟨h1,by omega⟩
theorem qqeb(l:List Int):∀n,1<=n->1<=qcj l n/\qcj l n<=n:=by
 intro n;induction n with
 |zero=>intro h;omega
 |succ n ih=>
  intro _;rw[qcj];split
  ·omega
  ·cases n with
   |zero=>rw[qcj];omega
   |succ n=>have:=ih (by omega);omega
theorem qogb{l:List Int}(h:okL l){n:Nat}(hn:1<=n):(∃x∈l,(n:Int)<x)↔n<qcj l 15:=by
 constructor
 ·rintro⟨x,hx,hnx⟩;have hx2:=(h x hx).2;have:=qljb (l:=l) (m:=x.toNat) (List.count_pos_iff.2 (by rw[show((x.toNat:Nat):Int)=x by omega];exact hx)) 15 (by omega);omega
 ·intro hlt;have key:∀m,n<qcj l m->∃x∈l,(n:Int)<x:=by
   intro m;induction m with
   |zero=>intro h;rw[qcj]at h;omega
   |succ m ih=>
    intro h;rw[qcj]at h;split at h
    ·rename_i hc;exact⟨_,List.count_pos_iff.1 hc,by omega⟩
    ·exact ih h
  exact key 15 hlt
theorem qlob(l:List Int):∀(m n k:Nat),0<n->n<=m->k<l.count (n:Int)->(qdf l m)[(qdf l (n-1)).length+k]?=(qgn l n)[k]?:=by
 intro m;induction m with
 |zero=>intro n k h1 h2;omega
 |succ m ih=>
  intro n k h1 h2 h3;rw[qdf];by_cases e:n=m+1
  ·subst e;rw[add_sub_cancel,getElem?_append_right (by omega)];congr 1;omega
  ·have:=ih n k h1 (by omega) h3;rw[getElem?_append_left,this];rw[<-qog]at h3;rw[getElem?_eq_getElem h3]at this
   exact(List.getElem?_eq_some_iff.1 this).1
theorem qdr(l:List Int):(qwl l).length=l.length:=by simp[qwl]
theorem qju(l:List Int){i:Nat}(h:i<l.length):(qwl l).getD i 0=qpg l i:=qqg (f:=λi=>(qpg l i:Int)) h
theorem qjy{l:List Int}{i m:Nat}(hm:l.getD i 0=m)(h0:0<m):qpg l i=hf l m+hc (l.take i) m:=by
 unfold qpg hc;rw[hm,if_pos (by omega),if_neg (by omega)];simp
theorem qreb{l:List Int}{i:Nat}(h:l.getD i 0<=0):qpg l i=0:=by unfold qpg;rw[if_neg (by omega)]
theorem qml(l:List Int)(h:okL l)(hk:kr l<=32768){n:Nat}(hn:n<=15):hf l n+hc l n<=32768:=by
 have:=hf_le l h (by rw[show(2:Nat)^15=32768 by decide];exact hk) hn;exact le_trans this (le_trans (pow_le_pow_right (by decide) hn) (by decide))
theorem qcw{l:List Int}(h:okL l)(hk:kr l<=32768){i m:Nat}(hi:i<l.length)(hm:l.getD i 0=m)(h0:0<m):qpg l i<2^m:=by
 have h15:m<=15:=by have:=(h _ (qme hi)).2;omega
 have:=(qiy hi hm h0).2;have:=hf_le l h (by rw[show(2:Nat)^15=32768 by decide];exact hk) h15;omega
section
abbrev Z:=Nat×List Int×Int
def qtd(e:Int)(z:Z):Z:=(z.1,z.2.1,if z.2.2=0 then e else z.2.2)
def qff(B:List Bool)(n:Int)(z:Z):Int×Z:=
 if z.2.2≠0 then(0,z)else if 0<=n/\n<=24/\n<=(B.length:Int)-z.1 then((val ((B.drop z.1).take n.toNat):Int),(z.1+n.toNat,z.2.1,z.2.2))else(0,(z.1,z.2.1,3))
def qyl(ls:List Int)(B:List Bool)(z:Z):Int×Z:=
 if z.2.2≠0 then(0,z)else((hnext ls B z.1).1,((hnext ls B z.1).2.2,z.2.1,(hnext ls B z.1).2.1))
def zput(most:Int)(b:Int)(z:Z):Z:=
 if z.2.2≠0 then z else if most<=(z.2.1.length:Int)then(z.1,z.2.1,5)else(z.1,z.2.1++[b],z.2.2)
def qdl(v:Int):Int×Int×Bool:=
 if v<257\/285<v then(0,0,false)else if v=285 then(258,0,true)else if v-257<8 then(3+(v-257),0,true)
 else(3+(4+(v-257)%4)*2^((v-257)/4-1).toNat,(v-257)/4-1,true)
def qik(v:Int):Int×Int×Bool:=
 if v<0\/30<=v then(0,0,false)else if v<4 then(1+v,0,true)else(1+(2+v%2)*2^(v/2-1).toNat,v/2-1,true)
def zcp(most d:Int):Nat->Z->Z
 |0,z=>z
 |n+1,z=>if z.2.2≠0 then z else zcp most d n (zput most (z.2.1.getD (z.2.1.length-d.toNat) 0) z)
def zok(ok:Bool)(z:Z):Z:=if ok then z else qtd 2 z
def qli(dl:List Int)(B:List Bool)(most v:Int)(z:Z):Z:=
 let l:=qdl v
 let g:=qff B l.2.1 (zok l.2.2 z)
 let s:=qyl dl B g.2
 let d:=qik s.1
 let g2:=qff B d.2.1 (zok d.2.2 s.2)
 let z5:=if(g2.2.2.1.length:Int)<d.1+g2.1 then qtd 2 g2.2 else g2.2
 zcp most (d.1+g2.1) (l.1+g.1).toNat z5
def qcg(ll dl:List Int)(B:List Bool)(most:Int):Nat->Z->Z
 |0,z=>z
 |f+1,z=>if z.2.2≠0 then z else
  let s:=qyl ll B z
  if s.2.2.2≠0\/s.1=256 then s.2
  else if s.1<256 then qcg ll dl B most f (zput most s.1 s.2)else qcg ll dl B most f (qli dl B most s.1 s.2)
def qwh(ls:List Int)(z:Z):Z:=if z.2.2=0/\qqk ls true≠0 then qtd 2 z else z
def zblk(ll dl:List Int)(B:List Bool)(most:Int)(z:Z):Z:=
 let z3:=qwh dl (qwh ll (if z.2.2=0/\ll.getD 256 0=0 then qtd 2 z else z))
 if z3.2.2≠0 then z3 else qcg ll dl B most (B.length+1) z3
def zst(B:List Bool)(most:Int):Nat->Z->Z
 |0,z=>z
 |n+1,z=>zst B most n (zput most (qff B 8 z).1 (qff B 8 z).2)
def qck(B:List Bool)(most:Int)(z:Z):Z:=
 let g:=qff B 16 (8*((z.1+7)/8),z.2.1,z.2.2)
 let g2:=qff B 16 g.2
 if g2.2.2.2≠0 then g2.2 else if qlk .i64 g.1 g2.1≠65535 then qtd 2 g2.2 else if most-g2.2.2.1.length<g.1 then qtd 5 g2.2 else zst B most g.1.toNat g2.2
def qho:List Int:=replicate 144 8++(replicate 112 9++(replicate 24 7++replicate 8 8))
def qsj:List Int:=replicate 32 5
theorem qpcb(l:List Int)(b:List Bool):∀f n v p,p<=b.length->p<=(hdec l b f n v p).2.2/\(hdec l b f n v p).2.2<=b.length/\((hdec l b f n v p).2.1=0->p<(hdec l b f n v p).2.2):=by
 intro f;induction f with
 |zero=>intro n v p hp;exact⟨le_refl _,hp,λh=>by simp[hdec]at h⟩
 |succ f ih=>
  intro n v p hp;rw[hdec];split
  ·exact⟨le_refl _,hp,λh=>by simp at h⟩
  ·rename_i x hx;have hlt:p<b.length:=(List.getElem?_eq_some_iff.1 hx).1;split
   ·exact⟨by simp only;omega,by simp only;omega,λ_=>by simp only;omega⟩
   ·obtain⟨h1,h2,h3⟩:=ih (n+1) (2*v+x.toNat) (p+1) (by omega);exact⟨by omega,h2,λh=>by omega⟩
def zfwd(B:List Bool)(z z':Z):Prop:=z.1<=z'.1/\z'.1<=B.length
variable {B:List Bool}{most:Int}{z:Z}
theorem qsq(n:Int)(h:z.1<=B.length):zfwd B z (qff B n z).2:=by
 unfold qff zfwd;split
 ·exact⟨le_refl _,h⟩
 ·split
  ·simp only;omega
  ·exact⟨le_refl _,h⟩
theorem qrw(ls:List Int)(h:z.1<=B.length):zfwd B z (qyl ls B z).2:=by
 unfold qyl zfwd;split
 ·exact⟨le_refl _,h⟩
 ·obtain⟨h1,h2,_⟩:=qpcb ls B (qcj ls 15) 1 0 z.1 h;exact⟨h1,h2⟩
theorem qjo(b:Int):(zput most b z).1=z.1:=by
 unfold zput;split
 ·rfl
 ·split<;>rfl
theorem qjt(e:Int):(qtd e z).1=z.1:=rfl
theorem qqfb(ok:Bool):(zok ok z).1=z.1:=by unfold zok;split<;>rfl
theorem zcp_p(d:Int):∀n (z:Z),(zcp most d n z).1=z.1:=by
 intro n;induction n with
 |zero=>intro z;rfl
 |succ n ih=>
  intro z;rw[zcp];split
  ·rfl
  ·rw[ih,qjo]
theorem qhq(dl:List Int)(v:Int)(h:z.1<=B.length):zfwd B z (qli dl B most v z):=by
 unfold qli;simp only
 have h1:=qsq (B:=B) (qdl v).2.1 (z:=zok (qdl v).2.2 z) (by rw[qqfb];exact h);generalize qff B (qdl v).2.1 (zok (qdl v).2.2 z)=g at h1|-
 have h2:=qrw (B:=B) dl (z:=g.2) h1.2;generalize qyl dl B g.2=s at h2|-
 have h3:=qsq (B:=B) (qik s.1).2.1 (z:=zok (qik s.1).2.2 s.2) (by rw[qqfb];exact h2.2);generalize qff B (qik s.1).2.1 (zok (qik s.1).2.2 s.2)=g2 at h3|-
 rw[zfwd,zcp_p];unfold zfwd at h1 h2 h3;rw[qqfb]at h1 h3;split
 ·rw[qjt];omega
 ·omega
theorem qyk(n:Int):0<=(qff B n z).1/\(qff B n z).1<2^n.toNat:=by
 unfold qff;have h2:(0:Int)<2^n.toNat:=pow_pos (by decide);split
 ·exact⟨Int.le_refl _,h2⟩
 ·split
  ·refine⟨Int.natCast_nonneg _,?_⟩;have h3:=qlz ((B.drop z.1).take n.toNat);have h4:((B.drop z.1).take n.toNat).length<=n.toNat:=List.length_take_le _ _;have h5:=Nat.lt_of_lt_of_le h3 (pow_le_pow_right (by decide:0<2) h4);simp only
   exact_mod_cast h5
  ·exact⟨Int.le_refl _,h2⟩
theorem qmdb{V M p n:Nat}(h:p+n<=M):val (((ql (V:Int) M).drop p).take n)=V/2^p%2^n:=by
 obtain⟨r,rfl⟩:∃r,M=p+(n+r):=⟨M-p-n,by omega⟩;rw[qmw,List.drop_left' (qq _ _),qmw,take_left' (qq _ _),qpt];have e1:(V:Int)/2^p=((V/2^p:Nat):Int):=by simp
 rw[e1];have e2:(((V/2^p:Nat):Int)%2^n)=((V/2^p%2^n:Nat):Int):=by simp
 rw[e2,toNat_natCast]
end
section
set_option maxRecDepth 100000
def qid.j2(t2 out_3:Addr)(Q:VWP)(w:World):Prop:=ldA w out_3 16 λc1=>(c1).size=16/\stA w t2 c1 λw2=>ldA w2 t2 16 λc3=>Q (.agg c3) w2
def qid.b1(t2 out_3:Addr)(t6:Sl)(t7 t8:Int)(Q:VWP)(nx1:Addr->Addr->Sl->Int->Int->WP)(w:World):Prop:=br (decide (t8<t7)) (ixS t6.a t6.len t8 1 λa4=>ldI .i64 w a4 λx5=>br (decide (x5>0)) (ixA out_3 16 x5 1 λa6=>ldI .i64 w a6 λx7=>lt (i64.wrap (x7+1)) λx8=>ixA out_3 16 x5 1 λa9=>st w a9 (.int .i64 x8) λw10=>lt (i64.wrap (t8+1)) λx11=>nx1 t2 out_3 t6 t7 x11 w10) (lt (i64.wrap (t8+1)) λx12=>nx1 t2 out_3 t6 t7 x12 w)) (qid.j2 t2 out_3 Q w)
def qid.l1(t2 out_3:Addr)(t6:Sl)(t7 t8:Int)(Q:VWP)(w:World):Prop:=∃(I:Int->WP) (μ:Int->World->Nat),I t8 w/\∀t8:Int,∀w:World,I t8 w->qid.b1 t2 out_3 t6 t7 t8 Q (λt2' out_3' t6' t7' t8' w'=>(t2'=t2/\out_3'=out_3/\t6'=t6/\t7'=t7)/\I t8' w'/\μ t8' w'<μ t8 w) w
def qid.j3(t2 out_3:Addr)(t6:Sl)(t7 t8:Int)(Q:VWP)(w:World):Prop:=qid.l1 t2 out_3 t6 t7 t8 Q w
def qid.j1(lens_0:Sl)(t2:Addr)(out_3:Addr)(Q:VWP)(w:World):Prop:=qid.j3 t2 out_3 lens_0 (lens_0.len:Int) 0 Q w
def qid(lens_0:Sl)(Q:VWP)(w:World):Prop:=nw w (zc prog 190) 190 λa13 w14=>nw w14 (zc prog 190) 190 λa15 w16=>qid.j1 lens_0 a13 a15 Q w16
theorem qid.ok(lens_0:Sl)(Q:VWP)(w:World)(h:qid lens_0 Q w):Calls prog 124 ⟨[sV lens_0]⟩ w (Ret Q):=
 qhc [.cell 2 190] qde Tryz.func124 rfl rfl rfl rfl (.pr 1 [sL 0,sA 2,sA 3] (λa b c w=>qid.j1 a b c Q w) (.sq [sA 2,sA 3] (λa b w=>qid.j2 a b Q w) (.sq [sA 2,sA 3,sL 6,sI 7,sI 8] (λa b c d e w=>qid.j3 a b c d e Q w) .lf (.bk (.lo [sA 2,sA 3,sL 6,sI 7] [sI 8] (λa b c d e w=>qid.l1 a b c d e Q w) (λnx1 a b c d e w=>qid.b1 a b c d e Q nx1 w) λnx1=> .lf))) .lf)) (by kernel_rfl) h
def qkc.j4(room_6:Int)(Q:VWP)(w:World):Prop:=br (decide (room_6<0)) (Q (.tuple ⟨[.bool false,.int .i64 2]⟩) w) (Q (.tuple ⟨[.bool (room_6==0),.int .i64 0]⟩) w)
def qkc.b1(t26:(Array Value))(room_6 t27:Int)(Q:VWP)(nx1:(Array Value)->Int->Int->WP)(w:World):Prop:=br (decide (t27<16)) (((0:Int)<=t27/\t27<((16:Nat):Int))/\ptI .i64 t26 (Int.toNat t27*1) λx1=>br (decide (t27>0)) (lt (i64.wrap (15-t27)) λx2=>(0:Int)<=x2/\lt (qzi .i64 x1 x2) λx3=>lt (i64.wrap (room_6-x3)) λx4=>lt (i64.wrap (t27+1)) λx5=>nx1 t26 x4 x5 w) (lt (i64.wrap (t27+1)) λx6=>nx1 t26 room_6 x6 w)) (qkc.j4 room_6 Q w)
def qkc.l1(t26:(Array Value))(room_6 t27:Int)(Q:VWP)(w:World):Prop:=∃(I:Int->Int->WP) (μ:Int->Int->World->Nat),I room_6 t27 w/\∀room_6:Int,∀t27:Int,∀w:World,I room_6 t27 w->qkc.b1 t26 room_6 t27 Q (λt26' room_6' t27' w'=>(t26'=t26)/\I room_6' t27' w'/\μ room_6' t27' w'<μ room_6 t27 w) w
def qkc.j5(room_6:Int)(t26:(Array Value))(t27:Int)(Q:VWP)(w:World):Prop:=qkc.l1 t26 room_6 t27 Q w
def qkc.j3(lens_0:Sl)(room_6:Int)(Q:VWP)(w:World):Prop:=qgv 124 [sV lens_0] w λr9 w8=>qkc.j5 room_6 r9 0 Q w8
def qkc.j2(lens_0:Sl)(Q:VWP)(w:World):Prop:=qkc.j3 lens_0 32768 Q w
def qkc.b2(lens_0 t12:Sl)(t13:Int)(t14:Int)(Q:VWP)(nx2:Sl->Sl->Int->Int->WP)(w:World):Prop:=br (decide (t14<t13)) (ixS t12.a t12.len t14 1 λa10=>ldI .i64 w a10 λx11=>br (decide (x11<0)) (Q (.tuple ⟨[.bool false,.int .i64 1]⟩) w) (br (decide (x11>15)) (Q (.tuple ⟨[.bool false,.int .i64 1]⟩) w) (lt (i64.wrap (t14+1)) λx12=>nx2 lens_0 t12 t13 x12 w))) (qkc.j2 lens_0 Q w)
def qkc.l2(lens_0 t12:Sl)(t13:Int)(t14:Int)(Q:VWP)(w:World):Prop:=∃(I:Int->WP) (μ:Int->World->Nat),I t14 w/\∀t14:Int,∀w:World,I t14 w->qkc.b2 lens_0 t12 t13 t14 Q (λlens_0' t12' t13' t14' w'=>(lens_0'=lens_0/\t12'=t12/\t13'=t13)/\I t14' w'/\μ t14' w'<μ t14 w) w
def qkc.j6(lens_0 t12:Sl)(t13:Int)(t14:Int)(Q:VWP)(w:World):Prop:=qkc.l2 lens_0 t12 t13 t14 Q w
def qkc.j1(lens_0:Sl)(Q:VWP)(w:World):Prop:=qkc.j6 lens_0 lens_0 (lens_0.len:Int) 0 Q w
def qkc(lens_0:Sl)(Q:VWP)(w:World):Prop:=br (decide ((lens_0.len:Int)>288)) (Q (.tuple ⟨[.bool false,.int .i64 1]⟩) w) (qkc.j1 lens_0 Q w)
theorem qkc.ok(lens_0:Sl)(Q:VWP)(w:World)(h:qkc lens_0 Q w):Calls prog 123 ⟨[sV lens_0]⟩ w (Ret Q):=
 qhc [.tmp 2,.tmp 3] qde Tryz.func123 rfl rfl rfl rfl (.pr 1 [sL 0] (λa w=>qkc.j1 a Q w) (.sq [sL 0] (λa w=>qkc.j2 a Q w) (.sq [sL 0,sL 12,sI 13,sI 14] (λa b c d w=>qkc.j6 a b c d Q w) .lf (.bk (.lo [sL 0,sL 12,sI 13] [sI 14] (λa b c d w=>qkc.l2 a b c d Q w) (λnx2 a b c d w=>qkc.b2 a b c d Q nx2 w) λnx2=> .lf))) (.sq [sL 0,sI 6] (λa b w=>qkc.j3 a b Q w) .lf (.sq [sI 6] (λa w=>qkc.j4 a Q w) (.sq [sI 6,(26,.G),sI 27] (λa b c w=>qkc.j5 a b c Q w) .lf (.bk (.lo [(26,.G)] [sI 6,sI 27] (λa b c w=>qkc.l1 a b c Q w) (λnx1 a b c w=>qkc.b1 a b c Q nx1 w) λnx1=> .lf))) .lf)))) (by kernel_rfl) h
def qfc.j5(out_9:Sl)(Q:VWP)(w:World):Prop:=Q (.tuple ⟨[sV out_9,.int .i64 0]⟩) w
def qfc.b1(next_6:Addr)(out_9:Sl)(t41:Sl)(t42:Int)(t43:Int)(Q:VWP)(nx1:Addr->Sl->Sl->Int->Int->WP)(w:World):Prop:=br (decide (t43<t42)) (ixS t41.a t41.len t43 1 λa1=>ldI .i64 w a1 λx2=>br (decide (x2>0)) (ixA next_6 16 x2 1 λa3=>ldI .i64 w a3 λx4=>ixS out_9.a out_9.len t43 1 λa5=>st w a5 (.int .i64 x4) λw6=>ixA next_6 16 x2 1 λa7=>ldI .i64 w6 a7 λx8=>lt (i64.wrap (x8+1)) λx9=>ixA next_6 16 x2 1 λa10=>st w6 a10 (.int .i64 x9) λw11=>lt (i64.wrap (t43+1)) λx12=>nx1 next_6 out_9 t41 t42 x12 w11) (lt (i64.wrap (t43+1)) λx13=>nx1 next_6 out_9 t41 t42 x13 w)) (qfc.j5 out_9 Q w)
def qfc.l1(next_6:Addr)(out_9:Sl)(t41:Sl)(t42:Int)(t43:Int)(Q:VWP)(w:World):Prop:=∃(I:Int->WP) (μ:Int->World->Nat),I t43 w/\∀t43:Int,∀w:World,I t43 w->qfc.b1 next_6 out_9 t41 t42 t43 Q (λnext_6' out_9' t41' t42' t43' w'=>(next_6'=next_6/\out_9'=out_9/\t41'=t41/\t42'=t42)/\I t43' w'/\μ t43' w'<μ t43 w) w
def qfc.j6(next_6:Addr)(out_9:Sl)(t41:Sl)(t42:Int)(t43:Int)(Q:VWP)(w:World):Prop:=qfc.l1 next_6 out_9 t41 t42 t43 Q w
def qfc.j4(lens_0:Sl)(next_6:Addr)(out_9:Sl)(Q:VWP)(w:World):Prop:=qfc.j6 next_6 out_9 lens_0 (lens_0.len:Int) 0 Q w
def qfc.j3(lens_0:Sl)(next_6:Addr)(Q:VWP)(w:World):Prop:=mkK prog 3 w (lens_0.len:Int) (lens_0.len:Int) λs14 w15=>qfc.j4 lens_0 next_6 s14 Q w15
def qfc.b2(lens_0:Sl)(next_6:Addr)(c_7:Addr)(n_8:Int)(Q:VWP)(nx2:Sl->Addr->Addr->Int->WP)(w:World):Prop:=br (decide (n_8<=15)) (lt (World.drew w) λw16=>lt (i64.wrap (n_8-1)) λx17=>ixA next_6 16 x17 1 λa18=>ldI .i64 w16 a18 λx19=>lt (i64.wrap (n_8-1)) λx20=>ixA c_7 16 x20 1 λa21=>ldI .i64 w16 a21 λx22=>lt (i64.wrap (x19+x22)) λx23=>(0:Int)<=1/\lt (qzi .i64 x23 1) λx24=>ixA next_6 16 n_8 1 λa25=>st w16 a25 (.int .i64 x24) λw26=>lt (i64.wrap (n_8+1)) λx27=>nx2 lens_0 next_6 c_7 x27 w26) (qfc.j3 lens_0 next_6 Q w)
def qfc.l2(lens_0:Sl)(next_6:Addr)(c_7:Addr)(n_8:Int)(Q:VWP)(w:World):Prop:=∃(I:Int->WP) (μ:Int->World->Nat),I n_8 w/\∀n_8:Int,∀w:World,I n_8 w->qfc.b2 lens_0 next_6 c_7 n_8 Q (λlens_0' next_6' c_7' n_8' w'=>(lens_0'=lens_0/\next_6'=next_6/\c_7'=c_7)/\I n_8' w'/\μ n_8' w'<μ n_8 w) w
def qfc.j7(lens_0:Sl)(next_6:Addr)(c_7:Addr)(n_8:Int)(Q:VWP)(w:World):Prop:=qfc.l2 lens_0 next_6 c_7 n_8 Q w
def qfc.j2(lens_0:Sl)(next_6:Addr)(c_7:Addr)(Q:VWP)(w:World):Prop:=qfc.j7 lens_0 next_6 c_7 1 Q w
def qfc.j1(lens_0:Sl)(Q:VWP)(w:World):Prop:=nw w (zc prog 190) 190 λa28 w29=>qgv 124 [sV lens_0] w29 λr32 w31=>nw w31 (zc prog 190) 190 λa33 w34=>(r32).size=16/\stA w34 a33 r32 λw35=>qfc.j2 lens_0 a28 a33 Q w35
def qfc(lens_0:Sl)(Q:VWP)(w:World):Prop:=qxob 123 [sV lens_0] w λr38 r39 w37=>br (r39 !=0) (Q (.tuple ⟨[.slice none 0 0,.int .i64 r39]⟩) w37) (qfc.j1 lens_0 Q w37)
theorem qfc.ok(lens_0:Sl)(Q:VWP)(w:World)(h:qfc lens_0 Q w):Calls prog 125 ⟨[sV lens_0]⟩ w (Ret Q):=
 qhc [.tmp 2,.tmp 3] qde Tryz.func125 rfl rfl rfl rfl (.pr 1 [sL 0] (λa w=>qfc.j1 a Q w) (.pr 1 [sL 0,sA 6,sA 7] (λa b c w=>qfc.j2 a b c Q w) (.sq [sL 0,sA 6] (λa b w=>qfc.j3 a b Q w) (.sq [sL 0,sA 6,sA 7,sI 8] (λa b c d w=>qfc.j7 a b c d Q w) .lf (.bk (.lo [sL 0,sA 6,sA 7] [sI 8] (λa b c d w=>qfc.l2 a b c d Q w) (λnx2 a b c d w=>qfc.b2 a b c d Q nx2 w) λnx2=> .lf))) (.sq [sL 0,sA 6,sL 9] (λa b c w=>qfc.j4 a b c Q w) .lf (.sq [sL 9] (λa w=>qfc.j5 a Q w) (.sq [sA 6,sL 9,sL 41,sI 42,sI 43] (λa b c d e w=>qfc.j6 a b c d e Q w) .lf (.bk (.lo [sA 6,sL 9,sL 41,sI 42] [sI 43] (λa b c d e w=>qfc.l1 a b c d e Q w) (λnx1 a b c d e w=>qfc.b1 a b c d e Q nx1 w) λnx1=> .lf))) .lf))))) (by kernel_rfl) h
def qnc.j4(lens_0:Sl)(c_8:OAd)(Q:VWP)(w:World):Prop:=qyu 125 [sV lens_0] w λr3 r4 w2=>nz c_8 λa5=>st w2 (Addr.add a5 1) (sV r3) λw6=>Q (.tuple ⟨[.pointer c_8,.int .i64 0]⟩) w6
def qnc.j3(lens_0:Sl)(half_1:Bool)(complete_6:Bool)(c_8:OAd)(Q:VWP)(w:World):Prop:=br (!complete_6) (br half_1 (nz c_8 λa7=>ldL w (Addr.add a7 18) λx8=>br ((x8.len:Int)==0) (br (!true) (Q (.tuple ⟨[.pointer none,.int .i64 2]⟩) w) (qnc.j4 lens_0 c_8 Q w)) (nz c_8 λa9=>ldL w (Addr.add a9 18) λx10=>br ((x10.len:Int)==1) (nz c_8 λa11=>ixA (Addr.add a11 2) 16 1 1 λa12=>ldI .i64 w a12 λx13=>br (!(x13==1)) (Q (.tuple ⟨[.pointer none,.int .i64 2]⟩) w) (qnc.j4 lens_0 c_8 Q w)) (br (!false) (Q (.tuple ⟨[.pointer none,.int .i64 2]⟩) w) (qnc.j4 lens_0 c_8 Q w)))) (br (!false) (Q (.tuple ⟨[.pointer none,.int .i64 2]⟩) w) (qnc.j4 lens_0 c_8 Q w))) (qnc.j4 lens_0 c_8 Q w)
def qnc.j7(lens_0:Sl)(half_1:Bool)(complete_6:Bool)(c_8:OAd)(n_9:Int)(Q:VWP)(nx1:Sl->Bool->Bool->OAd->Int->WP)(w:World):Prop:=lt (i64.wrap (n_9+1)) λx14=>nx1 lens_0 half_1 complete_6 c_8 x14 w
def qnc.b2(lens_0:Sl)(half_1:Bool)(complete_6:Bool)(c_8:OAd)(n_9:Int)(t31:Sl)(t32 t33:Int)(Q:VWP)(nx1:Sl->Bool->Bool->OAd->Int->WP)(nx2:Sl->Bool->Bool->OAd->Int->Sl->Int->Int->WP)(w:World):Prop:=br (decide (t33<t32)) (ixS t31.a t31.len t33 1 λa15=>ldI .i64 w a15 λx16=>br (x16==n_9) (nz c_8 λa17=>ldL w (Addr.add a17 18) λx18=>nw w ⟨[.int .i64 t33]⟩ 3 λa19 w20=>rdO w20 (some a19) (1*1) λc21=>apK prog 3 w20 x18.a x18.len x18.cap 1 c21 λs22 w23=>nz c_8 λa24=>st w23 (Addr.add a24 18) (sV s22) λw25=>lt (i64.wrap (t33+1)) λx26=>nx2 lens_0 half_1 complete_6 c_8 n_9 t31 t32 x26 w25) (lt (i64.wrap (t33+1)) λx27=>nx2 lens_0 half_1 complete_6 c_8 n_9 t31 t32 x27 w)) (qnc.j7 lens_0 half_1 complete_6 c_8 n_9 Q nx1 w)
def qnc.l2(lens_0:Sl)(half_1:Bool)(complete_6:Bool)(c_8:OAd)(n_9:Int)(t31:Sl)(t32 t33:Int)(Q:VWP)(nx1:Sl->Bool->Bool->OAd->Int->WP)(w:World):Prop:=∃(I:Int->WP) (μ:Int->World->Nat),I t33 w/\∀t33:Int,∀w:World,I t33 w->qnc.b2 lens_0 half_1 complete_6 c_8 n_9 t31 t32 t33 Q nx1 (λlens_0' half_1' complete_6' c_8' n_9' t31' t32' t33' w'=>(lens_0'=lens_0/\half_1'=half_1/\complete_6'=complete_6/\c_8'=c_8/\n_9'=n_9/\t31'=t31/\t32'=t32)/\I t33' w'/\μ t33' w'<μ t33 w) w
def qnc.j8(lens_0:Sl)(half_1:Bool)(complete_6:Bool)(c_8:OAd)(n_9:Int)(t31:Sl)(t32 t33:Int)(Q:VWP)(nx1:Sl->Bool->Bool->OAd->Int->WP)(w:World):Prop:=qnc.l2 lens_0 half_1 complete_6 c_8 n_9 t31 t32 t33 Q nx1 w
def qnc.j6(lens_0:Sl)(half_1:Bool)(complete_6:Bool)(c_8:OAd)(n_9:Int)(Q:VWP)(nx1:Sl->Bool->Bool->OAd->Int->WP)(w:World):Prop:=qnc.j8 lens_0 half_1 complete_6 c_8 n_9 lens_0 (lens_0.len:Int) 0 Q nx1 w
def qnc.b1(lens_0:Sl)(half_1:Bool)(complete_6:Bool)(c_8:OAd)(n_9:Int)(Q:VWP)(nx1:Sl->Bool->Bool->OAd->Int->WP)(w:World):Prop:=br (decide (n_9<=15)) (qnc.j6 lens_0 half_1 complete_6 c_8 n_9 Q nx1 w) (qnc.j3 lens_0 half_1 complete_6 c_8 Q w)
def qnc.l1(lens_0:Sl)(half_1:Bool)(complete_6:Bool)(c_8:OAd)(n_9:Int)(Q:VWP)(w:World):Prop:=∃(I:Int->WP) (μ:Int->World->Nat),I n_9 w/\∀n_9:Int,∀w:World,I n_9 w->qnc.b1 lens_0 half_1 complete_6 c_8 n_9 Q (λlens_0' half_1' complete_6' c_8' n_9' w'=>(lens_0'=lens_0/\half_1'=half_1/\complete_6'=complete_6/\c_8'=c_8)/\I n_9' w'/\μ n_9' w'<μ n_9 w) w
def qnc.j5(lens_0:Sl)(half_1:Bool)(complete_6:Bool)(c_8:OAd)(n_9:Int)(Q:VWP)(w:World):Prop:=qnc.l1 lens_0 half_1 complete_6 c_8 n_9 Q w
def qnc.j2(lens_0:Sl)(half_1:Bool)(complete_6:Bool)(c_8:OAd)(Q:VWP)(w:World):Prop:=qnc.j5 lens_0 half_1 complete_6 c_8 1 Q w
def qnc.j1(lens_0:Sl)(half_1:Bool)(complete_6:Bool)(err_7:Int)(Q:VWP)(w:World):Prop:=br (err_7 !=0) (Q (.tuple ⟨[.pointer none,.int .i64 err_7]⟩) w) (nw w ⟨[]⟩ 3 λa28 w29=>rdO w29 lens_0.a (lens_0.len*1) λc30=>apK prog 3 w29 (some a28) 0 0 lens_0.len c30 λs31 w32=>qgv 124 [sV lens_0] w32 λr35 w34=>(r35).size=16/\nw w34 (⟨(spl [sV s31,.slice none 0 0,.int .i64 0,.int .i64 0,.int .i64 0,.int .i64 0,.int .i64 0,.int .i64 0,.int .i64 0,.int .i64 0,.int .i64 0,.int .i64 0,.int .i64 0,.int .i64 0,.int .i64 0,.int .i64 0,.int .i64 0,.int .i64 0,.slice none 0 0] 2 r35)⟩:Array Value) 193 λa36 w37=>qnc.j2 lens_0 half_1 complete_6 (some a36) Q w37)
def qnc(lens_0:Sl)(half_1:Bool)(Q:VWP)(w:World):Prop:=qxob 123 [sV lens_0] w λr40 r41 w39=>qnc.j1 lens_0 half_1 r40 r41 Q w39
theorem qnc.ok(lens_0:Sl)(half_1:Bool)(Q:VWP)(w:World)(h:qnc lens_0 half_1 Q w):Calls prog 100 ⟨[sV lens_0,.bool half_1]⟩ w (Ret Q):=
 qhc [.tmp 4,.tmp 5] qde Tryz.func100 rfl rfl rfl rfl (.pr 1 [sL 0,sB 1,sB 6,sI 7] (λa b c d w=>qnc.j1 a b c d Q w) (.pr 1 [sL 0,sB 1,sB 6,sP 8] (λa b c d w=>qnc.j2 a b c d Q w) (.sq [sL 0,sB 1,sB 6,sP 8] (λa b c d w=>qnc.j3 a b c d Q w) (.sq [sL 0,sB 1,sB 6,sP 8,sI 9] (λa b c d e w=>qnc.j5 a b c d e Q w) .lf (.bk (.lo [sL 0,sB 1,sB 6,sP 8] [sI 9] (λa b c d e w=>qnc.l1 a b c d e Q w) (λnx1 a b c d e w=>qnc.b1 a b c d e Q nx1 w) λnx1=>(.sq [sL 0,sB 1,sB 6,sP 8,sI 9] (λa b c d e w=>qnc.j6 a b c d e Q nx1 w) .lf (.sq [sL 0,sB 1,sB 6,sP 8,sI 9] (λa b c d e w=>qnc.j7 a b c d e Q nx1 w) (.bk (.sq [sL 0,sB 1,sB 6,sP 8,sI 9,sL 31,sI 32,sI 33] (λa b c d e f g h w=>qnc.j8 a b c d e f g h Q nx1 w) .lf (.bk (.lo [sL 0,sB 1,sB 6,sP 8,sI 9,sL 31,sI 32] [sI 33] (λa b c d e f g h w=>qnc.l2 a b c d e f g h Q nx1 w) (λnx2 a b c d e f g h w=>qnc.b2 a b c d e f g h Q nx1 nx2 w) λnx2=> .lf)))) .lf))))) (.sq [sL 0,sP 8] (λa b w=>qnc.j4 a b Q w) .lf .lf)))) (by kernel_rfl) h
def qkg(c_0:OAd)(Q:VWP)(w:World):Prop:=nz c_0 λa1=>ldL w (Addr.add a1 18) λx2=>br ((x2.len:Int)==0) (Q (.int .i64 1) w) (lt (World.drew w) λw3=>nz c_0 λa4=>ldL w3 (Addr.add a4 0) λx5=>nz c_0 λa6=>ldL w3 (Addr.add a6 18) λx7=>nz c_0 λa8=>ldL w3 (Addr.add a8 18) λx9=>lt (i64.wrap ((x9.len:Int)-1)) λx10=>ixS x7.a x7.len x10 1 λa11=>ldI .i64 w3 a11 λx12=>ixS x5.a x5.len x12 1 λa13=>ldI .i64 w3 a13 λx14=>Q (.int .i64 x14) w3)
theorem qkg.ok(c_0:OAd)(Q:VWP)(w:World)(h:qkg c_0 Q w):Calls prog 176 ⟨[.pointer c_0]⟩ w (Ret Q):=
 qhc [.tmp 2] qde Tryz.func176 rfl rfl rfl rfl .lf (by kernel_rfl) h
def qjc.j3(Q:VWP)(w:World):Prop:=Q (.tuple ⟨[.int .i64 0,.int .i64 2]⟩) w
def qjc.b1(c_0 bit_9:OAd)(code_6:Int)(first_7 at_8 n_10:Int)(Q:VWP)(nx1:OAd->OAd->Int->Int->Int->Int->WP)(w:World):Prop:=qbk 176 [.pointer c_0] w λr3 w2=>br (decide (n_10<=r3)) (qwob 164 [.pointer bit_9,.int .i64 1] w2 λr6 r7 w5=>br (!r7) (Q (.tuple ⟨[.int .i64 0,.int .i64 3]⟩) w5) ((0:Int)<=1/\lt (qzi .i64 code_6 1) λx8=>lt (orV .i64 x8 r6) λx9=>(0:Int)<=1/\lt (qzi .i64 first_7 1) λx10=>lt (i64.wrap (x9-x10)) λx11=>nz c_0 λa12=>ixA (Addr.add a12 2) 16 n_10 1 λa13=>ldI .i64 w5 a13 λx14=>br (decide (x11<x14)) (nz c_0 λa15=>ldL w5 (Addr.add a15 18) λx16=>lt (i64.wrap (at_8+x11)) λx17=>ixS x16.a x16.len x17 1 λa18=>ldI .i64 w5 a18 λx19=>Q (.tuple ⟨[.int .i64 x19,.int .i64 0]⟩) w5) (nz c_0 λa20=>ixA (Addr.add a20 2) 16 n_10 1 λa21=>ldI .i64 w5 a21 λx22=>lt (i64.wrap (at_8+x22)) λx23=>nz c_0 λa24=>ixA (Addr.add a24 2) 16 n_10 1 λa25=>ldI .i64 w5 a25 λx26=>lt (i64.wrap (x10+x26)) λx27=>lt (i64.wrap (n_10+1)) λx28=>nx1 c_0 bit_9 x9 x27 x23 x28 w5))) (qjc.j3 Q w2)
def qjc.l1(c_0 bit_9:OAd)(code_6:Int)(first_7 at_8 n_10:Int)(Q:VWP)(w:World):Prop:=∃(I:Int->Int->Int->Int->WP) (μ:Int->Int->Int->Int->World->Nat),I code_6 first_7 at_8 n_10 w/\∀code_6:Int,∀first_7:Int,∀at_8:Int,∀n_10:Int,∀w:World,I code_6 first_7 at_8 n_10 w->qjc.b1 c_0 bit_9 code_6 first_7 at_8 n_10 Q (λc_0' bit_9' code_6' first_7' at_8' n_10' w'=>(c_0'=c_0/\bit_9'=bit_9)/\I code_6' first_7' at_8' n_10' w'/\μ code_6' first_7' at_8' n_10' w'<μ code_6 first_7 at_8 n_10 w) w
def qjc.j4(c_0:OAd)(code_6:Int)(first_7 at_8:Int)(bit_9:OAd)(n_10:Int)(Q:VWP)(w:World):Prop:=qjc.l1 c_0 bit_9 code_6 first_7 at_8 n_10 Q w
def qjc.j2(c_0:OAd)(code_6:Int)(first_7 at_8:Int)(bit_9:OAd)(Q:VWP)(w:World):Prop:=qjc.j4 c_0 code_6 first_7 at_8 bit_9 1 Q w
def qjc.j1(c_0 r_1:OAd)(Q:VWP)(w:World):Prop:=qjc.j2 c_0 0 0 0 r_1 Q w
def qjc(c_0 r_1:OAd)(Q:VWP)(w:World):Prop:=qjc.j1 c_0 r_1 Q w
theorem qjc.ok(c_0:OAd)(r_1:OAd)(Q:VWP)(w:World)(h:qjc c_0 r_1 Q w):Calls prog 169 ⟨[.pointer c_0,.pointer r_1]⟩ w (Ret Q):=
 qhc [.tmp 4,.tmp 5] qde Tryz.func169 rfl rfl rfl rfl (.sq [sP 0,sP 1] (λa b w=>qjc.j1 a b Q w) .lf (.pr 1 [sP 0,sI 6,sI 7,sI 8,(9,.c1 164)] (λa b c d e w=>qjc.j2 a b c d e Q w) (.sq [] (λ w=>qjc.j3 Q w) (.sq [sP 0,sI 6,sI 7,sI 8,(9,.c1 164),sI 10] (λa b c d e f w=>qjc.j4 a b c d e f Q w) .lf (.bk (.lo [sP 0,(9,.c1 164)] [sI 6,sI 7,sI 8,sI 10] (λa b c d e f w=>qjc.l1 a b c d e f Q w) (λnx1 a b c d e f w=>qjc.b1 a b c d e f Q nx1 w) λnx1=> .lf))) .lf))) (by kernel_rfl) h
def qgg(c_0 w_1:OAd)(sym_2:Int)(Q:VWP)(w:World):Prop:=br (decide (sym_2<0)) (Q (.bool false) w) (nz c_0 λa1=>ldL w (Addr.add a1 0) λx2=>br (decide (sym_2>=(x2.len:Int))) (Q (.bool false) w) (nz c_0 λa3=>ldL w (Addr.add a3 0) λx4=>ixS x4.a x4.len sym_2 1 λa5=>ldI .i64 w a5 λx6=>br (x6==0) (Q (.bool false) w) (lt (World.drew w) λw7=>nz c_0 λa8=>ldL w7 (Addr.add a8 1) λx9=>ixS x9.a x9.len sym_2 1 λa10=>ldI .i64 w7 a10 λx11=>nz c_0 λa12=>ldL w7 (Addr.add a12 0) λx13=>ixS x13.a x13.len sym_2 1 λa14=>ldI .i64 w7 a14 λx15=>ct_ 134 [.pointer w_1,.int .i64 x11,.int .i64 x15] w7 λw17=>Q (.bool true) w17)))
theorem qgg.ok(c_0:OAd)(w_1:OAd)(sym_2:Int)(Q:VWP)(w:World)(h:qgg c_0 w_1 sym_2 Q w):Calls prog 107 ⟨[.pointer c_0,.pointer w_1,.int .i64 sym_2]⟩ w (Ret Q):=
 qhc [.tmp 6] qde Tryz.func107 rfl rfl rfl rfl .lf (by kernel_rfl) h
end
section
attribute [local irreducible] apK cpK mkK
theorem quhb:zc prog 190=⟨ivs .i64 (replicate 16 0)⟩:=by kernel_rfl
theorem ptI_i{k:IntKind}{zs:List Int}{j:Nat}{K:Int->Prop}(hj:j<zs.length)(hk:K (zs.getD j 0)):ptI k ⟨ivs k zs⟩ j K:=⟨zs.getD j 0,by
 have:(⟨ivs k zs⟩:Array Value)[j]?=(ivs k zs)[j]?:=by simp
 rw[this];exact qsm hj,hk⟩
theorem shl1{x:Int}(h:0<=x/\x<1000000000000):qzi .i64 x 1=2*x:=by
 have h:=qmj .i64 (x:=x) (t:=1) (by decide) h.1 (by rw[show(2:Int)^(i64.bits-1)=9223372036854775808 by decide];omega);rw[show(2:Int)^1=2 by decide,Int.mul_comm]at h;exact h
theorem qzdb{c n:Nat}(hc:c<=100000)(hn:n<=15):qzi .i64 (c:Int) (n:Int)=((c*2^n:Nat):Int):=by
 have hp:(2:Nat)^n<=32768:=le_trans (pow_le_pow_right (by decide) hn) (by decide);have hp2:c*2^n<=100000*32768:=Nat.mul_le_mul hc hp;rw[qmj .i64 (t:=n) (show n<=64 by omega) (by omega) (by
  rw[show(2:Int)^(i64.bits-1)=9223372036854775808 by decide];have:(c:Int)*2^n=((c*2^n:Nat):Int):=by simp
  rw[this];omega)]
 simp
section
variable {F0:List Nat}{w0 w:World}{ps rest:List As}{ls:List Int}
theorem qid.c{s:Sl}{K:Ending->World->Prop}(h:St F0 w0 w ps)[Rdb F0 w0 s ps 1 (ivs .i64 ls)](ho:okL ls)(hL:ls.length<=1000000)
 (hk:∀w',St F0 w0 w' ps->K (.returned (.agg ⟨ivs .i64 (clL ls)⟩)) w'):Calls prog 124 ⟨[.slice s.a s.len s.cap]⟩ w K:=by
 have hl:=(h.rdb s).1
 rw[qk]at hl
 refine qdc (qid.ok _ _ _ ?_)
 unfold qid
 refine h.new λn1 w h=>?_
 refine h.new λn2 w h=>?_
 rw[quhb]at h
 have h:St F0 w0 w (qqb n2 (ivs .i64 (replicate 16 0))::qqb n1 (ivs .i64 (replicate 16 0))::ps):=h
 unfold qid.j1 qid.j3
 refine qjf (λ(i:Nat) (i':Int) w'=>i'=i/\i<=ls.length/\St F0 w0 w' (qqb n2 (ivs .i64 (clL (ls.take i)))::qqb n1 (ivs .i64 (replicate 16 0))::ps)) (λi=>ls.length-i) 0 ⟨rfl,by omega,by rw[take_zero,qztb];exact h⟩ ?_
 clear h
 rintro i i' w I μ ⟨rfl,hi,h⟩ hin
 unfold qid.b1
 refine quc (λg=>?_) (λg=>?_)
 ·have hil:i<ls.length:=by omega
  have hx:=ho _ (qme hil)
  have htk:=qpj hil
  have hcl:=qoob (ls.take i) (ls.getD i 0).toNat
  rw[length_take]at hcl
  refine h.lx i rfl hil ?_
  generalize ls.getD i 0=x at hx htk hcl
  refine quc (λg2=>?_) (λg2=>?_)
  ·refine h.la x.toNat (by omega) (qxf _) (by omega) ?_
   rw[qet _ (by omega)]
   refine qm (qd (by omega) (by omega)) ?_
   refine h.sa x.toNat (by omega) (qxf _) (by omega) λw h=>?_
   refine qm (qd (by omega) (by omega)) ?_
   rw[qytb (by omega) hx.2,<-htk]at h
   exact⟨⟨rfl,rfl,rfl,rfl⟩,hin (i+1) _ _ ⟨by omega,by omega,h⟩ (by omega)⟩
  ·refine qm (qd (by omega) (by omega)) ?_
   rw[<-clL_no (x:=x) (by omega),<-htk]at h
   exact⟨⟨rfl,rfl,rfl,rfl⟩,hin (i+1) _ _ ⟨by omega,by omega,h⟩ (by omega)⟩
 ·have:i=ls.length:=by omega
  subst this
  rw[take_length]at h
  unfold qid.j2
  have l16:(ivs .i64 (clL ls)).length=16:=by rw[qk];exact qxf _
  refine h.lA l16 ⟨l16,?_⟩
  refine h.sA (b:=n1) (by rw[qk];simp) l16 qpe λw h=>?_
  refine h.lA l16 ?_
  exact hk w h.sub
theorem qkc.c{s:Sl}{K:Ending->World->Prop}(h:St F0 w0 w ps)[Rdb F0 w0 s ps 1 (ivs .i64 ls)]
 (hk:∀w',St F0 w0 w' ps->K (.returned (.tuple ⟨[.bool (qzn ls).1,.int .i64 (qzn ls).2]⟩)) w'):Calls prog 123 ⟨[.slice s.a s.len s.cap]⟩ w K:=by
 have hl:=(h.rdb s).1
 rw[qk]at hl
 refine qdc (qkc.ok _ _ _ ?_)
 unfold qkc
 unfold qzn at hk
 refine quc (λg=>?_) (λg=>?_)
 ·rw[if_pos (by omega)]at hk
  exact hk w h
 rw[if_neg (by omega)]at hk
 unfold qkc.j1 qkc.j6
 refine qjf (λ(i:Nat) (i':Int) w'=>i'=i/\i<=ls.length/\okL (ls.take i)/\St F0 w0 w' ps) (λi=>ls.length-i) 0 ⟨rfl,by omega,λx hx=>by simp at hx,h⟩ ?_
 clear h
 rintro i i' w I μ ⟨rfl,hi,hok,h⟩ hin
 unfold qkc.b2
 refine quc (λg2=>?_) (λg2=>?_)
 ·have hil:i<ls.length:=by omega
  have bad:¬(0<=ls.getD i 0/\ls.getD i 0<=15)->K (.returned (.tuple ⟨[.bool false,.int .i64 1]⟩)) w:=λhn=>by
   rw[if_pos (λe=>hn (e _ (qme hil)))]at hk;exact hk w h
  refine h.lx i rfl hil ?_
  refine quc (λg3=>bad (by omega)) (λg3=>?_)
  refine quc (λg4=>bad (by omega)) (λg4=>?_)
  refine qm (qd (by omega) (by omega)) ?_
  refine⟨⟨rfl,rfl,rfl⟩,hin (i+1) _ _ ⟨by omega,by omega,?_,h⟩ (by omega)⟩
  rw[qpj hil]
  intro x hx
  rcases mem_append.1 hx with hx|hx
  ·exact hok x hx
  ·rw[mem_singleton.1 hx];omega
 have:i=ls.length:=by omega
 subst this
 rw[take_length]at hok
 clear hin
 rw[if_neg (λe=>e hok)]at hk
 unfold qkc.j2 qkc.j3
 refine qid.c h hok (by omega) λw h=>⟨_,rfl,?_⟩
 unfold qkc.j5
 have hkr:=kr_eq ls hok
 have hkl:=kr_le ls
 refine qug (λ(n:Nat) (r n':Int) w'=>n'=n/\n<=16/\r=32768-(krN ls (n-1):Int)/\St F0 w0 w' ps) (λn=>16-n) 0 ⟨rfl,by omega,by simp[krN],h⟩ ?_
 clear h
 rintro n r n' w I μ ⟨rfl,hn,rfl,h⟩ hin
 unfold qkc.b1
 refine quc (λg3=>?_) (λg3=>?_)
 ·refine⟨⟨by omega,by omega⟩,ptI_i (by rw[qxf];omega) ?_⟩
  rw[show((n:Int)).toNat*1=n by omega,qet _ (by omega)]
  have hm:=qfy ls 15 (n-1) (by omega)
  refine quc (λg4=>?_) (λg4=>?_)
  ·refine qm (show i64.wrap (15-(n:Int))=((15-n:Nat):Int)by rw[qd (by omega) (by omega)];omega) ?_
   have hcl:=qoob ls n
   refine⟨by omega,qm (qzdb (by omega) (by omega)) ?_⟩
   obtain⟨m,rfl⟩:∃m,n=m+1:=⟨n-1,by omega⟩
   have hm2:=qfy ls 15 (m+1) (by omega)
   have hst:krN ls (m+1)=krN ls m+hc ls (m+1)*2^(15-(m+1)):=rfl
   rw[add_sub_cancel]at hm|-
   refine qm (qd (by omega) (by omega)) ?_
   refine qm (qd (by omega) (by omega)) ?_
   exact⟨rfl,hin (m+1+1) _ _ _ ⟨by omega,by omega,by rw[add_sub_cancel,hst];omega,h⟩ (by omega)⟩
  ·have:n=0:=by omega
   subst this
   refine qm (qd (by omega) (by omega)) ?_
   exact⟨rfl,hin 1 _ _ _ ⟨by omega,by omega,rfl,h⟩ (by omega)⟩
 ·have:n=16:=by omega
  subst this
  have e:krN ls (16-1)=kr ls:=hkr.symm
  rw[e]
  unfold qkc.j4
  refine quc (λg4=>?_) (λg4=>?_)
  ·rw[if_pos (by omega)]at hk
   exact hk w h
  ·rw[if_neg (by omega)]at hk
   have e:((32768-(kr ls:Int))==0)=decide (kr ls=32768):=by
    apply Bool.eq_iff_iff.2;rw[beq_iff_eq,decide_eq_true_eq];omega
   rw[e]
   exact hk w h
def nxL(l:List Int)(n:Nat):List Int:=qzl 16 λm=>if m<n then(hf l m:Int)else 0
def nyL(l:List Int)(i:Nat):List Int:=qzl 16 λm=>((hf l m+hc (l.take i) m:Nat):Int)
def cdL(l:List Int)(i:Nat):List Int:=qzl l.length λm=>if m<i then(qpg l m:Int)else 0
theorem qfc.c{s:Sl}{K:Ending->World->Prop}(h:St F0 w0 w ps)[Rdb F0 w0 s ps 1 (ivs .i64 ls)]
 (hk:∀s' w',(qzn ls).2=0->St F0 w0 w' (qcc 1 s' (ivs .i64 (qwl ls))::ps)->K (.returned (.tuple ⟨[.slice s'.a s'.len s'.cap,.int .i64 0]⟩)) w')
 (hk2:∀w',(qzn ls).2≠0->St F0 w0 w' ps->K (.returned (.tuple ⟨[.slice none 0 0,.int .i64 (qzn ls).2]⟩)) w'):Calls prog 125 ⟨[.slice s.a s.len s.cap]⟩ w K:=by
 have hl:=(h.rdb s).1
 rw[qk]at hl
 refine qdc (qfc.ok _ _ _ ?_)
 unfold qfc
 refine qkc.c h λw h=>⟨_,_,rfl,?_⟩
 refine qye (λg=>?_) (λg=>?_)
 ·exact hk2 w (by simpa using g) h
 have g:(qzn ls).2=0:=by simpa using g
 obtain⟨hok,hkr,hlen,_⟩:=qku g
 unfold qfc.j1
 refine h.new λn1 w h=>?_
 rw[quhb]at h
 have h:St F0 w0 w (qqb n1 (ivs .i64 (replicate 16 0))::ps):=h
 refine qid.c h hok (by omega) λw h=>⟨_,rfl,?_⟩
 refine h.new λn2 w h=>?_
 rw[quhb]at h
 have h:St F0 w0 w (qqb n2 (ivs .i64 (replicate 16 0))::qqb n1 (ivs .i64 (replicate 16 0))::ps):=h
 have l16:(ivs .i64 (clL ls)).length=16:=by rw[qk];exact qxf _
 refine⟨l16,?_⟩
 refine h.sA (b:=n2) (by rw[qk];simp) l16 qpe λw h=>?_
 unfold qfc.j2 qfc.j7
 have nx0:replicate 16 0=nxL ls 1:=by
  rw[qjm];refine qvd λi hi=>?_;by_cases h:i<1
  ·rw[if_pos h,show i=0 by omega];rfl
  ·rw[if_neg h]
 rw[nx0]at h
 refine qjf (λ(n:Nat) (n':Int) w'=>n'=n/\1<=n/\n<=16/\St F0 w0 w' (qqb n1 (ivs .i64 (nxL ls n))::qqb n2 (ivs .i64 (clL ls))::ps)) (λn=>16-n) 1 ⟨rfl,by omega,by omega,h.sub⟩ ?_
 clear h
 rintro n n' w I μ ⟨rfl,hn1,hn,h⟩ hin
 unfold qfc.b2
 refine quc (λg3=>?_) (λg3=>?_)
 ·obtain⟨m,rfl⟩:∃m,n=m+1:=⟨n-1,by omega⟩
  have hb:=qml ls hok hkr (n:=m) (by omega)
  refine h.drewK λw h=>?_
  refine qm (qd (by omega) (by omega)) ?_
  refine h.la (b:=n1) m (by omega) (qod _ _) (by omega) ?_
  refine qm (qd (by omega) (by omega)) ?_
  refine h.la (b:=n2) m (by omega) (qxf _) (by omega) ?_
  have e1:(nxL ls (m+1)).getD m 0=hf ls m:=by unfold nxL;rw[qqg (by omega),if_pos (by omega)]
  rw[e1,qet _ (by omega)]
  refine qm (qd (by omega) (by omega)) ?_
  refine⟨by decide,qm (shl1 (by omega)) ?_⟩
  refine h.sa (b:=n1) (m+1) (by omega) (qod _ _) (by omega) λw h=>?_
  refine qm (qd (by omega) (by omega)) ?_
  have e2:(nxL ls (m+1)).set (m+1) (2*((hf ls m:Int)+(hc ls m:Int)))=nxL ls (m+1+1):=by
   unfold nxL;rw[qhl];refine qvd λi hi=>?_;by_cases h:i=m+1
   ·rw[if_pos h,if_pos (by omega),h,hf];omega
   ·rw[if_neg h];by_cases h2:i<m+1
    ·rw[if_pos h2,if_pos (by omega)]
    ·rw[if_neg h2,if_neg (by omega)]
  rw[e2]at h
  exact⟨⟨rfl,rfl,rfl⟩,hin (m+1+1) _ _ ⟨by omega,by omega,by omega,h⟩ (by omega)⟩
 have:n=16:=by omega
 subst this
 clear hin
 have ny0:nxL ls 16=nyL ls 0:=qvd λi hi=>by
  rw[if_pos hi,take_zero];simp[hc]
 rw[ny0]at h
 unfold qfc.j3
 refine h.makeI (n:=ls.length) (by omega) (by omega) (by omega) λo w ho1 ho2 h=>?_
 unfold qfc.j4 qfc.j6
 have cd0:replicate ls.length 0=cdL ls 0:=by
  rw[qjm];exact qvd λi hi=>by rw[if_neg (by omega)]
 rw[cd0]at h
 refine qjf (λ(i:Nat) (i':Int) w'=>i'=i/\i<=ls.length/\St F0 w0 w' (qcc 1 o (ivs .i64 (cdL ls i))::qqb n1 (ivs .i64 (nyL ls i))::ps)) (λi=>ls.length-i) 0 ⟨rfl,by omega,h.sub⟩ ?_
 clear h
 rintro i i' w I μ ⟨rfl,hi,h⟩ hin
 unfold qfc.b1
 refine quc (λg4=>?_) (λg4=>?_)
 ·have hil:i<ls.length:=by omega
  have hx:=hok _ (qme hil)
  have cds:∀v:Int,v=qpg ls i->(cdL ls i).set i v=cdL ls (i+1):=by
   intro v hv;unfold cdL;rw[qhl];refine qvd λj hj=>?_;by_cases h:j=i
   ·rw[if_pos h,if_pos (by omega),h,hv]
   ·rw[if_neg h];by_cases h2:j<i
    ·rw[if_pos h2,if_pos (by omega)]
    ·rw[if_neg h2,if_neg (by omega)]
  refine h.lx i rfl hil ?_
  refine quc (λg5=>?_) (λg5=>?_)
  ·obtain⟨m,hm⟩:∃m:Nat,ls.getD i 0=m:=⟨(ls.getD i 0).toNat,by omega⟩
   have hce:=qjy hm (by omega)
   have hsz:=qcw hok hkr hil hm (by omega)
   have hp:(2:Nat)^m<=32768:=le_trans (pow_le_pow_right (by decide) (show m<=15 by omega)) (by decide)
   have eg:(nyL ls i).getD m 0=qpg ls i:=by unfold nyL;rw[qqg (by omega),hce]
   rw[hm]at g5 hx|-
   refine h.la (b:=n1) m rfl (qod _ _) (by omega) ?_
   rw[eg]
   refine h.sx (s:=o) i rfl (by unfold cdL;rw[qod];exact hil) λw h=>?_
   refine h.la (b:=n1) m rfl (qod _ _) (by omega) ?_
   rw[eg]
   refine qm (qd (by omega) (by omega)) ?_
   refine h.sa (b:=n1) m rfl (qod _ _) (by omega) λw h=>?_
   refine qm (qd (by omega) (by omega)) ?_
   have eny:(nyL ls i).set m ((qpg ls i:Int)+1)=nyL ls (i+1):=by
    unfold nyL;rw[qhl];refine qvd λj hj=>?_;rw[qpj hil,qwo,hm];by_cases h:j=m
    ·rw[if_pos h,if_pos (by omega),h,hce];omega
    ·rw[if_neg h,if_neg (by omega)];omega
   rw[cds _ rfl,eny]at h
   exact⟨⟨rfl,rfl,rfl,rfl⟩,hin (i+1) _ _ ⟨by omega,by omega,h.sub⟩ (by omega)⟩
  ·refine qm (qd (by omega) (by omega)) ?_
   have ecd:cdL ls i=cdL ls (i+1):=by
    refine qvd λj hj=>?_;by_cases h2:j<i
    ·rw[if_pos h2,if_pos (by omega)]
    ·rw[if_neg h2];by_cases h3:j=i
     ·rw[if_pos (by omega),h3,qreb (by omega)];rfl
     ·rw[if_neg (by omega)]
   have eny:nyL ls i=nyL ls (i+1):=by
    refine qvd λj hj=>?_;rw[qpj hil,qwo,if_neg (by omega)];rfl
   rw[ecd,eny]at h
   exact⟨⟨rfl,rfl,rfl,rfl⟩,hin (i+1) _ _ ⟨by omega,by omega,h⟩ (by omega)⟩
 ·have:i=ls.length:=by omega
  subst this
  have e:cdL ls ls.length=qwl ls:=by
   show qzl _ _=qzl _ λi=>(qpg ls i:Int);exact qvd λj hj=>by rw[if_pos hj]
  rw[e]at h
  unfold qfc.j5
  exact hk o w g h.sub
end
end
section
attribute [local irreducible] apK cpK mkK
def nats(l:List Nat):List Int:=l.map λn:Nat=>(n:Int)
theorem qrj(l:List Nat):(nats l).length=l.length:=by simp[nats]
theorem qaab(l:List Nat)(i:Nat):(nats l).getD i 0=((l.getD i 0:Nat):Int):=by
 unfold nats;rw[getD_eq_getElem?_getD,getElem?_map,getD_eq_getElem?_getD];cases l[i]?<;>rfl
theorem qkob(l:List Int):∀n,(qdf l n).length<=n*l.length:=by
 intro n;induction n with
 |zero=>simp[qdf]
 |succ n ih=>
  have h4:=qog l (n+1);have h5:=count_le_length (a:=((n+1:Nat):Int)) (l:=l);rw[qdf,length_append,succ_mul];omega
def hcC(s1 s2 s3:Sl)(ls:List Int):List Value:= .slice s1.a s1.len s1.cap:: .slice s2.a s2.len s2.cap::(ivs .i64 (clL ls)++[.slice s3.a s3.len s3.cap])
theorem qlu(s1 s2 s3:Sl)(ls:List Int):(hcC s1 s2 s3 ls)[18]?=some (.slice s3.a s3.len s3.cap):=by
 unfold hcC;rw[List.getElem?_cons_succ,List.getElem?_cons_succ,getElem?_append_right (by rw[qk,qxf];decide),qk,qxf];rfl
theorem hcC_n(s1 s2 s3:Sl)(ls:List Int){n:Nat}(h:n<16):(hcC s1 s2 s3 ls)[2+n]?=some (.int .i64 (hc ls n)):=by
 unfold hcC;rw[show 2+n=n+1+1 by omega,List.getElem?_cons_succ,List.getElem?_cons_succ,getElem?_append_left (by rw[qk,qxf];exact h),qsm (by rw[qxf];exact h),qet _ h]
theorem qdw(s1 s2 s3:Sl)(ls:List Int):(hcC s1 s2 s3 ls).length=19:=by
 unfold hcC;rw[List.length_cons,List.length_cons,length_append,qk,qxf];rfl
theorem qhkb(s1 s2 s3 s:Sl)(ls:List Int):(hcC s1 s2 s3 ls).set 18 (.slice s.a s.len s.cap)=hcC s1 s2 s ls:=by
 unfold hcC;rw[List.set_cons_succ,List.set_cons_succ,List.set_append_right _ _ (by rw[qk,qxf];decide),qk,qxf];rfl
theorem qpob(s1 s2 s3 s:Sl)(ls:List Int):(hcC s1 s2 s3 ls).set 1 (.slice s.a s.len s.cap)=hcC s1 s s3 ls:=rfl
theorem spl_hc(s:Sl)(f:Nat->Int):spl [.slice s.a s.len s.cap,.slice none 0 0,.int .i64 0,.int .i64 0,.int .i64 0,.int .i64 0,.int .i64 0,.int .i64 0,.int .i64 0,.int .i64 0,.int .i64 0,.int .i64 0,.int .i64 0,.int .i64 0,.int .i64 0,.int .i64 0,.int .i64 0,.int .i64 0,.slice none 0 0] 2 ⟨ivs .i64 (qzl 16 f)⟩=
 .slice s.a s.len s.cap:: .slice none 0 0::(ivs .i64 (qzl 16 f)++[.slice none 0 0]):=by kernel_rfl
section
variable {F0:List Nat}{w0 w:World}{ps rest:List As}{ls:List Int}
def hcA(cb:Nat)(ls:List Int):As:=exA λs:Sl×Sl×Sl=>ifA (okL ls/\kr ls<=32768/\ls.length<=288)<|andA (qqb cb (hcC s.1 s.2.1 s.2.2 ls))<|andA (qcc 1 s.1 (ivs .i64 ls))<|andA (qcc 1 s.2.1 (ivs .i64 (qwl ls))) (qcc 1 s.2.2 (ivs .i64 (nats (qdf ls 15))))
theorem qbs(cb:Nat)(h:St F0 w0 w ps)[PkF hcA cb ps ls rest]:okL ls/\kr ls<=32768/\ls.length<=288/\∃s1 s2 s3:Sl,Blk w cb (hcC s1 s2 s3 ls)/\Rd w 1 s1 (ivs .i64 ls)/\Rd w 1 s2 (ivs .i64 (qwl ls))/\Rd w 1 s3 (ivs .i64 (nats (qdf ls 15))):=by
 obtain⟨s,h⟩:=(h.toF hcA cb).exE;obtain⟨⟨h1,h2,h3⟩,h⟩:=h.ifE;have h:=h.split;have g:=h.drop.split;have g2:=g.drop.split;exact⟨h1,h2,h3,s.1,s.2.1,s.2.2,h.blk,g.ord,g2.ord,g2.drop.ord⟩
theorem hcA_i{cb:Nat}{s1 s2 s3:Sl}(h1:okL ls)(h2:kr ls<=32768)(h3:ls.length<=288)(h:St F0 w0 w (qqb cb (hcC s1 s2 s3 ls)::qcc 1 s1 (ivs .i64 ls)::qcc 1 s2 (ivs .i64 (qwl ls))::qcc 1 s3 (ivs .i64 (nats (qdf ls 15)))::rest)):St F0 w0 w (hcA cb ls::rest):=by
 have h:=(h.tail λ_ _ _ h=>(h.tail λ_ _ _ h=>h.join).join).join;exact(h.ifI (c:=okL ls/\kr ls<=32768/\ls.length<=288) ⟨h1,h2,h3⟩).exI (p:=λs:Sl×Sl×Sl=>ifA (okL ls/\kr ls<=32768/\ls.length<=288)<|andA (qqb cb (hcC s.1 s.2.1 s.2.2 ls))<|andA (qcc 1 s.1 (ivs .i64 ls))<|andA (qcc 1 s.2.1 (ivs .i64 (qwl ls))) (qcc 1 s.2.2 (ivs .i64 (nats (qdf ls 15))))) (s1,s2,s3)
theorem Blk.cnt{cb:Nat}{s1 s2 s3:Sl}{i:Int}{K:Int->Prop}(hb:Blk w cb (hcC s1 s2 s3 ls))(n:Nat)(hi:i=n)(hn:n<16)(hk:K (hc ls n)):ixA (Addr.add ⟨cb,0,none⟩ 2) 16 i 1 λa=>Go.Proofs.YtdccpphmkfaioaaGreat.ldI .i64 w a K:=by
 subst hi;refine qneb (b:=cb) (o:=2) (by omega) (by omega) ?_;refine hb.ldI ?_ hk;rw[show 2+((n:Int)).toNat*1=2+n by omega];exact hcC_n s1 s2 s3 ls hn
theorem qiab{i:Nat}(h:i<ls.length)(n:Nat):qgn (ls.take (i+1)) n=qgn (ls.take i) n++if ls.getD i 0=n then[i]else[]:=by
 rw[qpj h,qvo,length_take,Nat.min_eq_left (by omega)]
theorem qnc.c{s:Sl}{half:Bool}{K:Ending->World->Prop}(h:St F0 w0 w ps)[Rdb F0 w0 s ps 1 (ivs .i64 ls)]
 (hk:∀cb w',qqk ls half=0->St F0 w0 w' (hcA cb ls::ps)->K (.returned (.tuple ⟨[.pointer (some ⟨cb,0,none⟩),.int .i64 0]⟩)) w')
 (hk2:∀w',qqk ls half≠0->St F0 w0 w' ps->K (.returned (.tuple ⟨[.pointer none,.int .i64 (qqk ls half)]⟩)) w'):Calls prog 100 ⟨[.slice s.a s.len s.cap,.bool half]⟩ w K:=by
 have hl:=(h.rdb s).1
 rw[qk]at hl
 refine qdc (qnc.ok _ _ _ _ ?_)
 unfold qnc
 refine qkc.c h λw h=>⟨_,_,rfl,?_⟩
 unfold qnc.j1
 refine qye (λg=>?_) (λg=>?_)
 ·have g:(qzn ls).2≠0:=by simpa using g
  have e:qqk ls half=(qzn ls).2:=by unfold qqk;rw[if_pos g]
  rw[e]at hk2
  exact hk2 w g h
 have g:(qzn ls).2=0:=by simpa using g
 obtain⟨hok,hkr,hlen,hfull⟩:=qku g
 refine h.clone (k:= .i64) (s2:=s) (by omega) λs1 w h=>?_
 refine qid.c h hok (by omega) λw h=>⟨_,rfl,?_⟩
 refine⟨by show(ivs .i64 (clL ls)).length=16;rw[qk,qxf],?_⟩
 refine h.new λcb w h=>?_
 have h:St F0 w0 w (qqb cb (hcC s1 ⟨none,0,0⟩ ⟨none,0,0⟩ ls)::qcc 1 s1 (ivs .i64 ls)::ps):=qpsb (spl_hc s1 λn=>(hc ls n:Int)) h
 unfold qnc.j2 qnc.j5
 refine qjf (λ(n:Nat) (n':Int) w'=>n'=n/\1<=n/\n<=16/\∃s3,St F0 w0 w' (qqb cb (hcC s1 ⟨none,0,0⟩ s3 ls)::qcc 1 s3 (ivs .i64 (nats (qdf ls (n-1))))::qcc 1 s1 (ivs .i64 ls)::ps)) (λn=>16-n) 1 ⟨rfl,by omega,by omega,⟨none,0,0⟩,(h.nil 1).at1⟩ ?_
 clear h
 rintro n n' w I μ ⟨rfl,hn1,hn,s3,h⟩ hin
 obtain⟨m,rfl⟩:∃m,n=m+1:=⟨n-1,by omega⟩
 rw[add_sub_cancel]at h
 unfold qnc.b1
 refine quc (λg2=>?_) (λg2=>?_)
 ·unfold qnc.j6 qnc.j8
  refine qjf (λ(i:Nat) (i':Int) w'=>i'=i/\i<=ls.length/\∃s3,St F0 w0 w' (qqb cb (hcC s1 ⟨none,0,0⟩ s3 ls)::qcc 1 s3 (ivs .i64 (nats (qdf ls m++qgn (ls.take i) (m+1))))::qcc 1 s1 (ivs .i64 ls)::ps)) (λi=>ls.length-i) 0 ⟨rfl,by omega,s3,by
   have:qgn (ls.take 0) (m+1)=[]:=rfl;rw[this,append_nil];exact h⟩ ?_
  clear h
  rintro i i' w I2 μ2 ⟨rfl,hi,s4,h⟩ hin2
  unfold qnc.b2
  refine quc (λg3=>?_) (λg3=>?_)
  ·have hil:i<ls.length:=by omega
   have hps:=qiab hil (m+1)
   refine h.lx (s:=s) i rfl hil ?_
   refine qye (λg4=>?_) (λg4=>?_)
   ·have g4:ls.getD i 0=((m+1:Nat):Int):=by simpa using g4
    rw[if_pos g4]at hps
    refine qkd ((h.toB cb).blk.ldL (o:=18) (n:=s4) (qlu _ _ _ _) ?_)
    have hln:(nats (qdf ls m++qgn (ls.take i) (m+1))).length<=1099511627776:=by
     have h1:=qog (ls.take i) (m+1);have h2:=count_le_length (a:=((m+1:Nat):Int)) (l:=ls.take i);rw[length_take]at h2;have h3:∀n,(qdf ls n).length<=n*ls.length:=by
      intro n;induction n with
      |zero=>simp[qdf]
      |succ n ih=>
       have h4:=qog ls (n+1);have h5:=count_le_length (a:=((n+1:Nat):Int)) (l:=ls);rw[qdf,length_append,succ_mul];omega
     have h6:=h3 m;have h7:m*ls.length<=16*288:=Nat.mul_le_mul (by omega) hlen;rw[qrj,length_append];omega
    refine h.pushI (s:=s4) hln λs5 w h=>?_
    refine qkd ((h.toB cb).st (o:=18) (by rw[qdw];decide) trivial λw h=>?_)
    rw[qhkb]at h
    refine qm (qd (by omega) (by omega)) ?_
    refine⟨⟨rfl,rfl,rfl,rfl,rfl,rfl,rfl⟩,hin2 (i+1) _ _ ⟨by omega,by omega,s5,?_⟩ (by omega)⟩
    have e:nats (qdf ls m++qgn (ls.take i) (m+1))++[(i:Int)]=nats (qdf ls m++qgn (ls.take (i+1)) (m+1)):=by
     rw[hps];simp[nats]
    rw[e]at h
    exact h.sub
   ·have g4:¬ls.getD i 0=((m+1:Nat):Int):=by simpa using g4
    rw[if_neg g4,append_nil]at hps
    refine qm (qd (by omega) (by omega)) ?_
    refine⟨⟨rfl,rfl,rfl,rfl,rfl,rfl,rfl⟩,hin2 (i+1) _ _ ⟨by omega,by omega,s4,?_⟩ (by omega)⟩
    rw[hps]
    exact h
  ·have:i=ls.length:=by omega
   subst this
   rw[take_length]at h
   unfold qnc.j7
   refine qm (qd (by omega) (by omega)) ?_
   exact⟨⟨rfl,rfl,rfl,rfl⟩,hin (m+1+1) _ _ ⟨by omega,by omega,by omega,s4,h⟩ (by omega)⟩
 have:m=15:=by omega
 subst this
 clear hin
 have hs3l:=h.at1.len
 rw[qk,qrj]at hs3l
 have fin:qqk ls half=0->qnc.j4 s (some ⟨cb,0,none⟩) (λv w'=>K (.returned v) w') w:=by
  intro hn0;unfold qnc.j4;refine qfc.c h (λs2 w _ h=>⟨s2,_,rfl,?_⟩) (λw hne _=>absurd g hne);refine qkd ((h.toB cb).st (o:=1) (by rw[qdw];decide) trivial λw h=>?_);rw[qpob]at h;exact hk cb w hn0 (hcA_i (s1:=s1) (s2:=s2) (s3:=s3) hok hkr hlen h.sub)
 have bad:qqk ls half=2->K (.returned (.tuple ⟨[.pointer none,.int .i64 2]⟩)) w:=by
  intro hn2;rw[hn2]at hk2;exact hk2 w (by decide) h.sub
 have hnw:qqk ls half=if(qzn ls).1=false/\(half&&hhalf ls)=false then 2 else 0:=by unfold qqk;rw[if_neg (by rw[g];decide)]
 unfold qnc.j3
 refine qye (λg5=>?_) (λg5=>?_)
 ·have g5:(qzn ls).1=false:=by simpa using g5
  refine qye (λg6=>?_) (λg6=>?_)
  ·subst g6
   refine qkd ((h.toB cb).blk.ldL (o:=18) (n:=s3) (qlu _ _ _ _) ?_)
   refine qye (λg7=>?_) (λg7=>?_)
   ·have g7:s3.len=0:=by simpa using g7
    refine qcq (fin ?_)
    rw[hnw,if_neg]
    intro e
    have:hhalf ls=true:=by unfold hhalf;rw[decide_eq_true_eq];omega
    rw[this]at e
    exact absurd e.2 (by decide)
   have g7:s3.len≠0:=by simpa using g7
   refine qkd ((h.toB cb).blk.ldL (o:=18) (n:=s3) (qlu _ _ _ _) ?_)
   refine qye (λg8=>?_) (λg8=>?_)
   ·have g8:s3.len=1:=by have:((s3.len:Nat):Int)=1:=by simpa using g8
                         omega
    refine qkd ((h.toB cb).blk.cnt 1 rfl (by decide) ?_)
    refine qye (λg9=>bad ?_) (λg9=>fin ?_)
    ·have g9:¬(hc ls 1:Int)=1:=by simpa using g9
     have hh:(true&&hhalf ls)=false:=by
      unfold hhalf;rw[Bool.true_and,decide_eq_false_iff_not];omega
     rw[hnw,if_pos ⟨g5,hh⟩]
    ·have g9:(hc ls 1:Int)=1:=by simpa using g9
     rw[hnw,if_neg]
     intro e
     have:hhalf ls=true:=by unfold hhalf;rw[decide_eq_true_eq];omega
     rw[this]at e
     exact absurd e.2 (by decide)
   ·have g8:¬s3.len=1:=λe=>by rw[e]at g8;exact absurd g8 (by decide)
    refine qgp (bad ?_)
    have hh:(true&&hhalf ls)=false:=by
     unfold hhalf;rw[Bool.true_and,decide_eq_false_iff_not];omega
    rw[hnw,if_pos ⟨g5,hh⟩]
  ·subst g6
   exact qgp (bad (by rw[hnw,if_pos ⟨g5,rfl⟩]))
 ·have g5:(qzn ls).1=true:=by simpa using g5
  exact fin (by rw[hnw,if_neg (λe=>by rw[g5]at e;exact absurd e.1 (by decide))])
theorem qkg.c{cb:Nat}{K:Ending->World->Prop}(h:St F0 w0 w ps)[PkF hcA cb ps ls rest]
 (hk:∀w',St F0 w0 w' ps->K (.returned (.int .i64 (qcj ls 15))) w'):Calls prog 176 ⟨[.pointer (some ⟨cb,0,none⟩)]⟩ w K:=by
 refine qdc (qkg.ok _ _ _ ?_)
 unfold qkg
 obtain⟨h1,h2,h3,s1,s2,s3,hb,r1,r2,r3⟩:=qbs cb h
 have l3:=r3.1
 rw[qk,qrj]at l3
 have hlast:=qmgb (l:=ls) 15
 refine qkd (hb.ldL (o:=18) (n:=s3) (qlu _ _ _ _) ?_)
 refine qye (λg=>?_) (λg=>?_)
 ·have g:s3.len=0:=by simpa using g
  rw[if_pos (List.eq_nil_of_length_eq_zero (by omega))]at hlast
  rw[hlast]at hk
  exact hk w h
 have g:s3.len≠0:=by simpa using g
 have hne:0<(qdf ls 15).length:=by omega
 rw[if_neg (λe=>by rw[e]at hne;exact absurd hne (by decide))]at hlast
 clear hb r1 r2 r3 l3 g
 refine h.drewK λw h=>?_
 obtain⟨h1,h2,h3,s1,s2,s3,hb,r1,r2,r3⟩:=qbs cb h
 have l3:=r3.1
 rw[qk,qrj]at l3
 have hsle:=qkob ls 15
 have hm:(qdf ls 15).getD ((qdf ls 15).length-1) 0∈qdf ls 15:=by
  rw[getD_eq_getElem?_getD,getElem?_eq_getElem (show(qdf ls 15).length-1<(qdf ls 15).length by omega)];exact getElem_mem _
 obtain⟨m1,m2⟩:=qxjb 15 _ hm
 refine qkd (hb.ldL (o:=0) (n:=s1) rfl ?_)
 refine qkd (hb.ldL (o:=18) (n:=s3) (qlu _ _ _ _) ?_)
 refine qkd (hb.ldL (o:=18) (n:=s3) (qlu _ _ _ _) ?_)
 refine qm (qd (by omega) (by omega)) ?_
 refine r3.at ((qdf ls 15).length-1) (by omega) (by rw[qrj];omega) ?_
 rw[qaab]
 refine r1.at _ rfl m1 ?_
 have e:ls.getD ((qdf ls 15).getD ((qdf ls 15).length-1) 0) 0=(qcj ls 15:Int):=by omega
 rw[e]
 exact hk w h
def bitA(rb:Nat)(x:Nat×Nat×Nat):As:=rrA rb x.1 x.2.1 x.2.2
theorem qwb.one{rb V N p:Nat}{K:Ending->World->Prop}(h:St F0 w0 w (bitA rb (V,N,p)::ps))(hN:N<=137438953472)(hp:p<=8*N)
 (hk:p<8*N->∀w',St F0 w0 w' (bitA rb (V,N,p+1)::ps)->K (.returned (.tuple ⟨[.int .i64 ((bt V p).toNat:Nat),.bool true]⟩)) w')
 (hk':¬p<8*N->∀w',St F0 w0 w' (bitA rb (V,N,p)::ps)->K (.returned (.tuple ⟨[.int .i64 0,.bool false]⟩)) w'):
 Calls prog 164 ⟨[.pointer (some ⟨rb,0,none⟩),.int .i64 1]⟩ w K:=by
 refine qwb.c (V:=V) (N:=N) (at':=p) h hN (by omega) (λg w h=>?_) (λg w h=>?_)
 ·have g:p<8*N:=by simp[getOk]at g;omega
  have e:=qgt V p
  have e2:((V/2^p%2^(1:Int).toNat:Nat):Int)=(((bt V p).toNat:Nat):Int):=by
   rw[e,show(1:Int).toNat=1 by decide,Nat.pow_one];simp
  rw[e2]
  exact hk g w h
 ·have g:¬p<8*N:=by simp[getOk]at g;omega
  exact hk' g w h
theorem qlw{V N p:Nat}:(ql (V:Int) N)[p]?=if p<N then some (bt V p)else none:=by
 unfold ql;rw[getElem?_map];split
 ·rename_i h;rw[getElem?_range h];rfl
 ·rename_i h;rw[getElem?_eq_none (by simpa using h)];rfl
theorem or1{v:Nat}(x:Bool)(hv:v<1000000000):orV .i64 (2*(v:Int)) ((x.toNat:Nat):Int)=((2*v+x.toNat:Nat):Int):=by
 have hx:x.toNat<2:=by cases x<;>decide
 have e:=qbr .i64 (a:=x.toNat) (b:=v) (t:=1) hx (by show x.toNat+v*2^1<2^63;omega);rw[show(2:Int)^1=2 by decide]at e;rw[Int.mul_comm,e];omega
theorem qjc.c{cb rb V N p:Nat}{K:Ending->World->Prop}(h:St F0 w0 w (bitA rb (V,N,p)::ps))[PkF hcA cb ps ls rest](hN:N<=137438953472)(hp:p<=8*N)
 (hk:∀w',(hnext ls (ql V (8*N)) p).2.2<=8*N->St F0 w0 w' (bitA rb (V,N,(hnext ls (ql V (8*N)) p).2.2)::ps)->K (.returned (.tuple ⟨[.int .i64 (hnext ls (ql V (8*N)) p).1,.int .i64 (hnext ls (ql V (8*N)) p).2.1]⟩)) w'):
 Calls prog 169 ⟨[.pointer (some ⟨cb,0,none⟩),.pointer (some ⟨rb,0,none⟩)]⟩ w K:=by
 refine qdc (qjc.ok _ _ _ _ ?_)
 unfold qjc qjc.j1 qjc.j2 qjc.j4
 obtain⟨hok,hkr,hlen,_⟩:=qbs cb h
 have hlg:=qqeb ls 15 (by decide)
 refine loop4 (λ(a:Nat×Nat×Nat) (t6 t7 t8 t10:Int) w'=>t6=a.2.1/\t7=((hf ls (a.1-1)+hc ls (a.1-1):Nat):Int)/\t8=((qdf ls (a.1-1)).length:Int)/\t10=a.1/\1<=a.1/\a.1<=qcj ls 15+1/\hf ls (a.1-1)+hc ls (a.1-1)<=a.2.1/\a.2.1<2^(a.1-1)/\a.2.2<=8*N/\
  hdec ls (ql V (8*N)) (qcj ls 15+1-a.1) a.1 a.2.1 a.2.2=hnext ls (ql V (8*N)) p/\St F0 w0 w' (bitA rb (V,N,a.2.2)::ps)) (λa=>17-a.1) (1,0,p) ⟨rfl,by simp[hf,hc],by simp[qdf],rfl,by simp,by simp only;omega,by simp[hf,hc],by simp,hp,by simp[hnext],h⟩ ?_
 clear h
 rintro⟨n,v,q⟩ t6 t7 t8 t10 w I μ ⟨rfl,rfl,rfl,rfl,hn1,hn,hge,hv,hq,hd,h⟩ hin
 simp only at hn1 hn hge hv hq hd h hin|-
 obtain⟨m,rfl⟩:∃m,n=m+1:=⟨n-1,by omega⟩
 rw[add_sub_cancel]at hge hv|-
 unfold qjc.b1
 refine qkg.c h λw h=>⟨_,rfl,?_⟩
 refine quc (λg=>?_) (λg=>?_)
 ·have hm15:m+1<=15:=by omega
  have hv2:v<32768:=Nat.lt_of_lt_of_le hv (le_trans (pow_le_pow_right (by decide) (show m<=15 by omega)) (by decide))
  obtain⟨f,hf1⟩:∃f,qcj ls 15+1-(m+1)=f+1:=⟨qcj ls 15-(m+1),by omega⟩
  rw[hf1,hdec,qlw]at hd
  refine qwb.one h hN hq (λgk w h=>⟨_,_,rfl,?_⟩) (λgk w h=>⟨_,_,rfl,?_⟩)
  ·rw[if_pos gk]at hd
   simp only at hd
   refine qcq ⟨by decide,qm (shl1 (by omega)) ?_⟩
   refine qm (or1 _ (by omega)) ?_
   have hb1:=qml ls hok hkr (n:=m) (by omega)
   have hb2:=qml ls hok hkr (n:=m+1) hm15
   have hx:(bt V q).toNat<2:=by cases bt V q<;>decide
   generalize (bt V q).toNat=x at hd hx|-
   have hfe:hf ls (m+1)=2*(hf ls m+hc ls m):=rfl
   refine⟨by decide,qm (shl1 (by omega)) ?_⟩
   refine qm (qd (by omega) (by omega)) ?_
   obtain⟨_,_,_,s1,s2,s3,hb,r1,r2,r3⟩:=qbs cb h
   have l3:=r3.1
   rw[qk,qrj]at l3
   have hsy:=qlob ls 15 (m+1) (2*v+x-hf ls (m+1)) (by omega) hm15
   rw[add_sub_cancel]at hsy
   have hcn:hc ls (m+1)=ls.count ((m+1:Nat):Int):=by unfold hc;rw[if_neg (by omega)]
   have hpl:=qog ls (m+1)
   refine qkd (hb.cnt (m+1) rfl (by omega) ?_)
   have hsl:(qdf ls m).length<=1000000:=by
    have h3:∀n,(qdf ls n).length<=n*ls.length:=by
     intro n;induction n with
     |zero=>simp[qdf]
     |succ n ih=>
      have h4:=qog ls (n+1);have h5:=count_le_length (a:=((n+1:Nat):Int)) (l:=ls);rw[qdf,length_append,succ_mul];omega
    have h6:=h3 m;have h7:m*ls.length<=16*288:=Nat.mul_le_mul (by omega) hlen;omega
   refine quc (λg2=>?_) (λg2=>?_)
   ·rw[if_pos (by omega)]at hd
    refine qkd (hb.ldL (o:=18) (n:=s3) (qlu _ _ _ _) ?_)
    refine qm (qd (by omega) (by omega)) ?_
    have hsy:=hsy (by omega)
    have hlt:(qdf ls m).length+(2*v+x-hf ls (m+1))<(qdf ls 15).length:=by
     rcases lt_or_ge ((qdf ls m).length+(2*v+x-hf ls (m+1))) (qdf ls 15).length with h1|h1
     ·exact h1
     ·rw[getElem?_eq_none h1,getElem?_eq_getElem (show 2*v+x-hf ls (m+1)<(qgn ls (m+1)).length by omega)]at hsy;cases hsy
    refine r3.at ((qdf ls m).length+(2*v+x-hf ls (m+1))) (by omega) (by rw[qrj];exact hlt) ?_
    rw[qaab,getD_eq_getElem?_getD,hsy,<-getD_eq_getElem?_getD]
    rw[<-hd]at hk
    exact hk w (by simp only;omega) h
   ·rw[if_neg (by omega)]at hd
    refine qkd (hb.cnt (m+1) rfl (by omega) ?_)
    have hcl:=qoob ls (m+1)
    refine qm (qd (by omega) (by omega)) ?_
    refine qkd (hb.cnt (m+1) rfl (by omega) ?_)
    refine qm (qd (by omega) (by omega)) ?_
    refine qm (qd (by omega) (by omega)) ?_
    refine⟨⟨rfl,rfl⟩,hin (m+1+1,2*v+x,q+1) _ _ _ _ _ ⟨rfl,?_,?_,by simp,by simp,by simp only;omega,?_,?_,by simp only;omega,?_,h⟩ (by simp only;omega)⟩
    ·simp only[add_sub_cancel];omega
    ·simp only[add_sub_cancel]
     rw[qdf,length_append];omega
    ·simp only[add_sub_cancel];omega
    ·simp only[add_sub_cancel]
     rw[pow_succ];omega
    ·simp only
     rw[show qcj ls 15+1-(m+1+1)=f by omega]
     exact hd
  ·rw[if_neg gk]at hd
   simp only at hd
   refine qgp ?_
   rw[<-hd]at hk
   exact hk w hq h
 ·have e:qcj ls 15+1-(m+1)=0:=by omega
  rw[e,hdec]at hd
  unfold qjc.j3
  rw[<-hd]at hk
  exact hk w hq h
theorem qbpb(c n:Nat):(ql (c:Int) n).reverse=cbits c n:=by
 apply ext_getElem
 ·rw[List.length_reverse,qq,qdp]
 ·intro i h1 h2;rw[qdp]at h2;rw[List.getElem_reverse];simp only[ql,cbits,List.getElem_map,List.getElem_range,List.length_map,List.length_range];exact qyab c _
def hput(ls:List Int)(sym:Int):List Bool:=if 0<=sym/\sym<ls.length/\ls.getD sym.toNat 0≠0 then cbits (qpg ls sym.toNat) (ls.getD sym.toNat 0).toNat else[]
def hputs(ls:List Int)(sym:Int):Bool:=decide (0<=sym/\sym<ls.length/\ls.getD sym.toNat 0≠0)
theorem qgg.c{cb wb:Nat}{l:List Bool}{sym:Int}{K:Ending->World->Prop}(h:St F0 w0 w (wrL wb l::ps))[PkF hcA cb ps ls rest](hL:l.length<=549755813888)
 (hk:∀w',St F0 w0 w' (wrL wb (l++hput ls sym)::ps)->K (.returned (.bool (hputs ls sym))) w'):
 Calls prog 107 ⟨[.pointer (some ⟨cb,0,none⟩),.pointer (some ⟨wb,0,none⟩),.int .i64 sym]⟩ w K:=by
 refine qdc (qgg.ok _ _ _ _ _ ?_)
 unfold qgg
 obtain⟨hok,hkr,hlen,s1,s2,s3,hb,r1,r2,r3⟩:=qbs cb h
 have l1:=r1.1
 rw[qk]at l1
 have bad:¬(0<=sym/\sym<ls.length/\ls.getD sym.toNat 0≠0)->K (.returned (.bool false)) w:=by
  intro hn;unfold hput hputs at hk;rw[if_neg hn,append_nil,decide_eq_false hn]at hk;exact hk w h
 refine quc (λg=>bad (by omega)) (λg=>?_)
 refine qkd (hb.ldL (o:=0) (n:=s1) rfl ?_)
 refine quc (λg2=>bad (by omega)) (λg2=>?_)
 have hin:sym.toNat<ls.length:=by omega
 refine qkd (hb.ldL (o:=0) (n:=s1) rfl ?_)
 refine r1.at sym.toNat (by omega) hin ?_
 refine qye (λg3=>bad (λe=>e.2.2 (by simpa using g3))) (λg3=>?_)
 have g3:ls.getD sym.toNat 0≠0:=by simpa using g3
 have hx:=hok _ (qme hin)
 obtain⟨m,hm⟩:∃m:Nat,ls.getD sym.toNat 0=m:=⟨(ls.getD sym.toNat 0).toNat,by omega⟩
 unfold hput hputs at hk
 have hcond:0<=sym/\sym<ls.length/\ls.getD sym.toNat 0≠0:=⟨by omega,by omega,g3⟩
 rw[if_pos hcond,decide_eq_true hcond,hm]at hk
 clear hb r1 r2 r3 l1
 refine h.drewK λw h=>?_
 obtain⟨_,_,_,s1,s2,s3,hb,r1,r2,r3⟩:=qbs cb h
 refine qkd (hb.ldL (o:=1) (n:=s2) rfl ?_)
 refine r2.at sym.toNat (by omega) (by rw[qdr];exact hin) ?_
 rw[qju _ hin]
 refine qkd (hb.ldL (o:=0) (n:=s1) rfl ?_)
 refine r1.at sym.toNat (by omega) hin ?_
 rw[hm]
 refine qch.c h hL λw h=>⟨rfl,?_⟩
 have e:(pb (qpg ls sym.toNat:Int) (m:Int)).reverse=cbits (qpg ls sym.toNat) m:=by
  unfold pb;rw[if_pos (by omega),toNat_natCast,qbpb]
 rw[e]at h
 rw[toNat_natCast]at hk
 exact hk w h
end
end
section
set_option maxRecDepth 100000
def qbc.j3(sum_4:Int)(Q:VWP)(w:World):Prop:=br (decide (sum_4>32768)) (Q (.tuple ⟨[.bool false,.int .i64 2]⟩) w) (Q (.tuple ⟨[.bool (sum_4==32768),.int .i64 0]⟩) w)
def qbc.b1(lens_0:Sl)(sum_4:Int)(i_5:Int)(Q:VWP)(nx1:Sl->Int->Int->WP)(w:World):Prop:=br (decide (i_5<(lens_0.len:Int))) (ixS lens_0.a lens_0.len i_5 1 λa1=>ldI .i64 w a1 λx2=>br (decide (x2<0)) (Q (.tuple ⟨[.bool false,.int .i64 1]⟩) w) (ixS lens_0.a lens_0.len i_5 1 λa3=>ldI .i64 w a3 λx4=>br (decide (x4>15)) (Q (.tuple ⟨[.bool false,.int .i64 1]⟩) w) (ixS lens_0.a lens_0.len i_5 1 λa5=>ldI .i64 w a5 λx6=>br (decide (x6>0)) (ixS lens_0.a lens_0.len i_5 1 λa7=>ldI .i64 w a7 λx8=>lt (i64.wrap (15-x8)) λx9=>lt (u64.wrap x9) λx10=>(0:Int)<=x10/\lt (qzi .i64 1 x10) λx11=>lt (i64.wrap (sum_4+x11)) λx12=>lt (i64.wrap (i_5+1)) λx13=>nx1 lens_0 x12 x13 w) (lt (i64.wrap (i_5+1)) λx14=>nx1 lens_0 sum_4 x14 w)))) (qbc.j3 sum_4 Q w)
def qbc.l1(lens_0:Sl)(sum_4:Int)(i_5:Int)(Q:VWP)(w:World):Prop:=∃(I:Int->Int->WP) (μ:Int->Int->World->Nat),I sum_4 i_5 w/\∀sum_4:Int,∀i_5:Int,∀w:World,I sum_4 i_5 w->qbc.b1 lens_0 sum_4 i_5 Q (λlens_0' sum_4' i_5' w'=>(lens_0'=lens_0)/\I sum_4' i_5' w'/\μ sum_4' i_5' w'<μ sum_4 i_5 w) w
def qbc.j4(lens_0:Sl)(sum_4:Int)(i_5:Int)(Q:VWP)(w:World):Prop:=qbc.l1 lens_0 sum_4 i_5 Q w
def qbc.j2(lens_0:Sl)(sum_4:Int)(Q:VWP)(w:World):Prop:=qbc.j4 lens_0 sum_4 0 Q w
def qbc.j1(lens_0:Sl)(Q:VWP)(w:World):Prop:=br (decide ((lens_0.len:Int)>288)) (Q (.tuple ⟨[.bool false,.int .i64 1]⟩) w) (qbc.j2 lens_0 0 Q w)
def qbc(lens_0:Sl)(Q:VWP)(w:World):Prop:=qbc.j1 lens_0 Q w
theorem qbc.ok(lens_0:Sl)(Q:VWP)(w:World)(h:qbc lens_0 Q w):Calls prog 153 ⟨[sV lens_0]⟩ w (Ret Q):=
 qhc [.tmp 2,.tmp 3] qde Tryz.func153 rfl rfl rfl rfl (.sq [sL 0] (λa w=>qbc.j1 a Q w) .lf (.pr 1 [sL 0,sI 4] (λa b w=>qbc.j2 a b Q w) (.sq [sI 4] (λa w=>qbc.j3 a Q w) (.sq [sL 0,sI 4,sI 5] (λa b c w=>qbc.j4 a b c Q w) .lf (.bk (.lo [sL 0] [sI 4,sI 5] (λa b c w=>qbc.l1 a b c Q w) (λnx1 a b c w=>qbc.b1 a b c Q nx1 w) λnx1=> .lf))) .lf))) (by kernel_rfl) h
def qv.j4(out_6:Sl)(Q:VWP)(w:World):Prop:=Q (.tuple ⟨[sV out_6,.int .i64 0]⟩) w
def qv.j7(lens_0 out_6:Sl)(code_7:Int)(n_8:Int)(Q:VWP)(nx1:Sl->Sl->Int->Int->WP)(w:World):Prop:=lt (i64.wrap (n_8+1)) λx1=>nx1 lens_0 out_6 code_7 x1 w
def qv.j8(lens_0 out_6:Sl)(code_7:Int)(n_8:Int)(Q:VWP)(nx1:Sl->Sl->Int->Int->WP)(w:World):Prop:=(0:Int)<=1/\lt (qzi .i64 code_7 1) λx2=>qv.j7 lens_0 out_6 x2 n_8 Q nx1 w
def qv.b2(lens_0 out_6:Sl)(n_8:Int)(code_7 i_9:Int)(Q:VWP)(nx1:Sl->Sl->Int->Int->WP)(nx2:Sl->Sl->Int->Int->Int->WP)(w:World):Prop:=br (decide (i_9<(lens_0.len:Int))) (ixS lens_0.a lens_0.len i_9 1 λa3=>ldI .i64 w a3 λx4=>br (x4==n_8) (ixS out_6.a out_6.len i_9 1 λa5=>st w a5 (.int .i64 code_7) λw6=>lt (i64.wrap (code_7+1)) λx7=>lt (i64.wrap (i_9+1)) λx8=>nx2 lens_0 out_6 n_8 x7 x8 w6) (lt (i64.wrap (i_9+1)) λx9=>nx2 lens_0 out_6 n_8 code_7 x9 w)) (qv.j8 lens_0 out_6 code_7 n_8 Q nx1 w)
def qv.l2(lens_0 out_6:Sl)(n_8:Int)(code_7 i_9:Int)(Q:VWP)(nx1:Sl->Sl->Int->Int->WP)(w:World):Prop:=∃(I:Int->Int->WP) (μ:Int->Int->World->Nat),I code_7 i_9 w/\∀code_7:Int,∀i_9:Int,∀w:World,I code_7 i_9 w->qv.b2 lens_0 out_6 n_8 code_7 i_9 Q nx1 (λlens_0' out_6' n_8' code_7' i_9' w'=>(lens_0'=lens_0/\out_6'=out_6/\n_8'=n_8)/\I code_7' i_9' w'/\μ code_7' i_9' w'<μ code_7 i_9 w) w
def qv.j9(lens_0 out_6:Sl)(code_7:Int)(n_8 i_9:Int)(Q:VWP)(nx1:Sl->Sl->Int->Int->WP)(w:World):Prop:=qv.l2 lens_0 out_6 n_8 code_7 i_9 Q nx1 w
def qv.j6(lens_0 out_6:Sl)(code_7:Int)(n_8:Int)(Q:VWP)(nx1:Sl->Sl->Int->Int->WP)(w:World):Prop:=qv.j9 lens_0 out_6 code_7 n_8 0 Q nx1 w
def qv.b1(lens_0 out_6:Sl)(code_7:Int)(n_8:Int)(Q:VWP)(nx1:Sl->Sl->Int->Int->WP)(w:World):Prop:=br (decide (n_8<=15)) (qv.j6 lens_0 out_6 code_7 n_8 Q nx1 w) (qv.j4 out_6 Q w)
def qv.l1(lens_0 out_6:Sl)(code_7:Int)(n_8:Int)(Q:VWP)(w:World):Prop:=∃(I:Int->Int->WP) (μ:Int->Int->World->Nat),I code_7 n_8 w/\∀code_7:Int,∀n_8:Int,∀w:World,I code_7 n_8 w->qv.b1 lens_0 out_6 code_7 n_8 Q (λlens_0' out_6' code_7' n_8' w'=>(lens_0'=lens_0/\out_6'=out_6)/\I code_7' n_8' w'/\μ code_7' n_8' w'<μ code_7 n_8 w) w
def qv.j5(lens_0 out_6:Sl)(code_7:Int)(n_8:Int)(Q:VWP)(w:World):Prop:=qv.l1 lens_0 out_6 code_7 n_8 Q w
def qv.j3(lens_0 out_6:Sl)(code_7:Int)(Q:VWP)(w:World):Prop:=qv.j5 lens_0 out_6 code_7 1 Q w
def qv.j2(lens_0:Sl)(Q:VWP)(w:World):Prop:=mkK prog 3 w (lens_0.len:Int) (lens_0.len:Int) λs10 w11=>qv.j3 lens_0 s10 0 Q w11
def qv.j1(lens_0:Sl)(Q:VWP)(w:World):Prop:=qxob 153 [sV lens_0] w λr14 r15 w13=>br (r15 !=0) (Q (.tuple ⟨[.slice none 0 0,.int .i64 r15]⟩) w13) (qv.j2 lens_0 Q w13)
def qv(lens_0:Sl)(Q:VWP)(w:World):Prop:=qv.j1 lens_0 Q w
theorem qv.ok(lens_0:Sl)(Q:VWP)(w:World)(h:qv lens_0 Q w):Calls prog 154 ⟨[sV lens_0]⟩ w (Ret Q):=
 qhc [.tmp 2,.tmp 3] qde Tryz.func154 rfl rfl rfl rfl (.sq [sL 0] (λa w=>qv.j1 a Q w) .lf (.pr 1 [sL 0] (λa w=>qv.j2 a Q w) (.pr 1 [sL 0,sL 6,sI 7] (λa b c w=>qv.j3 a b c Q w) (.sq [sL 6] (λa w=>qv.j4 a Q w) (.sq [sL 0,sL 6,sI 7,sI 8] (λa b c d w=>qv.j5 a b c d Q w) .lf (.bk (.lo [sL 0,sL 6] [sI 7,sI 8] (λa b c d w=>qv.l1 a b c d Q w) (λnx1 a b c d w=>qv.b1 a b c d Q nx1 w) λnx1=>(.sq [sL 0,sL 6,sI 7,sI 8] (λa b c d w=>qv.j6 a b c d Q nx1 w) .lf (.sq [sL 0,sL 6,sI 7,sI 8] (λa b c d w=>qv.j7 a b c d Q nx1 w) (.bk (.sq [sL 0,sL 6,sI 7,sI 8] (λa b c d w=>qv.j8 a b c d Q nx1 w) (.sq [sL 0,sL 6,sI 7,sI 8,sI 9] (λa b c d e w=>qv.j9 a b c d e Q nx1 w) .lf (.bk (.lo [sL 0,sL 6,sI 8] [sI 7,sI 9] (λa b c d e w=>qv.l2 a b c d e Q nx1 w) (λnx2 a b c d e w=>qv.b2 a b c d e Q nx1 nx2 w) λnx2=> .lf))) .lf)) .lf))))) .lf)))) (by kernel_rfl) h
def qmb.j3(lens_0:Sl)(Q:VWP)(w:World):Prop:=qyu 154 [sV lens_0] w λr3 r4 w2=>nw w2 ⟨[]⟩ 3 λa5 w6=>rdO w6 lens_0.a (lens_0.len*1) λc7=>apK prog 3 w6 (some a5) 0 0 lens_0.len c7 λs8 w9=>nw w9 (⟨[sV s8,sV r3]⟩:Array Value) 224 λa10 w11=>Q (.tuple ⟨[.pointer (some a10),.int .i64 0]⟩) w11
def qmb.j6(lens_0:Sl)(half_1:Bool)(n_8:Int)(Q:VWP)(w:World):Prop:=br (!half_1) (Q (.tuple ⟨[.pointer none,.int .i64 2]⟩) w) (br (decide (n_8>1)) (Q (.tuple ⟨[.pointer none,.int .i64 2]⟩) w) (qmb.j3 lens_0 Q w))
def qmb.b1(lens_0:Sl)(half_1:Bool)(n_8 i_9:Int)(Q:VWP)(nx1:Sl->Bool->Int->Int->WP)(w:World):Prop:=br (decide (i_9<(lens_0.len:Int))) (ixS lens_0.a lens_0.len i_9 1 λa12=>ldI .i64 w a12 λx13=>br (decide (x13>0)) (ixS lens_0.a lens_0.len i_9 1 λa14=>ldI .i64 w a14 λx15=>lt (i64.wrap (n_8+x15)) λx16=>lt (i64.wrap (i_9+1)) λx17=>nx1 lens_0 half_1 x16 x17 w) (lt (i64.wrap (i_9+1)) λx18=>nx1 lens_0 half_1 n_8 x18 w)) (qmb.j6 lens_0 half_1 n_8 Q w)
def qmb.l1(lens_0:Sl)(half_1:Bool)(n_8 i_9:Int)(Q:VWP)(w:World):Prop:=∃(I:Int->Int->WP) (μ:Int->Int->World->Nat),I n_8 i_9 w/\∀n_8:Int,∀i_9:Int,∀w:World,I n_8 i_9 w->qmb.b1 lens_0 half_1 n_8 i_9 Q (λlens_0' half_1' n_8' i_9' w'=>(lens_0'=lens_0/\half_1'=half_1)/\I n_8' i_9' w'/\μ n_8' i_9' w'<μ n_8 i_9 w) w
def qmb.j7(lens_0:Sl)(half_1:Bool)(n_8 i_9:Int)(Q:VWP)(w:World):Prop:=qmb.l1 lens_0 half_1 n_8 i_9 Q w
def qmb.j5(lens_0:Sl)(half_1:Bool)(n_8:Int)(Q:VWP)(w:World):Prop:=qmb.j7 lens_0 half_1 n_8 0 Q w
def qmb.j4(lens_0:Sl)(half_1:Bool)(t21:Bool)(Q:VWP)(w:World):Prop:=br t21 (qmb.j5 lens_0 half_1 0 Q w) (qmb.j3 lens_0 Q w)
def qmb.j2(lens_0:Sl)(half_1:Bool)(full_6:Bool)(Q:VWP)(w:World):Prop:=qmb.j4 lens_0 half_1 (!full_6) Q w
def qmb.j1(lens_0:Sl)(half_1:Bool)(Q:VWP)(w:World):Prop:=qxob 153 [sV lens_0] w λr21 r22 w20=>br (r22 !=0) (Q (.tuple ⟨[.pointer none,.int .i64 r22]⟩) w20) (qmb.j2 lens_0 half_1 r21 Q w20)
def qmb(lens_0:Sl)(half_1:Bool)(Q:VWP)(w:World):Prop:=qmb.j1 lens_0 half_1 Q w
theorem qmb.ok(lens_0:Sl)(half_1:Bool)(Q:VWP)(w:World)(h:qmb lens_0 half_1 Q w):Calls prog 138 ⟨[sV lens_0,.bool half_1]⟩ w (Ret Q):=
 qhc [.tmp 4,.tmp 5] qde Tryz.func138 rfl rfl rfl rfl (.sq [sL 0,sB 1] (λa b w=>qmb.j1 a b Q w) .lf (.pr 1 [sL 0,sB 1,sB 6] (λa b c w=>qmb.j2 a b c Q w) (.sq [sL 0] (λa w=>qmb.j3 a Q w) (.sq [sL 0,sB 1,sB 21] (λa b c w=>qmb.j4 a b c Q w) .lf (.cd (.sq [sL 0,sB 1,sI 8] (λa b c w=>qmb.j5 a b c Q w) .lf (.sq [sL 0,sB 1,sI 8] (λa b c w=>qmb.j6 a b c Q w) (.sq [sL 0,sB 1,sI 8,sI 9] (λa b c d w=>qmb.j7 a b c d Q w) .lf (.bk (.lo [sL 0,sB 1] [sI 8,sI 9] (λa b c d w=>qmb.l1 a b c d Q w) (λnx1 a b c d w=>qmb.b1 a b c d Q nx1 w) λnx1=> .lf))) .lf)) .lf)) .lf))) (by kernel_rfl) h
def qj.j2(Q:VWP)(w:World):Prop:=Q (.tuple ⟨[.int .i64 0,.int .i64 2]⟩) w
def qj.j5(c_0 r_1:OAd)(v_6:Int)(n_7:Int)(Q:VWP)(nx1:OAd->OAd->Int->Int->WP)(w:World):Prop:=lt (i64.wrap (n_7+1)) λx1=>nx1 c_0 r_1 v_6 x1 w
def qj.j8(c_0 r_1:OAd)(v_6:Int)(n_7:Int)(some_10:Bool)(Q:VWP)(nx1:OAd->OAd->Int->Int->WP)(w:World):Prop:=br (!some_10) (Q (.tuple ⟨[.int .i64 0,.int .i64 2]⟩) w) (qj.j5 c_0 r_1 v_6 n_7 Q nx1 w)
def qj.j11(c_0 r_1:OAd)(v_6:Int)(n_7:Int)(some_10:Bool)(i_11:Int)(Q:VWP)(nx1:OAd->OAd->Int->Int->WP)(nx2:OAd->OAd->Int->Int->Bool->Int->WP)(w:World):Prop:=lt (i64.wrap (i_11+1)) λx2=>nx2 c_0 r_1 v_6 n_7 some_10 x2 w
def qj.j12(c_0 r_1:OAd)(v_6:Int)(n_7:Int)(some_10:Bool)(i_11:Int)(Q:VWP)(nx1:OAd->OAd->Int->Int->WP)(nx2:OAd->OAd->Int->Int->Bool->Int->WP)(w:World):Prop:=br some_10 (qj.j11 c_0 r_1 v_6 n_7 true i_11 Q nx1 nx2 w) (nz c_0 λa3=>ldL w (Addr.add a3 0) λx4=>ixS x4.a x4.len i_11 1 λa5=>ldI .i64 w a5 λx6=>qj.j11 c_0 r_1 v_6 n_7 (decide (x6>n_7)) i_11 Q nx1 nx2 w)
def qj.j10(c_0 r_1:OAd)(v_6:Int)(n_7:Int)(some_10:Bool)(i_11:Int)(Q:VWP)(nx1:OAd->OAd->Int->Int->WP)(nx2:OAd->OAd->Int->Int->Bool->Int->WP)(w:World):Prop:=nz c_0 λa7=>ldL w (Addr.add a7 0) λx8=>ixS x8.a x8.len i_11 1 λa9=>ldI .i64 w a9 λx10=>br (x10==n_7) (nz c_0 λa11=>ldL w (Addr.add a11 1) λx12=>ixS x12.a x12.len i_11 1 λa13=>ldI .i64 w a13 λx14=>br (x14==v_6) (Q (.tuple ⟨[.int .i64 i_11,.int .i64 0]⟩) w) (qj.j12 c_0 r_1 v_6 n_7 some_10 i_11 Q nx1 nx2 w)) (qj.j12 c_0 r_1 v_6 n_7 some_10 i_11 Q nx1 nx2 w)
def qj.b2(c_0 r_1:OAd)(v_6:Int)(n_7:Int)(some_10:Bool)(i_11:Int)(Q:VWP)(nx1:OAd->OAd->Int->Int->WP)(nx2:OAd->OAd->Int->Int->Bool->Int->WP)(w:World):Prop:=nz c_0 λa15=>ldL w (Addr.add a15 0) λx16=>br (decide (i_11<(x16.len:Int))) (qj.j10 c_0 r_1 v_6 n_7 some_10 i_11 Q nx1 nx2 w) (qj.j8 c_0 r_1 v_6 n_7 some_10 Q nx1 w)
def qj.l2(c_0 r_1:OAd)(v_6:Int)(n_7:Int)(some_10:Bool)(i_11:Int)(Q:VWP)(nx1:OAd->OAd->Int->Int->WP)(w:World):Prop:=∃(I:Bool->Int->WP) (μ:Bool->Int->World->Nat),I some_10 i_11 w/\∀some_10:Bool,∀i_11:Int,∀w:World,I some_10 i_11 w->qj.b2 c_0 r_1 v_6 n_7 some_10 i_11 Q nx1 (λc_0' r_1' v_6' n_7' some_10' i_11' w'=>(c_0'=c_0/\r_1'=r_1/\v_6'=v_6/\n_7'=n_7)/\I some_10' i_11' w'/\μ some_10' i_11' w'<μ some_10 i_11 w) w
def qj.j9(c_0 r_1:OAd)(v_6:Int)(n_7:Int)(some_10:Bool)(i_11:Int)(Q:VWP)(nx1:OAd->OAd->Int->Int->WP)(w:World):Prop:=qj.l2 c_0 r_1 v_6 n_7 some_10 i_11 Q nx1 w
def qj.j7(c_0 r_1:OAd)(v_6:Int)(n_7:Int)(some_10:Bool)(Q:VWP)(nx1:OAd->OAd->Int->Int->WP)(w:World):Prop:=qj.j9 c_0 r_1 v_6 n_7 some_10 0 Q nx1 w
def qj.j6(c_0 r_1:OAd)(v_6:Int)(n_7 b_8:Int)(Q:VWP)(nx1:OAd->OAd->Int->Int->WP)(w:World):Prop:=(0:Int)<=1/\lt (qzi .i64 v_6 1) λx17=>lt (orV .i64 x17 b_8) λx18=>qj.j7 c_0 r_1 x18 n_7 false Q nx1 w
def qj.j4(c_0 r_1:OAd)(v_6:Int)(n_7:Int)(Q:VWP)(nx1:OAd->OAd->Int->Int->WP)(w:World):Prop:=qwob 135 [.pointer r_1,.int .i64 1] w λr21 r22 w20=>br (!r22) (Q (.tuple ⟨[.int .i64 0,.int .i64 3]⟩) w20) (qj.j6 c_0 r_1 v_6 n_7 r21 Q nx1 w20)
def qj.b1(c_0 r_1:OAd)(v_6:Int)(n_7:Int)(Q:VWP)(nx1:OAd->OAd->Int->Int->WP)(w:World):Prop:=br (decide (n_7<=15)) (qj.j4 c_0 r_1 v_6 n_7 Q nx1 w) (qj.j2 Q w)
def qj.l1(c_0 r_1:OAd)(v_6:Int)(n_7:Int)(Q:VWP)(w:World):Prop:=∃(I:Int->Int->WP) (μ:Int->Int->World->Nat),I v_6 n_7 w/\∀v_6:Int,∀n_7:Int,∀w:World,I v_6 n_7 w->qj.b1 c_0 r_1 v_6 n_7 Q (λc_0' r_1' v_6' n_7' w'=>(c_0'=c_0/\r_1'=r_1)/\I v_6' n_7' w'/\μ v_6' n_7' w'<μ v_6 n_7 w) w
def qj.j3(c_0 r_1:OAd)(v_6:Int)(n_7:Int)(Q:VWP)(w:World):Prop:=qj.l1 c_0 r_1 v_6 n_7 Q w
def qj.j1(c_0 r_1:OAd)(v_6:Int)(Q:VWP)(w:World):Prop:=qj.j3 c_0 r_1 v_6 1 Q w
def qj(c_0 r_1:OAd)(Q:VWP)(w:World):Prop:=qj.j1 c_0 r_1 0 Q w
theorem qj.ok(c_0:OAd)(r_1:OAd)(Q:VWP)(w:World)(h:qj c_0 r_1 Q w):Calls prog 155 ⟨[.pointer c_0,.pointer r_1]⟩ w (Ret Q):=
 qhc [.tmp 4,.tmp 5] qde Tryz.func155 rfl rfl rfl rfl (.pr 1 [sP 0,sP 1,sI 6] (λa b c w=>qj.j1 a b c Q w) (.sq [] (λ w=>qj.j2 Q w) (.sq [sP 0,sP 1,sI 6,sI 7] (λa b c d w=>qj.j3 a b c d Q w) .lf (.bk (.lo [sP 0,sP 1] [sI 6,sI 7] (λa b c d w=>qj.l1 a b c d Q w) (λnx1 a b c d w=>qj.b1 a b c d Q nx1 w) λnx1=>(.sq [sP 0,sP 1,sI 6,sI 7] (λa b c d w=>qj.j4 a b c d Q nx1 w) .lf (.sq [sP 0,sP 1,sI 6,sI 7] (λa b c d w=>qj.j5 a b c d Q nx1 w) (.bk (.pr 1 [sP 0,sP 1,sI 6,sI 7,sI 8] (λa b c d e w=>qj.j6 a b c d e Q nx1 w) (.pr 1 [sP 0,sP 1,sI 6,sI 7,sB 10] (λa b c d e w=>qj.j7 a b c d e Q nx1 w) (.sq [sP 0,sP 1,sI 6,sI 7,sB 10] (λa b c d e w=>qj.j8 a b c d e Q nx1 w) (.sq [sP 0,sP 1,sI 6,sI 7,sB 10,sI 11] (λa b c d e f w=>qj.j9 a b c d e f Q nx1 w) .lf (.bk (.lo [sP 0,sP 1,sI 6,sI 7] [sB 10,sI 11] (λa b c d e f w=>qj.l2 a b c d e f Q nx1 w) (λnx2 a b c d e f w=>qj.b2 a b c d e f Q nx1 nx2 w) λnx2=>(.sq [sP 0,sP 1,sI 6,sI 7,sB 10,sI 11] (λa b c d e f w=>qj.j10 a b c d e f Q nx1 nx2 w) .lf (.sq [sP 0,sP 1,sI 6,sI 7,sB 10,sI 11] (λa b c d e f w=>qj.j11 a b c d e f Q nx1 nx2 w) (.bk (.sq [sP 0,sP 1,sI 6,sI 7,sB 10,sI 11] (λa b c d e f w=>qj.j12 a b c d e f Q nx1 nx2 w) .lf .lf)) .lf))))) .lf)))) .lf))))) .lf)) (by kernel_rfl) h
end
end Go.Proofs.YtdccpphmkfaioaaGreat
