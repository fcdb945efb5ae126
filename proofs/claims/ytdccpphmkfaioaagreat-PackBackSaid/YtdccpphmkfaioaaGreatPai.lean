/- Own texts as one, only what is reached (shake2.py). -/
import Derived.Test.YtdccpphmkfaioaaGreatPah
set_option linter.unusedSectionVars false
set_option linter.unusedVariables false
set_option linter.unusedSimpArgs false
namespace Go.Proofs.YtdccpphmkfaioaaGreat
open Go Go.Proofs
open Go.IntKind (i64)
open List (append_assoc getElem_mem length_map take)
open Nat (le_refl)
open Go.Proofs.Tryz (prog)
section
attribute [local irreducible] apK cpK mkK br qhh crcV qyk qzg knB
theorem qyob(a:Option Addr):spl [.int .i64 0,.int .i64 0,.int .i64 0,.int .u8 0,.int .u8 0,.int .u8 0,.int .u8 0,.int .u8 0,.int .u8 0,.int .u8 0,.int .u8 0,.int .u8 0,.int .u8 0,.int .u8 0,.int .u8 0,.int .u8 0,.int .u8 0,.int .u8 0,.int .u8 0,.int .u8 0,.int .u8 0,.int .u8 0,.int .u8 0,.slice none 0 0,.int .i64 0,.int .i64 0,.int .u32 0] 0 (⟨[.int .i64 3,.int .i64 0,.int .i64 0,.int .u8 0,.int .u8 0,.int .u8 0,.int .u8 0,.int .u8 0,.int .u8 0,.int .u8 0,.int .u8 0,.int .u8 0,.int .u8 0,.int .u8 0,.int .u8 0,.int .u8 0,.int .u8 0,.int .u8 0,.int .u8 0,.int .u8 0,.int .u8 0,.int .u8 0,.int .u8 0,.slice a 2 2,.int .i64 0,.int .i64 0,.int .u32 0]⟩:Array Value)=enC (knE ⟨a,2,2⟩):=qzx rfl
theorem kn_ok(s:Sl):OkX (knX s) (knX s).length:=λi h _=>by
 have:i=0:=by simp at h;exact h
 subst this
 exact⟨(by decide:(1:Int)<=3),(by decide:(3:Int)<=7),(by decide:(3:Int)≠5),λh=>absurd h (by decide:(3:Int)≠6)⟩
theorem qttb{s:Sl}(hl:s.len=2)(hc:s.len<=s.cap):Play (knX s):=by
 refine⟨λx hx=>?_,(by decide:(2:Nat)<=6000),(by decide:(1:Nat)<=514)⟩;rw[List.mem_singleton.1 hx];exact⟨(by decide:∀v∈([104,105]:List Int),0<=v/\v<256),(by decide:∀v∈b20,0<=v/\v<256),(by decide:(2:Nat)<=2000),hl,hc⟩
section
variable {F0:List Nat}{w0 w:World}{ps rest:List As}{s t b:Sl}{K:Ending->World->Prop}{Z R ids:List Int}{n:Nat}
theorem qye.e4(h:St F0 w0 w ps)[Rdb F0 w0 b ps 1 (u8s Z)](hZ:Z=hdP n++R)(hb:qjm Z)(h32:32<=Z.length)(hL:Z.length<=131072)(hc:b.len<=b.cap)(hn:n<=512)(hne:qyk (bdZ Z)≠tlZ Z)
 (hk:∀w',St F0 w0 w' ps->K (.returned (.tuple ⟨[.slice none 0 0,.int .i64 4]⟩)) w'):Calls prog 11 ⟨[sV b]⟩ w K:=by
 refine qec (qye.ok _ _ _ ?_)
 unfold qye
 rw[qhqb,qgeb]
 refine h.new λb2 w h=>?_
 refine h.new λb3 w h=>?_
 have h:St F0 w0 w (qqb b3 [.int .i64 0]::qqb b2 [.slice none 0 0]::ps):=h
 refine qud.c (b:=b) (Z:=Z) (n:=n) (R:=R) h hZ hb h32 hL hc hn (λg=>absurd g hne) (λ_ w h=>⟨⟨none,0,0⟩,_,_,rfl,?_⟩)
 refine qbg rfl ?_
 refine h.fst (b:=b2) (l':=[.slice none 0 0]) (g:=⟨rfl,Nat.zero_lt_succ _⟩) trivial λw h=>?_
 refine h.fst (b:=b3) (l':=[.int .i64 4]) (g:=⟨rfl,Nat.zero_lt_succ _⟩) trivial λw h=>?_
 refine h.fL (b:=b2) (h.fI (b:=b3) ?_)
 exact hk w h.drop.drop
theorem qmh.c(h:St F0 w0 w ps)(hk:∀w',St F0 w0 w' ps->K (.returned (.bool true)) w'):Calls prog 5 ⟨[]⟩ w K:=by
 refine qec (qmh.ok _ _ ?_);unfold qmh;refine h.new λnb w h=>?_;have h:St F0 w0 w (qqb nb (u8s [104,105])::ps):=h;refine h.str (b:=nb) (n:=2) rfl λw h=>?_;obtain⟨s,hs⟩:∃s:Sl,s=⟨some ⟨nb,0,none⟩,2,2⟩:=⟨_,rfl⟩;have h:St F0 w0 w (rdA 1 s (u8s [104,105])::ps):=by rw[hs];exact h
 refine⟨rfl,?_⟩;rw[qyob,<-hs];refine h.new λeb w h=>?_;have h:St F0 w0 w (qqb eb (enC (knE s))::rdA 1 s (u8s [104,105])::ps):=h;have h:=h.ownBR (sz:=27) (n:=1) (by rw[qne]);have hm:((knX s).map Prod.fst).flatMap enC=enC (knE s):=by simp
 rw[<-hm]at h;have hsl:s.len=2:=by rw[hs]
 have hsc:s.len<=s.cap:=by rw[hs];exact le_refl _
 have hP:=qttb hsl hsc;have hO:=kn_ok s;have hB1:bW 1 (knX s) (knX s).length=knB:=kn_bW s;have hp1:pI 1 (knX s) (knX s).length=[12]:=by show[((hdP 1).length:Int)]=[12];rw[qns];rfl
 have hkl:=qutb;refine qdc.c (s:=⟨some ⟨eb,0,none⟩,1,1⟩) (X:=knX s) (eff:=1) h hP (λx hx=>by rw[List.mem_singleton.1 hx];show Rdb F0 w0 s _ 1 _;infer_instance) (λg=>absurd hO g) (λ_ g=>absurd g (by decide:¬(512:Nat)<1)) λ_ _ b u w hb1 hb2 hu1 hu2 h=>⟨b,u,_,rfl,?_⟩;have hmx:=qim (eff:=1) hP (le_refl (knX s).length);have hmn:=(qrbb (eff:=1) hP (knX s).length (le_refl _)).2;have hs20:(qyk (bW 1 (knX s) (knX s).length)).length=20:=qli _;have hZl:(pkB 1 (knX s)).length=(bW 1 (knX s) (knX s).length).length+20:=by rw[List.length_append,hs20]
 have hZo:qjm (pkB 1 (knX s)):=λv hv=>(List.mem_append.1 hv).elim (qzpb (eff:=1) hP hO _ (le_refl _) (le_refl _) v) (qrq _ v);refine qye.c (b:=b) (X:=knX s) (eff:=1) h rfl (by omega) hP hO (by decide:(1:Nat)<=512) λl T B w hT hB h=>⟨l,_,rfl,?_⟩;refine qln.c (b:=b) h (by omega) (by omega) hZo (by omega) λnm w hnm h=>⟨nm,_,rfl,?_⟩;refine h.new λab w h=>?_;have h:=h.own0;refine h.appI (s:=⟨some ⟨ab,0,none⟩,0,0⟩) (s2:=b) (zs:=[]) (ys:=pkB 1 (knX s)) (k:= .u8) (by rw[hZl,List.length_nil];omega) λo w h=>?_;rw[List.nil_append]at h;refine h.new λzb w h=>?_;have h:=h.ownB (n:=1) rfl;have h:St F0 w0 w (qyb 1 ⟨some ⟨zb,0,none⟩,1,1⟩ (u8s [0])::qyb 1 o (u8s (pkB 1 (knX s)))::rdA 27 l ((enL 1 (knX s) T).flatMap enC)::bgA B::rdA 1 b (u8s (pkB 1 (knX s)))::rdA 1 u (ivs .i64 (pI 1 (knX s) (knX s).length))::qyb 27 ⟨some ⟨eb,0,none⟩,1,1⟩ (((knX s).map Prod.fst).flatMap enC)::rdA 1 s (u8s [104,105])::ps):=h;refine h.appI (s:=o) (s2:=⟨some ⟨zb,0,none⟩,1,1⟩) (zs:=pkB 1 (knX s)) (ys:=[0]) (k:= .u8) (by rw[hZl];show _+1<=_;omega) λo2 w h=>?_;have hoc:=h.cap (by decide);have h2l:(pkB 1 (knX s)++[0]).length=(bW 1 (knX s) (knX s).length).length+21:=by rw[List.length_append,hZl];rfl
 obtain⟨T0,hT0⟩:=qfgb (eff:=1) (X:=knX s) (knX s).length 0 (Nat.le_of_eq (Nat.zero_add _));rw[Nat.zero_add]at hT0;refine qye.e4 (b:=o2) (Z:=pkB 1 (knX s)++[0]) (n:=1) (R:=T0++(qyk (bW 1 (knX s) (knX s).length)++[0])) h (by show(bW 1 (knX s) (knX s).length++_)++_=_;rw[append_assoc,hT0,append_assoc];rfl) (λv hv=>?_) (by omega) (by omega) hoc (by decide) ?_ λw h=>⟨⟨none,0,0⟩,_,rfl,?_⟩
 ·rcases List.mem_append.1 hv with hv|hv
  ·exact hZo v hv
  ·simp at hv;omega
 ·have e1:bdZ (pkB 1 (knX s)++[0])=knB++(qyk knB).take 1:=by
   show take _ _=_;rw[h2l,hB1];show take (knB.length+21-20) ((bW 1 (knX s) (knX s).length++_)++_)=_;rw[hB1,append_assoc,show knB.length+21-20=knB.length+1 by omega,List.take_length_add_append,List.take_append_of_le_length (by rw[qli];decide)]
  have e2:tlZ (pkB 1 (knX s)++[0])=(qyk knB).drop 1++[0]:=by
   show List.drop _ _=_;rw[h2l,hB1];show List.drop (knB.length+21-20) ((bW 1 (knX s) (knX s).length++_)++_)=_;rw[hB1,append_assoc,show knB.length+21-20=knB.length+1 by omega,List.drop_length_add_append,List.drop_append_of_le_length (by rw[qli];decide)]
  rw[e1,e2];exact kn_bad
 refine ql (e':=(0:Int)) (by decide) (ql (e':=(0:Int)) (by decide) ?_);refine qbg rfl ?_;have hul:u.len=1:=by rw[hu1];rfl
 refine qbg (by rw[hul];rfl) ?_;have hr:=h.rdb u;rw[hp1]at hr;refine hr.ix (by decide) (by decide) (by omega) λa ha=>?_;refine⟨12,by rw[hr.cell ha (by decide)];rfl,?_⟩;refine qbg rfl ?_;have hT1:T.length=1:=hT;have hll:=h.rlen (s:=l) (f:=enC) (L:=enL 1 (knX s) T);rw[qsj,hT1]at hll;refine qbg (by rw[<-hll];rfl) ?_;have hle:0<(enL 1 (knX s) T).length:=by rw[qsj,hT1];decide
 refine h.lrL (s:=l) (f:=enC) (L:=enL 1 (knX s) T) (v:=T[0]) 0 rfl hle (by decide) (by rw[qzq];exact qtk _ 0) ?_;haveI:=Rdb.bag (F0:=F0) (w0:=w0) (ps:=rdA 1 b (u8s (pkB 1 (knX s)))::rdA 1 u (ivs .i64 (pI 1 (knX s) (knX s).length))::qyb 27 ⟨some ⟨eb,0,none⟩,1,1⟩ (((knX s).map Prod.fst).flatMap enC)::rdA 1 s (u8s [104,105])::ps) (hB 0 (by omega));refine h.bt (s:=T[0]) (xs:=[104,105]) (by decide) ?_;refine qbg (by decide+kernel) ?_;refine qbg (by rw[hnm];rfl) ?_;exact hk w h.sub
end
end
section
attribute [local irreducible] apK cpK mkK br qhh crcV qyk qzg
section
variable {W w:World}{ps:List As}{s u m:Sl}{X:List Ex}{eff:Int}{T:List Sl}{B:List As}
theorem trovelaw15_PackBack.j6c{K:Ending->World->Prop}(h:St [] W w ps)[Rdb [] W s ps 27 ((X.map Prod.fst).flatMap enC)][Rdb [] W u ps 1 (ivs .i64 (pI eff X X.length))][Rdb [] W m ps 27 ((enL eff X T).flatMap enC)]
 (hd:∀x∈X,Rdb [] W x.1.data ps 1 (u8s x.2)) (hB:∀(i:Nat) (hi:i<T.length),Rdb [] W T[i] ps 1 (u8s (atX X i).2)) (hT:T.length=X.length) (hP:Play X) (hO:OkX X X.length)
 (hk:∀w',St [] W w' ps->K (.returned (.bool true)) w'):trovelaw15_PackBack.j6 s u m (λv w'=>K (.returned v) w') w:=by
 have hln:=hP.ln
 have hl:=h.rlen (s:=s) (f:=enC) (L:=X.map Prod.fst)
 rw[length_map]at hl
 unfold trovelaw15_PackBack.j6 trovelaw15_PackBack.j8
 refine qof (λ(i:Nat) (i':Int) w'=>i'=(i:Int)/\i<=X.length/\St [] W w' ps) (λi=>X.length-i) 0 ⟨rfl,Nat.zero_le _,h⟩ ?_
 clear h
 rintro i _ wL I μ ⟨rfl,hi,h⟩ hin
 unfold trovelaw15_PackBack.b1
 refine qrc (λg=>?_) (λg=>?_)
 rotate_left
 ·unfold trovelaw15_PackBack.j7
  exact hk _ h
 have hix:i<X.length:=by omega
 have hv:=hO i hix hix
 have hp:=hP.pl _ (getElem_mem hix)
 have hmi:=qim (eff:=eff) hP (show i<=X.length by omega)
 have hs:i<(X.map Prod.fst).length:=by rw[length_map];exact hix
 have hm:i<(enL eff X T).length:=by rw[qsj,hT];exact hix
 have hge:(X.map Prod.fst)[i]=X[i].1:=List.getElem_map ..
 have hme:(enL eff X T)[i]=rdX eff X i X[i] (T[i]'(by omega)):=by rw[qzq,qiy hix]
 have hk1:=hv.k1
 refine h.drewK λw h=>?_
 have nx:lt (i64.wrap ((i:Int)+1)) λx=>(s=s/\u=u/\m=m)/\I x w/\μ x w<μ (i:Int) wL:=by
  refine ql (e':=((i+1:Nat):Int)) (by rw[qd (by omega) (by omega)];rfl) ?_;exact⟨⟨rfl,rfl,rfl⟩,hin (i+1) _ _ ⟨rfl,by omega,h⟩ (by omega)⟩
 have hr:=h.rdb u
 have hul:=hr.1
 rw[qj,qzs (le_refl _)]at hul
 have la:∀(j:Nat) (n:Int),n=(j:Int)->j<X.length->∀{Q:Int->Prop},Q ((bW eff X j).length:Int)->ixS u.a u.len n 1 λa=>Go.Proofs.YtdccpphmkfaioaaGreat.ldI .i64 w a Q:=λj n hn hj Q hq=>by
  subst hn;refine hr.ix (by decide) (by omega) (by omega) λa ha=>?_;refine⟨_,?_,hq⟩;rw[Int.toNat_natCast,hr.cell ha (by rw[qj,qzs (le_refl _)];omega),Nat.mul_one,qml (by rw[qzs (le_refl _)];exact hj),List.getD_eq_getElem?_getD,qpqb (le_refl _) hj];rfl
 have mk:∀{Q:Int->Prop},Q X[i].1.kind->ixS m.a m.len (i:Int) 27 λa=>Go.Proofs.YtdccpphmkfaioaaGreat.ldI .i64 w (Addr.add a 0) Q:=λhq=>h.lrI (s:=m) (f:=enC) (L:=enL eff X T) i rfl hm (by decide) (by rw[hme];show some (Value.int .i64 ((X[i].1.kind.toNat:Nat):Int))=_;rw[show((X[i].1.kind.toNat:Nat):Int)=X[i].1.kind by omega]) hq
 have sk:∀{Q:Int->Prop},Q X[i].1.kind->ixS s.a s.len (i:Int) 27 λa=>Go.Proofs.YtdccpphmkfaioaaGreat.ldI .i64 w (Addr.add a 0) Q:=λhq=>h.lrI (s:=s) (f:=enC) (L:=X.map Prod.fst) i rfl hs (by decide) (by rw[hge];rfl) hq
 have sb:∀{Q:Int->Prop},Q X[i].1.back->ixS s.a s.len (i:Int) 27 λa=>Go.Proofs.YtdccpphmkfaioaaGreat.ldI .i64 w (Addr.add a 2) Q:=λhq=>h.lrI (s:=s) (f:=enC) (L:=X.map Prod.fst) i rfl hs (by decide) (by rw[hge];rfl) hq
 have mb:∀{Q:Int->Prop},X[i].1.kind=6->Q ((bkW (bW eff X i).length (pW eff X i) X[i]:Nat):Int)->ixS m.a m.len (i:Int) 27 λa=>Go.Proofs.YtdccpphmkfaioaaGreat.ldI .i64 w (Addr.add a 2) Q:=λh6 hq=>h.lrI (s:=m) (f:=enC) (L:=enL eff X T) i rfl hm (by decide) (by
  rw[hme];show some (Value.int .i64 (if X[i].1.kind.toNat=6 then((bkW (bW eff X i).length (pW eff X i) X[i]:Nat):Int)else 0))=_;rw[if_pos (by omega)]) hq
 have base:∀{L:List En} {t:Sl} {e:En} (hj:i<L.length),L[i]=e->Rdb [] W t ps 27 (L.flatMap enC)->∀{Q:Array Value->Prop},Q ⟨ivs .u8 e.base⟩->ixS t.a t.len (i:Int) 27 λa=>ldA w (Addr.add a 3) 20 Q:=λ{L t e} hj he hR {Q} hq=>by
  haveI:=hR;refine h.rix (s:=t) (f:=enC) (L:=L) i rfl hj λa0 ha=>?_;refine⟨⟨ivs .u8 e.base⟩,by show(ivs .u8 e.base).length=20;rw[qj];exact e.hb,λo ho=>?_,hq⟩;rw[qen,qen,show i*27+(3+o)=i*27+(3+o)from rfl,<-qen,(hR.rd h).rcell (f:=enC) (L:=L) (j:=i) (o:=3+o) ha hj (by omega),he];have:(((enC e).drop 3).take 20)[o]?=(ivs .u8 e.base)[o]?:=by rw[qvr]
  rw[List.getElem?_take,if_pos ho,List.getElem?_drop]at this
  rw[this];simp
 have n6:ixS s.a s.len (i:Int) 27 λa30=>Go.Proofs.YtdccpphmkfaioaaGreat.ldI .i64 w (Addr.add a30 0) λx=>br (x==6) (
  ixS u.a u.len (i:Int) 1 λa31=>Go.Proofs.YtdccpphmkfaioaaGreat.ldI .i64 w a31 λx1=>ixS m.a m.len (i:Int) 27 λa32=>Go.Proofs.YtdccpphmkfaioaaGreat.ldI .i64 w (Addr.add a32 2) λx2=>lt (i64.wrap (x1-x2)) λx3=>
  ixS s.a s.len (i:Int) 27 λa33=>Go.Proofs.YtdccpphmkfaioaaGreat.ldI .i64 w (Addr.add a33 2) λx4=>lt (i64.wrap ((i:Int)-x4)) λx5=>ixS u.a u.len x5 1 λa34=>Go.Proofs.YtdccpphmkfaioaaGreat.ldI .i64 w a34 λx6=>
  br (x3 !=x6) (K (.returned (.bool false)) w) (lt (i64.wrap ((i:Int)+1)) λx=>(s=s/\u=u/\m=m)/\I x w/\μ x w<μ (i:Int) wL)) (lt (i64.wrap ((i:Int)+1)) λx=>(s=s/\u=u/\m=m)/\I x w/\μ x w<μ (i:Int) wL):=by
  refine sk (qbf (λg6=>?_) λ_=>nx)
  have h6:X[i].1.kind=6:=by simpa using g6
  obtain⟨b1,b2,b3⟩:=qaib (eff:=eff) hP hix hv h6
  have hbk:=hv.bk h6
  refine la i _ rfl hix (mb h6 ?_)
  refine ql (e':=((bW eff X (i-X[i].1.back.toNat)).length:Int)) (by rw[qd (by omega) (by omega)];omega) ?_
  refine sb ?_
  refine ql (e':=((i-X[i].1.back.toNat:Nat):Int)) (by rw[qd (by omega) (by omega)];omega) ?_
  exact la _ _ rfl (by omega) (qoe (by simp) nx)
 refine h.lrI (s:=m) (f:=enC) (L:=enL eff X T) (v:=((bW eff X i).length:Int)) i rfl hm (by decide) (by rw[hme];exact qtk _ 1) ?_
 refine la i _ rfl hix (qoe (by simp) ?_)
 refine mk (sk (qoe (by simp) ?_))
 refine h.rix (s:=m) (f:=enC) (L:=enL eff X T) i rfl hm λam ham=>?_
 refine h.rix (s:=s) (f:=enC) (L:=X.map Prod.fst) i rfl hs λal hal=>?_
 have lm:∀{Q:Sl->Prop},Q (T[i]'(by omega))->ldL w (Addr.add (Addr.add am (i*27)) 23) Q:=λhq=>(h.rdb m).rL (f:=enC) (L:=enL eff X T) (v:=T[i]'(by omega)) ham hm (by decide) (by rw[hme];exact qtk _ 0) hq
 have ll:∀{Q:Sl->Prop},Q X[i].1.data->ldL w (Addr.add (Addr.add al (i*27)) 23) Q:=λhq=>(h.rdb s).rL (f:=enC) (L:=X.map Prod.fst) (v:=X[i].1.data) hal hs (by decide) (by rw[hge];exact qtk _ 0) hq
 have bm:∀{Q:ByteArray->Prop},Q ⟨⟨u8 X[i].2⟩⟩->btS w (T[i]'(by omega)).a (T[i]'(by omega)).len Q:=λhq=>by
  haveI:=hB i (by omega);rw[qtmb hix]at this
  exact h.bt hp.xs hq
 have bl:∀{Q:ByteArray->Prop},Q ⟨⟨u8 X[i].2⟩⟩->btS w X[i].1.data.a X[i].1.data.len Q:=λhq=>by
  haveI:=hd _ (getElem_mem hix);exact h.bt (s:=X[i].1.data) hp.xs hq
 have tail:ixS s.a s.len (i:Int) 27 λa30=>Go.Proofs.YtdccpphmkfaioaaGreat.ldI .i64 w (Addr.add a30 0) λx=>br (x==7) (
  ixS m.a m.len (i:Int) 27 λa31=>ldA w (Addr.add a31 3) 20 λc1=>ixS s.a s.len (i:Int) 27 λa32=>ldA w (Addr.add a32 3) 20 λc2=>eqA .u8 20 c1 c2 λx1=>br (!x1) (K (.returned (.bool false)) w) (
  ixS s.a s.len (i:Int) 27 λa30=>Go.Proofs.YtdccpphmkfaioaaGreat.ldI .i64 w (Addr.add a30 0) λx=>br (x==6) (
  ixS u.a u.len (i:Int) 1 λa31=>Go.Proofs.YtdccpphmkfaioaaGreat.ldI .i64 w a31 λx1=>ixS m.a m.len (i:Int) 27 λa32=>Go.Proofs.YtdccpphmkfaioaaGreat.ldI .i64 w (Addr.add a32 2) λx2=>lt (i64.wrap (x1-x2)) λx3=>
  ixS s.a s.len (i:Int) 27 λa33=>Go.Proofs.YtdccpphmkfaioaaGreat.ldI .i64 w (Addr.add a33 2) λx4=>lt (i64.wrap ((i:Int)-x4)) λx5=>ixS u.a u.len x5 1 λa34=>Go.Proofs.YtdccpphmkfaioaaGreat.ldI .i64 w a34 λx6=>
  br (x3 !=x6) (K (.returned (.bool false)) w) (lt (i64.wrap ((i:Int)+1)) λx=>(s=s/\u=u/\m=m)/\I x w/\μ x w<μ (i:Int) wL)) (lt (i64.wrap ((i:Int)+1)) λx=>(s=s/\u=u/\m=m)/\I x w/\μ x w<μ (i:Int) wL))) (
  ixS s.a s.len (i:Int) 27 λa30=>Go.Proofs.YtdccpphmkfaioaaGreat.ldI .i64 w (Addr.add a30 0) λx=>br (x==6) (
  ixS u.a u.len (i:Int) 1 λa31=>Go.Proofs.YtdccpphmkfaioaaGreat.ldI .i64 w a31 λx1=>ixS m.a m.len (i:Int) 27 λa32=>Go.Proofs.YtdccpphmkfaioaaGreat.ldI .i64 w (Addr.add a32 2) λx2=>lt (i64.wrap (x1-x2)) λx3=>
  ixS s.a s.len (i:Int) 27 λa33=>Go.Proofs.YtdccpphmkfaioaaGreat.ldI .i64 w (Addr.add a33 2) λx4=>lt (i64.wrap ((i:Int)-x4)) λx5=>ixS u.a u.len x5 1 λa34=>Go.Proofs.YtdccpphmkfaioaaGreat.ldI .i64 w a34 λx6=>
  br (x3 !=x6) (K (.returned (.bool false)) w) (lt (i64.wrap ((i:Int)+1)) λx=>(s=s/\u=u/\m=m)/\I x w/\μ x w<μ (i:Int) wL)) (lt (i64.wrap ((i:Int)+1)) λx=>(s=s/\u=u/\m=m)/\I x w/\μ x w<μ (i:Int) wL)):=by
  refine sk (qbf (λg7=>?_) λ_=>n6)
  have h7:X[i].1.kind=7:=by simpa using g7
  have hb7:(rdX eff X i X[i] (T[i]'(by omega))).base=X[i].1.base:=by
   show(if X[i].1.kind.toNat=7 then X[i].1.base else b20)=_;rw[if_pos (by omega)]
  refine base hm hme inferInstance (base hs hge inferInstance ?_)
  rw[hb7]
  exact eqA_s X[i].1.hb (qoe rfl n6)
 have fin:br (!(ByteArray.toList ⟨⟨u8 X[i].2⟩⟩==ByteArray.toList ⟨⟨u8 X[i].2⟩⟩)) (K (.returned (.bool false)) w) _:=qoe (by simp) tail
 repeat' first
  |exact fin
  |refine lm ?_
  |refine ll ?_
  |refine bm ?_
  |refine bl ?_
  |refine⟨?_,?_⟩
end
end
section
attribute [local irreducible] apK cpK mkK br qhh crcV qyk qzg
theorem trovelaw15_PackBack.law(s:Sl)(eff:Int)(X:List Ex)(W:World)(y0:Rd W 27 s ((X.map Prod.fst).flatMap enC)/\∀x∈X,Rd W 1 x.1.data (u8s x.2))(z0:s.len<=s.cap/\∀x∈X,EnOk x.1 x.2)(w1:(Lit.int .i64 eff).wf=true):
 Calls prog 3 ⟨[.slice s.a s.len s.cap,.int .i64 eff]⟩ W λe w'=>e= .returned (.bool true)/\Mod [] W w':=by
 haveI:∀ps,Rdb [] W s ps 27 ((X.map Prod.fst).flatMap enC):=λps=>Rdb.start y0.1
 have h:St [] W W []:=St.start0
 have hd:∀ps,∀x∈X,Rdb [] W x.1.data ps 1 (u8s x.2):=λps x hx=>Rdb.start (y0.2 x hx)
 have hdl:∀x∈X,x.1.data.len=x.2.length:=λx hx=>by
  have:=(y0.2 x hx).1;rw[qj]at this
  omega
 have fin:∀{w ps},St [] W w ps->(Ending.returned (Value.bool true)= .returned (.bool true)/\Mod [] W w):=λh=>⟨rfl,h.mod⟩
 have hl:=h.rlen (s:=s) (f:=enC) (L:=X.map Prod.fst)
 rw[length_map]at hl
 refine qec (trovelaw15_PackBack.ok s eff _ _ ?_)
 unfold trovelaw15_PackBack trovelaw15_PackBack.j1
 refine qmh.c h λw h=>⟨_,rfl,?_⟩
 refine qoe rfl ?_
 refine qic.c (s:=s) (X:=X) h hdl λb w hb h=>⟨b,rfl,?_⟩
 cases b with
 |false=>exact qbg rfl (fin h)
 |true=>
  refine qoe rfl ?_
  obtain⟨f1,f2,f3⟩:=hb rfl
  have hP:Play X:=⟨λx hx=>⟨λv hv=>wf_u8 ((z0.2 x hx).xs v hv),λv hv=>wf_u8 ((z0.2 x hx).base v hv),f2 x hx,hdl x hx,(z0.2 x hx).cap⟩,f3,by omega⟩
  have hln:=hP.ln
  have hof:∀{w ps} {Q:Ending->World->Prop},St [] W w ps->(∀t w',St [] W w' (qyb 27 t ((X.map Prod.fst).flatMap enC)::ps)->Q (.returned (sV t)) w')->Calls prog 9 ⟨[sV s]⟩ w Q:=λh hk=>qfd.c (s:=s) h (by rw[length_map];omega) hk
  unfold trovelaw15_PackBack.j2
  refine qdc.c (s:=s) (X:=X) h hP (hd _) (λg w h=>⟨⟨none,0,0⟩,⟨none,0,0⟩,_,rfl,?_⟩) (λg g5 w h=>⟨⟨none,0,0⟩,⟨none,0,0⟩,_,rfl,?_⟩) (λg g5 b u w hb1 hb2 hu1 hu2 h=>⟨b,u,_,rfl,?_⟩)
  ·refine hof h λt w h=>⟨t,rfl,?_⟩
   refine qcb.c (s:=t) (X:=X) h hP (hd _) (λ_ w h=>⟨⟨none,0,0⟩,⟨none,0,0⟩,_,rfl,?_⟩) (λg'=>absurd g' g) (λg'=>absurd g' g)
   unfold trovelaw15_PackBack.j3
   exact qoe rfl (qbg rfl (qbg rfl (fin h)))
  ·refine hof h λt w h=>⟨t,rfl,?_⟩
   refine qcb.c (s:=t) (X:=X) h hP (hd _) (λg'=>absurd g g') (λ_ _ w h=>⟨⟨none,0,0⟩,⟨none,0,0⟩,_,rfl,?_⟩) (λ_ g'=>absurd g' (by omega))
   unfold trovelaw15_PackBack.j3
   exact qoe rfl (qbg rfl (qbg rfl (fin h)))
  ·refine hof h λt w h=>⟨t,rfl,?_⟩
   refine qcb.c (s:=t) (X:=X) h hP (hd _) (λg'=>absurd g g') (λ_ g'=>absurd g' (by omega)) (λ_ _ b' u' w h=>⟨b',u',_,rfl,?_⟩)
   unfold trovelaw15_PackBack.j3
   refine qoe rfl (qoe rfl ?_)
   unfold trovelaw15_PackBack.j4
   have h:=h.drop
   refine qp.c (b:=b) (X:=X) (eff:=eff) h rfl (by omega) hP g g5 λm T1 B1 w hT1 hB1 h=>⟨m,_,rfl,?_⟩
   refine qye.c (b:=b) (X:=X) (eff:=eff) h rfl (by omega) hP g g5 λx T2 B2 w hT2 hB2 h=>⟨x,_,rfl,?_⟩
   unfold trovelaw15_PackBack.j5
   refine qoe rfl ?_
   have i2:∀(i:Nat) (hi:i<T2.length),Rdb [] W T2[i] (rdA 27 x ((enL eff X T2).flatMap enC)::bgA B2::rdA 27 m ((enL eff X T1).flatMap enC)::bgA B1::rdA 1 b (u8s (pkB eff X))::rdA 1 u (ivs .i64 (pI eff X X.length))::[]) 1 (u8s (atX X i).2):=λi hi=>by
    haveI:=Rdb.bag (F0:=[]) (w0:=W) (ps:=rdA 27 m ((enL eff X T1).flatMap enC)::bgA B1::rdA 1 b (u8s (pkB eff X))::rdA 1 u (ivs .i64 (pI eff X X.length))::[]) (hB2 i hi);exact Rdb.tl
   have i1:∀(i:Nat) (hi:i<T1.length),Rdb [] W T1[i] (rdA 27 x ((enL eff X T2).flatMap enC)::bgA B2::rdA 27 m ((enL eff X T1).flatMap enC)::bgA B1::rdA 1 b (u8s (pkB eff X))::rdA 1 u (ivs .i64 (pI eff X X.length))::[]) 1 (u8s (atX X i).2):=λi hi=>by
    haveI:=Rdb.bag (F0:=[]) (w0:=W) (ps:=rdA 1 b (u8s (pkB eff X))::rdA 1 u (ivs .i64 (pI eff X X.length))::[]) (hB1 i hi);exact Rdb.tl (i:=Rdb.tl (i:=Rdb.tl))
   refine quc.c (s:=x) (t:=m) (L:=enL eff X T2) (D:=enL eff X T1) h (by rw[qsj,qsj,hT1,hT2]) (by rw[qsj];omega) (λi h1 h2=>?_) λw h=>⟨_,rfl,?_⟩
   ·rw[qsj]at h1 h2
    have hix:i<X.length:=by omega
    have hp:=hP.pl _ (getElem_mem hix)
    rw[qzq,qzq]
    exact⟨⟨(atX X i).2,by rw[qtmb hix];exact hp.xs,i2 i h1,i1 i h2⟩,rfl,rfl,rfl,rfl,rfl,rfl,rfl⟩
   refine qoe rfl ?_
   refine qoe (by rw[hu1,<-hl];simp) ?_
   refine qoe rfl ?_
   have hml:=h.rlen (s:=m) (f:=enC) (L:=enL eff X T1)
   rw[qsj,hT1]at hml
   refine qoe (by rw[<-hml,<-hl];simp) ?_
   exact trovelaw15_PackBack.j6c (K:=λe w'=>e= .returned (.bool true)/\Mod [] W w') (s:=s) (u:=u) (m:=m) h (hd _) i1 hT1 hP g λw h=>fin h
end
end Go.Proofs.YtdccpphmkfaioaaGreat
