/- Own texts as one, only what is reached (shake.py). -/
import Derived.Test.YtejnemneenjliaaGreatEnb
import Derived.ChangeSlices
import Derived.Deep.Slices
import Derived.Test.YtejnemneenjliaaGreatProg
namespace Go.Proofs.YtejnemneenjliaaGreat
open Go Go.Proofs
set_option linter.unusedVariables false
set_option linter.unusedSimpArgs false
attribute [local irreducible] apK cpK mkK br
theorem eand15 (n:Nat):qli .i64 (n:Int) 15=((n % 16:Nat):Int):=by
 have:=qtj .i64 (n:Int) (t:=4) (by decide)
 rw [show (2:Int) ^ 4 - 1=15 by decide,show (2:Int) ^ 4=16 by decide] at this
 rw [this]; omega
theorem eshr4 (n:Nat):qbj .i64 (n:Int) 4=((n / 16:Nat):Int):=by
 have:=qti .i64 (n:Int) (t:=4) (by decide)
 rw [show (2:Int) ^ 4=16 by decide] at this
 rw [show (4:Int)=((4:Nat):Int) from rfl,this]; omega
theorem hd_first {k n:Nat} (hk:k≤7):IntKind.u8.wrap (orV .i64 (qqi .i64 (k:Int) 4) (((n % 16:Nat):Int)))=((k * 16+n % 16:Nat):Int):=by
 have h1:=qfi .i64 (x:=(k:Int)) (t:=4) (by decide) (by omega) (by rw [show (2:Int) ^ 4=16 by decide,show (2:Int) ^ (IntKind.bits .i64 - 1)=9223372036854775808 by decide]; omega)
 rw [show ((4:Nat):Int)=4 from rfl] at h1
 have h2:=qlo .i64 (a:=n % 16) (b:=k) (t:=4) (by rw [show 2 ^ 4=16 by decide]; omega) (by rw [show 2 ^ 4=16 by decide,show 2 ^ (IntKind.bits .i64 - 1)=9223372036854775808 by decide]; omega)
 rw [h1,h2,show (2:Int) ^ 4=16 by decide,qck]
 omega
theorem eor128 {c:Nat} (hc:c < 128):orV .u8 (c:Int) 128=((c+128:Nat):Int):=by
 have:=orV_uadd (k:=.u8) rfl (a:=c) (b:=1) (t:=7) (by rw [show 2 ^ 7=128 by decide]; omega) (by rw [show 2 ^ 7=128 by decide,show 2 ^ (IntKind.bits .u8)=256 by decide]; omega)
 rw [show ((1:Nat):Int) * 2 ^ 7=128 by decide] at this
 rw [this]; omega
theorem eand127 (n:Nat):IntKind.u8.wrap (qli .i64 (n:Int) 127)=((n % 128:Nat):Int):=by
 rw [and127 (by decide),qck]; omega
section
variable {F0:List Nat} {w0 w:World} {ps rest:List As} {s:Sl} {xs tl:List Int} {K:Ending→World→Prop}
theorem qvb.bad {k n:Int} (hb:k < 1 ∨ 7 < k ∨ n < 0 ∨ 1099511627776 < n) (hk:K (.returned (.tuple ⟨[.slice none 0 0,.int .i64 1]⟩)) w):Calls Tryz.prog 39 ⟨[.slice s.a s.len s.cap,.int .i64 k,.int .i64 n]⟩ w K:=by
 refine qfc (qvb.ok _ _ _ _ _ ?_)
 unfold qvb
 refine qnc (fun _=>hk) fun g1=>qnc (fun _=>hk) fun g2=>qnc (fun _=>hk) fun g3=>qnc (fun _=>hk) fun g4=>?_
 omega
theorem qib.bad {k n:Int} (hb:k < 1 ∨ 7 < k ∨ n < 0 ∨ 1099511627776 < n) (hk:K (.returned (.tuple ⟨[.slice none 0 0,.int .i64 1]⟩)) w):Calls Tryz.prog 40 ⟨[.slice s.a s.len s.cap,.int .i64 k,.int .i64 n]⟩ w K:=by
 refine qfc (qib.ok _ _ _ _ _ ?_)
 unfold qib
 refine qnc (fun _=>hk) fun g1=>qnc (fun _=>hk) fun g2=>qnc (fun _=>hk) fun g3=>qnc (fun _=>hk) fun g4=>?_
 omega
theorem qvb.c {k n:Nat} (h:St F0 w0 w ps) [Rdb F0 w0 s ps 1 (u8s xs)] (hL:xs.length≤1000000000) (h1:1≤k) (h7:k≤7) (hn:n≤1099511627776)
 (hk:∀ t w',t.len=xs.length+(hdE k n).length→t.cap=t.len→St F0 w0 w' (rdA 1 t (u8s (xs ++ hdE k n)) :: ps)→K (.returned (.tuple ⟨[.slice t.a t.len t.cap,.int .i64 0]⟩)) w') :
 Calls Tryz.prog 39 ⟨[.slice s.a s.len s.cap,.int .i64 (k:Int),.int .i64 (n:Int)]⟩ w K:=by
 have hle:=qgk k hn
 refine qfc (qvb.ok _ _ _ _ _ ?_)
 unfold qvb
 refine qnc (fun g=>by omega) fun _=>qnc (fun g=>by omega) fun _=>qnc (fun g=>by omega) fun _=>qnc (fun g=>by omega) fun _=>?_
 unfold qvb.j1
 refine ⟨by decide,que (qn (eand15 n) (que (qn (hd_first h7) ?_)))⟩
 refine qid.d h (by omega) fun s1 w h=>⟨s1,rfl,?_⟩
 unfold qvb.j2 qvb.j4
 refine ⟨by decide,qn (eshr4 n) ?_⟩
 refine loop3 (fun (a:Nat × Nat × List Int) (v c:Int) (o:Sl) w'=>v=a.1∧c=a.2.1∧a.2.1 < 128∧a.1≤n∧a.2.2 ++ hdF a.2.1 a.1=hdE k n∧St F0 w0 w' (qcc 1 o (u8s (xs ++ a.2.2)) :: ps)) (fun a=>a.1) (n / 16,k * 16+n % 16,[]) ⟨rfl,rfl,by simp only; omega,by simp only; omega,rfl,by simpa using h⟩ ?_
 clear h
 rintro ⟨v,c,p⟩ v' c' o w I μ ⟨rfl,rfl,hc,hv,hp,h⟩ hin
 simp only at hc hv hp h hin ⊢
 have hpl:p.length≤7:=by have:=congrArg List.length hp; rw [List.length_append] at this; omega
 unfold qvb.b1
 refine qnc (fun g=>?_) (fun g=>?_)
 · refine qn (eor128 hc) ?_
   refine h.pushI (by rw [List.length_append]; omega) fun o2 w h=>?_
   refine que (qn (eand127 v) ⟨by decide,qn (shr7 v) ?_⟩)
   refine ⟨trivial,hin (v / 128,v % 128,p ++ [((c+128:Nat):Int)]) _ _ _ _ ⟨rfl,rfl,by simp only; omega,by simp only; omega,?_,?_⟩ (by simp only; omega)⟩
   · rw [← hp,List.append_assoc,hdF_s c (s:=v) (by omega)]; rfl
   · rw [List.append_assoc] at h; exact h
 · have hv0:v=0:=by omega
   subst hv0
   rw [hdF_0] at hp
   unfold qvb.j3
   refine h.pushI (by rw [List.length_append]; omega) fun o2 w h=>?_
   rw [List.append_assoc,hp] at h
   refine qfd.d h fun s2 h1 h2 h=>⟨s2,rfl,?_⟩
   exact hk s2 w (by rw [h1,List.length_append]) h2 h
theorem qib.c {k n:Nat} (h:St F0 w0 w ps) [PkO s ps 1 (u8s xs) rest] (hL:xs.length≤1000000000) (h1:1≤k) (h7:k≤7) (hn:n≤1099511627776)
 (hk:∀ t w',St F0 w0 w' (qcc 1 t (u8s (xs ++ hdE k n)) :: rest)→K (.returned (.tuple ⟨[.slice t.a t.len t.cap,.int .i64 0]⟩)) w') :
 Calls Tryz.prog 40 ⟨[.slice s.a s.len s.cap,.int .i64 (k:Int),.int .i64 (n:Int)]⟩ w K:=by
 have hle:=qgk k hn
 refine qfc (qib.ok _ _ _ _ _ ?_)
 unfold qib
 refine qnc (fun g=>by omega) fun _=>qnc (fun g=>by omega) fun _=>qnc (fun g=>by omega) fun _=>qnc (fun g=>by omega) fun _=>?_
 unfold qib.j1
 refine ⟨by decide,que (qn (eand15 n) (que (qn (hd_first h7) ?_)))⟩
 refine ⟨by decide,qn (eshr4 n) ?_⟩
 unfold qib.j2
 have h:=h.toO s
 refine loop3 (fun (a:Nat × Nat × List Int) (o:Sl) (v c:Int) w'=>v=a.1∧c=a.2.1∧a.2.1 < 128∧a.1≤n∧a.2.2 ++ hdF a.2.1 a.1=hdE k n∧St F0 w0 w' (qcc 1 o (u8s (xs ++ a.2.2)) :: rest)) (fun a=>a.1) (n / 16,k * 16+n % 16,[]) ⟨rfl,rfl,by simp only; omega,by simp only; omega,rfl,by simpa using h⟩ ?_
 clear h
 rintro ⟨v,c,p⟩ o v' c' w I μ ⟨rfl,rfl,hc,hv,hp,h⟩ hin
 simp only at hc hv hp h hin ⊢
 have hpl:p.length≤7:=by have:=congrArg List.length hp; rw [List.length_append] at this; omega
 unfold qib.b1
 refine qnc (fun g=>?_) (fun g=>?_)
 · refine qn (eor128 hc) ?_
   refine h.pushI (by rw [List.length_append]; omega) fun o2 w h=>?_
   refine que (qn (eand127 v) ⟨by decide,qn (shr7 v) ?_⟩)
   refine ⟨trivial,hin (v / 128,v % 128,p ++ [((c+128:Nat):Int)]) _ _ _ _ ⟨rfl,rfl,by simp only; omega,by simp only; omega,?_,?_⟩ (by simp only; omega)⟩
   · rw [← hp,List.append_assoc,hdF_s c (s:=v) (by omega)]; rfl
   · rw [List.append_assoc] at h; exact h
 · have hv0:v=0:=by omega
   subst hv0
   rw [hdF_0] at hp
   unfold qib.j3
   refine h.pushI (by rw [List.length_append]; omega) fun o2 w h=>?_
   rw [List.append_assoc,hp] at h
   exact hk o2 w h
end
theorem eshr4b {c:Nat}:IntKind.i64.wrap (qli .u8 (qbj .u8 (c:Int) 4) 7)=((c / 16 % 8:Nat):Int):=by
 have h1:=qti .u8 (c:Int) (t:=4) (by decide)
 rw [show (2:Int) ^ 4=16 by decide,show ((4:Nat):Int)=4 from rfl] at h1
 have h2:=qtj .u8 ((c:Int) / 16) (t:=3) (by decide)
 rw [show (2:Int) ^ 3 - 1=7 by decide,show (2:Int) ^ 3=8 by decide] at h2
 rw [h1,h2,qd (by omega) (by omega)]; omega
theorem eand15b {c:Nat}:IntKind.i64.wrap (qli .u8 (c:Int) 15)=((c % 16:Nat):Int):=by
 have h2:=qtj .u8 (c:Int) (t:=4) (by decide)
 rw [show (2:Int) ^ 4 - 1=15 by decide,show (2:Int) ^ 4=16 by decide] at h2
 rw [h2,qd (by omega) (by omega)]; omega
theorem eand127b {c:Nat}:IntKind.i64.wrap (qli .u8 (c:Int) 127)=((c % 128:Nat):Int):=by
 rw [and127 (by decide),qd (by omega) (by omega)]; omega
theorem hd_or {a b t P:Nat} (hP:P=2 ^ t) (ha:a < P) (ht:t≤60) (hs:a+b * P < 9223372036854775808):orV .i64 (a:Int) (qqi .i64 (b:Int) (t:Int))=((a+b * P:Nat):Int):=by
 subst hP
 have e:(2:Int) ^ t=((2 ^ t:Nat):Int):=by simp
 have h1:=qfi .i64 (x:=(b:Int)) (t:=t) (by show t≤64; omega) (by omega) (by rw [e,show (2:Int) ^ (IntKind.bits .i64 - 1)=9223372036854775808 by decide]; have:0≤a:=by omega
                                                                            omega)
 have h2:=qgp .i64 (a:=a) (b:=b) (t:=t) ha (by rw [show 2 ^ (IntKind.bits .i64 - 1)=9223372036854775808 by decide]; exact hs)
 rw [h1,h2,e]
 omega
def HdAt (k n:Nat) (tl:List Int) (i size:Nat) (r:List Int):Prop:=i≤6∧∃ s,s ≠ 0∧r=hdF (s % 128) (s / 128) ++ tl∧size < 2 ^ (4+7 * (i - 1))∧size+s * 2 ^ (4+7 * (i - 1))=n
theorem hd_step {k n i size:Nat} {tl r:List Int} (hn:n≤1099511627776) (hi:1≤i) (h:HdAt k n tl i size r) :
 ∃ (c:Nat) (r':List Int),r=(c:Int) :: r'∧c < 256∧orV .i64 (size:Int) (qqi .i64 ((c % 128:Nat):Int) ((4+7 * (i - 1):Nat):Int))=((size+c % 128 * 2 ^ (4+7 * (i - 1)):Nat):Int) ∧
  ((c < 128∧r'=tl∧size+c % 128 * 2 ^ (4+7 * (i - 1))=n) ∨ (128≤c∧HdAt k n tl (i+1) (size+c % 128 * 2 ^ (4+7 * (i - 1))) r')):=by
 obtain ⟨hi6,s,hs,hr,h1,h2⟩:=h
 have hP:∃ P,P=2 ^ (4+7 * (i - 1))∧16≤P∧(128 * P)=2 ^ (4+7 * (i+1 - 1))∧(i=6→P=549755813888):=by
  refine ⟨_,rfl,?_,?_,?_⟩
  · have:2 ^ 4≤2 ^ (4+7 * (i - 1)):=Nat.pow_le_pow_right (by decide) (by omega)
    simpa using this
  · rw [show 4+7 * (i+1 - 1)=(4+7 * (i - 1))+7 by omega,Nat.pow_add _ (4+7 * (i - 1)) 7]; omega
  · intro e; subst e; decide
 obtain ⟨P,e,hP16,hP7,hP6⟩:=hP
 rw [← e] at h1 h2
 rw [← e]
 have hm:s * P=s % 128 * P+s / 128 * (128 * P):=by
  have:s=s % 128+128 * (s / 128):=by omega
  conv=>lhs; rw [this,Nat.add_mul]
  rw [Nat.mul_comm 128 (s / 128),Nat.mul_assoc]
 have hcP:s % 128 * P≤127 * P:=Nat.mul_le_mul_right _ (by omega)
 by_cases h0:s / 128=0
 · refine ⟨s % 128,tl,by rw [hr,h0,hdF_0]; rfl,by omega,?_,Or.inl ⟨by omega,rfl,?_⟩⟩
   · rw [Nat.mod_mod]
     refine hd_or e h1 (by omega) ?_
     have:s / 128 * (128 * P)=0:=by rw [h0]; simp
     omega
   · rw [Nat.mod_mod]
     have:s / 128 * (128 * P)=0:=by rw [h0]; simp
     omega
 · have hge:1 * (128 * P)≤s / 128 * (128 * P):=Nat.mul_le_mul_right _ (by omega)
   have hi5:i≤5:=by
    rcases Nat.lt_or_ge 5 i with g | g
    · have:=hP6 (by omega); omega
    · exact g
   have e1:(s % 128+128) % 128=s % 128:=by omega
   refine ⟨s % 128+128,hdF (s / 128 % 128) (s / 128 / 128) ++ tl,by rw [hr,hdF_s _ h0]; rfl,by omega,?_,Or.inr ⟨by omega,by omega,s / 128,h0,rfl,?_,?_⟩⟩
   · rw [e1]
     refine hd_or e h1 (by omega) (by omega)
   · rw [e1,← hP7]; omega
   · rw [e1,← hP7]; omega
theorem hd_zero {k n:Nat} (hk:k≤7) (hn:n≤1099511627776) (tl:List Int):∃ (c:Nat) (r':List Int),hdE k n ++ tl=(c:Int) :: r'∧c < 256∧c / 16 % 8=k∧c % 16=n % 16∧((c < 128∧r'=tl∧n % 16=n) ∨ (128≤c∧HdAt k n tl 1 (n % 16) r')):=by
 by_cases h0:n / 16=0
 · exact ⟨k * 16+n % 16,tl,by rw [hdE,h0,hdF_0]; rfl,by omega,by omega,by omega,Or.inl ⟨by omega,rfl,by omega⟩⟩
 · refine ⟨k * 16+n % 16+128,hdF (n / 16 % 128) (n / 16 / 128) ++ tl,by rw [hdE,hdF_s _ h0]; rfl,by omega,by omega,by omega,Or.inr ⟨by omega,by omega,n / 16,h0,rfl,?_,?_⟩⟩
   · show n % 16 < 16; omega
   · show n % 16+n / 16 * 16=n; omega
theorem qhj {xs r:List Int} {i:Nat} {c:Int} (h:xs.drop i=c :: r):i < xs.length∧xs.getD i 0=c∧xs.drop (i+1)=r:=by
 have hi:i < xs.length:=by
  rcases Nat.lt_or_ge i xs.length with g | g
  · exact g
  · rw [List.drop_eq_nil_of_le g] at h; cases h
 rw [qes hi] at h
 injection h with h1 h2
 exact ⟨hi,h1,h2⟩
theorem qgq {xs tl:List Int} {i:Nat} (h:xs.drop (i+1)=tl) (hi:i < xs.length):i+1=xs.length - tl.length:=by
 have:=congrArg List.length h
 rw [List.length_drop] at this
 omega
section
variable {F0:List Nat} {w0 w:World} {ps rest:List As} {s:Sl} {tl:List Int} {K:Ending→World→Prop}
theorem qzb.c {k n:Nat} (h:St F0 w0 w ps) [Rdb F0 w0 s ps 1 (u8s (hdE k n ++ tl))] (hk7:k≤7) (hn:n≤1099511627776) (hL:tl.length≤1000000000)
 (hk:∀ w',St F0 w0 w' ps→K (.returned (.tuple ⟨[.int .i64 (k:Int),.int .i64 (n:Int),.int .i64 ((hdE k n).length:Int),.int .i64 0]⟩)) w'):Calls Tryz.prog 41 ⟨[.slice s.a s.len s.cap]⟩ w K:=by
 have hl:=(h.rdb s).1
 rw [ql,Nat.mul_one] at hl
 have hle:=qgk k hn
 obtain ⟨c0,r0,e0,hc0,hk0,hm0,hor⟩:=hd_zero hk7 hn tl
 have hxl:(hdE k n ++ tl).length - tl.length=(hdE k n).length:=by rw [List.length_append]; omega
 generalize hX:hdE k n ++ tl=X at *
 refine qfc (qzb.ok _ _ _ ?_)
 unfold qzb qzb.j1 qzb.j3
 refine loop3 (fun (i:Nat) (kd sz:Int) (i':Int) w'=>i'=i∧(i=0 ∨ 1≤i∧kd=(k:Int)∧∃ size:Nat,sz=(size:Int)∧HdAt k n tl i size (X.drop i))∧St F0 w0 w' ps) (fun i=>10 - i) 0 ⟨rfl,Or.inl rfl,h⟩ ?_
 clear h
 rintro i kd sz i' w I μ ⟨rfl,hcase,h⟩ hin
 unfold qzb.b1
 have hget:∃ (c:Nat),i < X.length∧X.getD i 0=(c:Int)∧c < 256∧i≤6:=by
  rcases hcase with rfl | ⟨h1,rfl,size,rfl,hat⟩
  · have:=qhj (xs:=X) (i:=0) (by rw [List.drop_zero]; exact e0)
    exact ⟨c0,this.1,this.2.1,hc0,by omega⟩
  · obtain ⟨c,r',e,hc,_⟩:=hd_step hn h1 hat
    have:=qhj e
    exact ⟨c,this.1,this.2.1,hc,hat.1⟩
 obtain ⟨c,hi,hgc,hc,hi6⟩:=hget
 refine qnc (fun g=>?_) (fun g=>by omega)
 unfold qzb.j4
 refine h.lx (s:=s) i rfl hi ?_
 rw [hgc]
 unfold qzb.j6
 refine qne (fun g=>by simp at g; omega) (fun g8=>?_)
 refine qne (fun g=>?_) (fun g=>?_)
 · have i0:i=0:=by simpa using g
   subst i0
   have hd0:=qhj (xs:=X) (i:=0) (by rw [List.drop_zero]; exact e0)
   have hcc:c=c0:=by have:=hd0.2.1; omega
   subst hcc
   refine ⟨by decide,que (que (qn eshr4b (que (qn eand15b ?_))))⟩
   rw [hk0,hm0]
   unfold qzb.j7
   rcases hor with ⟨g1,g2,g3⟩ | ⟨g1,g2⟩
   · refine qnc (fun _=>?_) (fun g=>by omega)
     refine qn (qd (by omega) (by omega)) ?_
     have:=qgq (i:=0) (by rw [hd0.2.2,g2]) hi
     rw [hxl] at this
     rw [g3,show ((0:Nat):Int)+1=((hdE k n).length:Int) by omega]
     exact hk w h
   · refine qnc (fun g=>by omega) (fun _=>?_)
     unfold qzb.j5
     refine qn (qd (by omega) (by omega)) ?_
     refine ⟨⟨rfl,rfl,rfl⟩,hin 1 _ _ _ _ ⟨rfl,Or.inr ⟨Nat.le_refl _,rfl,_,rfl,?_⟩,h⟩ (by omega)⟩
     rw [hd0.2.2]; exact g2
 · have i1:1≤i:=by rcases Nat.eq_zero_or_pos i with e | e
                   · subst e; simp at g
                   · exact e
   rcases hcase with rfl | ⟨_,rfl,size,rfl,hat⟩
   · omega
   obtain ⟨c2,r',e,_,hor2,hst⟩:=hd_step hn i1 hat
   have hd1:=qhj e
   have hcc:c=c2:=by have:=hd1.2.1; omega
   subst hcc
   refine que (qn eand127b ?_)
   refine qn (show IntKind.i64.wrap ((i:Int) - 1)=((i - 1:Nat):Int) by rw [qd (by omega) (by omega)]; omega) ?_
   refine qn (show IntKind.i64.wrap (7 * ((i - 1:Nat):Int))=((7 * (i - 1):Nat):Int) by rw [qd (by omega) (by omega)]; omega) ?_
   refine qn (show IntKind.i64.wrap (4+((7 * (i - 1):Nat):Int))=((4+7 * (i - 1):Nat):Int) by rw [qd (by omega) (by omega)]; omega) ⟨by omega,que (qn hor2 ?_)⟩
   unfold qzb.j7
   rcases hst with ⟨g1,g2,g3⟩ | ⟨g1,g2⟩
   · refine qnc (fun _=>?_) (fun g=>by omega)
     refine qn (qd (by omega) (by omega)) ?_
     have:=qgq (i:=i) (by rw [hd1.2.2,g2]) hi
     rw [hxl] at this
     rw [g3,show (i:Int)+1=((i+1:Nat):Int) by omega,this]
     exact hk w h
   · refine qnc (fun g=>by omega) (fun _=>?_)
     unfold qzb.j5
     refine qn (qd (by omega) (by omega)) ?_
     refine ⟨⟨rfl,rfl,rfl⟩,hin (i+1) _ _ _ _ ⟨by omega,Or.inr ⟨by omega,rfl,_,rfl,?_⟩,h⟩ (by omega)⟩
     rw [hd1.2.2]; exact g2
theorem qz.c {k n:Nat} (h:St F0 w0 w ps) [Rdb F0 w0 s ps 1 (u8s (hdE k n ++ tl))] (hk7:k≤7) (hn:n≤1099511627776) (hL:tl.length≤1000000000)
 (hk:∀ w',St F0 w0 w' ps→K (.returned (.tuple ⟨[.int .i64 (k:Int),.int .i64 (n:Int),.int .i64 ((hdE k n).length:Int),.int .i64 0]⟩)) w'):Calls Tryz.prog 118 ⟨[.slice s.a s.len s.cap]⟩ w K:=by
 have hl:=(h.rdb s).1
 rw [ql,Nat.mul_one] at hl
 have hle:=qgk k hn
 obtain ⟨c0,r0,e0,hc0,hk0,hm0,hor⟩:=hd_zero hk7 hn tl
 have hxl:(hdE k n ++ tl).length - tl.length=(hdE k n).length:=by rw [List.length_append]; omega
 generalize hX:hdE k n ++ tl=X at *
 refine qfc (qz.ok _ _ _ ?_)
 unfold qz qz.j1 qz.j2 qz.j4
 refine loop3 (fun (i:Nat) (kd sz:Int) (i':Int) w'=>i'=i∧(i=0 ∨ 1≤i∧kd=(k:Int)∧∃ size:Nat,sz=(size:Int)∧HdAt k n tl i size (X.drop i))∧St F0 w0 w' ps) (fun i=>10 - i) 0 ⟨rfl,Or.inl rfl,h⟩ ?_
 clear h
 rintro i kd sz i' w I μ ⟨rfl,hcase,h⟩ hin
 unfold qz.b1
 have hget:∃ (c:Nat),i < X.length∧X.getD i 0=(c:Int)∧c < 256∧i≤6:=by
  rcases hcase with rfl | ⟨h1,rfl,size,rfl,hat⟩
  · have:=qhj (xs:=X) (i:=0) (by rw [List.drop_zero]; exact e0)
    exact ⟨c0,this.1,this.2.1,hc0,by omega⟩
  · obtain ⟨c,r',e,hc,_⟩:=hd_step hn h1 hat
    have:=qhj e
    exact ⟨c,this.1,this.2.1,hc,hat.1⟩
 obtain ⟨c,hi,hgc,hc,hi6⟩:=hget
 refine qnc (fun g=>?_) (fun g=>by omega)
 unfold qz.j5
 refine qne (fun g=>by simp at g; omega) (fun g8=>?_)
 refine qne (fun g=>?_) (fun g=>?_)
 · have i0:i=0:=by simpa using g
   subst i0
   have hd0:=qhj (xs:=X) (i:=0) (by rw [List.drop_zero]; exact e0)
   have hcc:c=c0:=by have:=hd0.2.1; omega
   subst hcc
   refine h.lx (s:=s) 0 rfl hi ?_
   rw [hgc]
   refine ⟨by decide,que (que (qn eshr4b ?_))⟩
   refine h.lx (s:=s) 0 rfl hi ?_
   rw [hgc]
   refine que (qn eand15b ?_)
   rw [hk0,hm0]
   unfold qz.j7
   refine h.lx (s:=s) 0 rfl hi ?_
   rw [hgc]
   rcases hor with ⟨g1,g2,g3⟩ | ⟨g1,g2⟩
   · refine qnc (fun _=>?_) (fun g=>by omega)
     refine qn (qd (by omega) (by omega)) ?_
     have:=qgq (i:=0) (by rw [hd0.2.2,g2]) hi
     rw [hxl] at this
     rw [g3,show ((0:Nat):Int)+1=((hdE k n).length:Int) by omega]
     exact hk w h
   · refine qnc (fun g=>by omega) (fun _=>?_)
     unfold qz.j6
     refine qn (qd (by omega) (by omega)) ?_
     refine ⟨rfl,hin 1 _ _ _ _ ⟨rfl,Or.inr ⟨Nat.le_refl _,rfl,_,rfl,?_⟩,h⟩ (by omega)⟩
     rw [hd0.2.2]; exact g2
 · have i1:1≤i:=by rcases Nat.eq_zero_or_pos i with e | e
                   · subst e; simp at g
                   · exact e
   rcases hcase with rfl | ⟨_,rfl,size,rfl,hat⟩
   · omega
   obtain ⟨c2,r',e,_,hor2,hst⟩:=hd_step hn i1 hat
   have hd1:=qhj e
   have hcc:c=c2:=by have:=hd1.2.1; omega
   subst hcc
   refine h.lx (s:=s) i rfl hi ?_
   rw [hgc]
   refine que (qn eand127b ?_)
   refine qn (show IntKind.i64.wrap ((i:Int) - 1)=((i - 1:Nat):Int) by rw [qd (by omega) (by omega)]; omega) ?_
   refine qn (show IntKind.u64.wrap ((i - 1:Nat):Int)=((i - 1:Nat):Int) by rw [qll]; omega) ?_
   refine qn (show IntKind.u64.wrap (7 * ((i - 1:Nat):Int))=((7 * (i - 1):Nat):Int) by rw [qll]; omega) ?_
   refine qn (show IntKind.u64.wrap (4+((7 * (i - 1):Nat):Int))=((4+7 * (i - 1):Nat):Int) by rw [qll]; omega) ⟨by omega,que (qn hor2 ?_)⟩
   unfold qz.j7
   refine h.lx (s:=s) i rfl hi ?_
   rw [hgc]
   rcases hst with ⟨g1,g2,g3⟩ | ⟨g1,g2⟩
   · refine qnc (fun _=>?_) (fun g=>by omega)
     refine qn (qd (by omega) (by omega)) ?_
     have:=qgq (i:=i) (by rw [hd1.2.2,g2]) hi
     rw [hxl] at this
     rw [g3,show (i:Int)+1=((i+1:Nat):Int) by omega,this]
     exact hk w h
   · refine qnc (fun g=>by omega) (fun _=>?_)
     unfold qz.j6
     refine qn (qd (by omega) (by omega)) ?_
     refine ⟨rfl,hin (i+1) _ _ _ _ ⟨by omega,Or.inr ⟨by omega,rfl,_,rfl,?_⟩,h⟩ (by omega)⟩
     rw [hd1.2.2]; exact g2
end
end Go.Proofs.YtejnemneenjliaaGreat
namespace Go.Proofs.YtejnemneenjliaaGreat
open Go Go.Proofs
set_option linter.unusedVariables false
set_option maxRecDepth 100000
def qxb.j3 (b_0 out_3:Sl) (n_4:Int) (last_5:Int) (Q:VWP) (nx1:Sl→Sl→WP) (w:World):Prop :=
 lt (IntKind.u8.wrap n_4) fun x1 =>
 (0:Int)≤8 ∧
 lt (qbj .i64 n_4 8) fun x2 =>
 lt (IntKind.u8.wrap x2) fun x3 =>
 lt (IntKind.u8.wrap n_4) fun x4 =>
 lt (qyl .u8 x4 255) fun x5 =>
 (0:Int)≤8 ∧
 lt (qbj .i64 n_4 8) fun x6 =>
 lt (IntKind.u8.wrap x6) fun x7 =>
 lt (qyl .u8 x7 255) fun x8 =>
 nw w ⟨[.int .u8 last_5,.int .u8 x1,.int .u8 x3,.int .u8 x5,.int .u8 x8]⟩ 5 fun a9 w10 =>
 rdO w10 (some a9) (5 * 1) fun c11 =>
 apK Tryz.prog 5 w10 out_3.a out_3.len out_3.cap 5 c11 fun s12 w13 =>
 bd n_4 b_0.cap fun n14 =>
 lt (⟨qgf b_0.a b_0.cap 0 1,n14 - 0,b_0.cap - 0⟩:Sl) fun s15 =>
 rdO w13 s15.a (s15.len * 1) fun c16 =>
 apK Tryz.prog 5 w13 s12.a s12.len s12.cap s15.len c16 fun s17 w18 =>
 bd n_4 b_0.len fun n19 =>
 lt (⟨qgf b_0.a b_0.cap n19 1,b_0.len - n19,b_0.cap - n19⟩:Sl) fun s20 =>
 br (last_5 == 1) (
 Q (sV s17) w18) (
 nx1 s20 s17 w18)
def qxb.j2 (b_0 out_3:Sl) (n_4:Int) (Q:VWP) (nx1:Sl→Sl→WP) (w:World):Prop :=
 br (decide (n_4 > 65535)) (
 qxb.j3 b_0 out_3 65535 0 Q nx1 w) (
 qxb.j3 b_0 out_3 n_4 1 Q nx1 w)
def qxb.b1 (b_0 out_3:Sl) (Q:VWP) (nx1:Sl→Sl→WP) (w:World):Prop :=
 qxb.j2 b_0 out_3 (b_0.len:Int) Q nx1 w
def qxb.l1 (b_0 out_3:Sl) (Q:VWP) (w:World):Prop :=
 ∃ (I:Sl→Sl→WP) (μ:Sl→Sl→World→Nat),I b_0 out_3 w∧∀ b_0:Sl,∀ out_3:Sl,∀ w:World,I b_0 out_3 w→qxb.b1 b_0 out_3 Q (fun b_0' out_3' w'=>(True)∧I b_0' out_3' w'∧μ b_0' out_3' w' < μ b_0 out_3 w) w
def qxb.j1 (b_0 out_3:Sl) (Q:VWP) (w:World):Prop :=
 qxb.l1 b_0 out_3 Q w
def qxb (b_0:Sl) (Q:VWP) (w:World):Prop :=
 qxb.j1 b_0 ⟨none,0,0⟩ Q w
theorem qxb.ok (b_0:Sl) (Q:VWP) (w:World) (h:qxb b_0 Q w):Calls Tryz.prog 176 ⟨[sV b_0]⟩ w (Ret Q) :=
 qqc [.tmp 2] qbe Tryz.func176 rfl rfl rfl rfl (.pr 1 [sL 0,sL 3] (fun a b w=>qxb.j1 a b Q w) (.bk (.lo [] [sL 0,sL 3] (fun a b w=>qxb.l1 a b Q w) (fun nx1 a b w=>qxb.b1 a b Q nx1 w) fun nx1=>(.bk (.sq [sL 0,sL 3,sI 4] (fun a b c w=>qxb.j2 a b c Q nx1 w) .lf (.pr 1 [sL 0,sL 3,sI 4,(5,.I .u8)] (fun a b c d w=>qxb.j3 a b c d Q nx1 w) .lf)))))) (by kernel_rfl) h
def qjg (b_0:Sl) (Q:VWP) (w:World):Prop :=
 nw w ⟨[.int .u8 120,.int .u8 1]⟩ 5 fun a1 w2 =>
 qij 176 [sV b_0] w2 fun r5 w4 =>
 rdO w4 r5.a (r5.len * 1) fun c6 =>
 apK Tryz.prog 5 w4 (some a1) 2 2 r5.len c6 fun s7 w8 =>
 qum 177 [sV b_0] w8 fun r11 w10 =>
 (0:Int)≤24 ∧
 lt (qbj .u32 r11 24) fun x12 =>
 lt (IntKind.u8.wrap x12) fun x13 =>
 (0:Int)≤16 ∧
 lt (qbj .u32 r11 16) fun x14 =>
 lt (IntKind.u8.wrap x14) fun x15 =>
 (0:Int)≤8 ∧
 lt (qbj .u32 r11 8) fun x16 =>
 lt (IntKind.u8.wrap x16) fun x17 =>
 lt (IntKind.u8.wrap r11) fun x18 =>
 nw w10 ⟨[.int .u8 x13,.int .u8 x15,.int .u8 x17,.int .u8 x18]⟩ 5 fun a19 w20 =>
 rdO w20 (some a19) (4 * 1) fun c21 =>
 apK Tryz.prog 5 w20 s7.a s7.len s7.cap 4 c21 fun s22 w23 =>
 Q (sV s22) w23
theorem qjg.ok (b_0:Sl) (Q:VWP) (w:World) (h:qjg b_0 Q w):Calls Tryz.prog 116 ⟨[sV b_0]⟩ w (Ret Q) :=
 qqc [.tmp 2] qbe Tryz.func116 rfl rfl rfl rfl .lf (by kernel_rfl) h
def qdg (d_0:Sl) (i_1:Int) (Q:VWP) (w:World):Prop :=
 br (decide ((d_0.len:Int) < 2)) (
 Q (.tuple ⟨[.slice none 0 0,.int .i64 0,.int .i64 3]⟩) w) (
 lt (World.drew w) fun w1 =>
 ixS d_0.a d_0.len 0 1 fun a2 =>
 ldI .u8 w1 a2 fun x3 =>
 lt (qli .u8 x3 15) fun x4 =>
 br (x4 != 8) (
 Q (.tuple ⟨[.slice none 0 0,.int .i64 0,.int .i64 2]⟩) w1) (
 ixS d_0.a d_0.len 0 1 fun a5 =>
 ldI .u8 w1 a5 fun x6 =>
 (0:Int)≤4 ∧
 lt (qbj .u8 x6 4) fun x7 =>
 br (decide (x7 > 7)) (
 Q (.tuple ⟨[.slice none 0 0,.int .i64 0,.int .i64 2]⟩) w1) (
 ixS d_0.a d_0.len 0 1 fun a8 =>
 ldI .u8 w1 a8 fun x9 =>
 lt (IntKind.i64.wrap x9) fun x10 =>
 (0:Int)≤8 ∧
 lt (qqi .i64 x10 8) fun x11 =>
 ixS d_0.a d_0.len 1 1 fun a12 =>
 ldI .u8 w1 a12 fun x13 =>
 lt (IntKind.i64.wrap x13) fun x14 =>
 lt (orV .i64 x11 x14) fun x15 =>
 (31:Int) ≠ 0 ∧
 lt (Int.tmod x15 31) fun x16 =>
 br (x16 != 0) (
 Q (.tuple ⟨[.slice none 0 0,.int .i64 0,.int .i64 2]⟩) w1) (
 ixS d_0.a d_0.len 1 1 fun a17 =>
 ldI .u8 w1 a17 fun x18 =>
 lt (qli .u8 x18 32) fun x19 =>
 br (x19 != 0) (
 Q (.tuple ⟨[.slice none 0 0,.int .i64 0,.int .i64 2]⟩) w1) (
 bd 2 d_0.len fun n20 =>
 lt (⟨qgf d_0.a d_0.cap n20 1,d_0.len - n20,d_0.cap - n20⟩:Sl) fun s21 =>
 ct_LII 181 [sV s21,.int .i64 i_1] w1 fun r24 r25 r26 w23 =>
 br (r26 != 0) (
 Q (.tuple ⟨[.slice none 0 0,.int .i64 0,.int .i64 r26]⟩) w23) (
 lt (IntKind.i64.wrap (r25+2)) fun x27 =>
 lt (IntKind.i64.wrap ((d_0.len:Int) - x27)) fun x28 =>
 br (decide (x28 < 4)) (
 Q (.tuple ⟨[.slice none 0 0,.int .i64 0,.int .i64 3]⟩) w23) (
 lt (World.drew w23) fun w29 =>
 ixS d_0.a d_0.len x27 1 fun a30 =>
 ldI .u8 w29 a30 fun x31 =>
 lt (IntKind.u32.wrap x31) fun x32 =>
 (0:Int)≤24 ∧
 lt (qqi .u32 x32 24) fun x33 =>
 lt (IntKind.i64.wrap (x27+1)) fun x34 =>
 ixS d_0.a d_0.len x34 1 fun a35 =>
 ldI .u8 w29 a35 fun x36 =>
 lt (IntKind.u32.wrap x36) fun x37 =>
 (0:Int)≤16 ∧
 lt (qqi .u32 x37 16) fun x38 =>
 lt (orV .u32 x33 x38) fun x39 =>
 lt (IntKind.i64.wrap (x27+2)) fun x40 =>
 ixS d_0.a d_0.len x40 1 fun a41 =>
 ldI .u8 w29 a41 fun x42 =>
 lt (IntKind.u32.wrap x42) fun x43 =>
 (0:Int)≤8 ∧
 lt (qqi .u32 x43 8) fun x44 =>
 lt (orV .u32 x39 x44) fun x45 =>
 lt (IntKind.i64.wrap (x27+3)) fun x46 =>
 ixS d_0.a d_0.len x46 1 fun a47 =>
 ldI .u8 w29 a47 fun x48 =>
 lt (IntKind.u32.wrap x48) fun x49 =>
 lt (orV .u32 x45 x49) fun x50 =>
 qum 177 [sV r24] w29 fun r53 w52 =>
 br (x50 != r53) (
 Q (.tuple ⟨[.slice none 0 0,.int .i64 0,.int .i64 4]⟩) w52) (
 lt (IntKind.i64.wrap (x27+4)) fun x54 =>
 Q (.tuple ⟨[sV r24,.int .i64 x54,.int .i64 0]⟩) w52))))))))
theorem qdg.ok (d_0:Sl) (i_1:Int) (Q:VWP) (w:World) (h:qdg d_0 i_1 Q w):Calls Tryz.prog 120 ⟨[sV d_0,.int .i64 i_1]⟩ w (Ret Q) :=
 qqc [.tmp 4,.tmp 5,.tmp 6] qbe Tryz.func120 rfl rfl rfl rfl .lf (by kernel_rfl) h
end Go.Proofs.YtejnemneenjliaaGreat
namespace Go.Proofs.YtejnemneenjliaaGreat
set_option linter.unusedVariables false
set_option linter.unusedSimpArgs false
def hc (l:List Int) (n:Nat):Nat:=if n=0 then 0 else l.count (n:Int)
def hf (l:List Int):Nat→Nat
 | 0=>0
 | n+1=>2 * (hf l n+hc l n)
def kr (l:List Int):Nat:=(l.map fun x=>if 0 < x then 2 ^ (15 - x.toNat) else 0).sum
def okL (l:List Int):Prop:=∀ x ∈ l,0≤x∧x≤15
def krN (l:List Int):Nat→Nat
 | 0=>0
 | n+1=>krN l n+hc l (n+1) * 2 ^ (15 - (n+1))
theorem qqm (l:List Int) (x:Int) (n:Nat):hc (l ++ [x]) n=hc l n+if 0 < n∧x=n then 1 else 0:=by
 unfold hc
 by_cases h:n=0
 · simp [h]
 · rw [if_neg h,if_neg h,List.count_append,List.count_singleton]
   by_cases h2:x=n
   · simp [h2]; omega
   · simp [h2]
theorem kr_snoc (l:List Int) (x:Int):kr (l ++ [x])=kr l+if 0 < x then 2 ^ (15 - x.toNat) else 0:=by simp [kr]
theorem krN_snoc (l:List Int) (x:Int) (n:Nat) (h0:0≤x):krN (l ++ [x]) n=krN l n+if 0 < x∧x≤n then 2 ^ (15 - x.toNat) else 0:=by
 induction n with
 | zero=>rw [krN,krN,if_neg (by omega)]
 | succ n ih =>
   rw [krN,krN,ih,qqm,Nat.add_mul]
   by_cases h:x=((n+1:Nat):Int)
   · rw [if_neg (by omega),if_pos ⟨by omega,h⟩,if_pos (by omega),show x.toNat=n+1 by omega]; omega
   · rw [if_neg (show ¬ (0 < n+1∧x=((n+1:Nat):Int)) from fun e=>h e.2)]
     by_cases h2:0 < x∧x≤(n:Int)
     · rw [if_pos h2,if_pos (by omega)]; omega
     · rw [if_neg h2,if_neg (by omega)]; omega
theorem qnl {P:List Int→Prop} (h0:P []) (h1:∀ l x,P l→P (l ++ [x])) (l:List Int):P l:=by
 have key:∀ l:List Int,P l.reverse:=by
  intro l
  induction l with
  | nil=>exact h0
  | cons x l ih=>rw [List.reverse_cons]; exact h1 _ _ ih
 have:=key l.reverse
 rwa [List.reverse_reverse] at this
theorem kr_eq (l:List Int) (h:okL l):kr l=krN l 15:=by
 induction l using qnl with
 | h0=>simp [kr,krN,hc]
 | h1 l x ih =>
   have hx:=h x (by simp)
   rw [kr_snoc,krN_snoc _ _ _ hx.1,ih (fun y hy=>h y (by simp [hy]))]
   congr 1
   by_cases h2:0 < x
   · rw [if_pos h2,if_pos ⟨h2,by omega⟩]
   · rw [if_neg h2,if_neg (by omega)]
theorem krN_mono (l:List Int):∀ (m n:Nat),n≤m→krN l n≤krN l m:=by
 intro m
 induction m with
 | zero=>intro n h; rw [show n=0 by omega]; omega
 | succ m ih =>
   intro n h
   rcases Nat.lt_or_ge m n with h1 | h1
   · rw [show n=m+1 by omega]; omega
   · have:=ih n h1; rw [krN]; omega
theorem hf_kr (l:List Int):∀ n,n≤15→(hf l n+hc l n) * 2 ^ (15 - n)=krN l n:=by
 intro n
 induction n with
 | zero=>intro _; simp [hf,hc,krN]
 | succ n ih =>
   intro h
   rw [krN,← ih (by omega),hf,Nat.add_mul,show 15 - n=(15 - (n+1))+1 by omega,Nat.pow_succ]
   congr 1
   rw [Nat.mul_comm 2,Nat.mul_assoc,Nat.mul_comm 2]
theorem hf_le (l:List Int) (h:okL l) (hk:kr l≤2 ^ 15) {n:Nat} (hn:n≤15):hf l n+hc l n≤2 ^ n:=by
 have h1:=hf_kr l n hn
 have h2:=krN_mono l 15 n hn
 rw [kr_eq l h] at hk
 have h3:(hf l n+hc l n) * 2 ^ (15 - n)≤2 ^ n * 2 ^ (15 - n):=by
  rw [h1,← Nat.pow_add,show n+(15 - n)=15 by omega]; omega
 exact Nat.le_of_mul_le_mul_right h3 (Nat.pow_pos (by decide))
theorem hf_step (l:List Int) (n:Nat):∀ d,(hf l n+hc l n) * 2 ^ (d+1)≤hf l (n+d+1):=by
 intro d
 induction d with
 | zero=>rw [hf]; omega
 | succ d ih =>
   rw [show n+(d+1)+1=(n+d+1)+1 by omega,hf,Nat.pow_succ,← Nat.mul_assoc]
   omega
def qbg (l:List Int) (i:Nat):Nat:=if 0 < l.getD i 0 then hf l (l.getD i 0).toNat+(l.take i).count (l.getD i 0) else 0
def hcodes (l:List Int):List Int:=(List.range l.length).map fun i=>(qbg l i:Int)
def qgl (l:List Int) (n:Nat):List Nat:=(List.range l.length).filter fun i=>l.getD i 0 == (n:Int)
def qre (l:List Int):Nat→List Nat
 | 0=>[]
 | n+1=>qre l n ++ qgl l (n+1)
theorem qpo (l:List Int) (x:Int):(l ++ [x]).getD l.length 0=x:=by simp [List.getD]
theorem qxj {l m:List Int} {i:Nat} (h:i < l.length):(l ++ m).getD i 0=l.getD i 0:=by simp [List.getD,List.getElem?_append_left h]
theorem qpm (l:List Int) (x:Int) (n:Nat):qgl (l ++ [x]) n=qgl l n ++ if x=n then [l.length] else []:=by
 unfold qgl
 rw [List.length_append,List.length_singleton,List.range_succ,List.filter_append]
 congr 1
 · apply List.filter_congr
   intro i hi
   rw [qxj (List.mem_range.1 hi)]
 · rw [List.filter_cons,qpo,List.filter_nil]
   by_cases h:x=n <;> simp [h]
theorem qag (l:List Int) (n:Nat):(qgl l n).length=l.count (n:Int):=by
 induction l using qnl with
 | h0=>rfl
 | h1 l x ih =>
   rw [qpm,List.length_append,ih,List.count_append,List.count_singleton]
   by_cases h:x=n <;> simp [h]
theorem qeq (l:List Int) (n:Nat):∀ {k i:Nat},(qgl l n)[k]?=some i→i < l.length∧l.getD i 0=n∧(l.take i).count (n:Int)=k:=by
 induction l using qnl with
 | h0=>intro k i h; simp [qgl] at h
 | h1 l x ih =>
   intro k i h
   rw [qpm] at h
   rcases Nat.lt_or_ge k (qgl l n).length with hk | hk
   · rw [List.getElem?_append_left hk] at h
     obtain ⟨h1,h2,h3⟩:=ih h
     refine ⟨by simp; omega,by rw [qxj h1]; exact h2,?_⟩
     rw [List.take_append_of_le_length (by omega)]
     exact h3
   · rw [List.getElem?_append_right hk] at h
     by_cases hx:x=n
     · rw [if_pos hx] at h
       have hk2:k - (qgl l n).length=0:=by
        rcases Nat.lt_or_ge (k - (qgl l n).length) 1 with h1 | h1
        · omega
        · rw [List.getElem?_eq_none (by simpa using h1)] at h; cases h
       rw [hk2] at h
       have hi:l.length=i:=by simpa using h
       subst hi
       refine ⟨by simp,by rw [qpo]; exact hx,?_⟩
       rw [List.take_left' rfl,← qag]
       omega
     · rw [if_neg hx] at h; simp at h
theorem hpos_code {l:List Int} {n k i:Nat} (hn:0 < n) (h:(qgl l n)[k]?=some i):qbg l i=hf l n+k:=by
 obtain ⟨h1,h2,h3⟩:=qeq l n h
 unfold qbg
 rw [h2,if_pos (by omega),h3]
 simp
theorem hpos_at (l:List Int):∀ {i:Nat},i < l.length→∀ n:Nat,l.getD i 0=n→(qgl l n)[(l.take i).count (n:Int)]?=some i:=by
 induction l using qnl with
 | h0=>intro i h; simp at h
 | h1 l x ih =>
   intro i h n hn
   rw [qpm]
   rcases Nat.lt_or_ge i l.length with hi | hi
   · rw [qxj hi] at hn
     have h1:=ih hi n hn
     rw [List.take_append_of_le_length (by omega),List.getElem?_append_left]
     · exact h1
     · rcases Nat.lt_or_ge ((l.take i).count (n:Int)) (qgl l n).length with h2 | h2
       · exact h2
       · rw [List.getElem?_eq_none h2] at h1; cases h1
   · have:i=l.length:=by simp at h; omega
     subst this
     rw [qpo] at hn
     rw [List.take_left' rfl,← qag,List.getElem?_append_right (Nat.le_refl _),Nat.sub_self,if_pos hn]
     rfl
theorem rank_lt {l:List Int} {i n:Nat} (hi:i < l.length) (hn:l.getD i 0=n):(l.take i).count (n:Int) < l.count (n:Int):=by
 have h:=hpos_at l hi n hn
 rw [← qag l]
 rcases Nat.lt_or_ge ((l.take i).count (n:Int)) (qgl l n).length with h2 | h2
 · exact h2
 · rw [List.getElem?_eq_none h2] at h; cases h
theorem hcode_ge {l:List Int} {i m n:Nat} (hm:l.getD i 0=m) (hn:n < m):(hf l n+hc l n) * 2 ^ (m - n)≤qbg l i:=by
 unfold qbg
 rw [hm,if_pos (by omega)]
 have:=hf_step l n (m - n - 1)
 rw [show m - n - 1+1=m - n by omega,show n+(m - n - 1)+1=m by omega] at this
 simp only [Int.toNat_natCast]
 omega
theorem hcode_lt {l:List Int} {i m:Nat} (hi:i < l.length) (hm:l.getD i 0=m) (h0:0 < m):hf l m≤qbg l i∧qbg l i < hf l m+hc l m:=by
 unfold qbg hc
 rw [hm,if_pos (by omega),if_neg (by omega)]
 have:=rank_lt hi hm
 simp only [Int.toNat_natCast]
 omega
def qyh (l:List Int):Nat→Nat
 | 0=>1
 | n+1=>if 0 < l.count ((n+1:Nat):Int) then n+1 else qyh l n
def hdec (l:List Int) (b:List Bool):Nat→Nat→Nat→Nat→Int × Int × Nat
 | 0,_,_,p=>(0,2,p)
 | f+1,n,v,p =>
   match b[p]? with
   | none=>(0,3,p)
   | some x =>
     if 2 * v+x.toNat < hf l n+hc l n then (((qgl l n).getD (2 * v+x.toNat - hf l n) 0:Nat),0,p+1)
     else hdec l b f (n+1) (2 * v+x.toNat) (p+1)
def hnext (l:List Int) (b:List Bool) (p:Nat):Int × Int × Nat:=hdec l b (qyh l 15) 1 0 p
def cbits (c n:Nat):List Bool:=(List.range n).map fun i=>c.testBit (n - 1 - i)
theorem qxm (c n:Nat):(cbits c n).length=n:=by simp [cbits]
theorem long_ge {l:List Int} {m:Nat} (h:0 < l.count (m:Int)):∀ n,m≤n→m≤qyh l n:=by
 intro n
 induction n with
 | zero=>intro h; rw [qyh]; omega
 | succ n ih =>
   intro h1
   rw [qyh]
   split
   · omega
   · rename_i h2
     rcases Nat.lt_or_ge n m with h3 | h3
     · have:m=n+1:=by omega
       subst this; exact absurd h h2
     · exact ih h3
theorem div_bit (c k:Nat):c / 2 ^ k=2 * (c / 2 ^ (k+1))+(c.testBit k).toNat:=by
 rw [Nat.pow_succ,← Nat.div_div_eq_div_mul,Nat.testBit_eq_decide_div_mod_eq]
 by_cases h:c / 2 ^ k % 2=1
 · simp [h]; omega
 · simp [h]; omega
theorem hdec_code {l:List Int} {i m:Nat} (hi:i < l.length) (hm:l.getD i 0=m) (h0:0 < m) {b:List Bool} {p:Nat} (hb:(b.drop p).take m=cbits (qbg l i) m) (hsz:qbg l i < 2 ^ m) :
 ∀ f j,j < m→m≤f+j→hdec l b f (j+1) (qbg l i / 2 ^ (m - j)) (p+j)=((i:Int),0,p+m):=by
 intro f
 induction f with
 | zero=>intro j h1 h2; omega
 | succ f ih =>
   intro j h1 h2
   have hx:b[p+j]?=some ((qbg l i).testBit (m - 1 - j)):=by
    have e:((b.drop p).take m)[j]?=some ((qbg l i).testBit (m - 1 - j)):=by
     rw [hb]
     unfold cbits
     rw [List.getElem?_map,List.getElem?_range h1]
     rfl
    rw [List.getElem?_take,if_pos h1,List.getElem?_drop] at e
    exact e
   rw [hdec,hx]
   simp only
   have hv:2 * (qbg l i / 2 ^ (m - j))+((qbg l i).testBit (m - 1 - j)).toNat=qbg l i / 2 ^ (m - (j+1)):=by
    rw [div_bit (qbg l i) (m - (j+1)),show m - (j+1)+1=m - j by omega,show m - 1 - j=m - (j+1) by omega]
   rw [hv]
   by_cases hj:j+1=m
   · obtain ⟨g1,g2⟩:=hcode_lt hi hm h0
     rw [hj,Nat.sub_self,Nat.pow_zero,Nat.div_one,if_pos g2]
     refine Prod.ext ?_ (Prod.ext rfl ?_)
     · have hh:=hpos_at l hi m hm
       have e:qbg l i - hf l m=(l.take i).count (m:Int):=by
        unfold qbg
        rw [hm,if_pos (by omega)]
        simp
       show (((qgl l m).getD (qbg l i - hf l m) 0:Nat):Int)=(i:Int)
       rw [e,List.getD_eq_getElem?_getD,hh]
       rfl
     · show p+j+1=p+m
       omega
   · have hge:=hcode_ge (l:=l) hm (show j+1 < m by omega)
     have:¬ qbg l i / 2 ^ (m - (j+1)) < hf l (j+1)+hc l (j+1):=by
      have:=(Nat.le_div_iff_mul_le (Nat.pow_pos (by decide):0 < 2 ^ (m - (j+1)))).2 hge
      omega
     rw [if_neg this]
     have:=ih (j+1) (by omega) (by omega)
     rw [show p+j+1=p+(j+1) by omega]
     exact this
theorem hnext_code {l:List Int} (hl:okL l) {i m:Nat} (hi:i < l.length) (hm:l.getD i 0=m) (h0:0 < m) {b:List Bool} {p:Nat} (hb:(b.drop p).take m=cbits (qbg l i) m) (hsz:qbg l i < 2 ^ m):hnext l b p=((i:Int),0,p+m):=by
 have hmem:(m:Int) ∈ l:=by
  rw [← hm]
  simp [List.getD,List.getElem?_eq_getElem hi]
 have hm15:m≤15:=by have:=(hl _ hmem).2; omega
 have:=hdec_code hi hm h0 hb hsz (qyh l 15) 0 h0 (by have:=long_ge (List.count_pos_iff.2 hmem) 15 hm15; omega)
 rw [Nat.sub_zero,Nat.div_eq_of_lt hsz,Nat.add_zero] at this
 exact this
end Go.Proofs.YtejnemneenjliaaGreat
namespace Go.Proofs.YtejnemneenjliaaGreat
set_option linter.unusedVariables false
set_option linter.unusedSimpArgs false
instance (l:List Int):Decidable (okL l):=inferInstanceAs (Decidable (∀ x ∈ l,0≤x∧x≤15))
def qwl (l:List Int):Bool × Int:=if 288 < l.length then (false,1) else if ¬ okL l then (false,1) else if 32768 < kr l then (false,2) else (decide (kr l=32768),0)
theorem qtr {l:List Int} (h:(qwl l).2=0):okL l∧kr l≤32768∧l.length≤288∧(qwl l).1=decide (kr l=32768):=by
 unfold qwl at h ⊢
 split at h
 · cases h
 · split at h
   · cases h
   · split at h
     · cases h
     · rename_i h1 h2 h3
       rw [if_neg h1,if_neg h2,if_neg h3]
       exact ⟨Decidable.not_not.1 h2,by omega,by omega,rfl⟩
theorem okL_snoc {l:List Int} {x:Int} (h:okL (l ++ [x])):okL l∧0≤x∧x≤15:=⟨fun y hy=>h y (by simp [hy]),h x (by simp)⟩
def clL (l:List Int):List Int:=qfj 16 fun n=>(hc l n:Int)
theorem qmf (l:List Int):(clL l).length=16:=qad _ _
theorem qmq (l:List Int) {n:Nat} (h:n < 16):(clL l).getD n 0=hc l n:=qbf h
theorem clL_nil:clL []=List.replicate 16 0:=by decide
theorem clL_pos {l:List Int} {x:Int} (h0:0 < x) (h1:x≤15):(clL l).set x.toNat ((hc l x.toNat:Int)+1)=clL (l ++ [x]):=by
 unfold clL
 rw [qpj]
 refine qpd fun i hi=>?_
 rw [qqm]
 by_cases h:i=x.toNat
 · rw [if_pos h,if_pos (by omega),h]; omega
 · rw [if_neg h,if_neg (by omega)]; omega
theorem clL_no {l:List Int} {x:Int} (h0:x≤0):clL (l ++ [x])=clL l:=by
 unfold clL
 refine qpd fun i hi=>?_
 rw [qqm,if_neg (by omega)]
 omega
theorem hc_le (l:List Int) (n:Nat):hc l n≤l.length:=by
 unfold hc
 split
 · omega
 · exact List.count_le_length
theorem kr_le (l:List Int):kr l≤l.length * 16384:=by
 induction l using qnl with
 | h0=>simp [kr]
 | h1 l x ih =>
   rw [kr_snoc,List.length_append,List.length_singleton]
   have:(if 0 < x then 2 ^ (15 - x.toNat) else 0)≤16384:=by
    split
    · exact Nat.le_trans (Nat.pow_le_pow_right (by decide) (show 15 - x.toNat≤14 by omega)) (by decide)
    · omega
   omega
theorem kr_take (l:List Int) (i:Nat):kr (l.take i)≤kr l:=by
 have:l=l.take i ++ l.drop i:=(List.take_append_drop i l).symm
 conv=>rhs; rw [this]
 unfold kr
 rw [List.map_append,List.sum_append]
 omega
theorem hsyms_snoc {l:List Int} {x:Int} (h0:0≤x) (n:Nat):(qre (l ++ [x]) n).length=(qre l n).length+if 0 < x∧x≤n then 1 else 0:=by
 induction n with
 | zero=>rw [qre,qre,if_neg (by omega)]; rfl
 | succ n ih =>
   rw [qre,qre,List.length_append,List.length_append,ih,qpm,List.length_append]
   by_cases h:x=((n+1:Nat):Int)
   · rw [if_neg (by omega),if_pos h,if_pos (by omega)]; simp; omega
   · rw [if_neg h]
     by_cases h2:0 < x∧x≤(n:Int)
     · rw [if_pos h2,if_pos (by omega)]; simp; omega
     · rw [if_neg h2,if_neg (by omega)]; simp
theorem sum_syms (l:List Int) (h:okL l):(2 * (qre l 15).length:Int) - hc l 1≤(l.filter (0 < ·)).sum∧hc l 1≤(qre l 15).length∧(hc l 1=(qre l 15).length→(l.filter (0 < ·)).sum=((qre l 15).length:Int)):=by
 induction l using qnl with
 | h0=>simp [qre,qgl,hc]
 | h1 l x ih =>
   obtain ⟨hl,hx0,hx1⟩:=okL_snoc h
   obtain ⟨i1,i2,i3⟩:=ih hl
   rw [hsyms_snoc hx0,qqm,List.filter_append,List.sum_append]
   by_cases h0:0 < x
   · have e:([x].filter (0 < ·)).sum=x:=by simp [h0]
     rw [e,if_pos (show 0 < x∧x≤((15:Nat):Int) by omega)]
     by_cases h1:x=((1:Nat):Int)
     · rw [if_pos ⟨by decide,h1⟩]
       refine ⟨by omega,by omega,fun e=>?_⟩
       have:=i3 (by omega)
       omega
     · rw [if_neg (fun e=>h1 e.2)]
       refine ⟨by omega,by omega,fun e=>by omega⟩
   · have e:([x].filter (0 < ·)).sum=0:=by simp [h0]
     rw [e,if_neg (by omega),if_neg (by omega)]
     simpa using ⟨i1,i2,i3⟩
def hhalf (l:List Int):Bool:=decide ((qre l 15).length=0 ∨ ((qre l 15).length=1∧hc l 1=1))
theorem qfq {l:List Int} (h:okL l):hhalf l=decide ((l.filter (0 < ·)).sum≤1):=by
 obtain ⟨h1,h2,h3⟩:=sum_syms l h
 unfold hhalf
 apply Bool.eq_iff_iff.2
 rw [decide_eq_true_eq,decide_eq_true_eq]
 constructor
 · rintro (h4 | ⟨h4,h5⟩)
   · have:=h3 (by omega); omega
   · have:=h3 (by omega); omega
 · intro h4; omega
def qcj (l:List Int) (half:Bool):Int:=if (qwl l).2 ≠ 0 then (qwl l).2 else if (qwl l).1=false∧(half && hhalf l)=false then 2 else 0
theorem hnew_ok {l:List Int} {half:Bool} (h:qcj l half=0):(qwl l).2=0:=by
 unfold qcj at h
 split at h
 · rename_i h1; exact absurd h h1
 · rename_i h1; exact Decidable.not_not.1 h1
theorem hsyms_last {l:List Int}:∀ n,qyh l n=if qre l n=[] then 1 else (l.getD ((qre l n).getD ((qre l n).length - 1) 0) 0).toNat:=by
 intro n
 induction n with
 | zero=>rfl
 | succ n ih =>
   rw [qyh,qre]
   have hl:=qag l (n+1)
   by_cases h:0 < l.count ((n+1:Nat):Int)
   · rw [if_pos h,if_neg (by intro e; have:=congrArg List.length e; rw [List.length_append,hl,List.length_nil] at this; omega)]
     have e:(qre l n ++ qgl l (n+1)).getD ((qre l n ++ qgl l (n+1)).length - 1) 0=(qgl l (n+1)).getD ((qgl l (n+1)).length - 1) 0:=by
      rw [List.length_append,List.getD_eq_getElem?_getD,List.getElem?_append_right (by omega),List.getD_eq_getElem?_getD]
      congr 2; omega
     rw [e]
     have hk:(qgl l (n+1)).length - 1 < (qgl l (n+1)).length:=by omega
     have:=qeq l (n+1) (List.getElem?_eq_getElem hk)
     have e2:(qgl l (n+1)).getD ((qgl l (n+1)).length - 1) 0=(qgl l (n+1))[(qgl l (n+1)).length - 1]:=by
      rw [List.getD_eq_getElem?_getD,List.getElem?_eq_getElem hk]; rfl
     rw [e2,this.2.1]
     omega
   · rw [if_neg h]
     have:qgl l (n+1)=[]:=List.eq_nil_of_length_eq_zero (by omega)
     rw [this,List.append_nil,ih]
theorem hsyms_mem {l:List Int}:∀ n,∀ i ∈ qre l n,i < l.length∧0 < l.getD i 0:=by
 intro n
 induction n with
 | zero=>intro i h; simp [qre] at h
 | succ n ih =>
   intro i h
   rw [qre] at h
   rcases List.mem_append.1 h with h | h
   · exact ih i h
   · obtain ⟨k,hk⟩:=List.getElem?_of_mem h
     obtain ⟨h1,h2,_⟩:=qeq l (n+1) hk
     exact ⟨h1,by omega⟩
theorem hlong_le (l:List Int):∀ n,1≤n→1≤qyh l n∧qyh l n≤n:=by
 intro n
 induction n with
 | zero=>intro h; omega
 | succ n ih =>
   intro _
   rw [qyh]
   split
   · omega
   · cases n with
     | zero=>rw [qyh]; omega
     | succ n=>have:=ih (by omega); omega
theorem hlong_some {l:List Int} (h:okL l) {n:Nat} (hn:1≤n):(∃ x ∈ l,(n:Int) < x) ↔ n < qyh l 15:=by
 constructor
 · rintro ⟨x,hx,hnx⟩
   have hx2:=(h x hx).2
   have:=long_ge (l:=l) (m:=x.toNat) (List.count_pos_iff.2 (by rw [show ((x.toNat:Nat):Int)=x by omega]; exact hx)) 15 (by omega)
   omega
 · intro hlt
   have key:∀ m,n < qyh l m→∃ x ∈ l,(n:Int) < x:=by
    intro m
    induction m with
    | zero=>intro h; rw [qyh] at h; omega
    | succ m ih =>
      intro h
      rw [qyh] at h
      split at h
      · rename_i hc
        exact ⟨_,List.count_pos_iff.1 hc,by omega⟩
      · exact ih h
   exact key 15 hlt
theorem hsyms_at (l:List Int):∀ (m n k:Nat),0 < n→n≤m→k < l.count (n:Int)→(qre l m)[(qre l (n - 1)).length+k]?=(qgl l n)[k]?:=by
 intro m
 induction m with
 | zero=>intro n k h1 h2; omega
 | succ m ih =>
   intro n k h1 h2 h3
   rw [qre]
   by_cases e:n=m+1
   · subst e
     rw [Nat.add_sub_cancel,List.getElem?_append_right (by omega)]
     congr 1; omega
   · have:=ih n k h1 (by omega) h3
     rw [List.getElem?_append_left,this]
     rw [← qag] at h3
     rw [List.getElem?_eq_getElem h3] at this
     exact (List.getElem?_eq_some_iff.1 this).1
theorem qoo (l:List Int):(hcodes l).length=l.length:=by simp [hcodes]
theorem qsr (l:List Int) {i:Nat} (h:i < l.length):(hcodes l).getD i 0=qbg l i:=qbf (f:=fun i=>(qbg l i:Int)) h
theorem hcode_eq {l:List Int} {i m:Nat} (hm:l.getD i 0=m) (h0:0 < m):qbg l i=hf l m+hc (l.take i) m:=by
 unfold qbg hc
 rw [hm,if_pos (by omega),if_neg (by omega)]
 simp
theorem hcode_no {l:List Int} {i:Nat} (h:l.getD i 0≤0):qbg l i=0:=by unfold qbg; rw [if_neg (by omega)]
theorem qwj (l:List Int) (h:okL l) (hk:kr l≤32768) {n:Nat} (hn:n≤15):hf l n+hc l n≤32768:=by
 have:=hf_le l h (by rw [show (2:Nat) ^ 15=32768 by decide]; exact hk) hn
 exact Nat.le_trans this (Nat.le_trans (Nat.pow_le_pow_right (by decide) hn) (by decide))
theorem qit {l:List Int} (h:okL l) (hk:kr l≤32768) {i m:Nat} (hi:i < l.length) (hm:l.getD i 0=m) (h0:0 < m):qbg l i < 2 ^ m:=by
 have h15:m≤15:=by have:=(h _ (qee hi)).2; omega
 have:=(hcode_lt hi hm h0).2
 have:=hf_le l h (by rw [show (2:Nat) ^ 15=32768 by decide]; exact hk) h15
 omega
end Go.Proofs.YtejnemneenjliaaGreat
namespace Go.Proofs.YtejnemneenjliaaGreat
open Go Go.Proofs
set_option linter.unusedVariables false
set_option linter.unusedSimpArgs false
abbrev Z:=Nat × List Int × Int
def qkd (e:Int) (z:Z):Z:=(z.1,z.2.1,if z.2.2=0 then e else z.2.2)
def qse (B:List Bool) (n:Int) (z:Z):Int × Z :=
 if z.2.2 ≠ 0 then (0,z) else if 0≤n∧n≤24∧n≤(B.length:Int) - z.1 then ((val ((B.drop z.1).take n.toNat):Int),(z.1+n.toNat,z.2.1,z.2.2)) else (0,(z.1,z.2.1,3))
def quj (ls:List Int) (B:List Bool) (z:Z):Int × Z :=
 if z.2.2 ≠ 0 then (0,z) else ((hnext ls B z.1).1,((hnext ls B z.1).2.2,z.2.1,(hnext ls B z.1).2.1))
def qqn (most:Int) (b:Int) (z:Z):Z :=
 if z.2.2 ≠ 0 then z else if most≤(z.2.1.length:Int) then (z.1,z.2.1,5) else (z.1,z.2.1 ++ [b],z.2.2)
def qlj (v:Int):Int × Int × Bool :=
 if v < 257 ∨ 285 < v then (0,0,false) else if v=285 then (258,0,true) else if v - 257 < 8 then (3+(v - 257),0,true)
 else (3+(4+(v - 257) % 4) * 2 ^ ((v - 257) / 4 - 1).toNat,(v - 257) / 4 - 1,true)
def qyi (v:Int):Int × Int × Bool :=
 if v < 0 ∨ 30≤v then (0,0,false) else if v < 4 then (1+v,0,true) else (1+(2+v % 2) * 2 ^ (v / 2 - 1).toNat,v / 2 - 1,true)
def zcp (most d:Int):Nat→Z→Z
 | 0,z=>z
 | n+1,z=>if z.2.2 ≠ 0 then z else zcp most d n (qqn most (z.2.1.getD (z.2.1.length - d.toNat) 0) z)
def zok (ok:Bool) (z:Z):Z:=if ok then z else qkd 2 z
def zbehind (dl:List Int) (B:List Bool) (most v:Int) (z:Z):Z :=
 let l:=qlj v
 let g:=qse B l.2.1 (zok l.2.2 z)
 let s:=quj dl B g.2
 let d:=qyi s.1
 let g2:=qse B d.2.1 (zok d.2.2 s.2)
 let z5:=if (g2.2.2.1.length:Int) < d.1+g2.1 then qkd 2 g2.2 else g2.2
 zcp most (d.1+g2.1) (l.1+g.1).toNat z5
def qie (ll dl:List Int) (B:List Bool) (most:Int):Nat→Z→Z
 | 0,z=>z
 | f+1,z=>if z.2.2 ≠ 0 then z else
   let s:=quj ll B z
   if s.2.2.2 ≠ 0 ∨ s.1=256 then s.2
   else if s.1 < 256 then qie ll dl B most f (qqn most s.1 s.2) else qie ll dl B most f (zbehind dl B most s.1 s.2)
def qxg (ls:List Int) (z:Z):Z:=if z.2.2=0∧qcj ls true ≠ 0 then qkd 2 z else z
def zblk (ll dl:List Int) (B:List Bool) (most:Int) (z:Z):Z :=
 let z3:=qxg dl (qxg ll (if z.2.2=0∧ll.getD 256 0=0 then qkd 2 z else z))
 if z3.2.2 ≠ 0 then z3 else qie ll dl B most (B.length+1) z3
def zst (B:List Bool) (most:Int):Nat→Z→Z
 | 0,z=>z
 | n+1,z=>zst B most n (qqn most (qse B 8 z).1 (qse B 8 z).2)
def zstored (B:List Bool) (most:Int) (z:Z):Z :=
 let g:=qse B 16 (8 * ((z.1+7) / 8),z.2.1,z.2.2)
 let g2:=qse B 16 g.2
 if g2.2.2.2 ≠ 0 then g2.2 else if qyl .i64 g.1 g2.1 ≠ 65535 then qkd 2 g2.2 else if most - g2.2.2.1.length < g.1 then qkd 5 g2.2 else zst B most g.1.toNat g2.2
def qzh:List Int:=List.replicate 144 8 ++ (List.replicate 112 9 ++ (List.replicate 24 7 ++ List.replicate 8 8))
def qve:List Int:=List.replicate 32 5
def zblock (B:List Bool) (most:Int) (z:Z):Bool × Z :=
 let a:=qse B 1 z
 let k:=qse B 2 a.2
 if k.2.2.2 ≠ 0 then (false,k.2) else if k.1=0 then (a.1 == 1,zstored B most k.2) else if k.1=1 then (a.1 == 1,zblk qzh qve B most k.2) else (a.1 == 1,qkd 2 k.2)
def znot2 (B:List Bool) (z:Z):Prop:=(qse B 2 (qse B 1 z).2).2.2.2 ≠ 0 ∨ (qse B 2 (qse B 1 z).2).1 ≠ 2
inductive ZRun (B:List Bool) (most:Int):Nat→Z→Z→Prop
 | bad {z:Z} (h2:znot2 B z) (he:(zblock B most z).2.2.2 ≠ 0):ZRun B most 0 z (zblock B most z).2
 | last {z:Z} (h2:znot2 B z) (he:(zblock B most z).2.2.2=0) (hl:(zblock B most z).1=true):ZRun B most 0 z (zblock B most z).2
 | next {n:Nat} {z z':Z} (h2:znot2 B z) (he:(zblock B most z).2.2.2=0) (hl:(zblock B most z).1=false) (hr:ZRun B most n (zblock B most z).2 z'):ZRun B most (n+1) z z'
theorem hdec_le (l:List Int) (b:List Bool):∀ f n v p,p≤b.length→p≤(hdec l b f n v p).2.2∧(hdec l b f n v p).2.2≤b.length∧((hdec l b f n v p).2.1=0→p < (hdec l b f n v p).2.2):=by
 intro f
 induction f with
 | zero=>intro n v p hp; exact ⟨Nat.le_refl _,hp,fun h=>by simp [hdec] at h⟩
 | succ f ih =>
   intro n v p hp
   rw [hdec]
   split
   · exact ⟨Nat.le_refl _,hp,fun h=>by simp at h⟩
   · rename_i x hx
     have hlt:p < b.length:=(List.getElem?_eq_some_iff.1 hx).1
     split
     · exact ⟨by simp only; omega,by simp only; omega,fun _=>by simp only; omega⟩
     · obtain ⟨h1,h2,h3⟩:=ih (n+1) (2 * v+x.toNat) (p+1) (by omega)
       exact ⟨by omega,h2,fun h=>by omega⟩
def zfwd (B:List Bool) (z z':Z):Prop:=z.1≤z'.1∧z'.1≤B.length
variable {B:List Bool} {most:Int} {z:Z}
theorem qbo (n:Int) (h:z.1≤B.length):zfwd B z (qse B n z).2:=by
 unfold qse zfwd
 split
 · exact ⟨Nat.le_refl _,h⟩
 · split
   · simp only; omega
   · exact ⟨Nat.le_refl _,h⟩
theorem zsym_fwd (ls:List Int) (h:z.1≤B.length):zfwd B z (quj ls B z).2:=by
 unfold quj zfwd
 split
 · exact ⟨Nat.le_refl _,h⟩
 · obtain ⟨h1,h2,_⟩:=hdec_le ls B (qyh ls 15) 1 0 z.1 h
   exact ⟨h1,h2⟩
theorem qdm (b:Int):(qqn most b z).1=z.1:=by
 unfold qqn
 split
 · rfl
 · split <;> rfl
theorem qrq (e:Int):(qkd e z).1=z.1:=rfl
theorem zok_p (ok:Bool):(zok ok z).1=z.1:=by unfold zok; split <;> rfl
theorem zcp_p (d:Int):∀ n (z:Z),(zcp most d n z).1=z.1:=by
 intro n
 induction n with
 | zero=>intro z; rfl
 | succ n ih =>
   intro z
   rw [zcp]
   split
   · rfl
   · rw [ih,qdm]
theorem qun (dl:List Int) (v:Int) (h:z.1≤B.length):zfwd B z (zbehind dl B most v z):=by
 unfold zbehind
 simp only
 have h1:=qbo (B:=B) (qlj v).2.1 (z:=zok (qlj v).2.2 z) (by rw [zok_p]; exact h)
 generalize qse B (qlj v).2.1 (zok (qlj v).2.2 z)=g at h1 ⊢
 have h2:=zsym_fwd (B:=B) dl (z:=g.2) h1.2
 generalize quj dl B g.2=s at h2 ⊢
 have h3:=qbo (B:=B) (qyi s.1).2.1 (z:=zok (qyi s.1).2.2 s.2) (by rw [zok_p]; exact h2.2)
 generalize qse B (qyi s.1).2.1 (zok (qyi s.1).2.2 s.2)=g2 at h3 ⊢
 rw [zfwd,zcp_p]
 unfold zfwd at h1 h2 h3
 rw [zok_p] at h1 h3
 split
 · rw [qrq]; omega
 · omega
theorem qkj (n:Int):0≤(qse B n z).1∧(qse B n z).1 < 2 ^ n.toNat:=by
 unfold qse
 have h2:(0:Int) < 2 ^ n.toNat:=Int.pow_pos (by decide)
 split
 · exact ⟨Int.le_refl _,h2⟩
 · split
   · refine ⟨Int.natCast_nonneg _,?_⟩
     have h3:=val_lt ((B.drop z.1).take n.toNat)
     have h4:((B.drop z.1).take n.toNat).length≤n.toNat:=List.length_take_le _ _
     have h5:=Nat.lt_of_lt_of_le h3 (Nat.pow_le_pow_right (by decide:0 < 2) h4)
     simp only
     exact_mod_cast h5
   · exact ⟨Int.le_refl _,h2⟩
theorem zget_val {V M p n:Nat} (h:p+n≤M):val (((qi (V:Int) M).drop p).take n)=V / 2 ^ p % 2 ^ n:=by
 obtain ⟨r,rfl⟩:∃ r,M=p+(n+r):=⟨M - p - n,by omega⟩
 rw [qqt,List.drop_left' (qk _ _),qqt,List.take_left' (qk _ _),qyq]
 have e1:(V:Int) / 2 ^ p=((V / 2 ^ p:Nat):Int):=by simp
 rw [e1]
 have e2:(((V / 2 ^ p:Nat):Int) % 2 ^ n)=((V / 2 ^ p % 2 ^ n:Nat):Int):=by simp
 rw [e2,Int.toNat_natCast]
end Go.Proofs.YtejnemneenjliaaGreat
namespace Go.Proofs.YtejnemneenjliaaGreat
open Go Go.Proofs
set_option linter.unusedVariables false
set_option maxRecDepth 100000
def qbd.j2 (t2 out_3:Addr) (Q:VWP) (w:World):Prop :=
 ldA w out_3 16 fun c1 =>
 (c1).size=16 ∧
 stA w t2 c1 fun w2 =>
 ldA w2 t2 16 fun c3 =>
 Q (.agg c3) w2
def qbd.b1 (t2 out_3:Addr) (t6:Sl) (t7 t8:Int) (Q:VWP) (nx1:Addr→Addr→Sl→Int→Int→WP) (w:World):Prop :=
 br (decide (t8 < t7)) (
 ixS t6.a t6.len t8 1 fun a4 =>
 ldI .i64 w a4 fun x5 =>
 br (decide (x5 > 0)) (
 ixA out_3 16 x5 1 fun a6 =>
 ldI .i64 w a6 fun x7 =>
 lt (IntKind.i64.wrap (x7+1)) fun x8 =>
 ixA out_3 16 x5 1 fun a9 =>
 st w a9 (.int .i64 x8) fun w10 =>
 lt (IntKind.i64.wrap (t8+1)) fun x11 =>
 nx1 t2 out_3 t6 t7 x11 w10) (
 lt (IntKind.i64.wrap (t8+1)) fun x12 =>
 nx1 t2 out_3 t6 t7 x12 w)) (
 qbd.j2 t2 out_3 Q w)
def qbd.l1 (t2 out_3:Addr) (t6:Sl) (t7 t8:Int) (Q:VWP) (w:World):Prop :=
 ∃ (I:Int→WP) (μ:Int→World→Nat),I t8 w∧∀ t8:Int,∀ w:World,I t8 w→qbd.b1 t2 out_3 t6 t7 t8 Q (fun t2' out_3' t6' t7' t8' w'=>(t2'=t2∧out_3'=out_3∧t6'=t6∧t7'=t7)∧I t8' w'∧μ t8' w' < μ t8 w) w
def qbd.j3 (t2 out_3:Addr) (t6:Sl) (t7 t8:Int) (Q:VWP) (w:World):Prop :=
 qbd.l1 t2 out_3 t6 t7 t8 Q w
def qbd.j1 (lens_0:Sl) (t2:Addr) (out_3:Addr) (Q:VWP) (w:World):Prop :=
 qbd.j3 t2 out_3 lens_0 (lens_0.len:Int) 0 Q w
def qbd (lens_0:Sl) (Q:VWP) (w:World):Prop :=
 nw w (zc Tryz.prog 401) 401 fun a13 w14 =>
 nw w14 (zc Tryz.prog 401) 401 fun a15 w16 =>
 qbd.j1 lens_0 a13 a15 Q w16
theorem qbd.ok (lens_0:Sl) (Q:VWP) (w:World) (h:qbd lens_0 Q w):Calls Tryz.prog 291 ⟨[sV lens_0]⟩ w (Ret Q) :=
 qqc [.cell 2 401] qbe Tryz.func291 rfl rfl rfl rfl (.pr 1 [sL 0,sA 2,sA 3] (fun a b c w=>qbd.j1 a b c Q w) (.sq [sA 2,sA 3] (fun a b w=>qbd.j2 a b Q w) (.sq [sA 2,sA 3,sL 6,sI 7,sI 8] (fun a b c d e w=>qbd.j3 a b c d e Q w) .lf (.bk (.lo [sA 2,sA 3,sL 6,sI 7] [sI 8] (fun a b c d e w=>qbd.l1 a b c d e Q w) (fun nx1 a b c d e w=>qbd.b1 a b c d e Q nx1 w) fun nx1=>.lf))) .lf)) (by kernel_rfl) h
def qdc.j4 (room_6:Int) (Q:VWP) (w:World):Prop :=
 br (decide (room_6 < 0)) (
 Q (.tuple ⟨[.bool false,.int .i64 2]⟩) w) (
 Q (.tuple ⟨[.bool (room_6 == 0),.int .i64 0]⟩) w)
def qdc.b1 (t26:(Array Value)) (room_6 t27:Int) (Q:VWP) (nx1:(Array Value)→Int→Int→WP) (w:World):Prop :=
 br (decide (t27 < 16)) (
 ((0:Int)≤t27∧t27 < ((16:Nat):Int)) ∧
 ptI .i64 t26 (Int.toNat t27 * 1) fun x1 =>
 br (decide (t27 > 0)) (
 lt (IntKind.i64.wrap (15 - t27)) fun x2 =>
 (0:Int)≤x2 ∧
 lt (qqi .i64 x1 x2) fun x3 =>
 lt (IntKind.i64.wrap (room_6 - x3)) fun x4 =>
 lt (IntKind.i64.wrap (t27+1)) fun x5 =>
 nx1 t26 x4 x5 w) (
 lt (IntKind.i64.wrap (t27+1)) fun x6 =>
 nx1 t26 room_6 x6 w)) (
 qdc.j4 room_6 Q w)
def qdc.l1 (t26:(Array Value)) (room_6 t27:Int) (Q:VWP) (w:World):Prop :=
 ∃ (I:Int→Int→WP) (μ:Int→Int→World→Nat),I room_6 t27 w∧∀ room_6:Int,∀ t27:Int,∀ w:World,I room_6 t27 w→qdc.b1 t26 room_6 t27 Q (fun t26' room_6' t27' w'=>(t26'=t26)∧I room_6' t27' w'∧μ room_6' t27' w' < μ room_6 t27 w) w
def qdc.j5 (room_6:Int) (t26:(Array Value)) (t27:Int) (Q:VWP) (w:World):Prop :=
 qdc.l1 t26 room_6 t27 Q w
def qdc.j3 (lens_0:Sl) (room_6:Int) (Q:VWP) (w:World):Prop :=
 cr_G 291 [sV lens_0] w fun r9 w8 =>
 qdc.j5 room_6 r9 0 Q w8
def qdc.j2 (lens_0:Sl) (Q:VWP) (w:World):Prop :=
 qdc.j3 lens_0 32768 Q w
def qdc.b2 (lens_0 t12:Sl) (t13:Int) (t14:Int) (Q:VWP) (nx2:Sl→Sl→Int→Int→WP) (w:World):Prop :=
 br (decide (t14 < t13)) (
 ixS t12.a t12.len t14 1 fun a10 =>
 ldI .i64 w a10 fun x11 =>
 br (decide (x11 < 0)) (
 Q (.tuple ⟨[.bool false,.int .i64 1]⟩) w) (
 br (decide (x11 > 15)) (
 Q (.tuple ⟨[.bool false,.int .i64 1]⟩) w) (
 lt (IntKind.i64.wrap (t14+1)) fun x12 =>
 nx2 lens_0 t12 t13 x12 w))) (
 qdc.j2 lens_0 Q w)
def qdc.l2 (lens_0 t12:Sl) (t13:Int) (t14:Int) (Q:VWP) (w:World):Prop :=
 ∃ (I:Int→WP) (μ:Int→World→Nat),I t14 w∧∀ t14:Int,∀ w:World,I t14 w→qdc.b2 lens_0 t12 t13 t14 Q (fun lens_0' t12' t13' t14' w'=>(lens_0'=lens_0∧t12'=t12∧t13'=t13)∧I t14' w'∧μ t14' w' < μ t14 w) w
def qdc.j6 (lens_0 t12:Sl) (t13:Int) (t14:Int) (Q:VWP) (w:World):Prop :=
 qdc.l2 lens_0 t12 t13 t14 Q w
def qdc.j1 (lens_0:Sl) (Q:VWP) (w:World):Prop :=
 qdc.j6 lens_0 lens_0 (lens_0.len:Int) 0 Q w
def qdc (lens_0:Sl) (Q:VWP) (w:World):Prop :=
 br (decide ((lens_0.len:Int) > 288)) (
 Q (.tuple ⟨[.bool false,.int .i64 1]⟩) w) (
 qdc.j1 lens_0 Q w)
theorem qdc.ok (lens_0:Sl) (Q:VWP) (w:World) (h:qdc lens_0 Q w):Calls Tryz.prog 290 ⟨[sV lens_0]⟩ w (Ret Q) :=
 qqc [.tmp 2,.tmp 3] qbe Tryz.func290 rfl rfl rfl rfl (.pr 1 [sL 0] (fun a w=>qdc.j1 a Q w) (.sq [sL 0] (fun a w=>qdc.j2 a Q w) (.sq [sL 0,sL 12,sI 13,sI 14] (fun a b c d w=>qdc.j6 a b c d Q w) .lf (.bk (.lo [sL 0,sL 12,sI 13] [sI 14] (fun a b c d w=>qdc.l2 a b c d Q w) (fun nx2 a b c d w=>qdc.b2 a b c d Q nx2 w) fun nx2=>.lf))) (.sq [sL 0,sI 6] (fun a b w=>qdc.j3 a b Q w) .lf (.sq [sI 6] (fun a w=>qdc.j4 a Q w) (.sq [sI 6,(26,.G),sI 27] (fun a b c w=>qdc.j5 a b c Q w) .lf (.bk (.lo [(26,.G)] [sI 6,sI 27] (fun a b c w=>qdc.l1 a b c Q w) (fun nx1 a b c w=>qdc.b1 a b c Q nx1 w) fun nx1=>.lf))) .lf)))) (by kernel_rfl) h
def qyb.j5 (out_9:Sl) (Q:VWP) (w:World):Prop :=
 Q (.tuple ⟨[sV out_9,.int .i64 0]⟩) w
def qyb.b1 (next_6:Addr) (out_9:Sl) (t41:Sl) (t42:Int) (t43:Int) (Q:VWP) (nx1:Addr→Sl→Sl→Int→Int→WP) (w:World):Prop :=
 br (decide (t43 < t42)) (
 ixS t41.a t41.len t43 1 fun a1 =>
 ldI .i64 w a1 fun x2 =>
 br (decide (x2 > 0)) (
 ixA next_6 16 x2 1 fun a3 =>
 ldI .i64 w a3 fun x4 =>
 ixS out_9.a out_9.len t43 1 fun a5 =>
 st w a5 (.int .i64 x4) fun w6 =>
 ixA next_6 16 x2 1 fun a7 =>
 ldI .i64 w6 a7 fun x8 =>
 lt (IntKind.i64.wrap (x8+1)) fun x9 =>
 ixA next_6 16 x2 1 fun a10 =>
 st w6 a10 (.int .i64 x9) fun w11 =>
 lt (IntKind.i64.wrap (t43+1)) fun x12 =>
 nx1 next_6 out_9 t41 t42 x12 w11) (
 lt (IntKind.i64.wrap (t43+1)) fun x13 =>
 nx1 next_6 out_9 t41 t42 x13 w)) (
 qyb.j5 out_9 Q w)
def qyb.l1 (next_6:Addr) (out_9:Sl) (t41:Sl) (t42:Int) (t43:Int) (Q:VWP) (w:World):Prop :=
 ∃ (I:Int→WP) (μ:Int→World→Nat),I t43 w∧∀ t43:Int,∀ w:World,I t43 w→qyb.b1 next_6 out_9 t41 t42 t43 Q (fun next_6' out_9' t41' t42' t43' w'=>(next_6'=next_6∧out_9'=out_9∧t41'=t41∧t42'=t42)∧I t43' w'∧μ t43' w' < μ t43 w) w
def qyb.j6 (next_6:Addr) (out_9:Sl) (t41:Sl) (t42:Int) (t43:Int) (Q:VWP) (w:World):Prop :=
 qyb.l1 next_6 out_9 t41 t42 t43 Q w
def qyb.j4 (lens_0:Sl) (next_6:Addr) (out_9:Sl) (Q:VWP) (w:World):Prop :=
 qyb.j6 next_6 out_9 lens_0 (lens_0.len:Int) 0 Q w
def qyb.j3 (lens_0:Sl) (next_6:Addr) (Q:VWP) (w:World):Prop :=
 mkK Tryz.prog 3 w (lens_0.len:Int) (lens_0.len:Int) fun s14 w15 =>
 qyb.j4 lens_0 next_6 s14 Q w15
def qyb.b2 (lens_0:Sl) (next_6:Addr) (c_7:Addr) (n_8:Int) (Q:VWP) (nx2:Sl→Addr→Addr→Int→WP) (w:World):Prop :=
 br (decide (n_8≤15)) (
 lt (World.drew w) fun w16 =>
 lt (IntKind.i64.wrap (n_8 - 1)) fun x17 =>
 ixA next_6 16 x17 1 fun a18 =>
 ldI .i64 w16 a18 fun x19 =>
 lt (IntKind.i64.wrap (n_8 - 1)) fun x20 =>
 ixA c_7 16 x20 1 fun a21 =>
 ldI .i64 w16 a21 fun x22 =>
 lt (IntKind.i64.wrap (x19+x22)) fun x23 =>
 (0:Int)≤1 ∧
 lt (qqi .i64 x23 1) fun x24 =>
 ixA next_6 16 n_8 1 fun a25 =>
 st w16 a25 (.int .i64 x24) fun w26 =>
 lt (IntKind.i64.wrap (n_8+1)) fun x27 =>
 nx2 lens_0 next_6 c_7 x27 w26) (
 qyb.j3 lens_0 next_6 Q w)
def qyb.l2 (lens_0:Sl) (next_6:Addr) (c_7:Addr) (n_8:Int) (Q:VWP) (w:World):Prop :=
 ∃ (I:Int→WP) (μ:Int→World→Nat),I n_8 w∧∀ n_8:Int,∀ w:World,I n_8 w→qyb.b2 lens_0 next_6 c_7 n_8 Q (fun lens_0' next_6' c_7' n_8' w'=>(lens_0'=lens_0∧next_6'=next_6∧c_7'=c_7)∧I n_8' w'∧μ n_8' w' < μ n_8 w) w
def qyb.j7 (lens_0:Sl) (next_6:Addr) (c_7:Addr) (n_8:Int) (Q:VWP) (w:World):Prop :=
 qyb.l2 lens_0 next_6 c_7 n_8 Q w
def qyb.j2 (lens_0:Sl) (next_6:Addr) (c_7:Addr) (Q:VWP) (w:World):Prop :=
 qyb.j7 lens_0 next_6 c_7 1 Q w
def qyb.j1 (lens_0:Sl) (Q:VWP) (w:World):Prop :=
 nw w (zc Tryz.prog 401) 401 fun a28 w29 =>
 cr_G 291 [sV lens_0] w29 fun r32 w31 =>
 nw w31 (zc Tryz.prog 401) 401 fun a33 w34 =>
 (r32).size=16 ∧
 stA w34 a33 r32 fun w35 =>
 qyb.j2 lens_0 a28 a33 Q w35
def qyb (lens_0:Sl) (Q:VWP) (w:World):Prop :=
 ct_BI 290 [sV lens_0] w fun r38 r39 w37 =>
 br (r39 != 0) (
 Q (.tuple ⟨[.slice none 0 0,.int .i64 r39]⟩) w37) (
 qyb.j1 lens_0 Q w37)
theorem qyb.ok (lens_0:Sl) (Q:VWP) (w:World) (h:qyb lens_0 Q w):Calls Tryz.prog 292 ⟨[sV lens_0]⟩ w (Ret Q) :=
 qqc [.tmp 2,.tmp 3] qbe Tryz.func292 rfl rfl rfl rfl (.pr 1 [sL 0] (fun a w=>qyb.j1 a Q w) (.pr 1 [sL 0,sA 6,sA 7] (fun a b c w=>qyb.j2 a b c Q w) (.sq [sL 0,sA 6] (fun a b w=>qyb.j3 a b Q w) (.sq [sL 0,sA 6,sA 7,sI 8] (fun a b c d w=>qyb.j7 a b c d Q w) .lf (.bk (.lo [sL 0,sA 6,sA 7] [sI 8] (fun a b c d w=>qyb.l2 a b c d Q w) (fun nx2 a b c d w=>qyb.b2 a b c d Q nx2 w) fun nx2=>.lf))) (.sq [sL 0,sA 6,sL 9] (fun a b c w=>qyb.j4 a b c Q w) .lf (.sq [sL 9] (fun a w=>qyb.j5 a Q w) (.sq [sA 6,sL 9,sL 41,sI 42,sI 43] (fun a b c d e w=>qyb.j6 a b c d e Q w) .lf (.bk (.lo [sA 6,sL 9,sL 41,sI 42] [sI 43] (fun a b c d e w=>qyb.l1 a b c d e Q w) (fun nx1 a b c d e w=>qyb.b1 a b c d e Q nx1 w) fun nx1=>.lf))) .lf))))) (by kernel_rfl) h
def qhc.j4 (d_0:Sl) (t8:OAd) (Q:VWP) (w:World):Prop :=
 qwo 292 [sV d_0] w fun r3 r4 w2 =>
 nz t8 fun a5 =>
 st w2 (Addr.add a5 1) (sV r3) fun w6 =>
 Q (.tuple ⟨[.pointer t8,.int .i64 0]⟩) w6
def qhc.j3 (d_0:Sl) (i_1:Bool) (t6:Bool) (t8:OAd) (Q:VWP) (w:World):Prop :=
 br (!t6) (
 br i_1 (
 nz t8 fun a7 =>
 ldL w (Addr.add a7 18) fun x8 =>
 br ((x8.len:Int) == 0) (
 br (!true) (
 Q (.tuple ⟨[.pointer none,.int .i64 2]⟩) w) (
 qhc.j4 d_0 t8 Q w)) (
 nz t8 fun a9 =>
 ldL w (Addr.add a9 18) fun x10 =>
 br ((x10.len:Int) == 1) (
 nz t8 fun a11 =>
 ixA (Addr.add a11 2) 16 1 1 fun a12 =>
 ldI .i64 w a12 fun x13 =>
 br (!(x13 == 1)) (
 Q (.tuple ⟨[.pointer none,.int .i64 2]⟩) w) (
 qhc.j4 d_0 t8 Q w)) (
 br (!false) (
 Q (.tuple ⟨[.pointer none,.int .i64 2]⟩) w) (
 qhc.j4 d_0 t8 Q w)))) (
 br (!false) (
 Q (.tuple ⟨[.pointer none,.int .i64 2]⟩) w) (
 qhc.j4 d_0 t8 Q w))) (
 qhc.j4 d_0 t8 Q w)
def qhc.j7 (d_0:Sl) (i_1:Bool) (t6:Bool) (t8:OAd) (t9:Int) (Q:VWP) (nx1:Sl→Bool→Bool→OAd→Int→WP) (w:World):Prop :=
 lt (IntKind.i64.wrap (t9+1)) fun x14 =>
 nx1 d_0 i_1 t6 t8 x14 w
def qhc.b2 (d_0:Sl) (i_1:Bool) (t6:Bool) (t8:OAd) (t9:Int) (t31:Sl) (t32 t33:Int) (Q:VWP) (nx1:Sl→Bool→Bool→OAd→Int→WP) (nx2:Sl→Bool→Bool→OAd→Int→Sl→Int→Int→WP) (w:World):Prop :=
 br (decide (t33 < t32)) (
 ixS t31.a t31.len t33 1 fun a15 =>
 ldI .i64 w a15 fun x16 =>
 br (x16 == t9) (
 nz t8 fun a17 =>
 ldL w (Addr.add a17 18) fun x18 =>
 nw w ⟨[.int .i64 t33]⟩ 3 fun a19 w20 =>
 rdO w20 (some a19) (1 * 1) fun c21 =>
 apK Tryz.prog 3 w20 x18.a x18.len x18.cap 1 c21 fun s22 w23 =>
 nz t8 fun a24 =>
 st w23 (Addr.add a24 18) (sV s22) fun w25 =>
 lt (IntKind.i64.wrap (t33+1)) fun x26 =>
 nx2 d_0 i_1 t6 t8 t9 t31 t32 x26 w25) (
 lt (IntKind.i64.wrap (t33+1)) fun x27 =>
 nx2 d_0 i_1 t6 t8 t9 t31 t32 x27 w)) (
 qhc.j7 d_0 i_1 t6 t8 t9 Q nx1 w)
def qhc.l2 (d_0:Sl) (i_1:Bool) (t6:Bool) (t8:OAd) (t9:Int) (t31:Sl) (t32 t33:Int) (Q:VWP) (nx1:Sl→Bool→Bool→OAd→Int→WP) (w:World):Prop :=
 ∃ (I:Int→WP) (μ:Int→World→Nat),I t33 w∧∀ t33:Int,∀ w:World,I t33 w→qhc.b2 d_0 i_1 t6 t8 t9 t31 t32 t33 Q nx1 (fun d_0' i_1' t6' t8' t9' t31' t32' t33' w'=>(d_0'=d_0∧i_1'=i_1∧t6'=t6∧t8'=t8∧t9'=t9∧t31'=t31∧t32'=t32)∧I t33' w'∧μ t33' w' < μ t33 w) w
def qhc.j8 (d_0:Sl) (i_1:Bool) (t6:Bool) (t8:OAd) (t9:Int) (t31:Sl) (t32 t33:Int) (Q:VWP) (nx1:Sl→Bool→Bool→OAd→Int→WP) (w:World):Prop :=
 qhc.l2 d_0 i_1 t6 t8 t9 t31 t32 t33 Q nx1 w
def qhc.j6 (d_0:Sl) (i_1:Bool) (t6:Bool) (t8:OAd) (t9:Int) (Q:VWP) (nx1:Sl→Bool→Bool→OAd→Int→WP) (w:World):Prop :=
 qhc.j8 d_0 i_1 t6 t8 t9 d_0 (d_0.len:Int) 0 Q nx1 w
def qhc.b1 (d_0:Sl) (i_1:Bool) (t6:Bool) (t8:OAd) (t9:Int) (Q:VWP) (nx1:Sl→Bool→Bool→OAd→Int→WP) (w:World):Prop :=
 br (decide (t9≤15)) (
 qhc.j6 d_0 i_1 t6 t8 t9 Q nx1 w) (
 qhc.j3 d_0 i_1 t6 t8 Q w)
def qhc.l1 (d_0:Sl) (i_1:Bool) (t6:Bool) (t8:OAd) (t9:Int) (Q:VWP) (w:World):Prop :=
 ∃ (I:Int→WP) (μ:Int→World→Nat),I t9 w∧∀ t9:Int,∀ w:World,I t9 w→qhc.b1 d_0 i_1 t6 t8 t9 Q (fun d_0' i_1' t6' t8' t9' w'=>(d_0'=d_0∧i_1'=i_1∧t6'=t6∧t8'=t8)∧I t9' w'∧μ t9' w' < μ t9 w) w
def qhc.j5 (d_0:Sl) (i_1:Bool) (t6:Bool) (t8:OAd) (t9:Int) (Q:VWP) (w:World):Prop :=
 qhc.l1 d_0 i_1 t6 t8 t9 Q w
def qhc.j2 (d_0:Sl) (i_1:Bool) (t6:Bool) (t8:OAd) (Q:VWP) (w:World):Prop :=
 qhc.j5 d_0 i_1 t6 t8 1 Q w
def qhc.j1 (d_0:Sl) (i_1:Bool) (t6:Bool) (t7:Int) (Q:VWP) (w:World):Prop :=
 br (t7 != 0) (
 Q (.tuple ⟨[.pointer none,.int .i64 t7]⟩) w) (
 nw w ⟨[]⟩ 3 fun a28 w29 =>
 rdO w29 d_0.a (d_0.len * 1) fun c30 =>
 apK Tryz.prog 3 w29 (some a28) 0 0 d_0.len c30 fun s31 w32 =>
 cr_G 291 [sV d_0] w32 fun r35 w34 =>
 (r35).size=16 ∧
 nw w34 (⟨(spl [sV s31,.slice none 0 0,.int .i64 0,.int .i64 0,.int .i64 0,.int .i64 0,.int .i64 0,.int .i64 0,.int .i64 0,.int .i64 0,.int .i64 0,.int .i64 0,.int .i64 0,.int .i64 0,.int .i64 0,.int .i64 0,.int .i64 0,.int .i64 0,.slice none 0 0] 2 r35)⟩:Array Value) 404 fun a36 w37 =>
 qhc.j2 d_0 i_1 t6 (some a36) Q w37)
def qhc (d_0:Sl) (i_1:Bool) (Q:VWP) (w:World):Prop :=
 ct_BI 290 [sV d_0] w fun r40 r41 w39 =>
 qhc.j1 d_0 i_1 r40 r41 Q w39
theorem qhc.ok (d_0:Sl) (i_1:Bool) (Q:VWP) (w:World) (h:qhc d_0 i_1 Q w):Calls Tryz.prog 259 ⟨[sV d_0,.bool i_1]⟩ w (Ret Q) :=
 qqc [.tmp 4,.tmp 5] qbe Tryz.func259 rfl rfl rfl rfl (.pr 1 [sL 0,sB 1,sB 6,sI 7] (fun a b c d w=>qhc.j1 a b c d Q w) (.pr 1 [sL 0,sB 1,sB 6,sP 8] (fun a b c d w=>qhc.j2 a b c d Q w) (.sq [sL 0,sB 1,sB 6,sP 8] (fun a b c d w=>qhc.j3 a b c d Q w) (.sq [sL 0,sB 1,sB 6,sP 8,sI 9] (fun a b c d e w=>qhc.j5 a b c d e Q w) .lf (.bk (.lo [sL 0,sB 1,sB 6,sP 8] [sI 9] (fun a b c d e w=>qhc.l1 a b c d e Q w) (fun nx1 a b c d e w=>qhc.b1 a b c d e Q nx1 w) fun nx1=>(.sq [sL 0,sB 1,sB 6,sP 8,sI 9] (fun a b c d e w=>qhc.j6 a b c d e Q nx1 w) .lf (.sq [sL 0,sB 1,sB 6,sP 8,sI 9] (fun a b c d e w=>qhc.j7 a b c d e Q nx1 w) (.bk (.sq [sL 0,sB 1,sB 6,sP 8,sI 9,sL 31,sI 32,sI 33] (fun a b c d e f g h w=>qhc.j8 a b c d e f g h Q nx1 w) .lf (.bk (.lo [sL 0,sB 1,sB 6,sP 8,sI 9,sL 31,sI 32] [sI 33] (fun a b c d e f g h w=>qhc.l2 a b c d e f g h Q nx1 w) (fun nx2 a b c d e f g h w=>qhc.b2 a b c d e f g h Q nx1 nx2 w) fun nx2=>.lf)))) .lf))))) (.sq [sL 0,sP 8] (fun a b w=>qhc.j4 a b Q w) .lf .lf)))) (by kernel_rfl) h
def qwf (c_0:OAd) (Q:VWP) (w:World):Prop :=
 nz c_0 fun a1 =>
 ldL w (Addr.add a1 18) fun x2 =>
 br ((x2.len:Int) == 0) (
 Q (.int .i64 1) w) (
 lt (World.drew w) fun w3 =>
 nz c_0 fun a4 =>
 ldL w3 (Addr.add a4 0) fun x5 =>
 nz c_0 fun a6 =>
 ldL w3 (Addr.add a6 18) fun x7 =>
 nz c_0 fun a8 =>
 ldL w3 (Addr.add a8 18) fun x9 =>
 lt (IntKind.i64.wrap ((x9.len:Int) - 1)) fun x10 =>
 ixS x7.a x7.len x10 1 fun a11 =>
 ldI .i64 w3 a11 fun x12 =>
 ixS x5.a x5.len x12 1 fun a13 =>
 ldI .i64 w3 a13 fun x14 =>
 Q (.int .i64 x14) w3)
theorem qwf.ok (c_0:OAd) (Q:VWP) (w:World) (h:qwf c_0 Q w):Calls Tryz.prog 339 ⟨[.pointer c_0]⟩ w (Ret Q) :=
 qqc [.tmp 2] qbe Tryz.func339 rfl rfl rfl rfl .lf (by kernel_rfl) h
def qbc.j3  (Q:VWP) (w:World):Prop :=
 Q (.tuple ⟨[.int .i64 0,.int .i64 2]⟩) w
def qbc.b1 (d_0 t9:OAd) (t6:Int) (t7 t8 t10:Int) (Q:VWP) (nx1:OAd→OAd→Int→Int→Int→Int→WP) (w:World):Prop :=
 qxi 339 [.pointer d_0] w fun r3 w2 =>
 br (decide (t10≤r3)) (
 ct_IB 321 [.pointer t9,.int .i64 1] w2 fun r6 r7 w5 =>
 br (!r7) (
 Q (.tuple ⟨[.int .i64 0,.int .i64 3]⟩) w5) (
 (0:Int)≤1 ∧
 lt (qqi .i64 t6 1) fun x8 =>
 lt (orV .i64 x8 r6) fun x9 =>
 (0:Int)≤1 ∧
 lt (qqi .i64 t7 1) fun x10 =>
 lt (IntKind.i64.wrap (x9 - x10)) fun x11 =>
 nz d_0 fun a12 =>
 ixA (Addr.add a12 2) 16 t10 1 fun a13 =>
 ldI .i64 w5 a13 fun x14 =>
 br (decide (x11 < x14)) (
 nz d_0 fun a15 =>
 ldL w5 (Addr.add a15 18) fun x16 =>
 lt (IntKind.i64.wrap (t8+x11)) fun x17 =>
 ixS x16.a x16.len x17 1 fun a18 =>
 ldI .i64 w5 a18 fun x19 =>
 Q (.tuple ⟨[.int .i64 x19,.int .i64 0]⟩) w5) (
 nz d_0 fun a20 =>
 ixA (Addr.add a20 2) 16 t10 1 fun a21 =>
 ldI .i64 w5 a21 fun x22 =>
 lt (IntKind.i64.wrap (t8+x22)) fun x23 =>
 nz d_0 fun a24 =>
 ixA (Addr.add a24 2) 16 t10 1 fun a25 =>
 ldI .i64 w5 a25 fun x26 =>
 lt (IntKind.i64.wrap (x10+x26)) fun x27 =>
 lt (IntKind.i64.wrap (t10+1)) fun x28 =>
 nx1 d_0 t9 x9 x27 x23 x28 w5))) (
 qbc.j3 Q w2)
def qbc.l1 (d_0 t9:OAd) (t6:Int) (t7 t8 t10:Int) (Q:VWP) (w:World):Prop :=
 ∃ (I:Int→Int→Int→Int→WP) (μ:Int→Int→Int→Int→World→Nat),I t6 t7 t8 t10 w∧∀ t6:Int,∀ t7:Int,∀ t8:Int,∀ t10:Int,∀ w:World,I t6 t7 t8 t10 w→qbc.b1 d_0 t9 t6 t7 t8 t10 Q (fun d_0' t9' t6' t7' t8' t10' w'=>(d_0'=d_0∧t9'=t9)∧I t6' t7' t8' t10' w'∧μ t6' t7' t8' t10' w' < μ t6 t7 t8 t10 w) w
def qbc.j4 (d_0:OAd) (t6:Int) (t7 t8:Int) (t9:OAd) (t10:Int) (Q:VWP) (w:World):Prop :=
 qbc.l1 d_0 t9 t6 t7 t8 t10 Q w
def qbc.j2 (d_0:OAd) (t6:Int) (t7 t8:Int) (t9:OAd) (Q:VWP) (w:World):Prop :=
 qbc.j4 d_0 t6 t7 t8 t9 1 Q w
def qbc.j1 (d_0 i_1:OAd) (Q:VWP) (w:World):Prop :=
 qbc.j2 d_0 0 0 0 i_1 Q w
def qbc (d_0 i_1:OAd) (Q:VWP) (w:World):Prop :=
 qbc.j1 d_0 i_1 Q w
theorem qbc.ok (d_0:OAd) (i_1:OAd) (Q:VWP) (w:World) (h:qbc d_0 i_1 Q w):Calls Tryz.prog 326 ⟨[.pointer d_0,.pointer i_1]⟩ w (Ret Q) :=
 qqc [.tmp 4,.tmp 5] qbe Tryz.func326 rfl rfl rfl rfl (.sq [sP 0,sP 1] (fun a b w=>qbc.j1 a b Q w) .lf (.pr 1 [sP 0,sI 6,sI 7,sI 8,(9,.c1 321)] (fun a b c d e w=>qbc.j2 a b c d e Q w) (.sq [] (fun  w=>qbc.j3 Q w) (.sq [sP 0,sI 6,sI 7,sI 8,(9,.c1 321),sI 10] (fun a b c d e f w=>qbc.j4 a b c d e f Q w) .lf (.bk (.lo [sP 0,(9,.c1 321)] [sI 6,sI 7,sI 8,sI 10] (fun a b c d e f w=>qbc.l1 a b c d e f Q w) (fun nx1 a b c d e f w=>qbc.b1 a b c d e f Q nx1 w) fun nx1=>.lf))) .lf))) (by kernel_rfl) h
def qrf (c_0 w_1:OAd) (sym_2:Int) (Q:VWP) (w:World):Prop :=
 br (decide (sym_2 < 0)) (
 Q (.bool false) w) (
 nz c_0 fun a1 =>
 ldL w (Addr.add a1 0) fun x2 =>
 br (decide (sym_2 ≥ (x2.len:Int))) (
 Q (.bool false) w) (
 nz c_0 fun a3 =>
 ldL w (Addr.add a3 0) fun x4 =>
 ixS x4.a x4.len sym_2 1 fun a5 =>
 ldI .i64 w a5 fun x6 =>
 br (x6 == 0) (
 Q (.bool false) w) (
 lt (World.drew w) fun w7 =>
 nz c_0 fun a8 =>
 ldL w7 (Addr.add a8 1) fun x9 =>
 ixS x9.a x9.len sym_2 1 fun a10 =>
 ldI .i64 w7 a10 fun x11 =>
 nz c_0 fun a12 =>
 ldL w7 (Addr.add a12 0) fun x13 =>
 ixS x13.a x13.len sym_2 1 fun a14 =>
 ldI .i64 w7 a14 fun x15 =>
 ct_ 301 [.pointer w_1,.int .i64 x11,.int .i64 x15] w7 fun w17 =>
 Q (.bool true) w17)))
theorem qrf.ok (c_0:OAd) (w_1:OAd) (sym_2:Int) (Q:VWP) (w:World) (h:qrf c_0 w_1 sym_2 Q w):Calls Tryz.prog 266 ⟨[.pointer c_0,.pointer w_1,.int .i64 sym_2]⟩ w (Ret Q) :=
 qqc [.tmp 6] qbe Tryz.func266 rfl rfl rfl rfl .lf (by kernel_rfl) h
end Go.Proofs.YtejnemneenjliaaGreat
namespace Go.Proofs.YtejnemneenjliaaGreat
open Go Go.Proofs
set_option linter.unusedVariables false
set_option linter.unusedSimpArgs false
attribute [local irreducible] apK cpK mkK
theorem zc_a16:zc Tryz.prog 401=⟨ivs .i64 (List.replicate 16 0)⟩:=by kernel_rfl
theorem ptI_i {k:IntKind} {zs:List Int} {j:Nat} {K:Int→Prop} (hj:j < zs.length) (hk:K (zs.getD j 0)):ptI k ⟨ivs k zs⟩ j K:=⟨zs.getD j 0,by
 have:(⟨ivs k zs⟩:Array Value)[j]?=(ivs k zs)[j]?:=by simp
 rw [this]; exact qxn hj,hk⟩
theorem shl1 {x:Int} (h:0≤x∧x < 1000000000000):qqi .i64 x 1=2 * x:=by
 have h:=qfi .i64 (x:=x) (t:=1) (by decide) h.1 (by rw [show (2:Int) ^ (IntKind.i64.bits - 1)=9223372036854775808 by decide]; omega)
 rw [show (2:Int) ^ 1=2 by decide,Int.mul_comm] at h
 exact h
theorem shl_room {c n:Nat} (hc:c≤100000) (hn:n≤15):qqi .i64 (c:Int) (n:Int)=((c * 2 ^ n:Nat):Int):=by
 have hp:(2:Nat) ^ n≤32768:=Nat.le_trans (Nat.pow_le_pow_right (by decide) hn) (by decide)
 have hp2:c * 2 ^ n≤100000 * 32768:=Nat.mul_le_mul hc hp
 rw [qfi .i64 (t:=n) (show n≤64 by omega) (by omega) (by
  rw [show (2:Int) ^ (IntKind.i64.bits - 1)=9223372036854775808 by decide]
  have:(c:Int) * 2 ^ n=((c * 2 ^ n:Nat):Int):=by simp
  rw [this]; omega)]
 simp
section
variable {F0:List Nat} {w0 w:World} {ps rest:List As} {ls:List Int}
theorem qbd.c {s:Sl} {K:Ending→World→Prop} (h:St F0 w0 w ps) [Rdb F0 w0 s ps 1 (ivs .i64 ls)] (ho:okL ls) (hL:ls.length≤1000000)
 (hk:∀ w',St F0 w0 w' ps→K (.returned (.agg ⟨ivs .i64 (clL ls)⟩)) w'):Calls Tryz.prog 291 ⟨[.slice s.a s.len s.cap]⟩ w K:=by
 have hl:=(h.rdb s).1
 rw [ql] at hl
 refine qfc (qbd.ok _ _ _ ?_)
 unfold qbd
 refine h.new fun n1 w h=>?_
 refine h.new fun n2 w h=>?_
 rw [zc_a16] at h
 have h:St F0 w0 w (qzc n2 (ivs .i64 (List.replicate 16 0)) :: qzc n1 (ivs .i64 (List.replicate 16 0)) :: ps):=h
 unfold qbd.j1 qbd.j3
 refine qmg (fun (i:Nat) (i':Int) w'=>i'=i∧i≤ls.length∧St F0 w0 w' (qzc n2 (ivs .i64 (clL (ls.take i))) :: qzc n1 (ivs .i64 (List.replicate 16 0)) :: ps)) (fun i=>ls.length - i) 0 ⟨rfl,by omega,by rw [List.take_zero,clL_nil]; exact h⟩ ?_
 clear h
 rintro i i' w I μ ⟨rfl,hi,h⟩ hin
 unfold qbd.b1
 refine qnc (fun g=>?_) (fun g=>?_)
 · have hil:i < ls.length:=by omega
   have hx:=ho _ (qee hil)
   have htk:=qji hil
   have hcl:=hc_le (ls.take i) (ls.getD i 0).toNat
   rw [List.length_take] at hcl
   refine h.lx i rfl hil ?_
   generalize ls.getD i 0=x at hx htk hcl
   refine qnc (fun g2=>?_) (fun g2=>?_)
   · refine h.la x.toNat (by omega) (qmf _) (by omega) ?_
     rw [qmq _ (by omega)]
     refine qn (qd (by omega) (by omega)) ?_
     refine h.sa x.toNat (by omega) (qmf _) (by omega) fun w h=>?_
     refine qn (qd (by omega) (by omega)) ?_
     rw [clL_pos (by omega) hx.2,← htk] at h
     exact ⟨⟨rfl,rfl,rfl,rfl⟩,hin (i+1) _ _ ⟨by omega,by omega,h⟩ (by omega)⟩
   · refine qn (qd (by omega) (by omega)) ?_
     rw [← clL_no (x:=x) (by omega),← htk] at h
     exact ⟨⟨rfl,rfl,rfl,rfl⟩,hin (i+1) _ _ ⟨by omega,by omega,h⟩ (by omega)⟩
 · have:i=ls.length:=by omega
   subst this
   rw [List.take_length] at h
   unfold qbd.j2
   have l16:(ivs .i64 (clL ls)).length=16:=by rw [ql]; exact qmf _
   refine h.lA l16 ⟨l16,?_⟩
   refine h.sA (b:=n1) (by rw [ql]; simp) l16 qtf fun w h=>?_
   refine h.lA l16 ?_
   exact hk w h.sub
theorem qdc.c {s:Sl} {K:Ending→World→Prop} (h:St F0 w0 w ps) [Rdb F0 w0 s ps 1 (ivs .i64 ls)]
 (hk:∀ w',St F0 w0 w' ps→K (.returned (.tuple ⟨[.bool (qwl ls).1,.int .i64 (qwl ls).2]⟩)) w'):Calls Tryz.prog 290 ⟨[.slice s.a s.len s.cap]⟩ w K:=by
 have hl:=(h.rdb s).1
 rw [ql] at hl
 refine qfc (qdc.ok _ _ _ ?_)
 unfold qdc
 unfold qwl at hk
 refine qnc (fun g=>?_) (fun g=>?_)
 · rw [if_pos (by omega)] at hk
   exact hk w h
 rw [if_neg (by omega)] at hk
 unfold qdc.j1 qdc.j6
 refine qmg (fun (i:Nat) (i':Int) w'=>i'=i∧i≤ls.length∧okL (ls.take i)∧St F0 w0 w' ps) (fun i=>ls.length - i) 0 ⟨rfl,by omega,fun x hx=>by simp at hx,h⟩ ?_
 clear h
 rintro i i' w I μ ⟨rfl,hi,hok,h⟩ hin
 unfold qdc.b2
 refine qnc (fun g2=>?_) (fun g2=>?_)
 · have hil:i < ls.length:=by omega
   have bad:¬ (0≤ls.getD i 0∧ls.getD i 0≤15)→K (.returned (.tuple ⟨[.bool false,.int .i64 1]⟩)) w:=fun hn=>by
    rw [if_pos (fun e=>hn (e _ (qee hil)))] at hk
    exact hk w h
   refine h.lx i rfl hil ?_
   refine qnc (fun g3=>bad (by omega)) (fun g3=>?_)
   refine qnc (fun g4=>bad (by omega)) (fun g4=>?_)
   refine qn (qd (by omega) (by omega)) ?_
   refine ⟨⟨rfl,rfl,rfl⟩,hin (i+1) _ _ ⟨by omega,by omega,?_,h⟩ (by omega)⟩
   rw [qji hil]
   intro x hx
   rcases List.mem_append.1 hx with hx | hx
   · exact hok x hx
   · rw [List.mem_singleton.1 hx]; omega
 have:i=ls.length:=by omega
 subst this
 rw [List.take_length] at hok
 clear hin
 rw [if_neg (fun e=>e hok)] at hk
 unfold qdc.j2 qdc.j3
 refine qbd.c h hok (by omega) fun w h=>⟨_,rfl,?_⟩
 unfold qdc.j5
 have hkr:=kr_eq ls hok
 have hkl:=kr_le ls
 refine qkg (fun (n:Nat) (r n':Int) w'=>n'=n∧n≤16∧r=32768 - (krN ls (n - 1):Int)∧St F0 w0 w' ps) (fun n=>16 - n) 0 ⟨rfl,by omega,by simp [krN],h⟩ ?_
 clear h
 rintro n r n' w I μ ⟨rfl,hn,rfl,h⟩ hin
 unfold qdc.b1
 refine qnc (fun g3=>?_) (fun g3=>?_)
 · refine ⟨⟨by omega,by omega⟩,ptI_i (by rw [qmf]; omega) ?_⟩
   rw [show ((n:Int)).toNat * 1=n by omega,qmq _ (by omega)]
   have hm:=krN_mono ls 15 (n - 1) (by omega)
   refine qnc (fun g4=>?_) (fun g4=>?_)
   · refine qn (show IntKind.i64.wrap (15 - (n:Int))=((15 - n:Nat):Int) by rw [qd (by omega) (by omega)]; omega) ?_
     have hcl:=hc_le ls n
     refine ⟨by omega,qn (shl_room (by omega) (by omega)) ?_⟩
     obtain ⟨m,rfl⟩:∃ m,n=m+1:=⟨n - 1,by omega⟩
     have hm2:=krN_mono ls 15 (m+1) (by omega)
     have hst:krN ls (m+1)=krN ls m+hc ls (m+1) * 2 ^ (15 - (m+1)):=rfl
     rw [Nat.add_sub_cancel] at hm ⊢
     refine qn (qd (by omega) (by omega)) ?_
     refine qn (qd (by omega) (by omega)) ?_
     exact ⟨rfl,hin (m+1+1) _ _ _ ⟨by omega,by omega,by rw [Nat.add_sub_cancel,hst]; omega,h⟩ (by omega)⟩
   · have:n=0:=by omega
     subst this
     refine qn (qd (by omega) (by omega)) ?_
     exact ⟨rfl,hin 1 _ _ _ ⟨by omega,by omega,rfl,h⟩ (by omega)⟩
 · have:n=16:=by omega
   subst this
   have e:krN ls (16 - 1)=kr ls:=hkr.symm
   rw [e]
   unfold qdc.j4
   refine qnc (fun g4=>?_) (fun g4=>?_)
   · rw [if_pos (by omega)] at hk
     exact hk w h
   · rw [if_neg (by omega)] at hk
     have e:((32768 - (kr ls:Int)) == 0)=decide (kr ls=32768):=by
      apply Bool.eq_iff_iff.2
      rw [beq_iff_eq,decide_eq_true_eq]
      omega
     rw [e]
     exact hk w h
def nxL (l:List Int) (n:Nat):List Int:=qfj 16 fun m=>if m < n then (hf l m:Int) else 0
def nyL (l:List Int) (i:Nat):List Int:=qfj 16 fun m=>((hf l m+hc (l.take i) m:Nat):Int)
def cdL (l:List Int) (i:Nat):List Int:=qfj l.length fun m=>if m < i then (qbg l m:Int) else 0
theorem qyb.c {s:Sl} {K:Ending→World→Prop} (h:St F0 w0 w ps) [Rdb F0 w0 s ps 1 (ivs .i64 ls)]
 (hk:∀ s' w',(qwl ls).2=0→St F0 w0 w' (qcc 1 s' (ivs .i64 (hcodes ls)) :: ps)→K (.returned (.tuple ⟨[.slice s'.a s'.len s'.cap,.int .i64 0]⟩)) w')
 (hk2:∀ w',(qwl ls).2 ≠ 0→St F0 w0 w' ps→K (.returned (.tuple ⟨[.slice none 0 0,.int .i64 (qwl ls).2]⟩)) w'):Calls Tryz.prog 292 ⟨[.slice s.a s.len s.cap]⟩ w K:=by
 have hl:=(h.rdb s).1
 rw [ql] at hl
 refine qfc (qyb.ok _ _ _ ?_)
 unfold qyb
 refine qdc.c h fun w h=>⟨_,_,rfl,?_⟩
 refine qne (fun g=>?_) (fun g=>?_)
 · exact hk2 w (by simpa using g) h
 have g:(qwl ls).2=0:=by simpa using g
 obtain ⟨hok,hkr,hlen,_⟩:=qtr g
 unfold qyb.j1
 refine h.new fun n1 w h=>?_
 rw [zc_a16] at h
 have h:St F0 w0 w (qzc n1 (ivs .i64 (List.replicate 16 0)) :: ps):=h
 refine qbd.c h hok (by omega) fun w h=>⟨_,rfl,?_⟩
 refine h.new fun n2 w h=>?_
 rw [zc_a16] at h
 have h:St F0 w0 w (qzc n2 (ivs .i64 (List.replicate 16 0)) :: qzc n1 (ivs .i64 (List.replicate 16 0)) :: ps):=h
 have l16:(ivs .i64 (clL ls)).length=16:=by rw [ql]; exact qmf _
 refine ⟨l16,?_⟩
 refine h.sA (b:=n2) (by rw [ql]; simp) l16 qtf fun w h=>?_
 unfold qyb.j2 qyb.j7
 have nx0:List.replicate 16 0=nxL ls 1:=by
  rw [qpk]
  refine qpd fun i hi=>?_
  by_cases h:i < 1
  · rw [if_pos h,show i=0 by omega]; rfl
  · rw [if_neg h]
 rw [nx0] at h
 refine qmg (fun (n:Nat) (n':Int) w'=>n'=n∧1≤n∧n≤16∧St F0 w0 w' (qzc n1 (ivs .i64 (nxL ls n)) :: qzc n2 (ivs .i64 (clL ls)) :: ps)) (fun n=>16 - n) 1 ⟨rfl,by omega,by omega,h.sub⟩ ?_
 clear h
 rintro n n' w I μ ⟨rfl,hn1,hn,h⟩ hin
 unfold qyb.b2
 refine qnc (fun g3=>?_) (fun g3=>?_)
 · obtain ⟨m,rfl⟩:∃ m,n=m+1:=⟨n - 1,by omega⟩
   have hb:=qwj ls hok hkr (n:=m) (by omega)
   refine h.drewK fun w h=>?_
   refine qn (qd (by omega) (by omega)) ?_
   refine h.la (b:=n1) m (by omega) (qad _ _) (by omega) ?_
   refine qn (qd (by omega) (by omega)) ?_
   refine h.la (b:=n2) m (by omega) (qmf _) (by omega) ?_
   have e1:(nxL ls (m+1)).getD m 0=hf ls m:=by unfold nxL; rw [qbf (by omega),if_pos (by omega)]
   rw [e1,qmq _ (by omega)]
   refine qn (qd (by omega) (by omega)) ?_
   refine ⟨by decide,qn (shl1 (by omega)) ?_⟩
   refine h.sa (b:=n1) (m+1) (by omega) (qad _ _) (by omega) fun w h=>?_
   refine qn (qd (by omega) (by omega)) ?_
   have e2:(nxL ls (m+1)).set (m+1) (2 * ((hf ls m:Int)+(hc ls m:Int)))=nxL ls (m+1+1):=by
    unfold nxL
    rw [qpj]
    refine qpd fun i hi=>?_
    by_cases h:i=m+1
    · rw [if_pos h,if_pos (by omega),h,hf]; omega
    · rw [if_neg h]
      by_cases h2:i < m+1
      · rw [if_pos h2,if_pos (by omega)]
      · rw [if_neg h2,if_neg (by omega)]
   rw [e2] at h
   exact ⟨⟨rfl,rfl,rfl⟩,hin (m+1+1) _ _ ⟨by omega,by omega,by omega,h⟩ (by omega)⟩
 have:n=16:=by omega
 subst this
 clear hin
 have ny0:nxL ls 16=nyL ls 0:=qpd fun i hi=>by
  rw [if_pos hi,List.take_zero]
  simp [hc]
 rw [ny0] at h
 unfold qyb.j3
 refine h.makeI (n:=ls.length) (by omega) (by omega) (by omega) fun o w ho1 ho2 h=>?_
 unfold qyb.j4 qyb.j6
 have cd0:List.replicate ls.length 0=cdL ls 0:=by
  rw [qpk]
  exact qpd fun i hi=>by rw [if_neg (by omega)]
 rw [cd0] at h
 refine qmg (fun (i:Nat) (i':Int) w'=>i'=i∧i≤ls.length∧St F0 w0 w' (qcc 1 o (ivs .i64 (cdL ls i)) :: qzc n1 (ivs .i64 (nyL ls i)) :: ps)) (fun i=>ls.length - i) 0 ⟨rfl,by omega,h.sub⟩ ?_
 clear h
 rintro i i' w I μ ⟨rfl,hi,h⟩ hin
 unfold qyb.b1
 refine qnc (fun g4=>?_) (fun g4=>?_)
 · have hil:i < ls.length:=by omega
   have hx:=hok _ (qee hil)
   have cds:∀ v:Int,v=qbg ls i→(cdL ls i).set i v=cdL ls (i+1):=by
    intro v hv
    unfold cdL
    rw [qpj]
    refine qpd fun j hj=>?_
    by_cases h:j=i
    · rw [if_pos h,if_pos (by omega),h,hv]
    · rw [if_neg h]
      by_cases h2:j < i
      · rw [if_pos h2,if_pos (by omega)]
      · rw [if_neg h2,if_neg (by omega)]
   refine h.lx i rfl hil ?_
   refine qnc (fun g5=>?_) (fun g5=>?_)
   · obtain ⟨m,hm⟩:∃ m:Nat,ls.getD i 0=m:=⟨(ls.getD i 0).toNat,by omega⟩
     have hce:=hcode_eq hm (by omega)
     have hsz:=qit hok hkr hil hm (by omega)
     have hp:(2:Nat) ^ m≤32768:=Nat.le_trans (Nat.pow_le_pow_right (by decide) (show m≤15 by omega)) (by decide)
     have eg:(nyL ls i).getD m 0=qbg ls i:=by unfold nyL; rw [qbf (by omega),hce]
     rw [hm] at g5 hx ⊢
     refine h.la (b:=n1) m rfl (qad _ _) (by omega) ?_
     rw [eg]
     refine h.sx (s:=o) i rfl (by unfold cdL; rw [qad]; exact hil) fun w h=>?_
     refine h.la (b:=n1) m rfl (qad _ _) (by omega) ?_
     rw [eg]
     refine qn (qd (by omega) (by omega)) ?_
     refine h.sa (b:=n1) m rfl (qad _ _) (by omega) fun w h=>?_
     refine qn (qd (by omega) (by omega)) ?_
     have eny:(nyL ls i).set m ((qbg ls i:Int)+1)=nyL ls (i+1):=by
      unfold nyL
      rw [qpj]
      refine qpd fun j hj=>?_
      rw [qji hil,qqm,hm]
      by_cases h:j=m
      · rw [if_pos h,if_pos (by omega),h,hce]; omega
      · rw [if_neg h,if_neg (by omega)]; omega
     rw [cds _ rfl,eny] at h
     exact ⟨⟨rfl,rfl,rfl,rfl⟩,hin (i+1) _ _ ⟨by omega,by omega,h.sub⟩ (by omega)⟩
   · refine qn (qd (by omega) (by omega)) ?_
     have ecd:cdL ls i=cdL ls (i+1):=by
      refine qpd fun j hj=>?_
      by_cases h2:j < i
      · rw [if_pos h2,if_pos (by omega)]
      · rw [if_neg h2]
        by_cases h3:j=i
        · rw [if_pos (by omega),h3,hcode_no (by omega)]; rfl
        · rw [if_neg (by omega)]
     have eny:nyL ls i=nyL ls (i+1):=by
      refine qpd fun j hj=>?_
      rw [qji hil,qqm,if_neg (by omega)]
      rfl
     rw [ecd,eny] at h
     exact ⟨⟨rfl,rfl,rfl,rfl⟩,hin (i+1) _ _ ⟨by omega,by omega,h⟩ (by omega)⟩
 · have:i=ls.length:=by omega
   subst this
   have e:cdL ls ls.length=hcodes ls:=by
    show qfj _ _=qfj _ fun i=>(qbg ls i:Int)
    exact qpd fun j hj=>by rw [if_pos hj]
   rw [e] at h
   unfold qyb.j5
   exact hk o w g h.sub
end
end Go.Proofs.YtejnemneenjliaaGreat
namespace Go.Proofs.YtejnemneenjliaaGreat
open Go Go.Proofs
set_option linter.unusedVariables false
set_option linter.unusedSimpArgs false
attribute [local irreducible] apK cpK mkK
def nats (l:List Nat):List Int:=l.map fun n:Nat=>(n:Int)
theorem qki (l:List Nat):(nats l).length=l.length:=by simp [nats]
theorem nats_getD (l:List Nat) (i:Nat):(nats l).getD i 0=((l.getD i 0:Nat):Int):=by
 unfold nats
 rw [List.getD_eq_getElem?_getD,List.getElem?_map,List.getD_eq_getElem?_getD]
 cases l[i]? <;> rfl
theorem hsyms_le (l:List Int):∀ n,(qre l n).length≤n * l.length:=by
 intro n
 induction n with
 | zero=>simp [qre]
 | succ n ih =>
   have h4:=qag l (n+1)
   have h5:=List.count_le_length (a:=((n+1:Nat):Int)) (l:=l)
   rw [qre,List.length_append,Nat.succ_mul]
   omega
def hcC (s1 s2 s3:Sl) (ls:List Int):List Value:=.slice s1.a s1.len s1.cap :: .slice s2.a s2.len s2.cap :: (ivs .i64 (clL ls) ++ [.slice s3.a s3.len s3.cap])
theorem qur (s1 s2 s3:Sl) (ls:List Int):(hcC s1 s2 s3 ls)[18]?=some (.slice s3.a s3.len s3.cap):=by
 unfold hcC
 rw [List.getElem?_cons_succ,List.getElem?_cons_succ,List.getElem?_append_right (by rw [ql,qmf]; decide),ql,qmf]
 rfl
theorem hcC_n (s1 s2 s3:Sl) (ls:List Int) {n:Nat} (h:n < 16):(hcC s1 s2 s3 ls)[2+n]?=some (.int .i64 (hc ls n)):=by
 unfold hcC
 rw [show 2+n=n+1+1 by omega,List.getElem?_cons_succ,List.getElem?_cons_succ,List.getElem?_append_left (by rw [ql,qmf]; exact h),qxn (by rw [qmf]; exact h),qmq _ h]
theorem qjt (s1 s2 s3:Sl) (ls:List Int):(hcC s1 s2 s3 ls).length=19:=by
 unfold hcC
 rw [List.length_cons,List.length_cons,List.length_append,ql,qmf]
 rfl
theorem hcC_set18 (s1 s2 s3 s:Sl) (ls:List Int):(hcC s1 s2 s3 ls).set 18 (.slice s.a s.len s.cap)=hcC s1 s2 s ls:=by
 unfold hcC
 rw [List.set_cons_succ,List.set_cons_succ,List.set_append_right _ _ (by rw [ql,qmf]; decide),ql,qmf]
 rfl
theorem hcC_set1 (s1 s2 s3 s:Sl) (ls:List Int):(hcC s1 s2 s3 ls).set 1 (.slice s.a s.len s.cap)=hcC s1 s s3 ls:=rfl
theorem spl_hc (s:Sl) (f:Nat→Int):spl [.slice s.a s.len s.cap,.slice none 0 0,.int .i64 0,.int .i64 0,.int .i64 0,.int .i64 0,.int .i64 0,.int .i64 0,.int .i64 0,.int .i64 0,.int .i64 0,.int .i64 0,.int .i64 0,.int .i64 0,.int .i64 0,.int .i64 0,.int .i64 0,.int .i64 0,.slice none 0 0] 2 ⟨ivs .i64 (qfj 16 f)⟩ =
 .slice s.a s.len s.cap :: .slice none 0 0 :: (ivs .i64 (qfj 16 f) ++ [.slice none 0 0]):=by kernel_rfl
section
variable {F0:List Nat} {w0 w:World} {ps rest:List As} {ls:List Int}
def hcA (cb:Nat) (ls:List Int):As:=exA fun s:Sl × Sl × Sl=>ifA (okL ls∧kr ls≤32768∧ls.length≤288) <| andA (qzc cb (hcC s.1 s.2.1 s.2.2 ls)) <| andA (qcc 1 s.1 (ivs .i64 ls)) <| andA (qcc 1 s.2.1 (ivs .i64 (hcodes ls))) (qcc 1 s.2.2 (ivs .i64 (nats (qre ls 15))))
theorem qlp (cb:Nat) (h:St F0 w0 w ps) [PkF hcA cb ps ls rest]:okL ls∧kr ls≤32768∧ls.length≤288∧∃ s1 s2 s3:Sl,Blk w cb (hcC s1 s2 s3 ls)∧Rd w 1 s1 (ivs .i64 ls)∧Rd w 1 s2 (ivs .i64 (hcodes ls))∧Rd w 1 s3 (ivs .i64 (nats (qre ls 15))):=by
 obtain ⟨s,h⟩:=(h.toF hcA cb).exE
 obtain ⟨⟨h1,h2,h3⟩,h⟩:=h.ifE
 have h:=h.split
 have g:=h.drop.split
 have g2:=g.drop.split
 exact ⟨h1,h2,h3,s.1,s.2.1,s.2.2,h.blk,g.ord,g2.ord,g2.drop.ord⟩
theorem hcA_i {cb:Nat} {s1 s2 s3:Sl} (h1:okL ls) (h2:kr ls≤32768) (h3:ls.length≤288) (h:St F0 w0 w (qzc cb (hcC s1 s2 s3 ls) :: qcc 1 s1 (ivs .i64 ls) :: qcc 1 s2 (ivs .i64 (hcodes ls)) :: qcc 1 s3 (ivs .i64 (nats (qre ls 15))) :: rest)):St F0 w0 w (hcA cb ls :: rest):=by
 have h:=(h.tail fun _ _ _ h=>(h.tail fun _ _ _ h=>h.join).join).join
 exact (h.ifI (c:=okL ls∧kr ls≤32768∧ls.length≤288) ⟨h1,h2,h3⟩).exI (p:=fun s:Sl × Sl × Sl=>ifA (okL ls∧kr ls≤32768∧ls.length≤288) <| andA (qzc cb (hcC s.1 s.2.1 s.2.2 ls)) <| andA (qcc 1 s.1 (ivs .i64 ls)) <| andA (qcc 1 s.2.1 (ivs .i64 (hcodes ls))) (qcc 1 s.2.2 (ivs .i64 (nats (qre ls 15))))) (s1,s2,s3)
theorem Blk.cnt {cb:Nat} {s1 s2 s3:Sl} {i:Int} {K:Int→Prop} (hb:Blk w cb (hcC s1 s2 s3 ls)) (n:Nat) (hi:i=n) (hn:n < 16) (hk:K (hc ls n)):ixA (Addr.add ⟨cb,0,none⟩ 2) 16 i 1 fun a=>Go.Proofs.YtejnemneenjliaaGreat.ldI .i64 w a K:=by
 subst hi
 refine ixA_b' (b:=cb) (o:=2) (by omega) (by omega) ?_
 refine hb.ldI ?_ hk
 rw [show 2+((n:Int)).toNat * 1=2+n by omega]
 exact hcC_n s1 s2 s3 ls hn
theorem hpos_take_sn {i:Nat} (h:i < ls.length) (n:Nat):qgl (ls.take (i+1)) n=qgl (ls.take i) n ++ if ls.getD i 0=n then [i] else []:=by
 rw [qji h,qpm,List.length_take,Nat.min_eq_left (by omega)]
theorem qhc.c {s:Sl} {half:Bool} {K:Ending→World→Prop} (h:St F0 w0 w ps) [Rdb F0 w0 s ps 1 (ivs .i64 ls)]
 (hk:∀ cb w',qcj ls half=0→St F0 w0 w' (hcA cb ls :: ps)→K (.returned (.tuple ⟨[.pointer (some ⟨cb,0,none⟩),.int .i64 0]⟩)) w')
 (hk2:∀ w',qcj ls half ≠ 0→St F0 w0 w' ps→K (.returned (.tuple ⟨[.pointer none,.int .i64 (qcj ls half)]⟩)) w'):Calls Tryz.prog 259 ⟨[.slice s.a s.len s.cap,.bool half]⟩ w K:=by
 have hl:=(h.rdb s).1
 rw [ql] at hl
 refine qfc (qhc.ok _ _ _ _ ?_)
 unfold qhc
 refine qdc.c h fun w h=>⟨_,_,rfl,?_⟩
 unfold qhc.j1
 refine qne (fun g=>?_) (fun g=>?_)
 · have g:(qwl ls).2 ≠ 0:=by simpa using g
   have e:qcj ls half=(qwl ls).2:=by unfold qcj; rw [if_pos g]
   rw [e] at hk2
   exact hk2 w g h
 have g:(qwl ls).2=0:=by simpa using g
 obtain ⟨hok,hkr,hlen,hfull⟩:=qtr g
 refine h.clone (k:=.i64) (s2:=s) (by omega) fun s1 w h=>?_
 refine qbd.c h hok (by omega) fun w h=>⟨_,rfl,?_⟩
 refine ⟨by show (ivs .i64 (clL ls)).length=16; rw [ql,qmf],?_⟩
 refine h.new fun cb w h=>?_
 have h:St F0 w0 w (qzc cb (hcC s1 ⟨none,0,0⟩ ⟨none,0,0⟩ ls) :: qcc 1 s1 (ivs .i64 ls) :: ps):=qnm (spl_hc s1 fun n=>(hc ls n:Int)) h
 unfold qhc.j2 qhc.j5
 refine qmg (fun (n:Nat) (n':Int) w'=>n'=n∧1≤n∧n≤16∧∃ s3,St F0 w0 w' (qzc cb (hcC s1 ⟨none,0,0⟩ s3 ls) :: qcc 1 s3 (ivs .i64 (nats (qre ls (n - 1)))) :: qcc 1 s1 (ivs .i64 ls) :: ps)) (fun n=>16 - n) 1 ⟨rfl,by omega,by omega,⟨none,0,0⟩,(h.nil 1).at1⟩ ?_
 clear h
 rintro n n' w I μ ⟨rfl,hn1,hn,s3,h⟩ hin
 obtain ⟨m,rfl⟩:∃ m,n=m+1:=⟨n - 1,by omega⟩
 rw [Nat.add_sub_cancel] at h
 unfold qhc.b1
 refine qnc (fun g2=>?_) (fun g2=>?_)
 · unfold qhc.j6 qhc.j8
   refine qmg (fun (i:Nat) (i':Int) w'=>i'=i∧i≤ls.length∧∃ s3,St F0 w0 w' (qzc cb (hcC s1 ⟨none,0,0⟩ s3 ls) :: qcc 1 s3 (ivs .i64 (nats (qre ls m ++ qgl (ls.take i) (m+1)))) :: qcc 1 s1 (ivs .i64 ls) :: ps)) (fun i=>ls.length - i) 0 ⟨rfl,by omega,s3,by
    have:qgl (ls.take 0) (m+1)=[]:=rfl
    rw [this,List.append_nil]; exact h⟩ ?_
   clear h
   rintro i i' w I2 μ2 ⟨rfl,hi,s4,h⟩ hin2
   unfold qhc.b2
   refine qnc (fun g3=>?_) (fun g3=>?_)
   · have hil:i < ls.length:=by omega
     have hps:=hpos_take_sn hil (m+1)
     refine h.lx (s:=s) i rfl hil ?_
     refine qne (fun g4=>?_) (fun g4=>?_)
     · have g4:ls.getD i 0=((m+1:Nat):Int):=by simpa using g4
       rw [if_pos g4] at hps
       refine qtd ((h.toB cb).blk.ldL (o:=18) (n:=s4) (qur _ _ _ _) ?_)
       have hln:(nats (qre ls m ++ qgl (ls.take i) (m+1))).length≤1099511627776:=by
        have h1:=qag (ls.take i) (m+1)
        have h2:=List.count_le_length (a:=((m+1:Nat):Int)) (l:=ls.take i)
        rw [List.length_take] at h2
        have h3:∀ n,(qre ls n).length≤n * ls.length:=by
         intro n
         induction n with
         | zero=>simp [qre]
         | succ n ih =>
           have h4:=qag ls (n+1)
           have h5:=List.count_le_length (a:=((n+1:Nat):Int)) (l:=ls)
           rw [qre,List.length_append,Nat.succ_mul]
           omega
        have h6:=h3 m
        have h7:m * ls.length≤16 * 288:=Nat.mul_le_mul (by omega) hlen
        rw [qki,List.length_append]
        omega
       refine h.pushI (s:=s4) hln fun s5 w h=>?_
       refine qtd ((h.toB cb).st (o:=18) (by rw [qjt]; decide) trivial fun w h=>?_)
       rw [hcC_set18] at h
       refine qn (qd (by omega) (by omega)) ?_
       refine ⟨⟨rfl,rfl,rfl,rfl,rfl,rfl,rfl⟩,hin2 (i+1) _ _ ⟨by omega,by omega,s5,?_⟩ (by omega)⟩
       have e:nats (qre ls m ++ qgl (ls.take i) (m+1)) ++ [(i:Int)]=nats (qre ls m ++ qgl (ls.take (i+1)) (m+1)):=by
        rw [hps]; simp [nats]
       rw [e] at h
       exact h.sub
     · have g4:¬ ls.getD i 0=((m+1:Nat):Int):=by simpa using g4
       rw [if_neg g4,List.append_nil] at hps
       refine qn (qd (by omega) (by omega)) ?_
       refine ⟨⟨rfl,rfl,rfl,rfl,rfl,rfl,rfl⟩,hin2 (i+1) _ _ ⟨by omega,by omega,s4,?_⟩ (by omega)⟩
       rw [hps]
       exact h
   · have:i=ls.length:=by omega
     subst this
     rw [List.take_length] at h
     unfold qhc.j7
     refine qn (qd (by omega) (by omega)) ?_
     exact ⟨⟨rfl,rfl,rfl,rfl⟩,hin (m+1+1) _ _ ⟨by omega,by omega,by omega,s4,h⟩ (by omega)⟩
 have:m=15:=by omega
 subst this
 clear hin
 have hs3l:=h.at1.len
 rw [ql,qki] at hs3l
 have fin:qcj ls half=0→qhc.j4 s (some ⟨cb,0,none⟩) (fun v w'=>K (.returned v) w') w:=by
  intro hn0
  unfold qhc.j4
  refine qyb.c h (fun s2 w _ h=>⟨s2,_,rfl,?_⟩) (fun w hne _=>absurd g hne)
  refine qtd ((h.toB cb).st (o:=1) (by rw [qjt]; decide) trivial fun w h=>?_)
  rw [hcC_set1] at h
  exact hk cb w hn0 (hcA_i (s1:=s1) (s2:=s2) (s3:=s3) hok hkr hlen h.sub)
 have bad:qcj ls half=2→K (.returned (.tuple ⟨[.pointer none,.int .i64 2]⟩)) w:=by
  intro hn2
  rw [hn2] at hk2
  exact hk2 w (by decide) h.sub
 have hnw:qcj ls half=if (qwl ls).1=false∧(half && hhalf ls)=false then 2 else 0:=by unfold qcj; rw [if_neg (by rw [g]; decide)]
 unfold qhc.j3
 refine qne (fun g5=>?_) (fun g5=>?_)
 · have g5:(qwl ls).1=false:=by simpa using g5
   refine qne (fun g6=>?_) (fun g6=>?_)
   · subst g6
     refine qtd ((h.toB cb).blk.ldL (o:=18) (n:=s3) (qur _ _ _ _) ?_)
     refine qne (fun g7=>?_) (fun g7=>?_)
     · have g7:s3.len=0:=by simpa using g7
       refine qsj (fin ?_)
       rw [hnw,if_neg]
       intro e
       have:hhalf ls=true:=by unfold hhalf; rw [decide_eq_true_eq]; omega
       rw [this] at e
       exact absurd e.2 (by decide)
     have g7:s3.len ≠ 0:=by simpa using g7
     refine qtd ((h.toB cb).blk.ldL (o:=18) (n:=s3) (qur _ _ _ _) ?_)
     refine qne (fun g8=>?_) (fun g8=>?_)
     · have g8:s3.len=1:=by have:((s3.len:Nat):Int)=1:=by simpa using g8
                            omega
       refine qtd ((h.toB cb).blk.cnt 1 rfl (by decide) ?_)
       refine qne (fun g9=>bad ?_) (fun g9=>fin ?_)
       · have g9:¬ (hc ls 1:Int)=1:=by simpa using g9
         have hh:(true && hhalf ls)=false:=by
          unfold hhalf
          rw [Bool.true_and,decide_eq_false_iff_not]
          omega
         rw [hnw,if_pos ⟨g5,hh⟩]
       · have g9:(hc ls 1:Int)=1:=by simpa using g9
         rw [hnw,if_neg]
         intro e
         have:hhalf ls=true:=by unfold hhalf; rw [decide_eq_true_eq]; omega
         rw [this] at e
         exact absurd e.2 (by decide)
     · have g8:¬ s3.len=1:=fun e=>by rw [e] at g8; exact absurd g8 (by decide)
       refine qym (bad ?_)
       have hh:(true && hhalf ls)=false:=by
        unfold hhalf
        rw [Bool.true_and,decide_eq_false_iff_not]
        omega
       rw [hnw,if_pos ⟨g5,hh⟩]
   · subst g6
     exact qym (bad (by rw [hnw,if_pos ⟨g5,rfl⟩]))
 · have g5:(qwl ls).1=true:=by simpa using g5
   exact fin (by rw [hnw,if_neg (fun e=>by rw [g5] at e; exact absurd e.1 (by decide))])
theorem qwf.c {cb:Nat} {K:Ending→World→Prop} (h:St F0 w0 w ps) [PkF hcA cb ps ls rest]
 (hk:∀ w',St F0 w0 w' ps→K (.returned (.int .i64 (qyh ls 15))) w'):Calls Tryz.prog 339 ⟨[.pointer (some ⟨cb,0,none⟩)]⟩ w K:=by
 refine qfc (qwf.ok _ _ _ ?_)
 unfold qwf
 obtain ⟨h1,h2,h3,s1,s2,s3,hb,r1,r2,r3⟩:=qlp cb h
 have l3:=r3.1
 rw [ql,qki] at l3
 have hlast:=hsyms_last (l:=ls) 15
 refine qtd (hb.ldL (o:=18) (n:=s3) (qur _ _ _ _) ?_)
 refine qne (fun g=>?_) (fun g=>?_)
 · have g:s3.len=0:=by simpa using g
   rw [if_pos (List.eq_nil_of_length_eq_zero (by omega))] at hlast
   rw [hlast] at hk
   exact hk w h
 have g:s3.len ≠ 0:=by simpa using g
 have hne:0 < (qre ls 15).length:=by omega
 rw [if_neg (fun e=>by rw [e] at hne; exact absurd hne (by decide))] at hlast
 clear hb r1 r2 r3 l3 g
 refine h.drewK fun w h=>?_
 obtain ⟨h1,h2,h3,s1,s2,s3,hb,r1,r2,r3⟩:=qlp cb h
 have l3:=r3.1
 rw [ql,qki] at l3
 have hsle:=hsyms_le ls 15
 have hm:(qre ls 15).getD ((qre ls 15).length - 1) 0 ∈ qre ls 15:=by
  rw [List.getD_eq_getElem?_getD,List.getElem?_eq_getElem (show (qre ls 15).length - 1 < (qre ls 15).length by omega)]
  exact List.getElem_mem _
 obtain ⟨m1,m2⟩:=hsyms_mem 15 _ hm
 refine qtd (hb.ldL (o:=0) (n:=s1) rfl ?_)
 refine qtd (hb.ldL (o:=18) (n:=s3) (qur _ _ _ _) ?_)
 refine qtd (hb.ldL (o:=18) (n:=s3) (qur _ _ _ _) ?_)
 refine qn (qd (by omega) (by omega)) ?_
 refine r3.at ((qre ls 15).length - 1) (by omega) (by rw [qki]; omega) ?_
 rw [nats_getD]
 refine r1.at _ rfl m1 ?_
 have e:ls.getD ((qre ls 15).getD ((qre ls 15).length - 1) 0) 0=(qyh ls 15:Int):=by omega
 rw [e]
 exact hk w h
def bitA (rb:Nat) (x:Nat × Nat × Nat):As:=rrA rb x.1 x.2.1 x.2.2
theorem qqb.one {rb V N p:Nat} {K:Ending→World→Prop} (h:St F0 w0 w (bitA rb (V,N,p) :: ps)) (hN:N≤137438953472) (hp:p≤8 * N)
 (hk:p < 8 * N→∀ w',St F0 w0 w' (bitA rb (V,N,p+1) :: ps)→K (.returned (.tuple ⟨[.int .i64 ((bt V p).toNat:Nat),.bool true]⟩)) w')
 (hk':¬ p < 8 * N→∀ w',St F0 w0 w' (bitA rb (V,N,p) :: ps)→K (.returned (.tuple ⟨[.int .i64 0,.bool false]⟩)) w') :
 Calls Tryz.prog 321 ⟨[.pointer (some ⟨rb,0,none⟩),.int .i64 1]⟩ w K:=by
 refine qqb.c (V:=V) (N:=N) (at':=p) h hN (by omega) (fun g w h=>?_) (fun g w h=>?_)
 · have g:p < 8 * N:=by simp [getOk] at g; omega
   have e:=qoq V p
   have e2:((V / 2 ^ p % 2 ^ (1:Int).toNat:Nat):Int)=(((bt V p).toNat:Nat):Int):=by
    rw [e,show (1:Int).toNat=1 by decide,Nat.pow_one]
    simp
   rw [e2]
   exact hk g w h
 · have g:¬ p < 8 * N:=by simp [getOk] at g; omega
   exact hk' g w h
theorem qpt {V N p:Nat}:(qi (V:Int) N)[p]?=if p < N then some (bt V p) else none:=by
 unfold qi
 rw [List.getElem?_map]
 split
 · rename_i h; rw [List.getElem?_range h]; rfl
 · rename_i h; rw [List.getElem?_eq_none (by simpa using h)]; rfl
theorem or1 {v:Nat} (x:Bool) (hv:v < 1000000000):orV .i64 (2 * (v:Int)) ((x.toNat:Nat):Int)=((2 * v+x.toNat:Nat):Int):=by
 have hx:x.toNat < 2:=by cases x <;> decide
 have e:=qlo .i64 (a:=x.toNat) (b:=v) (t:=1) hx (by show x.toNat+v * 2 ^ 1 < 2 ^ 63; omega)
 rw [show (2:Int) ^ 1=2 by decide] at e
 rw [Int.mul_comm,e]
 omega
theorem qbc.c {cb rb V N p:Nat} {K:Ending→World→Prop} (h:St F0 w0 w (bitA rb (V,N,p) :: ps)) [PkF hcA cb ps ls rest] (hN:N≤137438953472) (hp:p≤8 * N)
 (hk:∀ w',(hnext ls (qi V (8 * N)) p).2.2≤8 * N→St F0 w0 w' (bitA rb (V,N,(hnext ls (qi V (8 * N)) p).2.2) :: ps)→K (.returned (.tuple ⟨[.int .i64 (hnext ls (qi V (8 * N)) p).1,.int .i64 (hnext ls (qi V (8 * N)) p).2.1]⟩)) w') :
 Calls Tryz.prog 326 ⟨[.pointer (some ⟨cb,0,none⟩),.pointer (some ⟨rb,0,none⟩)]⟩ w K:=by
 refine qfc (qbc.ok _ _ _ _ ?_)
 unfold qbc qbc.j1 qbc.j2 qbc.j4
 obtain ⟨hok,hkr,hlen,_⟩:=qlp cb h
 have hlg:=hlong_le ls 15 (by decide)
 refine loop4 (fun (a:Nat × Nat × Nat) (t6 t7 t8 t10:Int) w'=>t6=a.2.1∧t7=((hf ls (a.1 - 1)+hc ls (a.1 - 1):Nat):Int)∧t8=((qre ls (a.1 - 1)).length:Int)∧t10=a.1∧1≤a.1∧a.1≤qyh ls 15+1∧hf ls (a.1 - 1)+hc ls (a.1 - 1)≤a.2.1∧a.2.1 < 2 ^ (a.1 - 1)∧a.2.2≤8 * N ∧
  hdec ls (qi V (8 * N)) (qyh ls 15+1 - a.1) a.1 a.2.1 a.2.2=hnext ls (qi V (8 * N)) p∧St F0 w0 w' (bitA rb (V,N,a.2.2) :: ps)) (fun a=>17 - a.1) (1,0,p) ⟨rfl,by simp [hf,hc],by simp [qre],rfl,by simp,by simp only; omega,by simp [hf,hc],by simp,hp,by simp [hnext],h⟩ ?_
 clear h
 rintro ⟨n,v,q⟩ t6 t7 t8 t10 w I μ ⟨rfl,rfl,rfl,rfl,hn1,hn,hge,hv,hq,hd,h⟩ hin
 simp only at hn1 hn hge hv hq hd h hin ⊢
 obtain ⟨m,rfl⟩:∃ m,n=m+1:=⟨n - 1,by omega⟩
 rw [Nat.add_sub_cancel] at hge hv ⊢
 unfold qbc.b1
 refine qwf.c h fun w h=>⟨_,rfl,?_⟩
 refine qnc (fun g=>?_) (fun g=>?_)
 · have hm15:m+1≤15:=by omega
   have hv2:v < 32768:=Nat.lt_of_lt_of_le hv (Nat.le_trans (Nat.pow_le_pow_right (by decide) (show m≤15 by omega)) (by decide))
   obtain ⟨f,hf1⟩:∃ f,qyh ls 15+1 - (m+1)=f+1:=⟨qyh ls 15 - (m+1),by omega⟩
   rw [hf1,hdec,qpt] at hd
   refine qqb.one h hN hq (fun gk w h=>⟨_,_,rfl,?_⟩) (fun gk w h=>⟨_,_,rfl,?_⟩)
   · rw [if_pos gk] at hd
     simp only at hd
     refine qsj ⟨by decide,qn (shl1 (by omega)) ?_⟩
     refine qn (or1 _ (by omega)) ?_
     have hb1:=qwj ls hok hkr (n:=m) (by omega)
     have hb2:=qwj ls hok hkr (n:=m+1) hm15
     have hx:(bt V q).toNat < 2:=by cases bt V q <;> decide
     generalize (bt V q).toNat=x at hd hx ⊢
     have hfe:hf ls (m+1)=2 * (hf ls m+hc ls m):=rfl
     refine ⟨by decide,qn (shl1 (by omega)) ?_⟩
     refine qn (qd (by omega) (by omega)) ?_
     obtain ⟨_,_,_,s1,s2,s3,hb,r1,r2,r3⟩:=qlp cb h
     have l3:=r3.1
     rw [ql,qki] at l3
     have hsy:=hsyms_at ls 15 (m+1) (2 * v+x - hf ls (m+1)) (by omega) hm15
     rw [Nat.add_sub_cancel] at hsy
     have hcn:hc ls (m+1)=ls.count ((m+1:Nat):Int):=by unfold hc; rw [if_neg (by omega)]
     have hpl:=qag ls (m+1)
     refine qtd (hb.cnt (m+1) rfl (by omega) ?_)
     have hsl:(qre ls m).length≤1000000:=by
      have h3:∀ n,(qre ls n).length≤n * ls.length:=by
       intro n
       induction n with
       | zero=>simp [qre]
       | succ n ih =>
         have h4:=qag ls (n+1)
         have h5:=List.count_le_length (a:=((n+1:Nat):Int)) (l:=ls)
         rw [qre,List.length_append,Nat.succ_mul]
         omega
      have h6:=h3 m
      have h7:m * ls.length≤16 * 288:=Nat.mul_le_mul (by omega) hlen
      omega
     refine qnc (fun g2=>?_) (fun g2=>?_)
     · rw [if_pos (by omega)] at hd
       refine qtd (hb.ldL (o:=18) (n:=s3) (qur _ _ _ _) ?_)
       refine qn (qd (by omega) (by omega)) ?_
       have hsy:=hsy (by omega)
       have hlt:(qre ls m).length+(2 * v+x - hf ls (m+1)) < (qre ls 15).length:=by
        rcases Nat.lt_or_ge ((qre ls m).length+(2 * v+x - hf ls (m+1))) (qre ls 15).length with h1 | h1
        · exact h1
        · rw [List.getElem?_eq_none h1,List.getElem?_eq_getElem (show 2 * v+x - hf ls (m+1) < (qgl ls (m+1)).length by omega)] at hsy
          cases hsy
       refine r3.at ((qre ls m).length+(2 * v+x - hf ls (m+1))) (by omega) (by rw [qki]; exact hlt) ?_
       rw [nats_getD,List.getD_eq_getElem?_getD,hsy,← List.getD_eq_getElem?_getD]
       rw [← hd] at hk
       exact hk w (by simp only; omega) h
     · rw [if_neg (by omega)] at hd
       refine qtd (hb.cnt (m+1) rfl (by omega) ?_)
       have hcl:=hc_le ls (m+1)
       refine qn (qd (by omega) (by omega)) ?_
       refine qtd (hb.cnt (m+1) rfl (by omega) ?_)
       refine qn (qd (by omega) (by omega)) ?_
       refine qn (qd (by omega) (by omega)) ?_
       refine ⟨⟨rfl,rfl⟩,hin (m+1+1,2 * v+x,q+1) _ _ _ _ _ ⟨rfl,?_,?_,by simp,by simp,by simp only; omega,?_,?_,by simp only; omega,?_,h⟩ (by simp only; omega)⟩
       · simp only [Nat.add_sub_cancel]; omega
       · simp only [Nat.add_sub_cancel]
         rw [qre,List.length_append]; omega
       · simp only [Nat.add_sub_cancel]; omega
       · simp only [Nat.add_sub_cancel]
         rw [Nat.pow_succ]; omega
       · simp only
         rw [show qyh ls 15+1 - (m+1+1)=f by omega]
         exact hd
   · rw [if_neg gk] at hd
     simp only at hd
     refine qym ?_
     rw [← hd] at hk
     exact hk w hq h
 · have e:qyh ls 15+1 - (m+1)=0:=by omega
   rw [e,hdec] at hd
   unfold qbc.j3
   rw [← hd] at hk
   exact hk w hq h
theorem cbits_eq (c n:Nat):(qi (c:Int) n).reverse=cbits c n:=by
 apply List.ext_getElem
 · rw [List.length_reverse,qk,qxm]
 · intro i h1 h2
   rw [qxm] at h2
   rw [List.getElem_reverse]
   simp only [qi,cbits,List.getElem_map,List.getElem_range,List.length_map,List.length_range]
   exact bt_nat c _
def hput (ls:List Int) (sym:Int):List Bool:=if 0≤sym∧sym < ls.length∧ls.getD sym.toNat 0 ≠ 0 then cbits (qbg ls sym.toNat) (ls.getD sym.toNat 0).toNat else []
def hputs (ls:List Int) (sym:Int):Bool:=decide (0≤sym∧sym < ls.length∧ls.getD sym.toNat 0 ≠ 0)
theorem qrf.c {cb wb:Nat} {l:List Bool} {sym:Int} {K:Ending→World→Prop} (h:St F0 w0 w (wrL wb l :: ps)) [PkF hcA cb ps ls rest] (hL:l.length≤549755813888)
 (hk:∀ w',St F0 w0 w' (wrL wb (l ++ hput ls sym) :: ps)→K (.returned (.bool (hputs ls sym))) w') :
 Calls Tryz.prog 266 ⟨[.pointer (some ⟨cb,0,none⟩),.pointer (some ⟨wb,0,none⟩),.int .i64 sym]⟩ w K:=by
 refine qfc (qrf.ok _ _ _ _ _ ?_)
 unfold qrf
 obtain ⟨hok,hkr,hlen,s1,s2,s3,hb,r1,r2,r3⟩:=qlp cb h
 have l1:=r1.1
 rw [ql] at l1
 have bad:¬ (0≤sym∧sym < ls.length∧ls.getD sym.toNat 0 ≠ 0)→K (.returned (.bool false)) w:=by
  intro hn
  unfold hput hputs at hk
  rw [if_neg hn,List.append_nil,decide_eq_false hn] at hk
  exact hk w h
 refine qnc (fun g=>bad (by omega)) (fun g=>?_)
 refine qtd (hb.ldL (o:=0) (n:=s1) rfl ?_)
 refine qnc (fun g2=>bad (by omega)) (fun g2=>?_)
 have hin:sym.toNat < ls.length:=by omega
 refine qtd (hb.ldL (o:=0) (n:=s1) rfl ?_)
 refine r1.at sym.toNat (by omega) hin ?_
 refine qne (fun g3=>bad (fun e=>e.2.2 (by simpa using g3))) (fun g3=>?_)
 have g3:ls.getD sym.toNat 0 ≠ 0:=by simpa using g3
 have hx:=hok _ (qee hin)
 obtain ⟨m,hm⟩:∃ m:Nat,ls.getD sym.toNat 0=m:=⟨(ls.getD sym.toNat 0).toNat,by omega⟩
 unfold hput hputs at hk
 have hcond:0≤sym∧sym < ls.length∧ls.getD sym.toNat 0 ≠ 0:=⟨by omega,by omega,g3⟩
 rw [if_pos hcond,decide_eq_true hcond,hm] at hk
 clear hb r1 r2 r3 l1
 refine h.drewK fun w h=>?_
 obtain ⟨_,_,_,s1,s2,s3,hb,r1,r2,r3⟩:=qlp cb h
 refine qtd (hb.ldL (o:=1) (n:=s2) rfl ?_)
 refine r2.at sym.toNat (by omega) (by rw [qoo]; exact hin) ?_
 rw [qsr _ hin]
 refine qtd (hb.ldL (o:=0) (n:=s1) rfl ?_)
 refine r1.at sym.toNat (by omega) hin ?_
 rw [hm]
 refine qfg.c h hL fun w h=>⟨rfl,?_⟩
 have e:(pb (qbg ls sym.toNat:Int) (m:Int)).reverse=cbits (qbg ls sym.toNat) m:=by
  unfold pb
  rw [if_pos (by omega),Int.toNat_natCast,cbits_eq]
 rw [e] at h
 rw [Int.toNat_natCast] at hk
 exact hk w h
end
end Go.Proofs.YtejnemneenjliaaGreat
namespace Go.Proofs.YtejnemneenjliaaGreat
open Go Go.Proofs
set_option linter.unusedVariables false
set_option maxRecDepth 100000
def qub.j3 (sum_4:Int) (Q:VWP) (w:World):Prop :=
 br (decide (sum_4 > 32768)) (
 Q (.tuple ⟨[.bool false,.int .i64 2]⟩) w) (
 Q (.tuple ⟨[.bool (sum_4 == 32768),.int .i64 0]⟩) w)
def qub.b1 (lens_0:Sl) (sum_4:Int) (i_5:Int) (Q:VWP) (nx1:Sl→Int→Int→WP) (w:World):Prop :=
 br (decide (i_5 < (lens_0.len:Int))) (
 ixS lens_0.a lens_0.len i_5 1 fun a1 =>
 ldI .i64 w a1 fun x2 =>
 br (decide (x2 < 0)) (
 Q (.tuple ⟨[.bool false,.int .i64 1]⟩) w) (
 ixS lens_0.a lens_0.len i_5 1 fun a3 =>
 ldI .i64 w a3 fun x4 =>
 br (decide (x4 > 15)) (
 Q (.tuple ⟨[.bool false,.int .i64 1]⟩) w) (
 ixS lens_0.a lens_0.len i_5 1 fun a5 =>
 ldI .i64 w a5 fun x6 =>
 br (decide (x6 > 0)) (
 ixS lens_0.a lens_0.len i_5 1 fun a7 =>
 ldI .i64 w a7 fun x8 =>
 lt (IntKind.i64.wrap (15 - x8)) fun x9 =>
 lt (IntKind.u64.wrap x9) fun x10 =>
 (0:Int)≤x10 ∧
 lt (qqi .i64 1 x10) fun x11 =>
 lt (IntKind.i64.wrap (sum_4+x11)) fun x12 =>
 lt (IntKind.i64.wrap (i_5+1)) fun x13 =>
 nx1 lens_0 x12 x13 w) (
 lt (IntKind.i64.wrap (i_5+1)) fun x14 =>
 nx1 lens_0 sum_4 x14 w)))) (
 qub.j3 sum_4 Q w)
def qub.l1 (lens_0:Sl) (sum_4:Int) (i_5:Int) (Q:VWP) (w:World):Prop :=
 ∃ (I:Int→Int→WP) (μ:Int→Int→World→Nat),I sum_4 i_5 w∧∀ sum_4:Int,∀ i_5:Int,∀ w:World,I sum_4 i_5 w→qub.b1 lens_0 sum_4 i_5 Q (fun lens_0' sum_4' i_5' w'=>(lens_0'=lens_0)∧I sum_4' i_5' w'∧μ sum_4' i_5' w' < μ sum_4 i_5 w) w
def qub.j4 (lens_0:Sl) (sum_4:Int) (i_5:Int) (Q:VWP) (w:World):Prop :=
 qub.l1 lens_0 sum_4 i_5 Q w
def qub.j2 (lens_0:Sl) (sum_4:Int) (Q:VWP) (w:World):Prop :=
 qub.j4 lens_0 sum_4 0 Q w
def qub.j1 (lens_0:Sl) (Q:VWP) (w:World):Prop :=
 br (decide ((lens_0.len:Int) > 288)) (
 Q (.tuple ⟨[.bool false,.int .i64 1]⟩) w) (
 qub.j2 lens_0 0 Q w)
def qub (lens_0:Sl) (Q:VWP) (w:World):Prop :=
 qub.j1 lens_0 Q w
theorem qub.ok (lens_0:Sl) (Q:VWP) (w:World) (h:qub lens_0 Q w):Calls Tryz.prog 332 ⟨[sV lens_0]⟩ w (Ret Q) :=
 qqc [.tmp 2,.tmp 3] qbe Tryz.func332 rfl rfl rfl rfl (.sq [sL 0] (fun a w=>qub.j1 a Q w) .lf (.pr 1 [sL 0,sI 4] (fun a b w=>qub.j2 a b Q w) (.sq [sI 4] (fun a w=>qub.j3 a Q w) (.sq [sL 0,sI 4,sI 5] (fun a b c w=>qub.j4 a b c Q w) .lf (.bk (.lo [sL 0] [sI 4,sI 5] (fun a b c w=>qub.l1 a b c Q w) (fun nx1 a b c w=>qub.b1 a b c Q nx1 w) fun nx1=>.lf))) .lf))) (by kernel_rfl) h
def qq.j4 (out_6:Sl) (Q:VWP) (w:World):Prop :=
 Q (.tuple ⟨[sV out_6,.int .i64 0]⟩) w
def qq.j7 (lens_0 out_6:Sl) (code_7:Int) (n_8:Int) (Q:VWP) (nx1:Sl→Sl→Int→Int→WP) (w:World):Prop :=
 lt (IntKind.i64.wrap (n_8+1)) fun x1 =>
 nx1 lens_0 out_6 code_7 x1 w
def qq.j8 (lens_0 out_6:Sl) (code_7:Int) (n_8:Int) (Q:VWP) (nx1:Sl→Sl→Int→Int→WP) (w:World):Prop :=
 (0:Int)≤1 ∧
 lt (qqi .i64 code_7 1) fun x2 =>
 qq.j7 lens_0 out_6 x2 n_8 Q nx1 w
def qq.b2 (lens_0 out_6:Sl) (n_8:Int) (code_7 i_9:Int) (Q:VWP) (nx1:Sl→Sl→Int→Int→WP) (nx2:Sl→Sl→Int→Int→Int→WP) (w:World):Prop :=
 br (decide (i_9 < (lens_0.len:Int))) (
 ixS lens_0.a lens_0.len i_9 1 fun a3 =>
 ldI .i64 w a3 fun x4 =>
 br (x4 == n_8) (
 ixS out_6.a out_6.len i_9 1 fun a5 =>
 st w a5 (.int .i64 code_7) fun w6 =>
 lt (IntKind.i64.wrap (code_7+1)) fun x7 =>
 lt (IntKind.i64.wrap (i_9+1)) fun x8 =>
 nx2 lens_0 out_6 n_8 x7 x8 w6) (
 lt (IntKind.i64.wrap (i_9+1)) fun x9 =>
 nx2 lens_0 out_6 n_8 code_7 x9 w)) (
 qq.j8 lens_0 out_6 code_7 n_8 Q nx1 w)
def qq.l2 (lens_0 out_6:Sl) (n_8:Int) (code_7 i_9:Int) (Q:VWP) (nx1:Sl→Sl→Int→Int→WP) (w:World):Prop :=
 ∃ (I:Int→Int→WP) (μ:Int→Int→World→Nat),I code_7 i_9 w∧∀ code_7:Int,∀ i_9:Int,∀ w:World,I code_7 i_9 w→qq.b2 lens_0 out_6 n_8 code_7 i_9 Q nx1 (fun lens_0' out_6' n_8' code_7' i_9' w'=>(lens_0'=lens_0∧out_6'=out_6∧n_8'=n_8)∧I code_7' i_9' w'∧μ code_7' i_9' w' < μ code_7 i_9 w) w
def qq.j9 (lens_0 out_6:Sl) (code_7:Int) (n_8 i_9:Int) (Q:VWP) (nx1:Sl→Sl→Int→Int→WP) (w:World):Prop :=
 qq.l2 lens_0 out_6 n_8 code_7 i_9 Q nx1 w
def qq.j6 (lens_0 out_6:Sl) (code_7:Int) (n_8:Int) (Q:VWP) (nx1:Sl→Sl→Int→Int→WP) (w:World):Prop :=
 qq.j9 lens_0 out_6 code_7 n_8 0 Q nx1 w
def qq.b1 (lens_0 out_6:Sl) (code_7:Int) (n_8:Int) (Q:VWP) (nx1:Sl→Sl→Int→Int→WP) (w:World):Prop :=
 br (decide (n_8≤15)) (
 qq.j6 lens_0 out_6 code_7 n_8 Q nx1 w) (
 qq.j4 out_6 Q w)
def qq.l1 (lens_0 out_6:Sl) (code_7:Int) (n_8:Int) (Q:VWP) (w:World):Prop :=
 ∃ (I:Int→Int→WP) (μ:Int→Int→World→Nat),I code_7 n_8 w∧∀ code_7:Int,∀ n_8:Int,∀ w:World,I code_7 n_8 w→qq.b1 lens_0 out_6 code_7 n_8 Q (fun lens_0' out_6' code_7' n_8' w'=>(lens_0'=lens_0∧out_6'=out_6)∧I code_7' n_8' w'∧μ code_7' n_8' w' < μ code_7 n_8 w) w
def qq.j5 (lens_0 out_6:Sl) (code_7:Int) (n_8:Int) (Q:VWP) (w:World):Prop :=
 qq.l1 lens_0 out_6 code_7 n_8 Q w
def qq.j3 (lens_0 out_6:Sl) (code_7:Int) (Q:VWP) (w:World):Prop :=
 qq.j5 lens_0 out_6 code_7 1 Q w
def qq.j2 (lens_0:Sl) (Q:VWP) (w:World):Prop :=
 mkK Tryz.prog 3 w (lens_0.len:Int) (lens_0.len:Int) fun s10 w11 =>
 qq.j3 lens_0 s10 0 Q w11
def qq.j1 (lens_0:Sl) (Q:VWP) (w:World):Prop :=
 ct_BI 332 [sV lens_0] w fun r14 r15 w13 =>
 br (r15 != 0) (
 Q (.tuple ⟨[.slice none 0 0,.int .i64 r15]⟩) w13) (
 qq.j2 lens_0 Q w13)
def qq (lens_0:Sl) (Q:VWP) (w:World):Prop :=
 qq.j1 lens_0 Q w
theorem qq.ok (lens_0:Sl) (Q:VWP) (w:World) (h:qq lens_0 Q w):Calls Tryz.prog 333 ⟨[sV lens_0]⟩ w (Ret Q) :=
 qqc [.tmp 2,.tmp 3] qbe Tryz.func333 rfl rfl rfl rfl (.sq [sL 0] (fun a w=>qq.j1 a Q w) .lf (.pr 1 [sL 0] (fun a w=>qq.j2 a Q w) (.pr 1 [sL 0,sL 6,sI 7] (fun a b c w=>qq.j3 a b c Q w) (.sq [sL 6] (fun a w=>qq.j4 a Q w) (.sq [sL 0,sL 6,sI 7,sI 8] (fun a b c d w=>qq.j5 a b c d Q w) .lf (.bk (.lo [sL 0,sL 6] [sI 7,sI 8] (fun a b c d w=>qq.l1 a b c d Q w) (fun nx1 a b c d w=>qq.b1 a b c d Q nx1 w) fun nx1=>(.sq [sL 0,sL 6,sI 7,sI 8] (fun a b c d w=>qq.j6 a b c d Q nx1 w) .lf (.sq [sL 0,sL 6,sI 7,sI 8] (fun a b c d w=>qq.j7 a b c d Q nx1 w) (.bk (.sq [sL 0,sL 6,sI 7,sI 8] (fun a b c d w=>qq.j8 a b c d Q nx1 w) (.sq [sL 0,sL 6,sI 7,sI 8,sI 9] (fun a b c d e w=>qq.j9 a b c d e Q nx1 w) .lf (.bk (.lo [sL 0,sL 6,sI 8] [sI 7,sI 9] (fun a b c d e w=>qq.l2 a b c d e Q nx1 w) (fun nx2 a b c d e w=>qq.b2 a b c d e Q nx1 nx2 w) fun nx2=>.lf))) .lf)) .lf))))) .lf)))) (by kernel_rfl) h
def qgb.j3 (lens_0:Sl) (Q:VWP) (w:World):Prop :=
 qwo 333 [sV lens_0] w fun r3 r4 w2 =>
 nw w2 ⟨[]⟩ 3 fun a5 w6 =>
 rdO w6 lens_0.a (lens_0.len * 1) fun c7 =>
 apK Tryz.prog 3 w6 (some a5) 0 0 lens_0.len c7 fun s8 w9 =>
 nw w9 (⟨[sV s8,sV r3]⟩:Array Value) 437 fun a10 w11 =>
 Q (.tuple ⟨[.pointer (some a10),.int .i64 0]⟩) w11
def qgb.j6 (lens_0:Sl) (half_1:Bool) (n_8:Int) (Q:VWP) (w:World):Prop :=
 br (!half_1) (
 Q (.tuple ⟨[.pointer none,.int .i64 2]⟩) w) (
 br (decide (n_8 > 1)) (
 Q (.tuple ⟨[.pointer none,.int .i64 2]⟩) w) (
 qgb.j3 lens_0 Q w))
def qgb.b1 (lens_0:Sl) (half_1:Bool) (n_8 i_9:Int) (Q:VWP) (nx1:Sl→Bool→Int→Int→WP) (w:World):Prop :=
 br (decide (i_9 < (lens_0.len:Int))) (
 ixS lens_0.a lens_0.len i_9 1 fun a12 =>
 ldI .i64 w a12 fun x13 =>
 br (decide (x13 > 0)) (
 ixS lens_0.a lens_0.len i_9 1 fun a14 =>
 ldI .i64 w a14 fun x15 =>
 lt (IntKind.i64.wrap (n_8+x15)) fun x16 =>
 lt (IntKind.i64.wrap (i_9+1)) fun x17 =>
 nx1 lens_0 half_1 x16 x17 w) (
 lt (IntKind.i64.wrap (i_9+1)) fun x18 =>
 nx1 lens_0 half_1 n_8 x18 w)) (
 qgb.j6 lens_0 half_1 n_8 Q w)
def qgb.l1 (lens_0:Sl) (half_1:Bool) (n_8 i_9:Int) (Q:VWP) (w:World):Prop :=
 ∃ (I:Int→Int→WP) (μ:Int→Int→World→Nat),I n_8 i_9 w∧∀ n_8:Int,∀ i_9:Int,∀ w:World,I n_8 i_9 w→qgb.b1 lens_0 half_1 n_8 i_9 Q (fun lens_0' half_1' n_8' i_9' w'=>(lens_0'=lens_0∧half_1'=half_1)∧I n_8' i_9' w'∧μ n_8' i_9' w' < μ n_8 i_9 w) w
def qgb.j7 (lens_0:Sl) (half_1:Bool) (n_8 i_9:Int) (Q:VWP) (w:World):Prop :=
 qgb.l1 lens_0 half_1 n_8 i_9 Q w
def qgb.j5 (lens_0:Sl) (half_1:Bool) (n_8:Int) (Q:VWP) (w:World):Prop :=
 qgb.j7 lens_0 half_1 n_8 0 Q w
def qgb.j4 (lens_0:Sl) (half_1:Bool) (t21:Bool) (Q:VWP) (w:World):Prop :=
 br t21 (
 qgb.j5 lens_0 half_1 0 Q w) (
 qgb.j3 lens_0 Q w)
def qgb.j2 (lens_0:Sl) (half_1:Bool) (full_6:Bool) (Q:VWP) (w:World):Prop :=
 qgb.j4 lens_0 half_1 (!full_6) Q w
def qgb.j1 (lens_0:Sl) (half_1:Bool) (Q:VWP) (w:World):Prop :=
 ct_BI 332 [sV lens_0] w fun r21 r22 w20 =>
 br (r22 != 0) (
 Q (.tuple ⟨[.pointer none,.int .i64 r22]⟩) w20) (
 qgb.j2 lens_0 half_1 r21 Q w20)
def qgb (lens_0:Sl) (half_1:Bool) (Q:VWP) (w:World):Prop :=
 qgb.j1 lens_0 half_1 Q w
theorem qgb.ok (lens_0:Sl) (half_1:Bool) (Q:VWP) (w:World) (h:qgb lens_0 half_1 Q w):Calls Tryz.prog 310 ⟨[sV lens_0,.bool half_1]⟩ w (Ret Q) :=
 qqc [.tmp 4,.tmp 5] qbe Tryz.func310 rfl rfl rfl rfl (.sq [sL 0,sB 1] (fun a b w=>qgb.j1 a b Q w) .lf (.pr 1 [sL 0,sB 1,sB 6] (fun a b c w=>qgb.j2 a b c Q w) (.sq [sL 0] (fun a w=>qgb.j3 a Q w) (.sq [sL 0,sB 1,sB 21] (fun a b c w=>qgb.j4 a b c Q w) .lf (.cd (.sq [sL 0,sB 1,sI 8] (fun a b c w=>qgb.j5 a b c Q w) .lf (.sq [sL 0,sB 1,sI 8] (fun a b c w=>qgb.j6 a b c Q w) (.sq [sL 0,sB 1,sI 8,sI 9] (fun a b c d w=>qgb.j7 a b c d Q w) .lf (.bk (.lo [sL 0,sB 1] [sI 8,sI 9] (fun a b c d w=>qgb.l1 a b c d Q w) (fun nx1 a b c d w=>qgb.b1 a b c d Q nx1 w) fun nx1=>.lf))) .lf)) .lf)) .lf))) (by kernel_rfl) h
def qj.j2  (Q:VWP) (w:World):Prop :=
 Q (.tuple ⟨[.int .i64 0,.int .i64 2]⟩) w
def qj.j5 (d_0 i_1:OAd) (t6:Int) (t7:Int) (Q:VWP) (nx1:OAd→OAd→Int→Int→WP) (w:World):Prop :=
 lt (IntKind.i64.wrap (t7+1)) fun x1 =>
 nx1 d_0 i_1 t6 x1 w
def qj.j8 (d_0 i_1:OAd) (t6:Int) (t7:Int) (t10:Bool) (Q:VWP) (nx1:OAd→OAd→Int→Int→WP) (w:World):Prop :=
 br (!t10) (
 Q (.tuple ⟨[.int .i64 0,.int .i64 2]⟩) w) (
 qj.j5 d_0 i_1 t6 t7 Q nx1 w)
def qj.j11 (d_0 i_1:OAd) (t6:Int) (t7:Int) (t10:Bool) (t11:Int) (Q:VWP) (nx1:OAd→OAd→Int→Int→WP) (nx2:OAd→OAd→Int→Int→Bool→Int→WP) (w:World):Prop :=
 lt (IntKind.i64.wrap (t11+1)) fun x2 =>
 nx2 d_0 i_1 t6 t7 t10 x2 w
def qj.j12 (d_0 i_1:OAd) (t6:Int) (t7:Int) (t10:Bool) (t11:Int) (Q:VWP) (nx1:OAd→OAd→Int→Int→WP) (nx2:OAd→OAd→Int→Int→Bool→Int→WP) (w:World):Prop :=
 br t10 (
 qj.j11 d_0 i_1 t6 t7 true t11 Q nx1 nx2 w) (
 nz d_0 fun a3 =>
 ldL w (Addr.add a3 0) fun x4 =>
 ixS x4.a x4.len t11 1 fun a5 =>
 ldI .i64 w a5 fun x6 =>
 qj.j11 d_0 i_1 t6 t7 (decide (x6 > t7)) t11 Q nx1 nx2 w)
def qj.j10 (d_0 i_1:OAd) (t6:Int) (t7:Int) (t10:Bool) (t11:Int) (Q:VWP) (nx1:OAd→OAd→Int→Int→WP) (nx2:OAd→OAd→Int→Int→Bool→Int→WP) (w:World):Prop :=
 nz d_0 fun a7 =>
 ldL w (Addr.add a7 0) fun x8 =>
 ixS x8.a x8.len t11 1 fun a9 =>
 ldI .i64 w a9 fun x10 =>
 br (x10 == t7) (
 nz d_0 fun a11 =>
 ldL w (Addr.add a11 1) fun x12 =>
 ixS x12.a x12.len t11 1 fun a13 =>
 ldI .i64 w a13 fun x14 =>
 br (x14 == t6) (
 Q (.tuple ⟨[.int .i64 t11,.int .i64 0]⟩) w) (
 qj.j12 d_0 i_1 t6 t7 t10 t11 Q nx1 nx2 w)) (
 qj.j12 d_0 i_1 t6 t7 t10 t11 Q nx1 nx2 w)
def qj.b2 (d_0 i_1:OAd) (t6:Int) (t7:Int) (t10:Bool) (t11:Int) (Q:VWP) (nx1:OAd→OAd→Int→Int→WP) (nx2:OAd→OAd→Int→Int→Bool→Int→WP) (w:World):Prop :=
 nz d_0 fun a15 =>
 ldL w (Addr.add a15 0) fun x16 =>
 br (decide (t11 < (x16.len:Int))) (
 qj.j10 d_0 i_1 t6 t7 t10 t11 Q nx1 nx2 w) (
 qj.j8 d_0 i_1 t6 t7 t10 Q nx1 w)
def qj.l2 (d_0 i_1:OAd) (t6:Int) (t7:Int) (t10:Bool) (t11:Int) (Q:VWP) (nx1:OAd→OAd→Int→Int→WP) (w:World):Prop :=
 ∃ (I:Bool→Int→WP) (μ:Bool→Int→World→Nat),I t10 t11 w∧∀ t10:Bool,∀ t11:Int,∀ w:World,I t10 t11 w→qj.b2 d_0 i_1 t6 t7 t10 t11 Q nx1 (fun d_0' i_1' t6' t7' t10' t11' w'=>(d_0'=d_0∧i_1'=i_1∧t6'=t6∧t7'=t7)∧I t10' t11' w'∧μ t10' t11' w' < μ t10 t11 w) w
def qj.j9 (d_0 i_1:OAd) (t6:Int) (t7:Int) (t10:Bool) (t11:Int) (Q:VWP) (nx1:OAd→OAd→Int→Int→WP) (w:World):Prop :=
 qj.l2 d_0 i_1 t6 t7 t10 t11 Q nx1 w
def qj.j7 (d_0 i_1:OAd) (t6:Int) (t7:Int) (t10:Bool) (Q:VWP) (nx1:OAd→OAd→Int→Int→WP) (w:World):Prop :=
 qj.j9 d_0 i_1 t6 t7 t10 0 Q nx1 w
def qj.j6 (d_0 i_1:OAd) (t6:Int) (t7 t8:Int) (Q:VWP) (nx1:OAd→OAd→Int→Int→WP) (w:World):Prop :=
 (0:Int)≤1 ∧
 lt (qqi .i64 t6 1) fun x17 =>
 lt (orV .i64 x17 t8) fun x18 =>
 qj.j7 d_0 i_1 x18 t7 false Q nx1 w
def qj.j4 (d_0 i_1:OAd) (t6:Int) (t7:Int) (Q:VWP) (nx1:OAd→OAd→Int→Int→WP) (w:World):Prop :=
 ct_IB 307 [.pointer i_1,.int .i64 1] w fun r21 r22 w20 =>
 br (!r22) (
 Q (.tuple ⟨[.int .i64 0,.int .i64 3]⟩) w20) (
 qj.j6 d_0 i_1 t6 t7 r21 Q nx1 w20)
def qj.b1 (d_0 i_1:OAd) (t6:Int) (t7:Int) (Q:VWP) (nx1:OAd→OAd→Int→Int→WP) (w:World):Prop :=
 br (decide (t7≤15)) (
 qj.j4 d_0 i_1 t6 t7 Q nx1 w) (
 qj.j2 Q w)
def qj.l1 (d_0 i_1:OAd) (t6:Int) (t7:Int) (Q:VWP) (w:World):Prop :=
 ∃ (I:Int→Int→WP) (μ:Int→Int→World→Nat),I t6 t7 w∧∀ t6:Int,∀ t7:Int,∀ w:World,I t6 t7 w→qj.b1 d_0 i_1 t6 t7 Q (fun d_0' i_1' t6' t7' w'=>(d_0'=d_0∧i_1'=i_1)∧I t6' t7' w'∧μ t6' t7' w' < μ t6 t7 w) w
def qj.j3 (d_0 i_1:OAd) (t6:Int) (t7:Int) (Q:VWP) (w:World):Prop :=
 qj.l1 d_0 i_1 t6 t7 Q w
def qj.j1 (d_0 i_1:OAd) (t6:Int) (Q:VWP) (w:World):Prop :=
 qj.j3 d_0 i_1 t6 1 Q w
def qj (d_0 i_1:OAd) (Q:VWP) (w:World):Prop :=
 qj.j1 d_0 i_1 0 Q w
theorem qj.ok (d_0:OAd) (i_1:OAd) (Q:VWP) (w:World) (h:qj d_0 i_1 Q w):Calls Tryz.prog 334 ⟨[.pointer d_0,.pointer i_1]⟩ w (Ret Q) :=
 qqc [.tmp 4,.tmp 5] qbe Tryz.func334 rfl rfl rfl rfl (.pr 1 [sP 0,sP 1,sI 6] (fun a b c w=>qj.j1 a b c Q w) (.sq [] (fun  w=>qj.j2 Q w) (.sq [sP 0,sP 1,sI 6,sI 7] (fun a b c d w=>qj.j3 a b c d Q w) .lf (.bk (.lo [sP 0,sP 1] [sI 6,sI 7] (fun a b c d w=>qj.l1 a b c d Q w) (fun nx1 a b c d w=>qj.b1 a b c d Q nx1 w) fun nx1=>(.sq [sP 0,sP 1,sI 6,sI 7] (fun a b c d w=>qj.j4 a b c d Q nx1 w) .lf (.sq [sP 0,sP 1,sI 6,sI 7] (fun a b c d w=>qj.j5 a b c d Q nx1 w) (.bk (.pr 1 [sP 0,sP 1,sI 6,sI 7,sI 8] (fun a b c d e w=>qj.j6 a b c d e Q nx1 w) (.pr 1 [sP 0,sP 1,sI 6,sI 7,sB 10] (fun a b c d e w=>qj.j7 a b c d e Q nx1 w) (.sq [sP 0,sP 1,sI 6,sI 7,sB 10] (fun a b c d e w=>qj.j8 a b c d e Q nx1 w) (.sq [sP 0,sP 1,sI 6,sI 7,sB 10,sI 11] (fun a b c d e f w=>qj.j9 a b c d e f Q nx1 w) .lf (.bk (.lo [sP 0,sP 1,sI 6,sI 7] [sB 10,sI 11] (fun a b c d e f w=>qj.l2 a b c d e f Q nx1 w) (fun nx2 a b c d e f w=>qj.b2 a b c d e f Q nx1 nx2 w) fun nx2=>(.sq [sP 0,sP 1,sI 6,sI 7,sB 10,sI 11] (fun a b c d e f w=>qj.j10 a b c d e f Q nx1 nx2 w) .lf (.sq [sP 0,sP 1,sI 6,sI 7,sB 10,sI 11] (fun a b c d e f w=>qj.j11 a b c d e f Q nx1 nx2 w) (.bk (.sq [sP 0,sP 1,sI 6,sI 7,sB 10,sI 11] (fun a b c d e f w=>qj.j12 a b c d e f Q nx1 nx2 w) .lf .lf)) .lf))))) .lf)))) .lf))))) .lf)) (by kernel_rfl) h
end Go.Proofs.YtejnemneenjliaaGreat
namespace Go.Proofs.YtejnemneenjliaaGreat
open Go Go.Proofs
set_option linter.unusedVariables false
set_option linter.unusedSimpArgs false
attribute [local irreducible] apK cpK mkK
section
variable {F0:List Nat} {w0 w:World} {ps rest:List As} {ls:List Int}
theorem kr_sn {i:Nat} (h:i < ls.length):kr (ls.take (i+1))=kr (ls.take i)+if 0 < ls.getD i 0 then 2 ^ (15 - (ls.getD i 0).toNat) else 0:=by rw [qji h,kr_snoc]
theorem qub.c {s:Sl} {K:Ending→World→Prop} (h:St F0 w0 w ps) [Rdb F0 w0 s ps 1 (ivs .i64 ls)]
 (hk:∀ w',St F0 w0 w' ps→K (.returned (.tuple ⟨[.bool (qwl ls).1,.int .i64 (qwl ls).2]⟩)) w'):Calls Tryz.prog 332 ⟨[.slice s.a s.len s.cap]⟩ w K:=by
 have hl:=(h.rdb s).1
 rw [ql] at hl
 refine qfc (qub.ok _ _ _ ?_)
 unfold qub qub.j1
 unfold qwl at hk
 refine qnc (fun g=>?_) (fun g=>?_)
 · rw [if_pos (by omega)] at hk
   exact hk w h
 rw [if_neg (by omega)] at hk
 unfold qub.j2 qub.j4
 have hkl:=kr_le ls
 refine qkg (fun (i:Nat) (r i':Int) w'=>i'=i∧i≤ls.length∧okL (ls.take i)∧r=(kr (ls.take i):Int)∧St F0 w0 w' ps) (fun i=>ls.length - i) 0 ⟨rfl,by omega,fun x hx=>by simp at hx,by simp [kr],h⟩ ?_
 clear h
 rintro i r i' w I μ ⟨rfl,hi,hok,rfl,h⟩ hin
 unfold qub.b1
 have hkt:=kr_take ls i
 refine qnc (fun g2=>?_) (fun g2=>?_)
 · have hil:i < ls.length:=by omega
   have bad:¬ (0≤ls.getD i 0∧ls.getD i 0≤15)→K (.returned (.tuple ⟨[.bool false,.int .i64 1]⟩)) w:=fun hn=>by
    rw [if_pos (fun e=>hn (e _ (qee hil)))] at hk
    exact hk w h
   have hks:=kr_sn hil
   have hkt2:=kr_take ls (i+1)
   refine h.lx i rfl hil ?_
   refine qnc (fun g3=>bad (by omega)) (fun g3=>?_)
   refine h.lx i rfl hil ?_
   refine qnc (fun g4=>bad (by omega)) (fun g4=>?_)
   have okn:okL (ls.take (i+1)):=by
    rw [qji hil]
    intro x hx
    rcases List.mem_append.1 hx with hx | hx
    · exact hok x hx
    · rw [List.mem_singleton.1 hx]; omega
   refine h.lx i rfl hil ?_
   refine qnc (fun g5=>?_) (fun g5=>?_)
   · refine h.lx i rfl hil ?_
     rw [if_pos (by omega)] at hks
     obtain ⟨m,hm⟩:∃ m:Nat,ls.getD i 0=m:=⟨(ls.getD i 0).toNat,by omega⟩
     rw [hm] at hks g4 g5 ⊢
     rw [Int.toNat_natCast] at hks
     refine qn (qd (by omega) (by omega)) ?_
     refine qn (show IntKind.u64.wrap (15 - (m:Int))=((15 - m:Nat):Int) by rw [qll]; omega) ?_
     refine ⟨by omega,qn (shl_room (c:=1) (by decide) (show 15 - m≤15 by omega)) ?_⟩
     rw [Nat.one_mul]
     refine qn (qd (by omega) (by omega)) ?_
     refine qn (qd (by omega) (by omega)) ?_
     exact ⟨rfl,hin (i+1) _ _ _ ⟨by omega,by omega,okn,by omega,h⟩ (by omega)⟩
   · rw [if_neg (by omega)] at hks
     refine qn (qd (by omega) (by omega)) ?_
     exact ⟨rfl,hin (i+1) _ _ _ ⟨by omega,by omega,okn,by omega,h⟩ (by omega)⟩
 · have:i=ls.length:=by omega
   subst this
   rw [List.take_length] at hok
   rw [List.take_length]
   rw [if_neg (fun e=>e hok)] at hk
   unfold qub.j3
   refine qnc (fun g4=>?_) (fun g4=>?_)
   · rw [if_pos (by omega)] at hk
     exact hk w h
   · rw [if_neg (by omega)] at hk
     have e:((kr ls:Int) == 32768)=decide (kr ls=32768):=by
      apply Bool.eq_iff_iff.2
      rw [beq_iff_eq,decide_eq_true_eq]
      omega
     rw [e]
     exact hk w h
def ocL (l:List Int) (n i:Nat):List Int:=qfj l.length fun j=>if 0 < l.getD j 0∧(l.getD j 0 < n ∨ (l.getD j 0=n∧j < i)) then (qbg l j:Int) else 0
theorem qq.c {s:Sl} {K:Ending→World→Prop} (h:St F0 w0 w ps) [Rdb F0 w0 s ps 1 (ivs .i64 ls)]
 (hk:∀ s' w',(qwl ls).2=0→St F0 w0 w' (qcc 1 s' (ivs .i64 (hcodes ls)) :: ps)→K (.returned (.tuple ⟨[.slice s'.a s'.len s'.cap,.int .i64 0]⟩)) w')
 (hk2:∀ w',(qwl ls).2 ≠ 0→St F0 w0 w' ps→K (.returned (.tuple ⟨[.slice none 0 0,.int .i64 (qwl ls).2]⟩)) w'):Calls Tryz.prog 333 ⟨[.slice s.a s.len s.cap]⟩ w K:=by
 have hl:=(h.rdb s).1
 rw [ql] at hl
 refine qfc (qq.ok _ _ _ ?_)
 unfold qq qq.j1
 refine qub.c h fun w h=>⟨_,_,rfl,?_⟩
 refine qne (fun g=>?_) (fun g=>?_)
 · exact hk2 w (by simpa using g) h
 have g:(qwl ls).2=0:=by simpa using g
 obtain ⟨hok,hkr,hlen,_⟩:=qtr g
 unfold qq.j2
 refine h.makeI (n:=ls.length) (by omega) (by omega) (by omega) fun o w ho1 ho2 h=>?_
 unfold qq.j3 qq.j5
 have oc0:List.replicate ls.length 0=ocL ls 1 0:=by
  rw [qpk]
  exact qpd fun i hi=>by rw [if_neg (by omega)]
 rw [oc0] at h
 refine qkg (fun (n:Nat) (c n':Int) w'=>n'=n∧1≤n∧n≤16∧c=(hf ls n:Int)∧St F0 w0 w' (qcc 1 o (ivs .i64 (ocL ls n 0)) :: ps)) (fun n=>16 - n) 1 ⟨rfl,by omega,by omega,rfl,h⟩ ?_
 clear h
 rintro n c n' w I μ ⟨rfl,hn1,hn,rfl,h⟩ hin
 unfold qq.b1
 refine qnc (fun g3=>?_) (fun g3=>?_)
 · have hb:=qwj ls hok hkr (n:=n) (by omega)
   unfold qq.j6 qq.j9
   refine qkg (fun (i:Nat) (c i':Int) w'=>i'=i∧i≤ls.length∧c=((hf ls n+hc (ls.take i) n:Nat):Int)∧St F0 w0 w' (qcc 1 o (ivs .i64 (ocL ls n i)) :: ps)) (fun i=>ls.length - i) 0 ⟨rfl,by omega,by rw [List.take_zero]; simp [hc],h⟩ ?_
   clear h
   rintro i c i' w I2 μ2 ⟨rfl,hi,rfl,h⟩ hin2
   unfold qq.b2
   refine qnc (fun g4=>?_) (fun g4=>?_)
   · have hil:i < ls.length:=by omega
     have hcs:hc (ls.take (i+1)) n=hc (ls.take i) n+if 0 < n∧ls.getD i 0=n then 1 else 0:=by rw [qji hil,qqm]
     have hcl:=hc_le (ls.take i) n
     rw [List.length_take] at hcl
     refine h.lx (s:=s) i rfl hil ?_
     refine qne (fun g5=>?_) (fun g5=>?_)
     · have g5:ls.getD i 0=n:=by simpa using g5
       rw [if_pos ⟨by omega,g5⟩] at hcs
       have hce:=hcode_eq g5 (by omega)
       refine h.sx (s:=o) i rfl (by unfold ocL; rw [qad]; exact hil) fun w h=>?_
       refine qn (qd (by omega) (by omega)) ?_
       refine qn (qd (by omega) (by omega)) ?_
       have e:(ocL ls n i).set i ((hf ls n+hc (ls.take i) n:Nat):Int)=ocL ls n (i+1):=by
        unfold ocL
        rw [qpj]
        refine qpd fun j hj=>?_
        by_cases h1:j=i
        · rw [if_pos h1,h1,if_pos ⟨by omega,Or.inr ⟨g5,by omega⟩⟩,hce]
        · rw [if_neg h1]
          by_cases h2:0 < ls.getD j 0∧(ls.getD j 0 < n ∨ (ls.getD j 0=n∧j < i))
          · rw [if_pos h2,if_pos (by omega)]
          · rw [if_neg h2,if_neg (by omega)]
       rw [e] at h
       exact ⟨⟨rfl,rfl,rfl⟩,hin2 (i+1) _ _ _ ⟨by omega,by omega,by omega,h⟩ (by omega)⟩
     · have g5:¬ ls.getD i 0=n:=by simpa using g5
       rw [if_neg (fun e=>g5 e.2)] at hcs
       refine qn (qd (by omega) (by omega)) ?_
       have e:ocL ls n i=ocL ls n (i+1):=by
        refine qpd fun j hj=>?_
        by_cases h1:j=i
        · rw [h1]
          by_cases h2:0 < ls.getD i 0∧ls.getD i 0 < n
          · rw [if_pos ⟨h2.1,Or.inl h2.2⟩,if_pos ⟨h2.1,Or.inl h2.2⟩]
          · rw [if_neg (by omega),if_neg (by omega)]
        · by_cases h2:0 < ls.getD j 0∧(ls.getD j 0 < n ∨ (ls.getD j 0=n∧j < i))
          · rw [if_pos h2,if_pos (by omega)]
          · rw [if_neg h2,if_neg (by omega)]
       rw [e] at h
       exact ⟨⟨rfl,rfl,rfl⟩,hin2 (i+1) _ _ _ ⟨by omega,by omega,by omega,h⟩ (by omega)⟩
   · have:i=ls.length:=by omega
     subst this
     rw [List.take_length]
     unfold qq.j8
     refine ⟨by decide,qn (shl1 (by omega)) ?_⟩
     unfold qq.j7
     refine qn (qd (by omega) (by omega)) ?_
     have e:ocL ls n ls.length=ocL ls (n+1) 0:=by
      refine qpd fun j hj=>?_
      by_cases h2:0 < ls.getD j 0∧(ls.getD j 0 < n ∨ (ls.getD j 0=n∧j < ls.length))
      · rw [if_pos h2,if_pos (by omega)]
      · rw [if_neg h2,if_neg (by omega)]
     rw [e] at h
     have e2:hf ls (n+1)=2 * (hf ls n+hc ls n):=rfl
     exact ⟨⟨rfl,rfl⟩,hin (n+1) _ _ _ ⟨by omega,by omega,by omega,by omega,h⟩ (by omega)⟩
 · have:n=16:=by omega
   subst this
   have e:ocL ls 16 0=hcodes ls:=by
    show qfj _ _=qfj _ fun i=>(qbg ls i:Int)
    refine qpd fun j hj=>?_
    have hx:=hok _ (qee hj)
    by_cases h2:0 < ls.getD j 0
    · rw [if_pos ⟨h2,Or.inl (by omega)⟩]
    · rw [if_neg (by omega),hcode_no (by omega)]; rfl
   rw [e] at h
   unfold qq.j4
   exact hk o w g h
def hrA (cb:Nat) (ls:List Int):As:=exA fun s:Sl × Sl=>ifA (okL ls∧kr ls≤32768∧ls.length≤288) <| andA (qzc cb [.slice s.1.a s.1.len s.1.cap,.slice s.2.a s.2.len s.2.cap]) <| andA (qcc 1 s.1 (ivs .i64 ls)) (qcc 1 s.2 (ivs .i64 (hcodes ls)))
theorem hrA_get (cb:Nat) (h:St F0 w0 w ps) [PkF hrA cb ps ls rest]:okL ls∧kr ls≤32768∧ls.length≤288∧∃ s1 s2:Sl,Blk w cb [.slice s1.a s1.len s1.cap,.slice s2.a s2.len s2.cap]∧Rd w 1 s1 (ivs .i64 ls)∧Rd w 1 s2 (ivs .i64 (hcodes ls)):=by
 obtain ⟨s,h⟩:=(h.toF hrA cb).exE
 obtain ⟨⟨h1,h2,h3⟩,h⟩:=h.ifE
 have h:=h.split
 have g:=h.drop.split
 exact ⟨h1,h2,h3,s.1,s.2,h.blk,g.ord,g.drop.ord⟩
theorem hrA_i {cb:Nat} {s1 s2:Sl} (h1:okL ls) (h2:kr ls≤32768) (h3:ls.length≤288) (h:St F0 w0 w (qzc cb [.slice s1.a s1.len s1.cap,.slice s2.a s2.len s2.cap] :: qcc 1 s1 (ivs .i64 ls) :: qcc 1 s2 (ivs .i64 (hcodes ls)) :: rest)):St F0 w0 w (hrA cb ls :: rest):=by
 have h:=(h.tail fun _ _ _ h=>h.join).join
 exact (h.ifI (c:=okL ls∧kr ls≤32768∧ls.length≤288) ⟨h1,h2,h3⟩).exI (p:=fun s:Sl × Sl=>ifA (okL ls∧kr ls≤32768∧ls.length≤288) <| andA (qzc cb [.slice s.1.a s.1.len s.1.cap,.slice s.2.a s.2.len s.2.cap]) <| andA (qcc 1 s.1 (ivs .i64 ls)) (qcc 1 s.2 (ivs .i64 (hcodes ls)))) (s1,s2)
theorem qct {i:Nat} (h:i < ls.length):((ls.take (i+1)).filter (0 < ·)).sum=((ls.take i).filter (0 < ·)).sum+if 0 < ls.getD i 0 then ls.getD i 0 else 0:=by
 rw [qji h,List.filter_append,List.sum_append]
 by_cases h0:0 < ls.getD i 0
 · rw [if_pos h0]
   have:[ls.getD i 0].filter (0 < ·)=[ls.getD i 0]:=List.filter_eq_self.2 fun a ha=>by rw [List.mem_singleton.1 ha]; simpa using h0
   rw [this]; simp
 · rw [if_neg h0]
   have:[ls.getD i 0].filter (0 < ·)=[]:=List.filter_eq_nil_iff.2 fun a ha=>by rw [List.mem_singleton.1 ha]; simpa using h0
   rw [this]; simp
theorem qgb.c {s:Sl} {half:Bool} {K:Ending→World→Prop} (h:St F0 w0 w ps) [Rdb F0 w0 s ps 1 (ivs .i64 ls)]
 (hk:∀ cb w',qcj ls half=0→St F0 w0 w' (hrA cb ls :: ps)→K (.returned (.tuple ⟨[.pointer (some ⟨cb,0,none⟩),.int .i64 0]⟩)) w')
 (hk2:∀ w',qcj ls half ≠ 0→St F0 w0 w' ps→K (.returned (.tuple ⟨[.pointer none,.int .i64 (qcj ls half)]⟩)) w'):Calls Tryz.prog 310 ⟨[.slice s.a s.len s.cap,.bool half]⟩ w K:=by
 have hl:=(h.rdb s).1
 rw [ql] at hl
 refine qfc (qgb.ok _ _ _ _ ?_)
 unfold qgb qgb.j1
 refine qub.c h fun w h=>⟨_,_,rfl,?_⟩
 refine qne (fun g=>?_) (fun g=>?_)
 · have g:(qwl ls).2 ≠ 0:=by simpa using g
   have e:qcj ls half=(qwl ls).2:=by unfold qcj; rw [if_pos g]
   rw [e] at hk2
   exact hk2 w g h
 have g:(qwl ls).2=0:=by simpa using g
 obtain ⟨hok,hkr,hlen,hfull⟩:=qtr g
 have hnw:qcj ls half=if (qwl ls).1=false∧(half && hhalf ls)=false then 2 else 0:=by unfold qcj; rw [if_neg (by rw [g]; decide)]
 have fin:∀ {w},St F0 w0 w ps→qcj ls half=0→qgb.j3 s (fun v w'=>K (.returned v) w') w:=by
  intro w h hn0
  unfold qgb.j3
  refine qq.c h (fun s2 w _ h=>⟨s2,_,rfl,?_⟩) (fun w hne _=>absurd g hne)
  refine h.clone (k:=.i64) (s2:=s) (by omega) fun s1 w h=>?_
  refine h.new fun nb w h=>?_
  exact hk nb w hn0 (hrA_i (s1:=s1) (s2:=s2) hok hkr hlen h)
 unfold qgb.j2 qgb.j4
 refine qne (fun g5=>?_) (fun g5=>?_)
 · have g5:(qwl ls).1=false:=by simpa using g5
   unfold qgb.j5 qgb.j7
   have hsl:∀ i,i≤ls.length→0≤((ls.take i).filter (0 < ·)).sum∧((ls.take i).filter (0 < ·)).sum≤15 * i:=by
    intro i
    induction i with
    | zero=>intro _; simp
    | succ i ih =>
      intro hi
      have h1:=ih (by omega)
      have h2:=hok _ (qee (show i < ls.length by omega))
      rw [qct (by omega)]
      split <;> omega
   refine qkg (fun (i:Nat) (c i':Int) w'=>i'=i∧i≤ls.length∧c=((ls.take i).filter (0 < ·)).sum∧St F0 w0 w' ps) (fun i=>ls.length - i) 0 ⟨rfl,by omega,rfl,h⟩ ?_
   clear h
   rintro i c i' w I μ ⟨rfl,hi,rfl,h⟩ hin
   have hs1:=hsl i hi
   unfold qgb.b1
   refine qnc (fun g4=>?_) (fun g4=>?_)
   · have hil:i < ls.length:=by omega
     have h2:=hok _ (qee hil)
     have hsn:=qct hil
     refine h.lx i rfl hil ?_
     refine qnc (fun g6=>?_) (fun g6=>?_)
     · rw [if_pos (by omega)] at hsn
       refine h.lx i rfl hil ?_
       refine qn (qd (by omega) (by omega)) ?_
       refine qn (qd (by omega) (by omega)) ?_
       exact ⟨⟨rfl,rfl⟩,hin (i+1) _ _ _ ⟨by omega,by omega,hsn.symm,h⟩ (by omega)⟩
     · rw [if_neg (by omega),Int.add_zero] at hsn
       refine qn (qd (by omega) (by omega)) ?_
       exact ⟨⟨rfl,rfl⟩,hin (i+1) _ _ _ ⟨by omega,by omega,hsn.symm,h⟩ (by omega)⟩
   · have:i=ls.length:=by omega
     subst this
     rw [List.take_length]
     have hh:=qfq hok
     unfold qgb.j6
     refine qne (fun g6=>?_) (fun g6=>?_)
     · have g6:half=false:=by simpa using g6
       rw [if_pos ⟨g5,by rw [g6]; rfl⟩] at hnw
       rw [hnw] at hk2
       exact hk2 w (by decide) h
     · have g6:half=true:=by simpa using g6
       refine qnc (fun g7=>?_) (fun g7=>?_)
       · rw [decide_eq_false (by omega)] at hh
         rw [if_pos ⟨g5,by rw [hh]; simp⟩] at hnw
         rw [hnw] at hk2
         exact hk2 w (by decide) h
       · rw [decide_eq_true (by omega)] at hh
         rw [if_neg (fun e=>by rw [hh,g6] at e; exact absurd e.2 (by decide))] at hnw
         exact fin h hnw
 · have g5:(qwl ls).1=true:=by simpa using g5
   exact fin h (by rw [hnw,if_neg (fun e=>by rw [g5] at e; exact absurd e.1 (by decide))])
def bitR (rb:Nat) (x:Sl × Nat):As:=rfA rb x.1 x.2
theorem qw.one {rb V N p:Nat} {s:Sl} {K:Ending→World→Prop} (h:St F0 w0 w (bitR rb (s,p) :: ps)) [Rdb F0 w0 s ps 1 (u8s (byt V N))] (hN:N≤137438953472) (hp:p≤8 * N)
 (hk:p < 8 * N→∀ w',St F0 w0 w' (bitR rb (s,p+1) :: ps)→K (.returned (.tuple ⟨[.int .i64 ((bt V p).toNat:Nat),.bool true]⟩)) w')
 (hk':¬ p < 8 * N→∀ w',St F0 w0 w' (bitR rb (s,p) :: ps)→K (.returned (.tuple ⟨[.int .i64 0,.bool false]⟩)) w') :
 Calls Tryz.prog 307 ⟨[.pointer (some ⟨rb,0,none⟩),.int .i64 1]⟩ w K:=by
 refine qw.c (V:=V) (N:=N) (at':=p) (s:=s) h (fun w h=>h.rdb s) hN hp (fun g w h=>?_) (fun g w h=>?_)
 · have g:p < 8 * N:=by simp [getOk] at g; omega
   have e:=qoq V p
   have e2:((V / 2 ^ p % 2 ^ (1:Int).toNat:Nat):Int)=(((bt V p).toNat:Nat):Int):=by
    rw [e,show (1:Int).toNat=1 by decide,Nat.pow_one]
    simp
   rw [e2]
   exact hk g w h
 · have g:¬ p < 8 * N:=by simp [getOk] at g; omega
   exact hk' g w h
theorem qj.c {cb rb V N p:Nat} {s:Sl} {K:Ending→World→Prop} (h:St F0 w0 w (bitR rb (s,p) :: ps)) [PkF hrA cb ps ls rest] [Rdb F0 w0 s ps 1 (u8s (byt V N))] (hN:N≤137438953472) (hp:p≤8 * N)
 (hk:∀ w',(hnext ls (qi V (8 * N)) p).2.2≤8 * N→St F0 w0 w' (bitR rb (s,(hnext ls (qi V (8 * N)) p).2.2) :: ps)→K (.returned (.tuple ⟨[.int .i64 (hnext ls (qi V (8 * N)) p).1,.int .i64 (hnext ls (qi V (8 * N)) p).2.1]⟩)) w') :
 Calls Tryz.prog 334 ⟨[.pointer (some ⟨cb,0,none⟩),.pointer (some ⟨rb,0,none⟩)]⟩ w K:=by
 refine qfc (qj.ok _ _ _ _ ?_)
 unfold qj qj.j1 qj.j3
 obtain ⟨hok,hkr,hlen,_⟩:=hrA_get cb h
 have hlg:=hlong_le ls 15 (by decide)
 refine qkg (fun (a:Nat × Nat × Nat) (t6 t7:Int) w'=>t6=a.2.1∧t7=a.1∧1≤a.1∧a.1≤qyh ls 15∧hf ls (a.1 - 1)+hc ls (a.1 - 1)≤a.2.1∧a.2.1 < 2 ^ (a.1 - 1)∧a.2.2≤8 * N ∧
  hdec ls (qi V (8 * N)) (qyh ls 15+1 - a.1) a.1 a.2.1 a.2.2=hnext ls (qi V (8 * N)) p∧St F0 w0 w' (bitR rb (s,a.2.2) :: ps)) (fun a=>17 - a.1) (1,0,p) ⟨rfl,rfl,by simp,by simp only; omega,by simp [hf,hc],by simp,hp,by simp [hnext],h⟩ ?_
 clear h
 rintro ⟨n,v,q⟩ t6 t7 wO I μ ⟨rfl,rfl,hn1,hn,hge,hv,hq,hd,h⟩ hin
 simp only at hn1 hn hge hv hq hd h hin ⊢
 obtain ⟨m,rfl⟩:∃ m,n=m+1:=⟨n - 1,by omega⟩
 rw [Nat.add_sub_cancel] at hge hv
 unfold qj.b1
 refine qnc (fun g=>?_) (fun g=>by omega)
 have hm15:m+1≤15:=by omega
 have hv2:v < 32768:=Nat.lt_of_lt_of_le hv (Nat.le_trans (Nat.pow_le_pow_right (by decide) (show m≤15 by omega)) (by decide))
 obtain ⟨f,hf1⟩:∃ f,qyh ls 15+1 - (m+1)=f+1:=⟨qyh ls 15 - (m+1),by omega⟩
 rw [hf1,hdec,qpt] at hd
 unfold qj.j4
 refine qw.one (s:=s) h hN hq (fun gk w h=>⟨_,_,rfl,?_⟩) (fun gk w h=>⟨_,_,rfl,?_⟩)
 · rw [if_pos gk] at hd
   simp only at hd
   refine qsj ?_
   unfold qj.j6
   refine ⟨by decide,qn (shl1 (by omega)) ?_⟩
   refine qn (or1 _ (by omega)) ?_
   have hb1:=qwj ls hok hkr (n:=m) (by omega)
   have hb2:=qwj ls hok hkr (n:=m+1) hm15
   have hx:(bt V q).toNat < 2:=by cases bt V q <;> decide
   generalize (bt V q).toNat=x at hd hx ⊢
   have hfe:hf ls (m+1)=2 * (hf ls m+hc ls m):=rfl
   unfold qj.j7 qj.j9
   refine qkg (fun (i:Nat) (t10:Bool) (i':Int) w'=>i'=i∧i≤ls.length∧(∀ j,j < i→¬ (ls.getD j 0=((m+1:Nat):Int)∧qbg ls j=2 * v+x))∧(t10=true ↔ ∃ j,j < i∧((m+1:Nat):Int) < ls.getD j 0)∧St F0 w0 w' (bitR rb (s,q+1) :: ps)) (fun i=>ls.length - i) 0
    ⟨rfl,by omega,fun j hj=>by omega,⟨fun e=>by (cases e),fun ⟨j,hj,_⟩=>absurd hj (Nat.not_lt_zero _)⟩,h⟩ ?_
   clear h
   rintro i t10 i' w I2 μ2 ⟨rfl,hi,hno,hsome,h⟩ hin2
   unfold qj.b2
   obtain ⟨_,_,_,s1,s2,hb,r1,r2⟩:=hrA_get cb h
   have l1:=r1.1
   rw [ql] at l1
   refine qtd (hb.ldL (o:=0) (n:=s1) rfl ?_)
   refine qnc (fun g2=>?_) (fun g2=>?_)
   · have hil:i < ls.length:=by omega
     have step:¬ (ls.getD i 0=((m+1:Nat):Int)∧qbg ls i=2 * v+x)→qj.j12 (some ⟨cb,0,none⟩) (some ⟨rb,0,none⟩) ((2 * v+x:Nat):Int) ((m+1:Nat):Int) t10 (i:Int) (fun v w'=>K (.returned v) w')
      (fun d_0' i_1' t6' t7' w'=>(d_0'=some ⟨cb,0,none⟩∧i_1'=some ⟨rb,0,none⟩)∧I t6' t7' w'∧μ t6' t7' w' < μ (v:Int) ((m+1:Nat):Int) wO)
      (fun d_0' i_1' t6' t7' t10' t11' w'=>(d_0'=some ⟨cb,0,none⟩∧i_1'=some ⟨rb,0,none⟩∧t6'=((2 * v+x:Nat):Int)∧t7'=((m+1:Nat):Int))∧I2 t10' t11' w'∧μ2 t10' t11' w' < μ2 t10 (i:Int) w) w:=by
      intro hn3
      have hno2:∀ j,j < i+1→¬ (ls.getD j 0=((m+1:Nat):Int)∧qbg ls j=2 * v+x):=fun j hj=>by
       by_cases e:j=i
       · rw [e]; exact hn3
       · exact hno j (by omega)
      unfold qj.j12
      refine qne (fun g5=>?_) (fun g5=>?_)
      · unfold qj.j11
        refine qn (qd (by omega) (by omega)) ?_
        obtain ⟨j,hj1,hj2⟩:=hsome.1 g5
        exact ⟨⟨rfl,rfl,rfl,rfl⟩,hin2 (i+1) _ _ _ ⟨by omega,by omega,hno2,⟨fun _=>⟨j,by omega,hj2⟩,fun _=>rfl⟩,h⟩ (by omega)⟩
      · refine qtd (hb.ldL (o:=0) (n:=s1) rfl ?_)
        refine r1.at i rfl hil ?_
        unfold qj.j11
        refine qn (qd (by omega) (by omega)) ?_
        refine ⟨⟨rfl,rfl,rfl,rfl⟩,hin2 (i+1) _ _ _ ⟨by omega,by omega,hno2,⟨fun e=>⟨i,by omega,by simpa using e⟩,fun ⟨j,hj1,hj2⟩=>?_⟩,h⟩ (by omega)⟩
        by_cases e:j=i
        · subst e; simpa using hj2
        · have:=hsome.2 ⟨j,by omega,hj2⟩
          rw [this] at g5; cases g5
     unfold qj.j10
     refine qtd (hb.ldL (o:=0) (n:=s1) rfl ?_)
     refine r1.at i rfl hil ?_
     refine qne (fun g3=>?_) (fun g3=>?_)
     · have g3:ls.getD i 0=((m+1:Nat):Int):=by simpa using g3
       refine qtd (hb.ldL (o:=1) (n:=s2) rfl ?_)
       refine r2.at i rfl (by rw [qoo]; exact hil) ?_
       rw [qsr _ hil]
       refine qne (fun g4=>?_) (fun g4=>?_)
       · have g4:qbg ls i=2 * v+x:=by have:(qbg ls i:Int)=((2 * v+x:Nat):Int):=by simpa using g4
                                      omega
         obtain ⟨e1,e2⟩:=hcode_lt hil g3 (by omega)
         rw [if_pos (by omega)] at hd
         have e3:2 * v+x - hf ls (m+1)=(ls.take i).count ((m+1:Nat):Int):=by
          have:=hcode_eq g3 (by omega)
          unfold hc at this
          rw [if_neg (by omega)] at this
          omega
         have e4:=hpos_at ls hil (m+1) g3
         rw [e3,List.getD_eq_getElem?_getD,e4] at hd
         rw [← hd] at hk
         exact hk w (by simp only; omega) h
       · exact step (fun e=>by rw [e.2] at g4; simp at g4)
     · exact step (fun e=>by rw [e.1] at g3; simp at g3)
   · have:i=ls.length:=by omega
     subst this
     clear hin2
     have hno3:¬ 2 * v+x < hf ls (m+1)+hc ls (m+1):=by
      intro hlt
      have hcn:hc ls (m+1)=ls.count ((m+1:Nat):Int):=by unfold hc; rw [if_neg (by omega)]
      have hpl:=qag ls (m+1)
      have hkk:2 * v+x - hf ls (m+1) < (qgl ls (m+1)).length:=by omega
      have hg:=List.getElem?_eq_getElem hkk
      obtain ⟨p1,p2,_⟩:=qeq ls (m+1) hg
      have p3:=hpos_code (l:=ls) (by omega) hg
      exact hno _ p1 ⟨p2,by omega⟩
     rw [if_neg hno3] at hd
     have hls:(∃ y ∈ ls,((m+1:Nat):Int) < y) ↔ m+1 < qyh ls 15:=hlong_some hok (by omega)
     have hmem:(∃ j,j < ls.length∧((m+1:Nat):Int) < ls.getD j 0) ↔ ∃ y ∈ ls,((m+1:Nat):Int) < y:=by
      constructor
      · rintro ⟨j,h1,h2⟩; exact ⟨_,qee h1,h2⟩
      · rintro ⟨y,h1,h2⟩
        obtain ⟨j,hj⟩:=List.getElem?_of_mem h1
        have hj2:=(List.getElem?_eq_some_iff.1 hj).1
        refine ⟨j,hj2,?_⟩
        rw [List.getD_eq_getElem?_getD,hj]
        exact h2
     unfold qj.j8
     refine qne (fun g5=>?_) (fun g5=>?_)
     · have g5:t10=false:=by simpa using g5
       have:¬ m+1 < qyh ls 15:=fun e=>by
        have:=hsome.2 (hmem.2 (hls.2 e))
        rw [this] at g5; cases g5
       have hf0:f=0:=by clear hls hmem hsome; omega
       rw [hf0,hdec] at hd
       rw [← hd] at hk
       exact hk w (by simp only; omega) h
     · have g5:t10=true:=by simpa using g5
       have hlt:=hls.1 (hmem.1 (hsome.1 g5))
       clear hls hmem hsome
       unfold qj.j5
       refine qn (qd (by omega) (by omega)) ?_
       refine ⟨⟨rfl,rfl⟩,hin (m+1+1,2 * v+x,q+1) _ _ _ ⟨rfl,by simp,by simp,by simp only; omega,?_,?_,by simp only; omega,?_,h⟩ (by simp only; omega)⟩
       · simp only [Nat.add_sub_cancel]; omega
       · simp only [Nat.add_sub_cancel]
         rw [Nat.pow_succ]; omega
       · simp only
         rw [show qyh ls 15+1 - (m+1+1)=f by omega]
         exact hd
 · rw [if_neg gk] at hd
   simp only at hd
   refine qym ?_
   rw [← hd] at hk
   exact hk w hq h
end
end Go.Proofs.YtejnemneenjliaaGreat
namespace Go.Proofs.YtejnemneenjliaaGreat
open Go Go.Proofs Go.ChangeShapes Go.WideShapes Go.Deep
set_option linter.unusedVariables false
set_option linter.unusedSimpArgs false
def tri (k0 k1 k2:IntKind) (xs:List (Int × Int × Int)):List Value:=xs.flatMap fun a=>[.int k0 a.1,.int k1 a.2.1,.int k2 a.2.2]
theorem qmi (k0 k1 k2:IntKind) (xs:List (Int × Int × Int)):(tri k0 k1 k2 xs).length=xs.length * 3:=by
 induction xs with
 | nil=>rfl
 | cons a xs ih =>
   have e:tri k0 k1 k2 (a :: xs)=[.int k0 a.1,.int k1 a.2.1,.int k2 a.2.2] ++ tri k0 k1 k2 xs:=by simp [tri]
   rw [e,List.length_append,ih,List.length_cons]
   simp; omega
theorem tri_get (k0 k1 k2:IntKind) (xs:List (Int × Int × Int)):∀ (i:Nat) (h:i < xs.length),(tri k0 k1 k2 xs)[i * 3]?=some (.int k0 xs[i].1)∧(tri k0 k1 k2 xs)[i * 3+1]?=some (.int k1 xs[i].2.1)∧(tri k0 k1 k2 xs)[i * 3+2]?=some (.int k2 xs[i].2.2):=by
 induction xs with
 | nil=>intro i h; simp at h
 | cons a xs ih =>
   intro i h
   have e:tri k0 k1 k2 (a :: xs)=.int k0 a.1 :: .int k1 a.2.1 :: .int k2 a.2.2 :: tri k0 k1 k2 xs:=by simp [tri]
   rw [e]
   cases i with
   | zero=>simp
   | succ i =>
     have:=ih i (by simpa using h)
     rw [show (i+1) * 3=i * 3+1+1+1 by omega]
     simpa using this
section
variable {H:Type} {enc:TypeId × Value→H} {P:Program} {w:World} {base:Nat} {spare:Nat→Bool} {held:Bool}
theorem open_row {t e:TypeId} {k:IntKind} {fuel:Nat} {s:Sl} {x:DataW H × List MemPlace} (ht:P.underlying t=some (.slice e)) (he:P.underlying e=some (.int k)) (hc:P.cellsOf e=1)
 (h:DataW.trod enc P w base spare held fuel t [.slice s.a s.len s.cap]=some x) :
 ∃ xs:List Int,Rd w 1 s (xs.map (Value.int k))∧(∀ n ∈ xs,(Lit.int k n).wf=true)∧xs.length=s.len∧s.len≤s.cap:=by
 obtain ⟨sa,sl,sc⟩:=s
 rcases open_ints ht he hc h with ⟨hcs,_⟩ | ⟨a,l,c,zs,hcs,_,hl,hm,hz,_,hcell,hwz⟩
 · simp at hcs
   obtain ⟨rfl,rfl,rfl⟩:=hcs
   exact ⟨[],⟨rfl,fun i hi=>by simp at hi⟩,by simp,rfl,Nat.le_refl _⟩
 · simp at hcs
   obtain ⟨rfl,rfl,rfl⟩:=hcs
   have hz:sl≤zs.length:=by rw [hz]; split <;> omega
   refine ⟨zs.take sl,⟨by simp; omega,fun i hi=>⟨a,rfl,?_⟩⟩,fun n hn=>hwz n (List.mem_of_mem_take hn),by simp; omega,hl⟩
   simp only [List.length_map,List.length_take] at hi
   rw [hcell i (by omega)]
   rw [List.getElem?_map,List.getElem?_take,if_pos (by omega),List.getElem?_eq_getElem (show i < zs.length by omega)]
   simp [List.getD,List.getElem?_eq_getElem (show i < zs.length by omega)]
instance:Inhabited Sl:=⟨⟨none,0,0⟩⟩
def sls (L:List (Sl × List Int)):List Value:=L.map fun x=>.slice x.1.a x.1.len x.1.cap
theorem open_rows {t e f:TypeId} {k:IntKind} {fuel:Nat} {s:Sl} {x:DataW H × List MemPlace} (ht:P.underlying t=some (.slice e)) (he:P.underlying e=some (.slice f)) (hf:P.underlying f=some (.int k)) (hce:P.cellsOf e=1) (hc:P.cellsOf f=1)
 (h:DataW.trod enc P w base spare held fuel t [.slice s.a s.len s.cap]=some x) :
 ∃ L:List (Sl × List Int),Rd w 1 s (sls L)∧(∀ y ∈ L,Rd w 1 y.1 (y.2.map (Value.int k))∧(∀ n ∈ y.2,(Lit.int k n).wf=true)∧y.1.len≤y.1.cap)∧L.length=s.len∧s.len≤s.cap:=by
 obtain ⟨sa,sl,sc⟩:=s
 rcases open_slice1 ht hce h with ⟨hcs,_⟩ | ⟨a,len,cap,m,n,V,D,Pl,hcs,hb,hl,hm,hmm,rfl,hx⟩
 · simp at hcs
   obtain ⟨rfl,rfl,rfl⟩:=hcs
   exact ⟨[],⟨rfl,fun i hi=>by simp [sls] at hi⟩,by simp,rfl,Nat.le_refl _⟩
 simp at hcs
 obtain ⟨rfl,rfl,rfl⟩:=hcs
 have hlm:sl≤m:=by rw [hmm]; split <;> omega
 have each:∀ i,i < sl→∃ q:Sl × List Int,w.cell? (a.add i)=some (.slice q.1.a q.1.len q.1.cap)∧Rd w 1 q.1 (q.2.map (Value.int k))∧(∀ n ∈ q.2,(Lit.int k n).wf=true)∧q.1.len≤q.1.cap:=by
  intro i hi
  obtain ⟨h1,h2⟩:=hx i (by omega)
  have hs:∃ z:Sl,V i=.slice z.a z.len z.cap:=by
   rcases open_slice he h2 with ⟨hcs,_⟩ | ⟨a2,l2,c2,_,_,_,_,hcs,_⟩
   · exact ⟨⟨none,0,0⟩,by simpa using hcs⟩
   · exact ⟨⟨some a2,l2,c2⟩,by simpa using hcs⟩
  obtain ⟨z,hz⟩:=hs
  rw [hz] at h1 h2
  obtain ⟨xs,g1,g2,g3,g4⟩:=open_row he hf hc h2
  exact ⟨(z,xs),h1,g1,g2,g4⟩
 obtain ⟨q,hq⟩:=choose_lt each
 refine ⟨(List.range sl).map q,⟨by simp [sls],fun i hi=>⟨a,rfl,?_⟩⟩,?_,by simp,hl⟩
 · have hi:i < sl:=by simpa [sls] using hi
   rw [(hq i hi).1]
   simp [sls,hi]
 · intro y hy
   obtain ⟨i,hi,rfl⟩:=List.mem_map.1 hy
   exact (hq i (List.mem_range.1 hi)).2
end
end Go.Proofs.YtejnemneenjliaaGreat
namespace Go.Proofs.YtejnemneenjliaaGreat
open Go Go.Proofs
set_option linter.unusedVariables false
set_option maxRecDepth 100000
def qu.j3 (lit_0 dist_1:Sl) (Q:VWP) (w:World):Prop :=
 qij 127 [sV lit_0] w fun r3 w2 =>
 qij 127 [sV dist_1] w2 fun r6 w5 =>
 Q (.tuple ⟨[sV r3,sV r6]⟩) w5
def qu.b1 (lit_0 dist_1:Sl) (t26:Int) (Q:VWP) (nx1:Sl→Sl→Int→WP) (w:World):Prop :=
 br (decide (t26 < 32)) (
 nw w ⟨[.int .i64 5]⟩ 3 fun a7 w8 =>
 rdO w8 (some a7) (1 * 1) fun c9 =>
 apK Tryz.prog 3 w8 dist_1.a dist_1.len dist_1.cap 1 c9 fun s10 w11 =>
 lt (IntKind.i64.wrap (t26+1)) fun x12 =>
 nx1 lit_0 s10 x12 w11) (
 qu.j3 lit_0 dist_1 Q w)
def qu.l1 (lit_0 dist_1:Sl) (t26:Int) (Q:VWP) (w:World):Prop :=
 ∃ (I:Sl→Int→WP) (μ:Sl→Int→World→Nat),I dist_1 t26 w∧∀ dist_1:Sl,∀ t26:Int,∀ w:World,I dist_1 t26 w→qu.b1 lit_0 dist_1 t26 Q (fun lit_0' dist_1' t26' w'=>(lit_0'=lit_0)∧I dist_1' t26' w'∧μ dist_1' t26' w' < μ dist_1 t26 w) w
def qu.j4 (lit_0 dist_1:Sl) (t26:Int) (Q:VWP) (w:World):Prop :=
 qu.l1 lit_0 dist_1 t26 Q w
def qu.j2 (lit_0 dist_1:Sl) (Q:VWP) (w:World):Prop :=
 qu.j4 lit_0 dist_1 0 Q w
def qu.j7 (lit_0 dist_1:Sl) (t4:Int) (Q:VWP) (nx2:Sl→Sl→Int→WP) (w:World):Prop :=
 lt (IntKind.i64.wrap (t4+1)) fun x13 =>
 nx2 dist_1 lit_0 x13 w
def qu.j9 (lit_0 dist_1:Sl) (n_3:Int) (t4:Int) (Q:VWP) (nx2:Sl→Sl→Int→WP) (w:World):Prop :=
 nw w ⟨[.int .i64 n_3]⟩ 3 fun a14 w15 =>
 rdO w15 (some a14) (1 * 1) fun c16 =>
 apK Tryz.prog 3 w15 lit_0.a lit_0.len lit_0.cap 1 c16 fun s17 w18 =>
 qu.j7 s17 dist_1 t4 Q nx2 w18
def qu.j10 (lit_0 dist_1:Sl) (i_2:Int) (n_3 t4:Int) (t7:Bool) (Q:VWP) (nx2:Sl→Sl→Int→WP) (w:World):Prop :=
 br t7 (
 qu.j9 lit_0 dist_1 9 t4 Q nx2 w) (
 br (decide (i_2 ≥ 256)) (
 br (decide (i_2 < 280)) (
 qu.j9 lit_0 dist_1 7 t4 Q nx2 w) (
 qu.j9 lit_0 dist_1 n_3 t4 Q nx2 w)) (
 qu.j9 lit_0 dist_1 n_3 t4 Q nx2 w))
def qu.j8 (lit_0 dist_1:Sl) (i_2:Int) (n_3 t4:Int) (Q:VWP) (nx2:Sl→Sl→Int→WP) (w:World):Prop :=
 br (decide (i_2 ≥ 144)) (
 qu.j10 lit_0 dist_1 i_2 n_3 t4 (decide (i_2 < 256)) Q nx2 w) (
 qu.j10 lit_0 dist_1 i_2 n_3 t4 false Q nx2 w)
def qu.j6 (lit_0 dist_1:Sl) (t4:Int) (Q:VWP) (nx2:Sl→Sl→Int→WP) (w:World):Prop :=
 qu.j8 lit_0 dist_1 t4 8 t4 Q nx2 w
def qu.b2 (dist_1 lit_0:Sl) (t4:Int) (Q:VWP) (nx2:Sl→Sl→Int→WP) (w:World):Prop :=
 br (decide (t4 < 288)) (
 qu.j6 lit_0 dist_1 t4 Q nx2 w) (
 qu.j2 lit_0 dist_1 Q w)
def qu.l2 (dist_1 lit_0:Sl) (t4:Int) (Q:VWP) (w:World):Prop :=
 ∃ (I:Sl→Int→WP) (μ:Sl→Int→World→Nat),I lit_0 t4 w∧∀ lit_0:Sl,∀ t4:Int,∀ w:World,I lit_0 t4 w→qu.b2 dist_1 lit_0 t4 Q (fun dist_1' lit_0' t4' w'=>(dist_1'=dist_1)∧I lit_0' t4' w'∧μ lit_0' t4' w' < μ lit_0 t4 w) w
def qu.j5 (lit_0 dist_1:Sl) (t4:Int) (Q:VWP) (w:World):Prop :=
 qu.l2 dist_1 lit_0 t4 Q w
def qu.j1 (lit_0 dist_1:Sl) (Q:VWP) (w:World):Prop :=
 qu.j5 lit_0 dist_1 0 Q w
def qu  (Q:VWP) (w:World):Prop :=
 qu.j1 ⟨none,0,0⟩ ⟨none,0,0⟩ Q w
theorem qu.ok  (Q:VWP) (w:World) (h:qu  Q w):Calls Tryz.prog 258 ⟨[]⟩ w (Ret Q) :=
 qqc [.tmp 0,.tmp 1] qbe Tryz.func258 rfl rfl rfl rfl (.sq [sL 0,sL 1] (fun a b w=>qu.j1 a b Q w) .lf (.sq [sL 0,sL 1] (fun a b w=>qu.j2 a b Q w) (.sq [sL 0,sL 1,sI 4] (fun a b c w=>qu.j5 a b c Q w) .lf (.bk (.lo [sL 1] [sL 0,sI 4] (fun a b c w=>qu.l2 a b c Q w) (fun nx2 a b c w=>qu.b2 a b c Q nx2 w) fun nx2=>(.pr 1 [sL 0,sL 1,sI 4] (fun a b c w=>qu.j6 a b c Q nx2 w) (.sq [sL 0,sL 1,sI 4] (fun a b c w=>qu.j7 a b c Q nx2 w) (.bk (.pr 1 [sL 0,sL 1,sI 2,sI 3,sI 4] (fun a b c d e w=>qu.j8 a b c d e Q nx2 w) (.sq [sL 0,sL 1,sI 3,sI 4] (fun a b c d w=>qu.j9 a b c d Q nx2 w) (.bk (.sq [sL 0,sL 1,sI 2,sI 3,sI 4,sB 7] (fun a b c d e f w=>qu.j10 a b c d e f Q nx2 w) .lf .lf)) .lf))) .lf))))) (.sq [sL 0,sL 1] (fun a b w=>qu.j3 a b Q w) (.sq [sL 0,sL 1,sI 26] (fun a b c w=>qu.j4 a b c Q w) .lf (.bk (.lo [sL 0] [sL 1,sI 26] (fun a b c w=>qu.l1 a b c Q w) (fun nx1 a b c w=>qu.b1 a b c Q nx1 w) fun nx1=>.lf))) .lf))) (by kernel_rfl) h
def qvc.j2 (k_5:Int) (Q:VWP) (w:World):Prop :=
 (4:Int) ≠ 0 ∧
 lt (IntKind.i64.wrap (Int.tdiv k_5 4)) fun x1 =>
 lt (IntKind.i64.wrap (x1 - 1)) fun x2 =>
 (4:Int) ≠ 0 ∧
 lt (Int.tmod k_5 4) fun x3 =>
 lt (IntKind.i64.wrap (4+x3)) fun x4 =>
 (0:Int)≤x2 ∧
 lt (qqi .i64 x4 x2) fun x5 =>
 lt (IntKind.i64.wrap (3+x5)) fun x6 =>
 Q (.tuple ⟨[.int .i64 x6,.int .i64 x2,.bool true]⟩) w
def qvc.j3 (sym_0 k_5:Int) (t8:Bool) (Q:VWP) (w:World):Prop :=
 br t8 (
 Q (.tuple ⟨[.int .i64 0,.int .i64 0,.bool false]⟩) w) (
 br (sym_0 == 285) (
 Q (.tuple ⟨[.int .i64 258,.int .i64 0,.bool true]⟩) w) (
 br (decide (k_5 < 8)) (
 lt (IntKind.i64.wrap (3+k_5)) fun x7 =>
 Q (.tuple ⟨[.int .i64 x7,.int .i64 0,.bool true]⟩) w) (
 qvc.j2 k_5 Q w)))
def qvc.j1 (sym_0 k_5:Int) (Q:VWP) (w:World):Prop :=
 br (decide (sym_0 < 257)) (
 qvc.j3 sym_0 k_5 true Q w) (
 qvc.j3 sym_0 k_5 (decide (sym_0 > 285)) Q w)
def qvc (sym_0:Int) (Q:VWP) (w:World):Prop :=
 lt (IntKind.i64.wrap (sym_0 - 257)) fun x8 =>
 qvc.j1 sym_0 x8 Q w
theorem qvc.ok (sym_0:Int) (Q:VWP) (w:World) (h:qvc sym_0 Q w):Calls Tryz.prog 286 ⟨[.int .i64 sym_0]⟩ w (Ret Q) :=
 qqc [.tmp 2,.tmp 3,.tmp 4] qbe Tryz.func286 rfl rfl rfl rfl (.pr 1 [sI 0,sI 5] (fun a b w=>qvc.j1 a b Q w) (.sq [sI 5] (fun a w=>qvc.j2 a Q w) (.bk (.sq [sI 0,sI 5,sB 8] (fun a b c w=>qvc.j3 a b c Q w) .lf .lf)) .lf)) (by kernel_rfl) h
def qrc.j2 (sym_0:Int) (Q:VWP) (w:World):Prop :=
 (2:Int) ≠ 0 ∧
 lt (IntKind.i64.wrap (Int.tdiv sym_0 2)) fun x1 =>
 lt (IntKind.i64.wrap (x1 - 1)) fun x2 =>
 (2:Int) ≠ 0 ∧
 lt (Int.tmod sym_0 2) fun x3 =>
 lt (IntKind.i64.wrap (2+x3)) fun x4 =>
 (0:Int)≤x2 ∧
 lt (qqi .i64 x4 x2) fun x5 =>
 lt (IntKind.i64.wrap (1+x5)) fun x6 =>
 Q (.tuple ⟨[.int .i64 x6,.int .i64 x2,.bool true]⟩) w
def qrc.j3 (sym_0:Int) (t5:Bool) (Q:VWP) (w:World):Prop :=
 br t5 (
 Q (.tuple ⟨[.int .i64 0,.int .i64 0,.bool false]⟩) w) (
 br (decide (sym_0 < 4)) (
 lt (IntKind.i64.wrap (1+sym_0)) fun x7 =>
 Q (.tuple ⟨[.int .i64 x7,.int .i64 0,.bool true]⟩) w) (
 qrc.j2 sym_0 Q w))
def qrc.j1 (sym_0:Int) (Q:VWP) (w:World):Prop :=
 br (decide (sym_0 < 0)) (
 qrc.j3 sym_0 true Q w) (
 qrc.j3 sym_0 (decide (sym_0 ≥ 30)) Q w)
def qrc (sym_0:Int) (Q:VWP) (w:World):Prop :=
 qrc.j1 sym_0 Q w
theorem qrc.ok (sym_0:Int) (Q:VWP) (w:World) (h:qrc sym_0 Q w):Calls Tryz.prog 287 ⟨[.int .i64 sym_0]⟩ w (Ret Q) :=
 qqc [.tmp 2,.tmp 3,.tmp 4] qbe Tryz.func287 rfl rfl rfl rfl (.sq [sI 0] (fun a w=>qrc.j1 a Q w) .lf (.sq [sI 0] (fun a w=>qrc.j2 a Q w) (.bk (.sq [sI 0,sB 5] (fun a b w=>qrc.j3 a b Q w) .lf .lf)) .lf)) (by kernel_rfl) h
def qgc (s_0:OAd) (err_1:Int) (Q:VWP) (w:World):Prop :=
 nz s_0 fun a1 =>
 ldI .i64 w (Addr.add a1 3) fun x2 =>
 br (x2 == 0) (
 nz s_0 fun a3 =>
 st w (Addr.add a3 3) (.int .i64 err_1) fun w4 =>
 Q (.tuple ⟨[]⟩) w4) (
 Q (.tuple ⟨[]⟩) w)
theorem qgc.ok (s_0:OAd) (err_1:Int) (Q:VWP) (w:World) (h:qgc s_0 err_1 Q w):Calls Tryz.prog 306 ⟨[.pointer s_0,.int .i64 err_1]⟩ w (Ret Q) :=
 qqc [] qbe Tryz.func306 rfl rfl rfl rfl .lf (by kernel_rfl) h
def qoc (s_0:OAd) (n_1:Int) (Q:VWP) (w:World):Prop :=
 nz s_0 fun a1 =>
 ldI .i64 w (Addr.add a1 3) fun x2 =>
 br (x2 != 0) (
 Q (.int .i64 0) w) (
 nz s_0 fun a3 =>
 ldP w (Addr.add a3 0) fun x4 =>
 ct_IB 321 [.pointer x4,.int .i64 n_1] w fun r7 r8 w6 =>
 br (!r8) (
 ct_ 306 [.pointer s_0,.int .i64 3] w6 fun w10 =>
 Q (.int .i64 r7) w10) (
 Q (.int .i64 r7) w6))
theorem qoc.ok (s_0:OAd) (n_1:Int) (Q:VWP) (w:World) (h:qoc s_0 n_1 Q w):Calls Tryz.prog 302 ⟨[.pointer s_0,.int .i64 n_1]⟩ w (Ret Q) :=
 qqc [.tmp 4] qbe Tryz.func302 rfl rfl rfl rfl .lf (by kernel_rfl) h
def qqe (s_0:OAd) (b_1:Int) (Q:VWP) (w:World):Prop :=
 nz s_0 fun a1 =>
 ldI .i64 w (Addr.add a1 3) fun x2 =>
 br (x2 != 0) (
 Q (.tuple ⟨[]⟩) w) (
 lt (World.drew w) fun w3 =>
 nz s_0 fun a4 =>
 ldL w3 (Addr.add a4 1) fun x5 =>
 nz s_0 fun a6 =>
 ldI .i64 w3 (Addr.add a6 2) fun x7 =>
 br (decide ((x5.len:Int) ≥ x7)) (
 ct_ 306 [.pointer s_0,.int .i64 5] w3 fun w9 =>
 Q (.tuple ⟨[]⟩) w9) (
 nz s_0 fun a10 =>
 ldL w3 (Addr.add a10 1) fun x11 =>
 nw w3 ⟨[.int .u8 b_1]⟩ 5 fun a12 w13 =>
 rdO w13 (some a12) (1 * 1) fun c14 =>
 apK Tryz.prog 5 w13 x11.a x11.len x11.cap 1 c14 fun s15 w16 =>
 nz s_0 fun a17 =>
 st w16 (Addr.add a17 1) (sV s15) fun w18 =>
 Q (.tuple ⟨[]⟩) w18))
theorem qqe.ok (s_0:OAd) (b_1:Int) (Q:VWP) (w:World) (h:qqe s_0 b_1 Q w):Calls Tryz.prog 323 ⟨[.pointer s_0,.int .u8 b_1]⟩ w (Ret Q) :=
 qqc [] qbe Tryz.func323 rfl rfl rfl rfl .lf (by kernel_rfl) h
def qtb.b1 (s_0:OAd) (t41:Int) (t42:Int) (Q:VWP) (nx1:OAd→Int→Int→WP) (w:World):Prop :=
 br (decide (t42 < t41)) (
 qxi 302 [.pointer s_0,.int .i64 8] w fun r3 w2 =>
 lt (IntKind.u8.wrap r3) fun x4 =>
 ct_ 323 [.pointer s_0,.int .u8 x4] w2 fun w6 =>
 lt (IntKind.i64.wrap (t42+1)) fun x7 =>
 nx1 s_0 t41 x7 w6) (
 Q (.tuple ⟨[]⟩) w)
def qtb.l1 (s_0:OAd) (t41:Int) (t42:Int) (Q:VWP) (w:World):Prop :=
 ∃ (I:Int→WP) (μ:Int→World→Nat),I t42 w∧∀ t42:Int,∀ w:World,I t42 w→qtb.b1 s_0 t41 t42 Q (fun s_0' t41' t42' w'=>(s_0'=s_0∧t41'=t41)∧I t42' w'∧μ t42' w' < μ t42 w) w
def qtb.j2 (s_0:OAd) (t41:Int) (t42:Int) (Q:VWP) (w:World):Prop :=
 qtb.l1 s_0 t41 t42 Q w
def qtb.j1 (s_0:OAd) (n_2:Int) (m_3:Int) (Q:VWP) (w:World):Prop :=
 nz s_0 fun a8 =>
 ldI .i64 w (Addr.add a8 3) fun x9 =>
 br (x9 != 0) (
 Q (.tuple ⟨[]⟩) w) (
 lt (qyl .i64 n_2 m_3) fun x10 =>
 br (x10 != 65535) (
 ct_ 306 [.pointer s_0,.int .i64 2] w fun w12 =>
 Q (.tuple ⟨[]⟩) w12) (
 lt (World.drew w) fun w13 =>
 nz s_0 fun a14 =>
 ldI .i64 w13 (Addr.add a14 2) fun x15 =>
 nz s_0 fun a16 =>
 ldL w13 (Addr.add a16 1) fun x17 =>
 lt (IntKind.i64.wrap (x15 - (x17.len:Int))) fun x18 =>
 br (decide (n_2 > x18)) (
 ct_ 306 [.pointer s_0,.int .i64 5] w13 fun w20 =>
 Q (.tuple ⟨[]⟩) w20) (
 qtb.j2 s_0 n_2 0 Q w13)))
def qtb (s_0:OAd) (Q:VWP) (w:World):Prop :=
 nz s_0 fun a21 =>
 ldP w (Addr.add a21 0) fun x22 =>
 ct_ 322 [.pointer x22] w fun w24 =>
 qxi 302 [.pointer s_0,.int .i64 16] w24 fun r27 w26 =>
 qxi 302 [.pointer s_0,.int .i64 16] w26 fun r30 w29 =>
 qtb.j1 s_0 r27 r30 Q w29
theorem qtb.ok (s_0:OAd) (Q:VWP) (w:World) (h:qtb s_0 Q w):Calls Tryz.prog 303 ⟨[.pointer s_0]⟩ w (Ret Q) :=
 qqc [] qbe Tryz.func303 rfl rfl rfl rfl (.pr 1 [sP 0,sI 2,sI 3] (fun a b c w=>qtb.j1 a b c Q w) (.pr 1 [sP 0,sI 41,sI 42] (fun a b c w=>qtb.j2 a b c Q w) (.bk (.lo [sP 0,sI 41] [sI 42] (fun a b c w=>qtb.l1 a b c Q w) (fun nx1 a b c w=>qtb.b1 a b c Q nx1 w) fun nx1=>.lf)))) (by kernel_rfl) h
def qjd (s_0:OAd) (lens_1:Sl) (half_2:Bool) (Q:VWP) (w:World):Prop :=
 nz s_0 fun a1 =>
 ldI .i64 w (Addr.add a1 3) fun x2 =>
 br (x2 != 0) (
 Q (.pointer none) w) (
 ct_PI 259 [sV lens_1,.bool half_2] w fun r5 r6 w4 =>
 br (r6 != 0) (
 ct_ 306 [.pointer s_0,.int .i64 2] w4 fun w8 =>
 Q (.pointer r5) w8) (
 Q (.pointer r5) w4))
theorem qjd.ok (s_0:OAd) (lens_1:Sl) (half_2:Bool) (Q:VWP) (w:World) (h:qjd s_0 lens_1 half_2 Q w):Calls Tryz.prog 324 ⟨[.pointer s_0,sV lens_1,.bool half_2]⟩ w (Ret Q) :=
 qqc [.tmp 6] qbe Tryz.func324 rfl rfl rfl rfl .lf (by kernel_rfl) h
def qpe (s_0 cap1:OAd) (Q:VWP) (w:World):Prop :=
 nz s_0 fun a1 =>
 ldI .i64 w (Addr.add a1 3) fun x2 =>
 br (x2 != 0) (
 Q (.int .i64 0) w) (
 nz s_0 fun a3 =>
 ldP w (Addr.add a3 0) fun x4 =>
 ct_II 326 [.pointer cap1,.pointer x4] w fun r7 r8 w6 =>
 ct_ 306 [.pointer s_0,.int .i64 r8] w6 fun w10 =>
 Q (.int .i64 r7) w10)
theorem qpe.ok (s_0:OAd) (cap1:OAd) (Q:VWP) (w:World) (h:qpe s_0 cap1 Q w):Calls Tryz.prog 325 ⟨[.pointer s_0,.func (.func 326) ⟨[.pointer cap1]⟩ ⟨[]⟩]⟩ w (Ret Q) :=
 qqc [.tmp 4] qbe Tryz.func325 rfl rfl rfl rfl .lf (by kernel_rfl) h
def qr.b1 (d_0:OAd) (t6:Int) (t9 t11:Int) (Q:VWP) (nx1:OAd→Int→Int→Int→WP) (w:World):Prop :=
 br (decide (t11 < t6)) (
 nz d_0 fun a1 =>
 ldI .i64 w (Addr.add a1 3) fun x2 =>
 br (x2 == 0) (
 lt (World.drew w) fun w3 =>
 nz d_0 fun a4 =>
 ldL w3 (Addr.add a4 1) fun x5 =>
 nz d_0 fun a6 =>
 ldL w3 (Addr.add a6 1) fun x7 =>
 lt (IntKind.i64.wrap ((x7.len:Int) - t9)) fun x8 =>
 ixS x5.a x5.len x8 1 fun a9 =>
 ldI .u8 w3 a9 fun x10 =>
 ct_ 323 [.pointer d_0,.int .u8 x10] w3 fun w12 =>
 lt (IntKind.i64.wrap (t11+1)) fun x13 =>
 nx1 d_0 t6 t9 x13 w12) (
 Q (.tuple ⟨[]⟩) w)) (
 Q (.tuple ⟨[]⟩) w)
def qr.l1 (d_0:OAd) (t6:Int) (t9 t11:Int) (Q:VWP) (w:World):Prop :=
 ∃ (I:Int→WP) (μ:Int→World→Nat),I t11 w∧∀ t11:Int,∀ w:World,I t11 w→qr.b1 d_0 t6 t9 t11 Q (fun d_0' t6' t9' t11' w'=>(d_0'=d_0∧t6'=t6∧t9'=t9)∧I t11' w'∧μ t11' w' < μ t11 w) w
def qr.j5 (d_0:OAd) (t6:Int) (t9 t11:Int) (Q:VWP) (w:World):Prop :=
 qr.l1 d_0 t6 t9 t11 Q w
def qr.j4 (d_0:OAd) (t6:Int) (t9:Int) (Q:VWP) (w:World):Prop :=
 qr.j5 d_0 t6 t9 0 Q w
def qr.j3 (d_0:OAd) (t6:Int) (t9 t10:Int) (Q:VWP) (w:World):Prop :=
 qxi 302 [.pointer d_0,.int .i64 t10] w fun r16 w15 =>
 lt (IntKind.i64.wrap (t9+r16)) fun x17 =>
 nz d_0 fun a18 =>
 ldL w15 (Addr.add a18 1) fun x19 =>
 br (decide (x17 > (x19.len:Int))) (
 ct_ 306 [.pointer d_0,.int .i64 2] w15 fun w21 =>
 qr.j4 d_0 t6 x17 Q w21) (
 qr.j4 d_0 t6 x17 Q w15)
def qr.j2 (d_0 t2:OAd) (t6:Int) (Q:VWP) (w:World):Prop :=
 qxi 325 [.pointer d_0,.func (.func 326) ⟨[.pointer t2]⟩ ⟨[]⟩] w fun r24 w23 =>
 qmt 287 [.int .i64 r24] w23 fun r27 r28 r29 w26 =>
 br (!r29) (
 ct_ 306 [.pointer d_0,.int .i64 2] w26 fun w31 =>
 qr.j3 d_0 t6 r27 r28 Q w31) (
 qr.j3 d_0 t6 r27 r28 Q w26)
def qr.j1 (d_0 t2:OAd) (t6:Int) (t7:Int) (Q:VWP) (w:World):Prop :=
 qxi 302 [.pointer d_0,.int .i64 t7] w fun r34 w33 =>
 lt (IntKind.i64.wrap (t6+r34)) fun x35 =>
 qr.j2 d_0 t2 x35 Q w33
def qr (d_0:OAd) (i_1:Int) (cap2:OAd) (Q:VWP) (w:World):Prop :=
 qmt 286 [.int .i64 i_1] w fun r38 r39 r40 w37 =>
 br (!r40) (
 ct_ 306 [.pointer d_0,.int .i64 2] w37 fun w42 =>
 qr.j1 d_0 cap2 r38 r39 Q w42) (
 qr.j1 d_0 cap2 r38 r39 Q w37)
theorem qr.ok (d_0:OAd) (i_1:Int) (cap2:OAd) (Q:VWP) (w:World) (h:qr d_0 i_1 cap2 Q w):Calls Tryz.prog 327 ⟨[.pointer d_0,.int .i64 i_1,.func (.func 326) ⟨[.pointer cap2]⟩ ⟨[]⟩]⟩ w (Ret Q) :=
 qqc [] qbe Tryz.func327 rfl rfl rfl rfl (.pr 1 [sP 0,(2,.c1 326),sI 6,sI 7] (fun a b c d w=>qr.j1 a b c d Q w) (.sq [sP 0,(2,.c1 326),sI 6] (fun a b c w=>qr.j2 a b c Q w) .lf (.pr 1 [sP 0,sI 6,sI 9,sI 10] (fun a b c d w=>qr.j3 a b c d Q w) (.pr 1 [sP 0,sI 6,sI 9] (fun a b c w=>qr.j4 a b c Q w) (.sq [sP 0,sI 6,sI 9,sI 11] (fun a b c d w=>qr.j5 a b c d Q w) .lf (.bk (.lo [sP 0,sI 6,sI 9] [sI 11] (fun a b c d w=>qr.l1 a b c d Q w) (fun nx1 a b c d w=>qr.b1 a b c d Q nx1 w) fun nx1=>.lf))))))) (by kernel_rfl) h
def qp.j5 (s_0 a_6 b_7:OAd) (v_8:Int) (t47:Bool) (Q:VWP) (nx1:OAd→OAd→OAd→WP) (w:World):Prop :=
 br t47 (
 Q (.tuple ⟨[]⟩) w) (
 br (decide (v_8 < 256)) (
 lt (IntKind.u8.wrap v_8) fun x1 =>
 ct_ 323 [.pointer s_0,.int .u8 x1] w fun w3 =>
 nx1 s_0 a_6 b_7 w3) (
 ct_ 327 [.pointer s_0,.int .i64 v_8,.func (.func 326) ⟨[.pointer b_7]⟩ ⟨[]⟩] w fun w5 =>
 nx1 s_0 a_6 b_7 w5))
def qp.j4 (s_0 a_6 b_7:OAd) (v_8:Int) (Q:VWP) (nx1:OAd→OAd→OAd→WP) (w:World):Prop :=
 nz s_0 fun a6 =>
 ldI .i64 w (Addr.add a6 3) fun x7 =>
 br (x7 != 0) (
 qp.j5 s_0 a_6 b_7 v_8 true Q nx1 w) (
 qp.j5 s_0 a_6 b_7 v_8 (v_8 == 256) Q nx1 w)
def qp.j3 (s_0 a_6 b_7:OAd) (Q:VWP) (nx1:OAd→OAd→OAd→WP) (w:World):Prop :=
 qxi 325 [.pointer s_0,.func (.func 326) ⟨[.pointer a_6]⟩ ⟨[]⟩] w fun r10 w9 =>
 qp.j4 s_0 a_6 b_7 r10 Q nx1 w9
def qp.b1 (s_0 a_6 b_7:OAd) (Q:VWP) (nx1:OAd→OAd→OAd→WP) (w:World):Prop :=
 nz s_0 fun a11 =>
 ldI .i64 w (Addr.add a11 3) fun x12 =>
 br (x12 == 0) (
 qp.j3 s_0 a_6 b_7 Q nx1 w) (
 Q (.tuple ⟨[]⟩) w)
def qp.l1 (s_0 a_6 b_7:OAd) (Q:VWP) (w:World):Prop :=
 ∃ (I:WP) (μ:World→Nat),I  w∧∀ w:World,I  w→qp.b1 s_0 a_6 b_7 Q (fun s_0' a_6' b_7' w'=>(s_0'=s_0∧a_6'=a_6∧b_7'=b_7)∧I  w'∧μ  w' < μ  w) w
def qp.j2 (s_0 a_6 b_7:OAd) (Q:VWP) (w:World):Prop :=
 qp.l1 s_0 a_6 b_7 Q w
def qp.j1 (s_0:OAd) (lit_1:Sl) (dist_2:Sl) (Q:VWP) (w:World):Prop :=
 cr_P 324 [.pointer s_0,sV lit_1,.bool true] w fun r15 w14 =>
 cr_P 324 [.pointer s_0,sV dist_2,.bool true] w14 fun r18 w17 =>
 nz s_0 fun a19 =>
 ldI .i64 w17 (Addr.add a19 3) fun x20 =>
 br (x20 != 0) (
 Q (.tuple ⟨[]⟩) w17) (
 qp.j2 s_0 r15 r18 Q w17)
def qp (s_0:OAd) (lit_1:Sl) (dist_2:Sl) (Q:VWP) (w:World):Prop :=
 nz s_0 fun a21 =>
 ldI .i64 w (Addr.add a21 3) fun x22 =>
 br (x22 == 0) (
 ixS lit_1.a lit_1.len 256 1 fun a23 =>
 ldI .i64 w a23 fun x24 =>
 br (x24 == 0) (
 ct_ 306 [.pointer s_0,.int .i64 2] w fun w26 =>
 qp.j1 s_0 lit_1 dist_2 Q w26) (
 qp.j1 s_0 lit_1 dist_2 Q w)) (
 qp.j1 s_0 lit_1 dist_2 Q w)
theorem qp.ok (s_0:OAd) (lit_1:Sl) (dist_2:Sl) (Q:VWP) (w:World) (h:qp s_0 lit_1 dist_2 Q w):Calls Tryz.prog 304 ⟨[.pointer s_0,sV lit_1,sV dist_2]⟩ w (Ret Q) :=
 qqc [] qbe Tryz.func304 rfl rfl rfl rfl (.sq [sP 0,sL 1,sL 2] (fun a b c w=>qp.j1 a b c Q w) .lf (.pr 1 [sP 0,sP 6,sP 7] (fun a b c w=>qp.j2 a b c Q w) (.bk (.lo [sP 0,sP 6,sP 7] [] (fun a b c w=>qp.l1 a b c Q w) (fun nx1 a b c w=>qp.b1 a b c Q nx1 w) fun nx1=>(.sq [sP 0,sP 6,sP 7] (fun a b c w=>qp.j3 a b c Q nx1 w) .lf (.bk (.sq [sP 0,sP 6,sP 7,sI 8] (fun a b c d w=>qp.j4 a b c d Q nx1 w) .lf (.bk (.sq [sP 0,sP 6,sP 7,sI 8,sB 47] (fun a b c d e w=>qp.j5 a b c d e Q nx1 w) .lf .lf))))))))) (by kernel_rfl) h
def qdf (s_0:OAd) (Q:VWP) (w:World):Prop :=
 qxi 302 [.pointer s_0,.int .i64 1] w fun r3 w2 =>
 qxi 302 [.pointer s_0,.int .i64 2] w2 fun r6 w5 =>
 nz s_0 fun a7 =>
 ldI .i64 w5 (Addr.add a7 3) fun x8 =>
 br (x8 != 0) (
 Q (.bool false) w5) (
 br (r6 == 0) (
 ct_ 303 [.pointer s_0] w5 fun w10 =>
 Q (.bool (r3 == 1)) w10) (
 br (r6 == 1) (
 ct_LL 258 [] w5 fun r13 r14 w12 =>
 ct_ 304 [.pointer s_0,sV r13,sV r14] w12 fun w16 =>
 Q (.bool (r3 == 1)) w16) (
 br (r6 == 2) (
 ct_LL 305 [.pointer s_0] w5 fun r19 r20 w18 =>
 ct_ 304 [.pointer s_0,sV r19,sV r20] w18 fun w22 =>
 Q (.bool (r3 == 1)) w22) (
 ct_ 306 [.pointer s_0,.int .i64 2] w5 fun w24 =>
 Q (.bool (r3 == 1)) w24))))
theorem qdf.ok (s_0:OAd) (Q:VWP) (w:World) (h:qdf s_0 Q w):Calls Tryz.prog 268 ⟨[.pointer s_0]⟩ w (Ret Q) :=
 qqc [.tmp 2] qbe Tryz.func268 rfl rfl rfl rfl .lf (by kernel_rfl) h
def qrb.j3 (s_7:OAd) (Q:VWP) (w:World):Prop :=
 lt (World.drew w) fun w1 =>
 nz s_7 fun a2 =>
 ldL w1 (Addr.add a2 1) fun x3 =>
 nz s_7 fun a4 =>
 (qij 68 [sV x3] w1 fun r7 w6 =>
 ldP w6 (Addr.add a4 0) fun x8 =>
 qxi 269 [.pointer x8] w6 fun r11 w10 =>
 Q (.tuple ⟨[sV r7,.int .i64 r11,.int .i64 0]⟩) w10)∧(
 ldP w1 (Addr.add a4 0) fun x12 =>
 qij 68 [sV x3] w1 fun r15 w14 =>
 qxi 269 [.pointer x12] w14 fun r18 w17 =>
 Q (.tuple ⟨[sV r15,.int .i64 r18,.int .i64 0]⟩) w17)
def qrb.b1 (s_7:OAd) (last_8:Bool) (Q:VWP) (nx1:OAd→Bool→WP) (w:World):Prop :=
 br (!last_8) (
 cr_B 268 [.pointer s_7] w fun r21 w20 =>
 nz s_7 fun a22 =>
 ldI .i64 w20 (Addr.add a22 3) fun x23 =>
 br (x23 != 0) (
 lt (World.drew w20) fun w24 =>
 nz s_7 fun a25 =>
 ldI .i64 w24 (Addr.add a25 3) fun x26 =>
 Q (.tuple ⟨[.slice none 0 0,.int .i64 0,.int .i64 x26]⟩) w24) (
 nx1 s_7 r21 w20)) (
 qrb.j3 s_7 Q w)
def qrb.l1 (s_7:OAd) (last_8:Bool) (Q:VWP) (w:World):Prop :=
 ∃ (I:Bool→WP) (μ:Bool→World→Nat),I last_8 w∧∀ last_8:Bool,∀ w:World,I last_8 w→qrb.b1 s_7 last_8 Q (fun s_7' last_8' w'=>(s_7'=s_7)∧I last_8' w'∧μ last_8' w' < μ last_8 w) w
def qrb.j4 (s_7:OAd) (last_8:Bool) (Q:VWP) (w:World):Prop :=
 qrb.l1 s_7 last_8 Q w
def qrb.j2 (s_7:OAd) (Q:VWP) (w:World):Prop :=
 qrb.j4 s_7 false Q w
def qrb.j1 (b_0:Sl) (most_1:Int) (Q:VWP) (w:World):Prop :=
 br (decide (most_1 < 0)) (
 Q (.tuple ⟨[.slice none 0 0,.int .i64 0,.int .i64 1]⟩) w) (
 br (decide (most_1 > 262144)) (
 Q (.tuple ⟨[.slice none 0 0,.int .i64 0,.int .i64 1]⟩) w) (
 cr_P 267 [sV b_0] w fun r29 w28 =>
 nw w28 (⟨[.pointer r29,.slice none 0 0,.int .i64 most_1,.int .i64 0]⟩:Array Value) 385 fun a30 w31 =>
 qrb.j2 (some a30) Q w31))
def qrb (b_0:Sl) (most_1:Int) (Q:VWP) (w:World):Prop :=
 qrb.j1 b_0 most_1 Q w
theorem qrb.ok (b_0:Sl) (most_1:Int) (Q:VWP) (w:World) (h:qrb b_0 most_1 Q w):Calls Tryz.prog 232 ⟨[sV b_0,.int .i64 most_1]⟩ w (Ret Q) :=
 qqc [.tmp 4,.tmp 5,.tmp 6] qbe Tryz.func232 rfl rfl rfl rfl (.sq [sL 0,sI 1] (fun a b w=>qrb.j1 a b Q w) .lf (.pr 1 [sP 7] (fun a w=>qrb.j2 a Q w) (.sq [sP 7] (fun a w=>qrb.j3 a Q w) (.sq [sP 7,sB 8] (fun a b w=>qrb.j4 a b Q w) .lf (.bk (.lo [sP 7] [sB 8] (fun a b w=>qrb.l1 a b Q w) (fun nx1 a b w=>qrb.b1 a b Q nx1 w) fun nx1=>.lf))) .lf))) (by kernel_rfl) h
end Go.Proofs.YtejnemneenjliaaGreat
namespace Go.Proofs.YtejnemneenjliaaGreat
open Go Go.Proofs
set_option linter.unusedVariables false
set_option linter.unusedSimpArgs false
attribute [local irreducible] apK cpK mkK br
def ztA (sb rb V N:Nat) (most:Int) (z:Z):As:=exA fun o:Sl=>andA (qzc sb [.pointer (some ⟨rb,0,none⟩),.slice o.a o.len o.cap,.int .i64 most,.int .i64 z.2.2]) (andA (bitA rb (V,N,z.1)) (qcc 1 o (u8s z.2.1)))
section
variable {F0:List Nat} {w0 w:World} {ps rest:List As} {sb rb V N:Nat} {most:Int} {z:Z}
theorem qss (h:St F0 w0 w (ztA sb rb V N most z :: ps)):∃ o:Sl,St F0 w0 w (qzc sb [.pointer (some ⟨rb,0,none⟩),.slice o.a o.len o.cap,.int .i64 most,.int .i64 z.2.2] :: bitA rb (V,N,z.1) :: qcc 1 o (u8s z.2.1) :: ps):=by
 unfold ztA at h
 obtain ⟨o,h⟩:=h.exE
 exact ⟨o,h.split.tail fun _ _ _ h=>h.split⟩
theorem zt_c {o:Sl} {p:Nat} {out:List Int} {err:Int} (h:St F0 w0 w (qzc sb [.pointer (some ⟨rb,0,none⟩),.slice o.a o.len o.cap,.int .i64 most,.int .i64 err] :: bitA rb (V,N,p) :: qcc 1 o (u8s out) :: ps)):St F0 w0 w (ztA sb rb V N most (p,out,err) :: ps):=by
 unfold ztA
 exact St.exI o (St.join (h.tail fun _ _ _ h=>h.join))
theorem qvc.c {v:Int} {K:Ending→World→Prop} (h:St F0 w0 w ps) (hk:K (.returned (.tuple ⟨[.int .i64 (qlj v).1,.int .i64 (qlj v).2.1,.bool (qlj v).2.2]⟩)) w) :
 Calls Tryz.prog 286 ⟨[.int .i64 v]⟩ w K:=by
 refine qfc (qvc.ok _ _ _ ?_)
 unfold qvc qvc.j1 qlj at *
 refine que ?_
 refine qnc (fun g=>?_) (fun g=>?_)
 · rw [if_pos (Or.inl g)] at hk
   unfold qvc.j3
   exact qym hk
 unfold qvc.j3
 refine qnc (fun g2=>?_) (fun g2=>?_)
 · rw [if_pos (Or.inr g2)] at hk
   exact hk
 rw [if_neg (by omega)] at hk
 rw [qd (by omega) (by omega)]
 refine qne (fun g3=>?_) (fun g3=>?_)
 · rw [if_pos (by simpa using g3)] at hk
   exact hk
 rw [if_neg (by simpa using g3)] at hk
 refine qnc (fun g4=>?_) (fun g4=>?_)
 · rw [if_pos g4] at hk
   exact qn (qd (by omega) (by omega)) hk
 rw [if_neg g4] at hk
 unfold qvc.j2
 obtain ⟨k,rfl⟩:∃ k:Nat,v=257+k:=⟨(v - 257).toNat,by omega⟩
 have e0:(257+(k:Int)) - 257=k:=by omega
 rw [e0] at g4 hk ⊢
 have hk27:k≤28:=by omega
 refine ⟨by decide,?_⟩
 refine qn (show IntKind.i64.wrap (Int.tdiv (k:Int) 4)=((k / 4:Nat):Int) by rw [show Int.tdiv (k:Int) 4=((k / 4:Nat):Int) from rfl,qd (by omega) (by omega)]) ?_
 refine qn (show IntKind.i64.wrap (((k / 4:Nat):Int) - 1)=((k / 4 - 1:Nat):Int) by rw [qd (by omega) (by omega)]; omega) ?_
 refine ⟨by decide,?_⟩
 refine qn (show Int.tmod (k:Int) 4=((k % 4:Nat):Int) from rfl) ?_
 refine qn (show IntKind.i64.wrap (4+((k % 4:Nat):Int))=((4+k % 4:Nat):Int) by rw [qd (by omega) (by omega)]; omega) ?_
 refine ⟨by omega,?_⟩
 have hp:(4+k % 4) * 2 ^ (k / 4 - 1)≤7 * 2 ^ 6:=Nat.mul_le_mul (by omega) (Nat.pow_le_pow_right (by decide) (by omega))
 have hp2:(4+k % 4) * 2 ^ (k / 4 - 1)≤448:=hp
 refine qn (show qqi .i64 ((4+k % 4:Nat):Int) ((k / 4 - 1:Nat):Int)=(((4+k % 4) * 2 ^ (k / 4 - 1):Nat):Int) by
  unfold qqi
  rw [Int.toNat_natCast,show min (k / 4 - 1) IntKind.i64.bits=k / 4 - 1 by show min (k / 4 - 1) 64=_; omega]
  rw [show ((4+k % 4:Nat):Int) * 2 ^ (k / 4 - 1)=(((4+k % 4) * 2 ^ (k / 4 - 1):Nat):Int) by push_cast; rfl]
  exact qd (by omega) (by omega)) ?_
 refine qn (qd (by omega) (by omega)) ?_
 have e5:(3:Int)+(4+(k:Int) % 4) * 2 ^ ((k:Int) / 4 - 1).toNat=3+(((4+k % 4) * 2 ^ (k / 4 - 1):Nat):Int):=by
  rw [show ((k:Int) / 4 - 1).toNat=k / 4 - 1 by omega]
  push_cast
  rfl
 have e6:(k:Int) / 4 - 1=((k / 4 - 1:Nat):Int):=by omega
 simp only [e5,e6] at hk
 exact hk
theorem qrc.c {v:Int} {K:Ending→World→Prop} (h:St F0 w0 w ps) (hk:K (.returned (.tuple ⟨[.int .i64 (qyi v).1,.int .i64 (qyi v).2.1,.bool (qyi v).2.2]⟩)) w) :
 Calls Tryz.prog 287 ⟨[.int .i64 v]⟩ w K:=by
 refine qfc (qrc.ok _ _ _ ?_)
 unfold qrc qrc.j1 qyi at *
 refine qnc (fun g=>?_) (fun g=>?_)
 · rw [if_pos (Or.inl g)] at hk
   unfold qrc.j3
   exact qym hk
 unfold qrc.j3
 refine qnc (fun g2=>?_) (fun g2=>?_)
 · rw [if_pos (Or.inr g2)] at hk
   exact hk
 rw [if_neg (by omega)] at hk
 refine qnc (fun g4=>?_) (fun g4=>?_)
 · rw [if_pos g4] at hk
   exact qn (qd (by omega) (by omega)) hk
 rw [if_neg g4] at hk
 unfold qrc.j2
 obtain ⟨k,rfl⟩:∃ k:Nat,v=k:=⟨v.toNat,by omega⟩
 refine ⟨by decide,?_⟩
 refine qn (show IntKind.i64.wrap (Int.tdiv (k:Int) 2)=((k / 2:Nat):Int) by rw [show Int.tdiv (k:Int) 2=((k / 2:Nat):Int) from rfl,qd (by omega) (by omega)]) ?_
 refine qn (show IntKind.i64.wrap (((k / 2:Nat):Int) - 1)=((k / 2 - 1:Nat):Int) by rw [qd (by omega) (by omega)]; omega) ?_
 refine ⟨by decide,?_⟩
 refine qn (show Int.tmod (k:Int) 2=((k % 2:Nat):Int) from rfl) ?_
 refine qn (show IntKind.i64.wrap (2+((k % 2:Nat):Int))=((2+k % 2:Nat):Int) by rw [qd (by omega) (by omega)]; omega) ?_
 refine ⟨by omega,?_⟩
 have hp:(2+k % 2) * 2 ^ (k / 2 - 1)≤3 * 2 ^ 14:=Nat.mul_le_mul (by omega) (Nat.pow_le_pow_right (by decide) (by omega))
 have hp2:(2+k % 2) * 2 ^ (k / 2 - 1)≤49152:=hp
 refine qn (show qqi .i64 ((2+k % 2:Nat):Int) ((k / 2 - 1:Nat):Int)=(((2+k % 2) * 2 ^ (k / 2 - 1):Nat):Int) by
  unfold qqi
  rw [Int.toNat_natCast,show min (k / 2 - 1) IntKind.i64.bits=k / 2 - 1 by show min (k / 2 - 1) 64=_; omega]
  rw [show ((2+k % 2:Nat):Int) * 2 ^ (k / 2 - 1)=(((2+k % 2) * 2 ^ (k / 2 - 1):Nat):Int) by push_cast; rfl]
  exact qd (by omega) (by omega)) ?_
 refine qn (qd (by omega) (by omega)) ?_
 have e5:(1:Int)+(2+(k:Int) % 2) * 2 ^ ((k:Int) / 2 - 1).toNat=1+(((2+k % 2) * 2 ^ (k / 2 - 1):Nat):Int):=by
  rw [show ((k:Int) / 2 - 1).toNat=k / 2 - 1 by omega]
  push_cast
  rfl
 have e6:(k:Int) / 2 - 1=((k / 2 - 1:Nat):Int):=by omega
 simp only [e5,e6] at hk
 exact hk
theorem qgc.c {e:Int} {K:Ending→World→Prop} (h:St F0 w0 w (ztA sb rb V N most z :: ps))
 (hk:∀ w',St F0 w0 w' (ztA sb rb V N most (qkd e z) :: ps)→K (.returned (.tuple ⟨[]⟩)) w'):Calls Tryz.prog 306 ⟨[.pointer (some ⟨sb,0,none⟩),.int .i64 e]⟩ w K:=by
 obtain ⟨p,out,err⟩:=z
 refine qfc (qgc.ok _ _ _ _ ?_)
 unfold qgc
 unfold qkd at hk
 obtain ⟨o,h⟩:=qss h
 simp only at h hk
 refine qtd (h.fI ?_)
 refine qne (fun g=>?_) (fun g=>?_)
 · rw [if_pos (by simpa using g)] at hk
   refine qtd (h.fst trivial fun w h=>?_)
   exact hk w (zt_c h)
 · rw [if_neg (by simpa using g)] at hk
   exact hk w (zt_c h)
theorem qoc.c {n:Int} {K:Ending→World→Prop} (h:St F0 w0 w (ztA sb rb V N most z :: ps)) (hN:N≤137438953472) (hp:z.1≤8 * N)
 (hk:∀ w',(qse (qi V (8 * N)) n z).2.1≤8 * N→St F0 w0 w' (ztA sb rb V N most (qse (qi V (8 * N)) n z).2 :: ps)→K (.returned (.int .i64 (qse (qi V (8 * N)) n z).1)) w'):Calls Tryz.prog 302 ⟨[.pointer (some ⟨sb,0,none⟩),.int .i64 n]⟩ w K:=by
 have hf:=(qbo (B:=qi V (8 * N)) n (z:=z) (by rw [qk]; exact hp)).2
 rw [qk] at hf
 have hk:=fun w'=>hk w' hf
 clear hf
 obtain ⟨p,out,err⟩:=z
 simp only at hp
 refine qfc (qoc.ok _ _ _ _ ?_)
 unfold qoc
 unfold qse at hk
 have h0:=h
 obtain ⟨o,h⟩:=qss h
 simp only at h hk
 refine qtd (h.fI ?_)
 refine qne (fun g=>?_) (fun g=>?_)
 · rw [if_pos (by simpa using g)] at hk
   exact hk w h0
 · have g:err=0:=by simpa using g
   subst g
   rw [if_neg (by simp),qk] at hk
   refine qtd (h.fP ?_)
   refine qqb.c (rb:=rb) (V:=V) (N:=N) (at':=p) h.at1 hN (by omega) (fun g w h=>⟨_,_,rfl,?_⟩) (fun g w h=>⟨_,_,rfl,?_⟩)
   · have g:=of_decide_eq_true g
     rw [if_pos ⟨g.1,g.2.1,by omega⟩] at hk
     simp only at hk
     rw [zget_val (by omega)] at hk
     refine qsj ?_
     exact hk w (zt_c h.at1)
   · have g:=of_decide_eq_false g
     rw [if_neg (fun e=>g ⟨e.1,e.2.1,by have:=e.2.2; omega⟩)] at hk
     refine qym ?_
     have h:=zt_c (p:=p) (out:=out) (err:=0) h.at1
     refine qgc.c h fun w h=>⟨rfl,?_⟩
     exact hk w h
theorem qqe.c {b:Int} {K:Ending→World→Prop} (h:St F0 w0 w (ztA sb rb V N most z :: ps)) (hL:z.2.1.length≤1000000000)
 (hk:∀ w',St F0 w0 w' (ztA sb rb V N most (qqn most b z) :: ps)→K (.returned (.tuple ⟨[]⟩)) w'):Calls Tryz.prog 323 ⟨[.pointer (some ⟨sb,0,none⟩),.int .u8 b]⟩ w K:=by
 obtain ⟨p,out,err⟩:=z
 simp only at hL
 refine qfc (qqe.ok _ _ _ _ ?_)
 unfold qqe
 unfold qqn at hk
 have h0:=h
 obtain ⟨o,h⟩:=qss h
 simp only at h hk
 have hol:=h.at2.len
 rw [ql] at hol
 refine qtd (h.fI ?_)
 refine qne (fun g=>?_) (fun g=>?_)
 · rw [if_pos (by simpa using g)] at hk
   exact hk w h0
 have g:err=0:=by simpa using g
 subst g
 rw [if_neg (by simp)] at hk
 refine h.drewK fun w h=>?_
 refine qtd (h.fL (qtd (h.fI ?_)))
 refine qnc (fun g2=>?_) (fun g2=>?_)
 · have g2:((o.len:Nat):Int) ≥ most:=g2
   rw [if_pos (by omega)] at hk
   exact qgc.c (zt_c h) fun w h=>⟨rfl,hk w h⟩
 · have g2:¬ ((o.len:Nat):Int) ≥ most:=g2
   rw [if_neg (by omega)] at hk
   refine qtd (h.fL ?_)
   refine h.pushI (s:=o) (by omega) fun o2 w h=>?_
   refine qtd (h.fst trivial fun w h=>?_)
   exact hk w (zt_c (o:=o2) h.sub)
theorem qjd.c {s:Sl} {ls:List Int} {half:Bool} {K:Ending→World→Prop} (h:St F0 w0 w (ztA sb rb V N most z :: ps)) [Rdb F0 w0 s ps 1 (ivs .i64 ls)]
 (hk0:∀ cb w',z.2.2=0→qcj ls half=0→St F0 w0 w' (ztA sb rb V N most z :: hcA cb ls :: ps)→K (.returned (.pointer (some ⟨cb,0,none⟩))) w')
 (hk1:∀ w',z.2.2=0→qcj ls half ≠ 0→St F0 w0 w' (ztA sb rb V N most (qkd 2 z) :: ps)→K (.returned (.pointer none)) w')
 (hk2:z.2.2 ≠ 0→K (.returned (.pointer none)) w):Calls Tryz.prog 324 ⟨[.pointer (some ⟨sb,0,none⟩),.slice s.a s.len s.cap,.bool half]⟩ w K:=by
 obtain ⟨p,out,err⟩:=z
 refine qfc (qjd.ok _ _ _ _ _ ?_)
 unfold qjd
 obtain ⟨o,h⟩:=qss h
 simp only at h hk0 hk1 hk2
 refine qtd (h.fI ?_)
 refine qne (fun g=>hk2 (by simpa using g)) (fun g=>?_)
 have g:err=0:=by simpa using g
 subst g
 refine qhc.c (s:=s) (half:=half) h (fun cb w g h=>⟨_,_,rfl,qsj ?_⟩) (fun w g h=>⟨_,_,rfl,qde (by simpa using g) ?_⟩)
 · exact hk0 cb w rfl g (zt_c (o:=o) h.sub)
 · exact qgc.c (zt_c h) fun w h=>⟨rfl,hk1 w rfl g h⟩
theorem qpe.c {cb:Nat} {ls:List Int} {K:Ending→World→Prop} (h:St F0 w0 w (ztA sb rb V N most z :: ps)) [PkF hcA cb ps ls rest] (hN:N≤137438953472) (hp:z.1≤8 * N)
 (hk:∀ w',(quj ls (qi V (8 * N)) z).2.1≤8 * N→St F0 w0 w' (ztA sb rb V N most (quj ls (qi V (8 * N)) z).2 :: ps)→K (.returned (.int .i64 (quj ls (qi V (8 * N)) z).1)) w') :
 Calls Tryz.prog 325 ⟨[.pointer (some ⟨sb,0,none⟩),.func (.func 326) ⟨[.pointer (some ⟨cb,0,none⟩)]⟩ ⟨[]⟩]⟩ w K:=by
 obtain ⟨p,out,err⟩:=z
 simp only at hp
 refine qfc (qpe.ok _ _ _ _ ?_)
 unfold qpe
 unfold quj at hk
 have h0:=h
 obtain ⟨o,h⟩:=qss h
 simp only at h hk
 refine qtd (h.fI ?_)
 refine qne (fun g=>?_) (fun g=>?_)
 · rw [if_pos (by simpa using g)] at hk
   exact hk w hp h0
 have g:err=0:=by simpa using g
 subst g
 rw [if_neg (by simp)] at hk
 refine qtd (h.fP ?_)
 refine qbc.c (ls:=ls) (cb:=cb) (rb:=rb) (V:=V) (N:=N) (p:=p) h.at1 hN hp fun w hle h=>⟨_,_,rfl,?_⟩
 refine qgc.c (zt_c h.at1) fun w h=>⟨rfl,?_⟩
 refine hk w hle ?_
 exact h
end
end Go.Proofs.YtejnemneenjliaaGreat
namespace Go.Proofs.YtejnemneenjliaaGreat
open Go Go.Proofs
set_option linter.unusedVariables false
set_option linter.unusedSimpArgs false
attribute [local irreducible] apK cpK mkK br
theorem pow_le {a b:Nat} (h:a≤b):(2:Nat) ^ a≤2 ^ b:=Nat.pow_le_pow_right (by decide) h
theorem qlr {a b c:Nat} (h:a≤b) (e:2 ^ b=c):(2:Int) ^ a≤(c:Int):=by
 rw [show (2:Int) ^ a=((2 ^ a:Nat):Int) by simp,← e]
 exact Int.ofNat_le.2 (pow_le h)
theorem zlen_b (v:Int):0≤(qlj v).1∧(qlj v).1≤1000∧(qlj v).2.1.toNat≤6:=by
 unfold qlj
 split
 · decide
 · split
   · decide
   · split
     · simp only; omega
     · simp only
       have h1:((v - 257) / 4 - 1).toNat≤6:=by omega
       have h2:=pow_le h1
       have h3:(4+(v - 257) % 4).toNat * 2 ^ ((v - 257) / 4 - 1).toNat≤7 * 2 ^ 6:=Nat.mul_le_mul (by omega) h2
       have h4:(4+(v - 257) % 4) * 2 ^ ((v - 257) / 4 - 1).toNat=(((4+(v - 257) % 4).toNat * 2 ^ ((v - 257) / 4 - 1).toNat:Nat):Int):=by
        rw [Int.natCast_mul,Int.toNat_of_nonneg (by omega)]; simp
       rw [h4]
       have h5:(7:Nat) * 2 ^ 6=448:=by decide
       refine ⟨?_,?_,h1⟩ <;> omega
theorem zdis_b (v:Int):0≤(qyi v).1∧(qyi v).1≤100000∧(qyi v).2.1.toNat≤14∧((qyi v).2.2=true→1≤(qyi v).1):=by
 unfold qyi
 split
 · decide
 · split
   · simp only; refine ⟨?_,?_,?_,fun _=>?_⟩ <;> omega
   · simp only
     have h1:(v / 2 - 1).toNat≤14:=by omega
     have h2:=pow_le h1
     have h3:(2+v % 2).toNat * 2 ^ (v / 2 - 1).toNat≤3 * 2 ^ 14:=Nat.mul_le_mul (by omega) h2
     have h4:(2+v % 2) * 2 ^ (v / 2 - 1).toNat=(((2+v % 2).toNat * 2 ^ (v / 2 - 1).toNat:Nat):Int):=by
      rw [Int.natCast_mul,Int.toNat_of_nonneg (by omega)]; simp
     rw [h4]
     have h5:(3:Nat) * 2 ^ 14=49152:=by decide
     refine ⟨?_,?_,h1,fun _=>?_⟩ <;> omega
section pure
variable {B:List Bool} {most:Int} {z:Z}
theorem zget_err {n:Int} (h:(qse B n z).2.2.2=0):z.2.2=0:=by
 unfold qse at h
 split at h
 · exact h
 · rename_i h1; exact Decidable.not_not.1 h1
theorem qmd (n:Int):(qse B n z).2.2.1=z.2.1:=by
 unfold qse
 split
 · rfl
 · split <;> rfl
theorem zok_err {ok:Bool} (h:(zok ok z).2.2=0):ok=true∧z.2.2=0:=by
 unfold zok at h
 split at h
 · rename_i h1; exact ⟨h1,h⟩
 · exfalso
   unfold qkd at h
   simp only at h
   split at h
   · cases h
   · contradiction
theorem qkl (ok:Bool):(zok ok z).2.1=z.2.1:=by unfold zok; split <;> rfl
theorem quh (ls:List Int):(quj ls B z).2.2.1=z.2.1:=by unfold quj; split <;> rfl
theorem qnj (b:Int) (hm:most≤1000000) (h:z.2.1.length≤1000000):(qqn most b z).2.1.length≤1000000:=by
 unfold qqn
 split
 · exact h
 · split
   · exact h
   · simp only [List.length_append,List.length_singleton]; omega
theorem zcp_len (d:Int) (hm:most≤1000000):∀ n (z:Z),z.2.1.length≤1000000→(zcp most d n z).2.1.length≤1000000:=by
 intro n
 induction n with
 | zero=>intro z h; exact h
 | succ n ih =>
   intro z h
   rw [zcp]
   split
   · exact h
   · exact ih _ (qnj _ hm h)
theorem qtn (dl:List Int) (v:Int) (hm:most≤1000000) (h:z.2.1.length≤1000000):(zbehind dl B most v z).2.1.length≤1000000:=by
 unfold zbehind
 simp only
 refine zcp_len _ hm _ _ ?_
 split
 · show (qse B _ _).2.2.1.length≤_
   rw [qmd,qkl,quh,qmd,qkl]; exact h
 · rw [qmd,qkl,quh,qmd,qkl]; exact h
theorem qwg {e:Int} (h:e ≠ 0):(qkd e z).2.2 ≠ 0:=by
 unfold qkd
 simp only
 split <;> assumption
end pure
section
variable {F0:List Nat} {w0 w:World} {ps rest rest2:List As} {sb rb V N:Nat} {most:Int} {z:Z}
theorem qr.c {v:Int} {cb:Nat} {dl:List Int} {K:Ending→World→Prop} (h:St F0 w0 w (ztA sb rb V N most z :: ps)) [PkF hcA cb ps dl rest] (hN:N≤137438953472) (hp:z.1≤8 * N) (hm:most≤1000000) (hL:z.2.1.length≤1000000)
 (hk:∀ w',St F0 w0 w' (ztA sb rb V N most (zbehind dl (qi V (8 * N)) most v z) :: ps)→K (.returned (.tuple ⟨[]⟩)) w') :
 Calls Tryz.prog 327 ⟨[.pointer (some ⟨sb,0,none⟩),.int .i64 v,.func (.func 326) ⟨[.pointer (some ⟨cb,0,none⟩)]⟩ ⟨[]⟩]⟩ w K:=by
 refine qfc (qr.ok _ _ _ _ _ ?_)
 unfold qr
 unfold zbehind at hk
 simp only at hk
 have b1:=zlen_b v
 refine qvc.c h ⟨_,_,_,rfl,?_⟩
 have j1:∀ w,St F0 w0 w (ztA sb rb V N most (zok (qlj v).2.2 z) :: ps)→qr.j1 (some ⟨sb,0,none⟩) (some ⟨cb,0,none⟩) (qlj v).1 (qlj v).2.1 (fun v w'=>K (.returned v) w') w:=by
  intro w h
  unfold qr.j1
  have hzp:(zok (qlj v).2.2 z).1≤8 * N:=by rw [zok_p]; exact hp
  have hzo:(zok (qlj v).2.2 z).2.1.length≤1000000:=by rw [qkl]; exact hL
  generalize zok (qlj v).2.2 z=z1 at h hk hzp hzo
  generalize (qlj v).1=l1 at hk b1 ⊢
  generalize (qlj v).2.1=l2 at hk b1 ⊢
  refine qoc.c h hN hzp fun w hg h=>⟨_,rfl,?_⟩
  have gl:=qkj (B:=qi V (8 * N)) (z:=z1) l2
  have go:=qmd (B:=qi V (8 * N)) (z:=z1) l2
  have ge:=zget_err (B:=qi V (8 * N)) (z:=z1) (n:=l2)
  generalize qse (qi V (8 * N)) l2 z1=g at h hk hg gl go ge ⊢
  have pl:(2:Int) ^ l2.toNat≤64:=qlr (c:=64) b1.2.2 rfl
  refine qn (qd (by omega) (by omega)) ?_
  unfold qr.j2
  refine qpe.c (ls:=dl) (cb:=cb) h hN hg fun w hs h=>⟨_,rfl,?_⟩
  have so:=quh (B:=qi V (8 * N)) (z:=g.2) dl
  generalize quj dl (qi V (8 * N)) g.2=s at h hk hs so ⊢
  have b2:=zdis_b s.1
  refine qrc.c h ⟨_,_,_,rfl,?_⟩
  have j3:∀ w,St F0 w0 w (ztA sb rb V N most (zok (qyi s.1).2.2 s.2) :: ps)→qr.j3 (some ⟨sb,0,none⟩) (l1+g.1) (qyi s.1).1 (qyi s.1).2.1 (fun v w'=>K (.returned v) w') w:=by
   intro w h
   unfold qr.j3
   have hzp2:(zok (qyi s.1).2.2 s.2).1≤8 * N:=by rw [zok_p]; exact hs
   have ho2:(zok (qyi s.1).2.2 s.2).2.1=z1.2.1:=by rw [qkl,so,go]
   have he2:=zok_err (ok:=(qyi s.1).2.2) (z:=s.2)
   generalize zok (qyi s.1).2.2 s.2=z4 at h hk hzp2 ho2 he2
   have b2':z4.2.2=0→1≤(qyi s.1).1:=fun e=>b2.2.2.2 (he2 e).1
   generalize (qyi s.1).1=d1 at hk b2 b2' ⊢
   generalize (qyi s.1).2.1=d2 at hk b2 ⊢
   refine qoc.c h hN hzp2 fun w hg2 h=>⟨_,rfl,?_⟩
   have gl2:=qkj (B:=qi V (8 * N)) (z:=z4) d2
   have go2:=qmd (B:=qi V (8 * N)) (z:=z4) d2
   have ge2:=zget_err (B:=qi V (8 * N)) (z:=z4) (n:=d2)
   generalize qse (qi V (8 * N)) d2 z4=g2 at h hk hg2 gl2 go2 ge2 ⊢
   have pl2:(2:Int) ^ d2.toNat≤16384:=qlr (c:=16384) b2.2.2.1 rfl
   refine qn (qd (by omega) (by omega)) ?_
   have j4:∀ (z5:Z) w,zcp most (d1+g2.1) (l1+g.1).toNat z5=zcp most (d1+g2.1) (l1+g.1).toNat (if (g2.2.2.1.length:Int) < d1+g2.1 then qkd 2 g2.2 else g2.2)→z5.2.1.length≤1000000→(z5.2.2=0→1≤d1+g2.1∧d1+g2.1≤(z5.2.1.length:Int)) →
    St F0 w0 w (ztA sb rb V N most z5 :: ps)→qr.j4 (some ⟨sb,0,none⟩) (l1+g.1) (d1+g2.1) (fun v w'=>K (.returned v) w') w:=by
    intro z5 w he hl5 hd5 h
    rw [← he] at hk
    clear he
    unfold qr.j4 qr.j5
    have hn0:0≤l1+g.1:=by omega
    generalize hnn:l1+g.1=n at hk hn0 ⊢
    have hn1:n≤2000:=by omega
    obtain ⟨n,rfl⟩:∃ k:Nat,n=k:=⟨n.toNat,by omega⟩
    rw [Int.toNat_natCast] at hk
    generalize hdd:d1+g2.1=d at hk hd5 ⊢
    have hdb:d≤200000∧0≤d:=by omega
    refine qmg (fun (a:Nat × Z) (i':Int) w'=>i'=a.1∧a.1≤n∧zcp most d (n - a.1) a.2=zcp most d n z5∧a.2.2.1.length≤1000000∧(a.2.2.2=0→1≤d∧d≤(a.2.2.1.length:Int))∧St F0 w0 w' (ztA sb rb V N most a.2 :: ps)) (fun a=>n - a.1) (0,z5) ⟨rfl,by simp,rfl,hl5,hd5,h⟩ ?_
    clear h hl5 hd5
    rintro ⟨i,p,out,err⟩ i' wL I μ ⟨rfl,hi,hz,hl5,hd5,h⟩ hin
    simp only at hi hz hl5 hd5 h hin ⊢
    unfold qr.b1
    have h0:=h
    obtain ⟨o,h⟩:=qss h
    simp only at h
    have hol:=h.at2.len
    rw [ql] at hol
    refine qnc (fun g1=>?_) (fun g1=>?_)
    · obtain ⟨f,hf⟩:∃ f,n - i=f+1:=⟨n - i - 1,by omega⟩
      rw [hf,zcp] at hz
      refine qtd (h.fI ?_)
      refine qne (fun g3=>?_) (fun g3=>?_)
      · have g3:err=0:=by simpa using g3
        subst g3
        have hd5:=hd5 rfl
        rw [if_neg (by simp)] at hz
        simp only at hz
        refine h.drewK fun w h=>?_
        refine qtd (h.fL (qtd (h.fL ?_)))
        refine qn (show IntKind.i64.wrap (((o.len:Nat):Int) - d)=((out.length - d.toNat:Nat):Int) by rw [qd (by omega) (by omega)]; omega) ?_
        refine h.lx (s:=o) (out.length - d.toNat) rfl (by omega) ?_
        refine qqe.c (zt_c h) (by simp only; omega) fun w h=>⟨rfl,?_⟩
        refine qn (qd (by omega) (by omega)) ?_
        refine ⟨⟨rfl,rfl,rfl⟩,hin (i+1,qqn most (out.getD (out.length - d.toNat) 0) (p,out,0)) _ _ ⟨by simp,by simp only; omega,?_,qnj _ hm hl5,?_,h⟩ (by simp only; omega)⟩
        · simp only
          rw [show n - (i+1)=f by omega]
          exact hz
        · intro e
          refine ⟨hd5.1,?_⟩
          unfold qqn
          simp only
          rw [if_neg (by simp)]
          split
          · exact hd5.2
          · simp only [List.length_append,List.length_singleton]; omega
      · have g3:err ≠ 0:=by simpa using g3
        rw [if_pos g3] at hz
        rw [← hz] at hk
        exact hk wL h0
    · have:i=n:=by omega
      subst this
      rw [Nat.sub_self,zcp] at hz
      rw [← hz] at hk
      exact hk wL h0
   have h0:=h
   obtain ⟨o,h⟩:=qss h
   have hol:=h.at2.len
   rw [ql] at hol
   have hgo:g2.2.2.1.length≤1000000:=by rw [go2,ho2]; exact hzo
   refine qtd (h.fL ?_)
   refine qnc (fun g5=>?_) (fun g5=>?_)
   · have g5:d1+g2.1 > ((o.len:Nat):Int):=g5
     refine qgc.c h0 fun w h=>⟨rfl,?_⟩
     exact j4 (qkd 2 g2.2) w (by rw [if_pos (by omega)]) hgo (fun e=>absurd e (qwg (by decide))) h
   · have g5:¬ d1+g2.1 > ((o.len:Nat):Int):=g5
     exact j4 g2.2 w (by rw [if_neg (by omega)]) hgo (fun e=>⟨by have:=b2' (ge2 e); omega,by omega⟩) h0
  refine qne (fun g5=>?_) (fun g5=>?_)
  · have g5:(qyi s.1).2.2=false:=by simpa using g5
    refine qgc.c h fun w h=>⟨rfl,?_⟩
    refine j3 w ?_
    rw [g5]; exact h
  · have g5:(qyi s.1).2.2=true:=by simpa using g5
    refine j3 w ?_
    rw [g5]; exact h
 refine qne (fun g5=>?_) (fun g5=>?_)
 · have g5:(qlj v).2.2=false:=by simpa using g5
   refine qgc.c h fun w h=>⟨rfl,?_⟩
   refine j1 w ?_
   rw [g5]; exact h
 · have g5:(qlj v).2.2=true:=by simpa using g5
   refine j1 w ?_
   rw [g5]; exact h
end
end Go.Proofs.YtejnemneenjliaaGreat
