/- Own texts as one, only what is reached (shake.py). -/
import Derived.Test.YtigmbblgfnkpbaaGreatGae
import Derived.ChangeSlices
import Derived.Deep.Slices
import Derived.Test.YtigmbblgfnkpbaaGreatProg
set_option linter.unusedSectionVars false
namespace Go.Proofs.YtigmbblgfnkpbaaGreat
open Go Go.Proofs
set_option linter.unusedVariables false
set_option linter.unusedSimpArgs false
attribute [local irreducible] apK cpK mkK
theorem loop6 {α A B D E G H:Type} {C:(A→B→D→E→G→H→World→Prop)→(A→B→D→E→G→H→World→Nat)→A→B→D→E→G→H→World→Prop} {x:A} {y:B} {z:D} {u:E} {v:G} {t:H} {w:World} (Inv:α→A→B→D→E→G→H→World→Prop) (m:α→Nat) (a:α) (h:Inv a x y z u v t w)
 (hb:∀ a x y z u v t w I μ,Inv a x y z u v t w→(∀ a' x' y' z' u' v' t' w',Inv a' x' y' z' u' v' t' w'→m a' < m a→I x' y' z' u' v' t' w'∧μ x' y' z' u' v' t' w' < μ x y z u v t w)→C I μ x y z u v t w):∃ I μ,I x y z u v t w∧∀ x y z u v t w,I x y z u v t w→C I μ x y z u v t w:=by
 obtain ⟨I,μ,h1,h2⟩:=qgh (σ:=A × B × D × E × G × H × World) (C:=fun I μ s=>C (fun x y z u v t w=>I (x,y,z,u,v,t,w)) (fun x y z u v t w=>μ (x,y,z,u,v,t,w)) s.1 s.2.1 s.2.2.1 s.2.2.2.1 s.2.2.2.2.1 s.2.2.2.2.2.1 s.2.2.2.2.2.2) (s:=(x,y,z,u,v,t,w))
  (fun a s=>Inv a s.1 s.2.1 s.2.2.1 s.2.2.2.1 s.2.2.2.2.1 s.2.2.2.2.2.1 s.2.2.2.2.2.2) m a h
  (fun a s I μ hi hn=>hb a s.1 s.2.1 s.2.2.1 s.2.2.2.1 s.2.2.2.2.1 s.2.2.2.2.2.1 s.2.2.2.2.2.2 _ _ hi fun a' x' y' z' u' v' t' w'=>hn a' (x',y',z',u',v',t',w'))
 exact ⟨fun x y z u v t w=>I (x,y,z,u,v,t,w),fun x y z u v t w=>μ (x,y,z,u,v,t,w),h1,fun x y z u v t w hI=>h2 (x,y,z,u,v,t,w) hI⟩
attribute [local irreducible] rounds qaf
theorem qlg (l:List Value) (i:Nat):(⟨l⟩:Array Value)[i]?=l[i]?:=by simp
def qae (l:List Int):Prop:=∀ x ∈ l,0≤x∧x < 256
theorem be_lt:∀ (l:List Int),qae l→0≤be l∧be l < 256 ^ l.length:=by
 intro l
 have key:∀ (l:List Int) (a:Int) (k:Nat),qae l→0≤a→a < 256 ^ k→0≤l.foldl (fun a x=>a * 256+x) a∧l.foldl (fun a x=>a * 256+x) a < 256 ^ (k+l.length):=by
  intro l
  induction l with
  | nil=>intro a k _ h0 h1; exact ⟨h0,h1⟩
  | cons x l ih =>
    intro a k hb h0 h1
    have hx:=hb x (by simp)
    have:=ih (a * 256+x) (k+1) (fun y hy=>hb y (by simp [hy])) (by omega) (by rw [Int.pow_succ]; omega)
    rw [List.foldl_cons,List.length_cons,show k+(l.length+1)=k+1+l.length by omega]
    exact this
 intro hb
 have:=key l 0 0 hb (by omega) (by decide)
 rwa [Nat.zero_add] at this
theorem or_byte {x c:Int} (hx:0≤x∧x < 16777216) (hc:0≤c∧c < 256):orV .u32 (qdf .u32 x 8) c=x * 256+c:=by
 obtain ⟨n,rfl⟩:∃ n:Nat,x=n:=⟨x.toNat,by omega⟩
 obtain ⟨m,rfl⟩:∃ m:Nat,c=m:=⟨c.toNat,by omega⟩
 have h1:qdf .u32 (n:Int) 8=(n:Int) * 2 ^ 8:=shlV_u (k:=.u32) (t:=8) rfl (by decide) (by show n * 2 ^ 8 < 2 ^ 32; omega)
 rw [h1,qdl,orV_uadd (k:=.u32) (t:=8) rfl (by omega) (by show m+n * 2 ^ 8 < 2 ^ 32; omega)]
 omega
def fillW (p:List Int) (i:Nat):List Int:=(List.range 80).map fun t=>be (((p.take i).drop (4 * t)).take 4)
theorem qli (p:List Int) (i:Nat):(fillW p i).length=80:=by unfold fillW; rw [List.length_map,List.length_range]
theorem fillW_zero (p:List Int):fillW p 0=List.replicate 80 0:=by
 apply List.ext_getElem
 · simp [fillW]
 · intro i h1 h2
   rw [List.getElem_replicate]
   simp [fillW,be]
theorem fillW_getD {p:List Int} {i t:Nat} (h:t < 80):(fillW p i).getD t 0=be (((p.take i).drop (4 * t)).take 4):=by
 unfold fillW
 rw [List.getD_eq_getElem?_getD,List.getElem?_map,List.getElem?_range h]
 rfl
theorem fillW_bound {p:List Int} {i:Nat} (hp:qae p) (hi:i < p.length):0≤be (((p.take i).drop (4 * (i / 4))).take 4)∧be (((p.take i).drop (4 * (i / 4))).take 4) < 16777216:=by
 have h:=be_lt (((p.take i).drop (4 * (i / 4))).take 4) (fun x hx=>hp x (List.mem_of_mem_take (List.mem_of_mem_drop (List.mem_of_mem_take hx))))
 refine ⟨h.1,Int.lt_of_lt_of_le h.2 ?_⟩
 have hl:(((p.take i).drop (4 * (i / 4))).take 4).length≤3:=by
  rw [List.length_take,List.length_drop,List.length_take]; omega
 generalize (((p.take i).drop (4 * (i / 4))).take 4).length=n at hl ⊢
 have h3:(256:Nat) ^ n≤256 ^ 3:=Nat.pow_le_pow_right (by decide) hl
 have h4:((256 ^ n:Nat):Int)=256 ^ n:=by rw [Int.natCast_pow]; rfl
 have h5:(256:Nat) ^ 3=16777216:=by decide
 omega
theorem fillW_succ {p:List Int} {i:Nat} (hi:i < p.length) (h64:i < 64):(fillW p i).set (i / 4) (be (((p.take i).drop (4 * (i / 4))).take 4) * 256+p[i])=fillW p (i+1):=by
 apply List.ext_getElem
 · simp [fillW]
 · intro t h1 h2
   simp only [List.length_set,qli] at h1
   have htk:p.take (i+1)=p.take i ++ [p[i]]:=List.take_succ_eq_append_getElem hi
   rw [List.getElem_set]
   simp only [fillW,List.getElem_map,List.getElem_range]
   have hlen:(p.take i).length=i:=by rw [List.length_take]; omega
   by_cases h:i / 4=t
   · subst h
     rw [if_pos rfl,← be_snoc,htk,List.drop_append_of_le_length (by rw [hlen]; omega),List.take_append,List.take_of_length_le (l:=(p.take i).drop _) (by rw [List.length_drop,hlen]; omega)]
     congr 2
     rw [List.length_drop,hlen,List.take_of_length_le]
     simp; omega
   · rw [if_neg h,htk]
     congr 1
     rcases Nat.lt_or_ge t (i / 4) with h3 | h3
     · rw [List.drop_append_of_le_length (by rw [hlen]; omega),List.take_append_of_le_length (by rw [List.length_drop,hlen]; omega)]
     · rw [List.drop_eq_nil_of_le (by rw [hlen]; omega),List.drop_eq_nil_of_le (by rw [List.length_append,hlen]; simp; omega)]
theorem fillW_end {p:List Int} (hp:p.length=64):fillW p 64=qsd p ++ List.replicate 64 0:=by
 apply List.ext_getElem
 · simp [fillW,qsd]
 · intro t h1 h2
   rw [List.getElem_append]
   simp only [fillW,List.getElem_map,List.getElem_range,qsd,List.length_map,List.length_range]
   have e:p.take 64=p:=List.take_of_length_le (by omega)
   rw [e]
   split
   · rfl
   · rw [List.drop_eq_nil_of_le (by omega)]
     rw [List.getElem_replicate]
     simp [be]
theorem qwe {l m:List Int} {i:Nat} (h:i < l.length):(l ++ m).getD i 0=l.getD i 0:=by
 simp [List.getD,List.getElem?_append_left h]
theorem zc_w80:zc Tryz.prog 162=⟨qje (List.replicate 80 0)⟩:=by kernel_rfl
section
variable {F0:List Nat} {w0 w:World} {ps:List As}
theorem St.ldu32 {b o:Nat} {l:List Int} {m:List Value} {i:Nat} {K:Int→Prop} (h:St F0 w0 w (qmb b (qje l ++ m) :: ps)) (ho:o=i) (hi:i < l.length) (hk:K (l.getD i 0)):ldI .u32 w ⟨b,o,none⟩ K:=by
 subst ho
 refine h.blk.ldI ?_ hk
 rw [List.getElem?_append_left (by rw [qlc]; exact hi),qti hi]
theorem St.ldu32' {b o:Nat} {l:List Int} {i:Nat} {K:Int→Prop} (h:St F0 w0 w (qmb b (qje l) :: ps)) (ho:o=i) (hi:i < l.length) (hk:K (l.getD i 0)):ldI .u32 w ⟨b,o,none⟩ K:=by
 subst ho
 exact h.blk.ldI (qti hi) hk
theorem St.stu32 {b o:Nat} {l:List Int} {i:Nat} {v:Int} {K:World→Prop} (h:St F0 w0 w (qmb b (qje l) :: ps)) (ho:o=i) (hi:i < l.length) (hk:∀ w',St F0 w0 w' (qmb b (qje (l.set i v)) :: ps)→K w'):Go.Proofs.YtigmbblgfnkpbaaGreat.st w ⟨b,o,none⟩ (.int .u32 v) K:=by
 subst ho
 refine h.st (by rw [qlc]; exact hi) trivial fun w' h=>hk w' ?_
 rw [u32s_set] at h
 exact h
def someW (s x:W5) (n:Nat):List Int :=
 [if 0 < n then IntKind.u32.wrap (s.a+x.a) else s.a,if 1 < n then IntKind.u32.wrap (s.b+x.b) else s.b,if 2 < n then IntKind.u32.wrap (s.c+x.c) else s.c,if 3 < n then IntKind.u32.wrap (s.d+x.d) else s.d,if 4 < n then IntKind.u32.wrap (s.e+x.e) else s.e]
theorem qx.add {hb:Nat} {s x:W5} {tl:List Value} {Q:VWP} (h:St F0 w0 w (qmb hb (qje s.l ++ tl) :: ps))
 (hk:∀ w',St F0 w0 w' (qmb hb (qje (addW s x).l ++ tl) :: ps)→Q (.tuple ⟨[]⟩) w'):qx.l1 (some ⟨hb,0,none⟩) ⟨qje x.l⟩ 0 Q w:=by
 refine qvd (fun (i:Nat) (i':Int) w=>i'=i∧i≤5∧St F0 w0 w (qmb hb (qje (someW s x i) ++ tl) :: ps)) (fun i=>5 - i) 0 ⟨rfl,by omega,h⟩ ?_
 clear h
 rintro i i' w I μ ⟨rfl,hi,h⟩ hin
 unfold qx.b1
 refine qic (fun h1=>?_) (fun h1=>?_)
 · refine ⟨by omega,?_⟩
   have ei:((i:Int)).toNat * 1=i:=by omega
   rw [ei]
   refine ⟨x.l.getD i 0,?_,?_⟩
   · rw [qlg]
     exact qti (by show i < 5; omega)
   refine h.drewK fun w h=>?_
   refine qzd (qrh (by omega) (by omega) ?_)
   rw [ei]
   refine h.ldu32 (i:=i) (by omega) (by show i < 5; omega) ?_
   refine qyc ?_
   refine qzd (qrh (by omega) (by omega) ?_)
   rw [ei]
   refine h.st (by rw [List.length_append,qlc]; show 0+i < 5+tl.length; omega) trivial fun w h=>?_
   refine qw (qn (by omega) (by omega)) ?_
   refine ⟨⟨rfl,rfl⟩,hin (i+1) _ _ ⟨by simp,by omega,?_⟩ (by omega)⟩
   rw [List.set_append_left _ _ (by rw [qlc]; show 0+i < 5; omega),u32s_set] at h
   have hc:i=0 ∨ i=1 ∨ i=2 ∨ i=3 ∨ i=4:=by omega
   rcases hc with rfl | rfl | rfl | rfl | rfl <;> exact h
 · have:i=5:=by omega
   subst this
   exact hk w h
theorem qx.rounds {hb:Nat} {s:W5} {tl:List Value} {l:List Int} (hl:l.length=80) {Q:VWP} (h:St F0 w0 w (qmb hb (qje s.l ++ tl) :: ps))
 (hk:∀ w',St F0 w0 w' (qmb hb (qje (addW s (rounds l 80 s)).l ++ tl) :: ps)→Q (.tuple ⟨[]⟩) w'):qx.l2 (some ⟨hb,0,none⟩) ⟨qje l⟩ s.a s.b s.c s.d s.e 0 Q w:=by
 refine loop6 (fun (t:Nat) a b c d e (t':Int) w=>t'=t∧t≤80∧(⟨a,b,c,d,e⟩:W5)=Go.Proofs.YtigmbblgfnkpbaaGreat.rounds l t s∧St F0 w0 w (qmb hb (qje s.l ++ tl) :: ps)) (fun t=>80 - t) 0 ⟨rfl,by omega,by rw [Go.Proofs.YtigmbblgfnkpbaaGreat.rounds],h⟩ ?_
 clear h
 rintro t a b c d e t' w I μ ⟨rfl,ht,hr,h⟩ hin
 unfold qx.b2
 refine qic (fun h1=>?_) (fun h1=>?_)
 · refine ⟨by omega,?_⟩
   have ei:((t:Int)).toNat * 1=t:=by omega
   rw [ei]
   refine ⟨l.getD t 0,?_,?_⟩
   · rw [qlg]
     exact qti (by omega)
   refine qyj.c (by omega) ⟨_,_,rfl,?_⟩
   refine qvg.c (by decide) fun w1 hm=>⟨_,rfl,?_⟩
   have h:=h.skip hm
   refine qyc (qyc (qyc (qyc ?_)))
   refine qvg.c (by decide) fun w2 hm=>⟨_,rfl,?_⟩
   have h:=h.skip hm
   refine qw (qn (by omega) (by omega)) ?_
   refine ⟨⟨rfl,rfl⟩,hin (t+1) _ _ _ _ _ _ _ ⟨by simp,by omega,?_,h⟩ (by omega)⟩
   rw [Go.Proofs.YtigmbblgfnkpbaaGreat.rounds,← hr]
   rfl
 · have:t=80:=by omega
   subst this
   unfold qx.j5 qx.j6
   refine qx.add (x:=⟨a,b,c,d,e⟩) h ?_
   rw [hr]
   exact hk
theorem qx.c {hb:Nat} {s:W5} {tl:List Value} {p:List Int} {K:Ending→World→Prop} (hp:p.length=64) (hpb:qae p) (h:St F0 w0 w (qmb hb (qje s.l ++ tl) :: ps))
 (hk:∀ w',St F0 w0 w' (qmb hb (qje (blkF s p).l ++ tl) :: ps)→K (.returned (.tuple ⟨[]⟩)) w'):Calls Tryz.prog 102 ⟨[.pointer (some ⟨hb,0,none⟩),.agg ⟨u8s p⟩]⟩ w K:=by
 unfold blkF at hk
 refine qbc (qx.ok _ _ _ _ ?_)
 unfold qx
 refine h.new fun n1 w h=>?_
 refine h.new fun n2 w h=>?_
 unfold qx.j1
 refine h.blk1.ldA (cs:=⟨u8s p⟩) (by show (u8s p).length=64; rw [qlb,hp]) (fun i hi=>by rw [Nat.zero_add,qlg]) ?_
 have h:St F0 w0 w (qmb n2 (qje (fillW p 0)) :: qmb hb (qje s.l ++ tl) :: ps):=by
  have h:=h.at1.drop
  rw [zc_w80] at h
  rw [fillW_zero]
  exact h
 unfold qx.j9
 refine qvd (fun (i:Nat) (i':Int) w=>i'=i∧i≤64∧St F0 w0 w (qmb n2 (qje (fillW p i)) :: qmb hb (qje s.l ++ tl) :: ps)) (fun i=>64 - i) 0 ⟨rfl,by omega,h⟩ ?_
 clear h
 rintro i i' w I μ ⟨rfl,hi,h⟩ hin
 unfold qx.b4
 refine qic (fun h1=>?_) (fun h1=>?_)
 · refine ⟨by omega,?_⟩
   have ei:((i:Int)).toNat * 1=i:=by omega
   have ei4:((i:Int) / 4).toNat * 1=i / 4:=by omega
   rw [ei]
   refine ⟨p.getD i 0,?_,?_⟩
   · rw [qlg]
     exact u8s_get (by omega)
   have hip:i < p.length:=by omega
   have hc:p.getD i 0=p[i]:=by simp [List.getD,hip]
   have hcb:=hpb p[i] (List.getElem_mem hip)
   rw [hc]
   refine ⟨by decide,?_⟩
   rw [tdiv_nn (by omega)]
   refine qw (qn (by omega) (by omega)) ?_
   refine ⟨by decide,?_⟩
   refine qw (qn (by omega) (by omega)) ?_
   refine qrh (by omega) (by omega) ?_
   rw [ei4]
   refine h.ldu32' (i:=i / 4) (by omega) (by rw [qli]; omega) ?_
   rw [fillW_getD (by omega)]
   refine ⟨by decide,qyc ?_⟩
   refine qw (show IntKind.u32.wrap p[i]=p[i] by rw [qsi]; omega) ?_
   refine qw (or_byte (fillW_bound hpb hip) hcb) ?_
   refine qrh (by omega) (by omega) ?_
   rw [ei4]
   refine h.stu32 (i:=i / 4) (by omega) (by rw [qli]; omega) fun w h=>?_
   refine qw (qn (by omega) (by omega)) ?_
   refine ⟨⟨rfl,rfl,rfl⟩,hin (i+1) _ _ ⟨by simp,by omega,?_⟩ (by omega)⟩
   rw [fillW_succ hip (by omega)] at h
   exact h
 have:i=64:=by omega
 subst this
 rw [fillW_end hp] at h
 clear hin hi h1
 unfold qx.j2 qx.j8
 have hb16:(qsd p).length=16:=by simp [qsd]
 refine qvd (fun (t:Nat) (t':Int) w=>t'=(t:Int)+16∧t≤64∧St F0 w0 w (qmb n2 (qje (qaf t (qsd p) ++ List.replicate (64 - t) 0)) :: qmb hb (qje s.l ++ tl) :: ps)) (fun t=>64 - t) 0 ⟨rfl,by omega,by rw [qaf]; exact h⟩ ?_
 clear h
 rintro t t' w I μ ⟨rfl,ht,h⟩ hin
 have hgl:(qaf t (qsd p)).length=t+16:=by rw [qsk,hb16]; omega
 unfold qx.b3
 refine qic (fun h1=>?_) (fun h1=>?_)
 · refine h.drewK fun w h=>?_
   have hlen:(qaf t (qsd p) ++ List.replicate (64 - t) (0:Int)).length=80:=by rw [List.length_append,hgl,List.length_replicate]; omega
   refine qw (qn (by omega) (by omega)) ?_
   refine qrh (by omega) (by omega) ?_
   refine h.ldu32' (i:=t+13) (by omega) (by omega) ?_
   refine qw (qn (by omega) (by omega)) ?_
   refine qrh (by omega) (by omega) ?_
   refine h.ldu32' (i:=t+8) (by omega) (by omega) ?_
   refine qyc ?_
   refine qw (qn (by omega) (by omega)) ?_
   refine qrh (by omega) (by omega) ?_
   refine h.ldu32' (i:=t+2) (by omega) (by omega) ?_
   refine qyc ?_
   refine qw (qn (by omega) (by omega)) ?_
   refine qrh (by omega) (by omega) ?_
   refine h.ldu32' (i:=t) (by omega) (by omega) ?_
   refine qyc ?_
   refine qvg.c (by decide) fun w1 hm=>⟨_,rfl,?_⟩
   have h:=h.skip hm
   refine qrh (by omega) (by omega) ?_
   refine h.stu32 (i:=t+16) (by omega) (by omega) fun w h=>?_
   refine qw (qn (by omega) (by omega)) ?_
   refine ⟨⟨rfl,rfl⟩,hin (t+1) _ _ ⟨by omega,by omega,?_⟩ (by omega)⟩
   rw [qwe (by omega),qwe (by omega),qwe (by omega),qwe (by omega)] at h
   have e:qaf (t+1) (qsd p) ++ List.replicate (64 - (t+1)) 0=(qaf t (qsd p) ++ List.replicate (64 - t) 0).set (t+16)
    (lf (qri .u32 (qri .u32 (qri .u32 ((qaf t (qsd p)).getD (t+13) 0) ((qaf t (qsd p)).getD (t+8) 0)) ((qaf t (qsd p)).getD (t+2) 0)) ((qaf t (qsd p)).getD t 0)) 1):=by
    rw [qan,List.set_append_right _ _ (by omega),hgl,Nat.sub_self,show 64 - t=(64 - (t+1))+1 by omega,List.replicate_succ,List.set_cons_zero,List.append_assoc]
    unfold nextW
    rw [hgl]
    rfl
   rw [e]
   exact h
 have:t=64:=by omega
 subst this
 clear hin ht h1
 rw [Nat.sub_self,List.replicate_zero,List.append_nil] at h
 unfold qx.j3
 refine h.drewK fun w h=>?_
 have hw:=h.at1
 refine qzd (qrh (by decide) (by decide) ?_)
 refine hw.ldu32 (i:=0) (by decide) (by show 0 < 5; decide) ?_
 refine qzd (qrh (by decide) (by decide) ?_)
 refine hw.ldu32 (i:=1) (by decide) (by show 1 < 5; decide) ?_
 refine qzd (qrh (by decide) (by decide) ?_)
 refine hw.ldu32 (i:=2) (by decide) (by show 2 < 5; decide) ?_
 refine qzd (qrh (by decide) (by decide) ?_)
 refine hw.ldu32 (i:=3) (by decide) (by show 3 < 5; decide) ?_
 refine qzd (qrh (by decide) (by decide) ?_)
 refine hw.ldu32 (i:=4) (by decide) (by show 4 < 5; decide) ?_
 unfold qx.j4
 refine h.blk.ldA (cs:=⟨qje (qaf 64 (qsd p))⟩) (by show (qje _).length=80; rw [qlc,hgl]) (fun i hi=>by rw [Nat.zero_add,qlg]) ?_
 unfold qx.j7
 exact qx.rounds (by rw [hgl]) hw.at1.drop fun w h=>hk w h
end
end Go.Proofs.YtigmbblgfnkpbaaGreat
namespace Go.Proofs.YtigmbblgfnkpbaaGreat
open Go Go.Proofs
set_option linter.unusedVariables false
set_option maxRecDepth 100000
def qzc.j2 (out_7:Sl) (Q:VWP) (w:World):Prop :=
 qad 66 [sV out_7] w fun r3 w2 =>
 Q (sV r3) w2
def qzc.b1 (v_1 bits_2:Int) (out_7:Sl) (Q:VWP) (nx1:Int→Int→Sl→WP) (w:World):Prop :=
 br (decide (bits_2 > 0)) (
 lt (IntKind.i64.wrap (bits_2 - 8)) fun x4 =>
 (0:Int)≤x4 ∧
 lt (shrV .i64 v_1 x4) fun x5 =>
 lt (IntKind.u8.wrap x5) fun x6 =>
 nw w ⟨[.int .u8 x6]⟩ 5 fun a7 w8 =>
 rdO w8 (some a7) (1 * 1) fun c9 =>
 apK Tryz.prog 5 w8 out_7.a out_7.len out_7.cap 1 c9 fun s10 w11 =>
 nx1 v_1 x4 s10 w11) (
 qzc.j2 out_7 Q w)
def qzc.l1 (v_1 bits_2:Int) (out_7:Sl) (Q:VWP) (w:World):Prop :=
 ∃ (I:Int→Sl→WP) (μ:Int→Sl→World→Nat),I bits_2 out_7 w∧∀ bits_2:Int,∀ out_7:Sl,∀ w:World,I bits_2 out_7 w→qzc.b1 v_1 bits_2 out_7 Q (fun v_1' bits_2' out_7' w'=>(v_1'=v_1)∧I bits_2' out_7' w'∧μ bits_2' out_7' w' < μ bits_2 out_7 w) w
def qzc.j1 (v_1 bits_2:Int) (out_7:Sl) (Q:VWP) (w:World):Prop :=
 qzc.l1 v_1 bits_2 out_7 Q w
def qzc (b_0:Sl) (v_1:Int) (bits_2:Int) (Q:VWP) (w:World):Prop :=
 qad 100 [sV b_0] w fun r14 w13 =>
 qzc.j1 v_1 bits_2 r14 Q w13
theorem qzc.ok (b_0:Sl) (v_1:Int) (bits_2:Int) (Q:VWP) (w:World) (h:qzc b_0 v_1 bits_2 Q w):Calls Tryz.prog 64 ⟨[sV b_0,.int .i64 v_1,.int .i64 bits_2]⟩ w (Ret Q) :=
 qdc [.tmp 6] qjd Tryz.func64 rfl rfl rfl rfl (.pr 1 [sI 1,sI 2,sL 7] (fun a b c w=>qzc.j1 a b c Q w) (.sq [sL 7] (fun a w=>qzc.j2 a Q w) (.bk (.lo [sI 1] [sI 2,sL 7] (fun a b c w=>qzc.l1 a b c Q w) (fun nx1 a b c w=>qzc.b1 a b c Q nx1 w) fun nx1=>.lf)) .lf)) (by kernel_rfl) h
def qmd (b_0:Sl) (v_1:Int) (Q:VWP) (w:World):Prop :=
 qad 64 [sV b_0,.int .i64 v_1,.int .i64 32] w fun r3 w2 =>
 Q (sV r3) w2
theorem qmd.ok (b_0:Sl) (v_1:Int) (Q:VWP) (w:World) (h:qmd b_0 v_1 Q w):Calls Tryz.prog 30 ⟨[sV b_0,.int .i64 v_1]⟩ w (Ret Q) :=
 qdc [.tmp 4] qjd Tryz.func30 rfl rfl rfl rfl .lf (by kernel_rfl) h
def qpe (b_0:Sl) (v_1:Int) (Q:VWP) (w:World):Prop :=
 qad 64 [sV b_0,.int .i64 v_1,.int .i64 64] w fun r3 w2 =>
 Q (sV r3) w2
theorem qpe.ok (b_0:Sl) (v_1:Int) (Q:VWP) (w:World) (h:qpe b_0 v_1 Q w):Calls Tryz.prog 32 ⟨[sV b_0,.int .i64 v_1]⟩ w (Ret Q) :=
 qdc [.tmp 4] qjd Tryz.func32 rfl rfl rfl rfl .lf (by kernel_rfl) h
end Go.Proofs.YtigmbblgfnkpbaaGreat
namespace Go.Proofs.YtigmbblgfnkpbaaGreat
open Go Go.Proofs
set_option linter.unusedVariables false
set_option linter.unusedSimpArgs false
attribute [local irreducible] apK cpK mkK hs
def cellsH (s:W5) (rest:List Int) (n:Int):List Value:=qje s.l ++ (u8s rest ++ [.int .i64 n])
theorem W5.l_length (s:W5):s.l.length=5:=rfl
theorem qvj {s:W5} {rest:List Int} {n:Int} (h:rest.length=64):(cellsH s rest n)[69]?=some (.int .i64 n):=by
 unfold cellsH
 rw [List.getElem?_append_right (by rw [qlc,W5.l_length]; omega),qlc,W5.l_length,List.getElem?_append_right (by rw [qlb]; omega),qlb,h]
 rfl
theorem quh {s:W5} {rest:List Int} {n:Int} (h:rest.length=64):(cellsH s rest n).length=70:=by
 unfold cellsH
 rw [List.length_append,List.length_append,qlc,qlb,W5.l_length,h]
 rfl
theorem cellsH_setn {s:W5} {rest:List Int} {n m:Int} (h:rest.length=64):(cellsH s rest n).set 69 (.int .i64 m)=cellsH s rest m:=by
 unfold cellsH
 rw [List.set_append_right _ _ (by rw [qlc,W5.l_length]; omega),qlc,W5.l_length,List.set_append_right _ _ (by rw [qlb]; omega),qlb,h]
 rfl
theorem cellsH_set {s:W5} {rest:List Int} {n c:Int} {k:Nat} (h:rest.length=64) (hk:k < 64):(cellsH s rest n).set (5+k) (.int .u8 c)=cellsH s (rest.set k c) n:=by
 unfold cellsH
 rw [List.set_append_right _ _ (by rw [qlc,W5.l_length]; omega),qlc,W5.l_length,show 5+k - 5=k by omega,List.set_append_left _ _ (by rw [qlb]; omega),u8s_set]
theorem cellsH_rest {s:W5} {rest:List Int} {n:Int} (h:rest.length=64) {i:Nat} (hi:i < 64):(cellsH s rest n)[5+i]?=(u8s rest)[i]?:=by
 unfold cellsH
 rw [List.getElem?_append_right (by rw [qlc,W5.l_length]; omega),qlc,W5.l_length,show 5+i - 5=i by omega,List.getElem?_append_left (by rw [qlb]; omega)]
def shA (hb:Nat) (xs:List Int):As:=exA fun rest:List Int=>ifA (rest.length=64∧rest.take (xs.length % 64)=xs.drop (64 * (xs.length / 64))∧qae rest) <| qmb hb (cellsH (Go.Proofs.YtigmbblgfnkpbaaGreat.hs xs (xs.length / 64)) rest (xs.length:Int))
section
variable {F0:List Nat} {w0 w:World} {ps:List As}
theorem shA_o {hb:Nat} {xs:List Int} (h:St F0 w0 w (shA hb xs :: ps)):∃ rest:List Int,rest.length=64∧rest.take (xs.length % 64)=xs.drop (64 * (xs.length / 64))∧qae rest∧St F0 w0 w (qmb hb (cellsH (hs xs (xs.length / 64)) rest (xs.length:Int)) :: ps):=by
 obtain ⟨rest,h⟩:=h.exE
 obtain ⟨⟨h1,h2,h3⟩,h⟩:=h.ifE
 exact ⟨rest,h1,h2,h3,h⟩
theorem shA_i {hb:Nat} {xs rest:List Int} (h1:rest.length=64) (h2:rest.take (xs.length % 64)=xs.drop (64 * (xs.length / 64))) (h3:qae rest) (h:St F0 w0 w (qmb hb (cellsH (hs xs (xs.length / 64)) rest (xs.length:Int)) :: ps)):St F0 w0 w (shA hb xs :: ps) :=
 (h.ifI ⟨h1,h2,h3⟩).exI (p:=fun rest:List Int=>ifA (rest.length=64∧rest.take (xs.length % 64)=xs.drop (64 * (xs.length / 64))∧qae rest) <| qmb hb (cellsH (hs xs (xs.length / 64)) rest (xs.length:Int))) rest
theorem allB_set {l:List Int} {k:Nat} {c:Int} (h:qae l) (hc:0≤c∧c < 256):qae (l.set k c):=by
 intro x hx
 rcases List.mem_or_eq_of_mem_set hx with h1 | h1
 · exact h x h1
 · subst h1; exact hc
theorem qac.c {hb:Nat} {xs zs:List Int} {s:Sl} {K:Ending→World→Prop} (h:St F0 w0 w (shA hb xs :: ps)) (hr:∀ w' p,St F0 w0 w' (p :: ps)→Rd w' 1 s (u8s zs)) (hz:qae zs) (hL:xs.length+zs.length≤1099511627776)
 (hk:∀ w',St F0 w0 w' (shA hb (xs ++ zs) :: ps)→K (.returned (.tuple ⟨[]⟩)) w'):Calls Tryz.prog 71 ⟨[.pointer (some ⟨hb,0,none⟩),.slice s.a s.len s.cap]⟩ w K:=by
 have hs0:=(hr w _ h).1
 rw [qlb] at hs0
 refine qbc (qac.ok _ _ _ _ ?_)
 unfold qac qac.j1
 refine qvd (fun (i:Nat) (i':Int) w=>i'=i∧i≤zs.length∧St F0 w0 w (shA hb (xs ++ zs.take i) :: ps)) (fun i=>zs.length - i) 0 ⟨rfl,by omega,by simpa using h⟩ ?_
 clear h
 rintro i i' w I μ ⟨rfl,hi,h⟩ hin
 unfold qac.b1
 refine qic (fun h1=>?_) (fun h1=>?_)
 · have hiz:i < zs.length:=by omega
   have ei:((i:Int)).toNat * 1=i:=by omega
   refine (hr w _ h).ix (by decide) (by omega) (by omega) fun a ha=>?_
   rw [ei]
   refine (hr w _ h).ldI (n:=zs[i]) ha (by simp [u8s,hiz]) ?_
   have hcb:=hz zs[i] (List.getElem_mem hiz)
   have htk:xs ++ zs.take (i+1)=(xs ++ zs.take i) ++ [zs[i]]:=by rw [List.take_succ_eq_append_getElem hiz,List.append_assoc]
   have hlen:(xs ++ zs.take i).length≤1099511627776:=by rw [List.length_append,List.length_take]; omega
   generalize hy:xs ++ zs.take i=ys at h htk hlen
   generalize zs[i]=c at hcb htk
   refine h.drewK fun w h=>?_
   obtain ⟨rest,r1,r2,r3,h⟩:=shA_o h
   refine qzd (h.blk.ldI (o:=69) (qvj r1) ?_)
   refine ⟨by decide,?_⟩
   refine qw (qwj (by omega)) ?_
   have em:(ys.length:Int) % 64=(ys.length % 64:Nat):=by omega
   rw [em]
   have hk64:ys.length % 64 < 64:=Nat.mod_lt _ (by decide)
   refine qzd (qrh (by omega) (by omega) ?_)
   have eo:0+5+(((ys.length % 64:Nat):Int)).toNat * 1=5+ys.length % 64:=by omega
   rw [eo]
   refine h.st (by rw [quh r1]; omega) trivial fun w h=>?_
   rw [cellsH_set r1 hk64] at h
   have r1':(rest.set (ys.length % 64) c).length=64:=by rw [List.length_set]; exact r1
   refine qzd (h.blk.ldI (o:=69) (qvj r1') ?_)
   refine qw (qn (by omega) (by omega)) ?_
   refine qzd (h.st (o:=69) (by rw [quh r1']; omega) trivial fun w h=>?_)
   rw [cellsH_setn r1'] at h
   refine qzd (h.blk.ldI (o:=69) (qvj r1') ?_)
   refine ⟨by decide,?_⟩
   refine qw (qwj (by omega)) ?_
   have r3':=allB_set (k:=ys.length % 64) r3 hcb
   have r2':(rest.set (ys.length % 64) c).take (ys.length % 64+1)=(ys ++ [c]).drop (64 * (ys.length / 64)):=by
    rw [List.take_succ_eq_append_getElem (by omega),List.getElem_set_self,List.take_set_of_le (Nat.le_refl _),r2,List.drop_append_of_le_length (by omega)]
   have hl1:(ys ++ [c]).length=ys.length+1:=by simp
   refine qqc (fun h2=>?_) (fun h2=>?_)
   · have h2:((ys.length:Int)+1) % 64=0:=by simpa using h2
     refine qzd (h.blk.ldA (cs:=⟨u8s (rest.set (ys.length % 64) c)⟩) (by show (u8s _).length=64; rw [qlb,r1']) (fun j hj=>by rw [qlg,Nat.zero_add,cellsH_rest r1' hj]) ?_)
     unfold cellsH at h
     refine qx.c r1' r3' h fun w h=>⟨rfl,?_⟩
     refine qw (qn (by omega) (by omega)) ?_
     refine ⟨⟨rfl,rfl,rfl⟩,hin (i+1) _ _ ⟨by simp,by omega,?_⟩ (by omega)⟩
     rw [htk]
     refine shA_i r1' ?_ r3' ?_
     · rw [hl1,show (ys.length+1) % 64=0 by omega,List.take_zero,List.drop_eq_nil_of_le (by rw [hl1]; omega)]
     · rw [hl1,show (ys.length+1) / 64=ys.length / 64+1 by omega,hs,hs_front ys [c] _ (by omega)]
       have e:((ys ++ [c]).drop (64 * (ys.length / 64))).take 64=rest.set (ys.length % 64) c:=by
        rw [← r2',List.take_of_length_le (l:=(rest.set (ys.length % 64) c)) (by omega),List.take_of_length_le (by omega)]
       rw [e]
       exact h
   · have h2:¬ ((ys.length:Int)+1) % 64=0:=by simpa using h2
     refine qw (qn (by omega) (by omega)) ?_
     refine ⟨⟨rfl,rfl,rfl⟩,hin (i+1) _ _ ⟨by simp,by omega,?_⟩ (by omega)⟩
     rw [htk]
     refine shA_i r1' ?_ r3' ?_
     · rw [hl1,show (ys.length+1) % 64=ys.length % 64+1 by omega,show (ys.length+1) / 64=ys.length / 64 by omega]
       exact r2'
     · rw [hl1,show (ys.length+1) / 64=ys.length / 64 by omega,hs_front ys [c] _ (by omega)]
       exact h
 · have:i=zs.length:=by omega
   subst this
   rw [List.take_length] at h
   exact hk w h
end
end Go.Proofs.YtigmbblgfnkpbaaGreat
namespace Go.Proofs.YtigmbblgfnkpbaaGreat
open Go Go.Proofs
set_option linter.unusedVariables false
set_option linter.unusedSimpArgs false
attribute [local irreducible] apK cpK mkK hs
theorem zc_hash_size:(zc Tryz.prog 149).size=70:=by kernel_rfl
theorem new_cells:spl (zc Tryz.prog 149).toList 0 (⟨[.int .u32 1732584193,.int .u32 4023233417,.int .u32 2562383102,.int .u32 271733878,.int .u32 3285377520]⟩:Array Value)=cellsH init5 (List.replicate 64 0) 0:=by kernel_rfl
def beJ (n j:Nat) (v:Int):List Int:=(List.range j).map fun i=>v / 2 ^ (8 * (n - 1 - i)) % 256
theorem qec (n j:Nat) (v:Int):(beJ n j v).length=j:=by simp [beJ]
theorem qjl (n j:Nat) (v:Int):beJ n (j+1) v=beJ n j v ++ [v / 2 ^ (8 * (n - 1 - j)) % 256]:=by simp [beJ,List.range_succ]
theorem qzh (n j:Nat) (v:Int):qae (beJ n j v):=by
 intro x hx
 obtain ⟨i,_,rfl⟩:=List.mem_map.1 hx
 omega
section
variable {F0:List Nat} {w0 w:World} {ps:List As}
theorem St.blkrd {b n:Nat} {l:List Value} (h:St F0 w0 w (qmb b l :: ps)) (hn:l.length=n):St F0 w0 w (rdA 1 ⟨some ⟨b,0,none⟩,n,n⟩ l :: ps):=by
 refine h.mp ?_
 rintro F ⟨hb,rfl⟩
 exact ⟨by simp [hn],Or.inr ⟨b,0,l,rfl,hb.rb,rfl,fun i hi=>by rw [Nat.zero_add]⟩⟩
theorem qye.c {hb:Nat} {xs:List Int} {K:Ending→World→Prop} (h:St F0 w0 w (shA hb xs :: ps)) (hk:∀ tb w',St F0 w0 w' (shA tb xs :: shA hb xs :: ps)→K (.returned (.pointer (some ⟨tb,0,none⟩))) w'):Calls Tryz.prog 103 ⟨[.pointer (some ⟨hb,0,none⟩)]⟩ w K:=by
 refine qbc (qye.ok _ _ _ ?_)
 unfold qye
 obtain ⟨rest,r1,r2,r3,h⟩:=shA_o h
 have hlen:=quh (s:=hs xs (xs.length / 64)) (n:=(xs.length:Int)) r1
 refine qzd (h.blk.ldA (cs:=⟨cellsH (hs xs (xs.length / 64)) rest (xs.length:Int)⟩) hlen (fun j hj=>by rw [qlg,Nat.zero_add]) ?_)
 refine h.new fun nb w h=>?_
 refine ⟨hlen,?_⟩
 have hz:(zc Tryz.prog 149).toList.length=70:=by rw [Array.length_toList]; exact zc_hash_size
 refine h.stA (o:=0) (by rw [hz,Nat.zero_add]; show (cellsH _ _ _).length≤70; omega) ?_ fun w h=>?_
 · intro v hv
   have hv:v ∈ cellsH (hs xs (xs.length / 64)) rest (xs.length:Int):=by simpa using hv
   unfold cellsH at hv
   rcases List.mem_append.1 hv with hv | hv
   · obtain ⟨n,_,rfl⟩:=List.mem_map.1 hv; trivial
   rcases List.mem_append.1 hv with hv | hv
   · obtain ⟨n,_,rfl⟩:=List.mem_map.1 hv; trivial
   · rw [List.mem_singleton.1 hv]; trivial
 · have e:(zc Tryz.prog 149).toList.take 0 ++ (⟨cellsH (hs xs (xs.length / 64)) rest (xs.length:Int)⟩:Array Value).toList ++ (zc Tryz.prog 149).toList.drop (0+(⟨cellsH (hs xs (xs.length / 64)) rest (xs.length:Int)⟩:Array Value).size)=cellsH (hs xs (xs.length / 64)) rest (xs.length:Int):=by
    rw [List.take_zero,List.nil_append,List.drop_eq_nil_of_le (by rw [hz]; show 70≤0+(cellsH _ _ _).length; omega),List.append_nil]
   rw [e] at h
   exact hk nb w ((shA_i r1 r2 r3 h).tail fun _ _ _ h=>shA_i r1 r2 r3 h)
theorem new_as {nb:Nat} {l m:List Value} (e:l=m) (h:St F0 w0 w (qmb nb (⟨l⟩:Array Value).toList :: ps)):St F0 w0 w (qmb nb m :: ps):=by
 subst e; exact h
theorem qzj.c {K:Ending→World→Prop} (h:St F0 w0 w ps) (hk:∀ hb w',St F0 w0 w' (shA hb [] :: ps)→K (.returned (.pointer (some ⟨hb,0,none⟩))) w'):Calls Tryz.prog 70 ⟨[]⟩ w K:=by
 refine qbc (qzj.ok _ _ ?_)
 unfold qzj
 refine ⟨rfl,?_⟩
 refine h.new fun nb w h=>?_
 have h:=new_as new_cells h
 refine hk nb w (shA_i (xs:=[]) (rest:=List.replicate 64 0) (by decide) rfl ?_ ?_)
 · intro x hx
   rw [List.eq_of_mem_replicate hx]; decide
 · have e:hs [] (([]:List Int).length / 64)=init5:=by show hs [] 0=init5; rw [hs]
   rw [e]
   exact h
theorem qzc.c {s:Sl} {xs:List Int} {v:Int} {n:Nat} {K:Ending→World→Prop} (h:St F0 w0 w ps) (hr:Rd w 1 s (u8s xs)) (hL:xs.length≤1099511627776) (hn:n≤8)
 (hk:∀ s' w',s'.len=xs.length+n→s'.cap=s'.len→St F0 w0 w' (rdA 1 s' (u8s (xs ++ beJ n n v)) :: ps)→K (.returned (.slice s'.a s'.len s'.cap)) w'):Calls Tryz.prog 64 ⟨[.slice s.a s.len s.cap,.int .i64 v,.int .i64 ((8 * n:Nat):Int)]⟩ w K:=by
 refine qbc (qzc.ok _ _ _ _ _ ?_)
 unfold qzc
 refine qnc.c h hr (by omega) fun s1 w h=>⟨s1,rfl,?_⟩
 unfold qzc.j1
 refine qif (fun (j:Nat) (b':Int) (o':Sl) w=>b'=((8 * (n - j):Nat):Int)∧j≤n∧St F0 w0 w (qib 1 o' (u8s (xs ++ beJ n j v)) :: ps)) (fun j=>n - j) 0 ⟨rfl,by omega,by simpa [beJ] using h⟩ ?_
 clear h
 rintro j b' o w I μ ⟨rfl,hj,h⟩ hin
 unfold qzc.b1
 refine qic (fun h1=>?_) (fun h1=>?_)
 · refine qw (qn (by omega) (by omega)) ?_
   have e:((8 * (n - j):Nat):Int) - 8=((8 * (n - 1 - j):Nat):Int):=by omega
   rw [e]
   refine ⟨by omega,?_⟩
   refine qw (qug .i64 _ (show 8 * (n - 1 - j)≤64 by omega)) ?_
   refine qw (qlh _) ?_
   refine h.new fun nb w h=>?_
   refine h.rdB rfl ?_
   refine h.drop.append_u8 (by rw [List.length_append,qec]; omega) rfl fun s2 w h=>?_
   refine ⟨rfl,hin (j+1) _ _ _ ⟨?_,by omega,?_⟩ (by omega)⟩
   · rw [show n - 1 - j=n - (j+1) by omega]
   · rw [qjl,← List.append_assoc]
     exact h
 · have:j=n:=by omega
   subst this
   have hcap:=h.cap (by decide)
   have hlen:=h.len
   rw [qlb,List.length_append,qec] at hlen
   unfold qzc.j2
   refine qgc.c h.ro hcap fun s3 hs1 hs2 h=>⟨s3,rfl,hk s3 w (by omega) (by omega) h⟩
end
end Go.Proofs.YtigmbblgfnkpbaaGreat
namespace Go.Proofs.YtigmbblgfnkpbaaGreat
open Go Go.Proofs
set_option linter.unusedVariables false
set_option linter.unusedSimpArgs false
attribute [local irreducible] apK cpK mkK hs
def okW (s:W5):Prop:=∀ x ∈ s.l,0≤x∧x < 4294967296
theorem okW_hs (xs:List Int):∀ n,okW (hs xs n)
 | 0=>by
   rw [hs]
   intro x hx
   simp [W5.l,init5] at hx
   rcases hx with rfl | rfl | rfl | rfl | rfl <;> decide
 | n+1=>by
   rw [hs]
   unfold blkF
   generalize rounds _ 80 _=y
   generalize hs xs n=z
   intro x hx
   simp only [W5.l,addW,qsi,List.mem_cons,List.not_mem_nil,or_false] at hx
   rcases hx with rfl | rfl | rfl | rfl | rfl <;> omega
theorem qrm:(zc Tryz.prog 24).size=20:=by kernel_rfl
theorem beJ4 (x:Int):beJ 4 4 x=word4 x:=by
 simp [beJ,word4,List.range_succ]
theorem be8_eq (v:Int):beJ 8 8 v=be8 v:=rfl
section
variable {F0:List Nat} {w0 w:World} {ps:List As}
theorem qmd.c {s:Sl} {xs:List Int} {v:Int} {K:Ending→World→Prop} (h:St F0 w0 w ps) (hr:Rd w 1 s (u8s xs)) (hL:xs.length≤1099511627776)
 (hk:∀ s' w',s'.len=xs.length+4→s'.cap=s'.len→St F0 w0 w' (rdA 1 s' (u8s (xs ++ word4 v)) :: ps)→K (.returned (.slice s'.a s'.len s'.cap)) w'):Calls Tryz.prog 30 ⟨[.slice s.a s.len s.cap,.int .i64 v]⟩ w K:=by
 refine qbc (qmd.ok _ _ _ _ ?_)
 unfold qmd
 refine qzc.c (n:=4) h hr hL (by decide) fun s' w h1 h2 h=>⟨s',rfl,?_⟩
 rw [beJ4] at h
 exact hk s' w h1 h2 h
theorem qpe.c {s:Sl} {xs:List Int} {v:Int} {K:Ending→World→Prop} (h:St F0 w0 w ps) (hr:Rd w 1 s (u8s xs)) (hL:xs.length≤1099511627776)
 (hk:∀ s' w',s'.len=xs.length+8→s'.cap=s'.len→St F0 w0 w' (rdA 1 s' (u8s (xs ++ be8 v)) :: ps)→K (.returned (.slice s'.a s'.len s'.cap)) w'):Calls Tryz.prog 32 ⟨[.slice s.a s.len s.cap,.int .i64 v]⟩ w K:=by
 refine qbc (qpe.ok _ _ _ _ ?_)
 unfold qpe
 refine qzc.c (n:=8) h hr hL (by decide) fun s' w h1 h2 h=>⟨s',rfl,?_⟩
 rw [be8_eq] at h
 exact hk s' w h1 h2 h
theorem qxf (xs:List Int):(qte xs).length=20:=rfl
theorem qjb.out {tb nb:Nat} {zs:List Int} {c:List Value} (hc:c.length=20) {Q:VWP} (h:St F0 w0 w (shA tb zs :: qmb nb c :: ps))
 (hk:∀ w',St F0 w0 w' ps→Q (.agg ⟨u8s ((hs zs (zs.length / 64)).l.flatMap word4)⟩) w'):qjb.j4 ⟨nb,0,none⟩ (some ⟨tb,0,none⟩) ⟨none,0,0⟩ Q w:=by
 unfold qjb.j4
 obtain ⟨rest,r1,r2,r3,h⟩:=shA_o h
 have hok:=okW_hs zs (zs.length / 64)
 generalize hs zs (zs.length / 64)=s at h hk hok
 refine qzd (h.blk.ldA (cs:=⟨qje s.l⟩) rfl (fun j hj=>?_) ?_)
 · rw [qlg]
   unfold cellsH
   rw [List.getElem?_append_left (by rw [qlc,W5.l_length]; omega)]
   congr 1
   omega
 unfold qjb.j6
 refine qif (fun (i:Nat) (o':Sl) (i':Int) w=>i'=i∧i≤5∧o'.len=4 * i∧St F0 w0 w (rdA 1 o' (u8s ((s.l.take i).flatMap word4)) :: qmb nb c :: ps)) (fun i=>5 - i) 0 ⟨rfl,by omega,rfl,(h.drop.nil 1).ro⟩ ?_
 clear h
 rintro i o i' w I μ ⟨rfl,hi,ho,h⟩ hin
 unfold qjb.b1
 refine qic (fun h1=>?_) (fun h1=>?_)
 · refine ⟨by omega,?_⟩
   have ei:((i:Int)).toNat * 1=i:=by omega
   have hil:i < s.l.length:=by rw [W5.l_length]; omega
   rw [ei]
   refine ⟨s.l[i],?_,?_⟩
   · rw [qlg]; simp [qje,hil]
   have hb:=hok s.l[i] (List.getElem_mem hil)
   refine qw (qn (by omega) (by omega)) ?_
   have hlen:=h.rd.1
   rw [qlb] at hlen
   refine qmd.c h h.rd (by omega) fun o2 w l1 l2 h=>⟨o2,rfl,?_⟩
   refine qw (qn (by omega) (by omega)) ?_
   refine ⟨⟨rfl,rfl⟩,hin (i+1) _ _ _ ⟨by simp,by omega,by omega,?_⟩ (by omega)⟩
   rw [List.take_succ_eq_append_getElem hil,List.flatMap_append,List.flatMap_singleton]
   exact h.tail fun _ _ _ h=>h.drop
 · have:i=5:=by omega
   subst this
   have hfl:s.l.take 5=s.l:=rfl
   rw [hfl] at h
   unfold qjb.j5
   refine ⟨by omega,?_⟩
   have hr:=h.rd
   obtain ⟨a,ha,_⟩:=hr.2 0 (by show 0 < 20; decide)
   rw [ha]
   refine qzd ⟨⟨u8s (s.l.flatMap word4)⟩,rfl,fun j hj=>?_,?_⟩
   · rw [hr.cell ha (by show j < 20; exact hj),qlg]
   refine ⟨rfl,?_⟩
   refine h.at1.stA (o:=0) (by rw [hc]; exact Nat.le_refl 20) ?_ fun w h=>?_
   · intro v hv
     have hv:v ∈ u8s (s.l.flatMap word4):=by simpa using hv
     obtain ⟨n,_,rfl⟩:=List.mem_map.1 hv
     trivial
   · have e:c.take 0 ++ (⟨u8s (s.l.flatMap word4)⟩:Array Value).toList ++ c.drop (0+(⟨u8s (s.l.flatMap word4)⟩:Array Value).size)=u8s (s.l.flatMap word4):=by
      rw [List.take_zero,List.nil_append,List.drop_eq_nil_of_le (by rw [hc]; exact Nat.le_refl 20),List.append_nil]
     rw [e] at h
     refine h.blk.ldA (cs:=⟨u8s (s.l.flatMap word4)⟩) rfl (fun j hj=>by rw [qlg,Nat.zero_add]) ?_
     exact hk w h.drop.drop
theorem St.tail1 {p q r:As} (h:St F0 w0 w (p :: q :: r :: ps)):St F0 w0 w (p :: r :: ps):=h.tail fun _ _ _ h=>h.drop
theorem qjb.c {hb:Nat} {xs:List Int} {K:Ending→World→Prop} (h:St F0 w0 w (shA hb xs :: ps)) (hL:xs.length≤34359738368)
 (hk:∀ w',St F0 w0 w' (shA hb xs :: ps)→K (.returned (.agg ⟨u8s (qte xs)⟩)) w'):Calls Tryz.prog 72 ⟨[.pointer (some ⟨hb,0,none⟩)]⟩ w K:=by
 refine qbc (qjb.ok _ _ _ ?_)
 unfold qjb
 refine h.new fun nb w h=>?_
 have hz:(zc Tryz.prog 24).toList.length=20:=by rw [Array.length_toList]; exact qrm
 generalize (zc Tryz.prog 24).toList=c at h hz
 unfold qjb.j1
 refine qye.c h.at1 fun tb w h=>⟨_,rfl,?_⟩
 refine h.new fun n1 w h=>?_
 have h:=(h.blkrd (n:=1) rfl).at1
 refine qac.c (s:=⟨some ⟨n1,0,none⟩,1,1⟩) (zs:=[128]) h (fun w' p h=>h.drop.rd) (by intro x hx; rw [List.mem_singleton.1 hx]; decide) (by simp; omega) fun w h=>⟨rfl,?_⟩
 have h:=h.tail1
 unfold qjb.j2
 refine loop0 (fun (j:Nat) w=>j≤(119 - xs.length % 64) % 64∧St F0 w0 w (shA tb (xs ++ [128] ++ List.replicate j 0) :: shA hb xs :: qmb nb c :: ps)) (fun j=>64 - j) 0 ⟨by omega,by simpa using h⟩ ?_
 clear h
 rintro j w I μ ⟨hj,h⟩ hin
 unfold qjb.b2
 obtain ⟨rest,r1,r2,r3,h⟩:=shA_o h
 have hyl:(xs ++ [128] ++ List.replicate j 0).length=xs.length+1+j:=by simp; omega
 refine qzd (h.blk.ldI (o:=69) (qvj r1) ?_)
 have h:=shA_i r1 r2 r3 h
 refine ⟨by decide,?_⟩
 refine qw (qwj (by omega)) ?_
 refine qqc (fun h1=>?_) (fun h1=>?_)
 · have h1:¬ ((xs ++ [128] ++ List.replicate j 0).length:Int) % 64=56:=by simpa using h1
   refine h.new fun n2 w h=>?_
   have h:=(h.blkrd (n:=1) rfl).at1
   refine qac.c (s:=⟨some ⟨n2,0,none⟩,1,1⟩) (zs:=[0]) h (fun w' p h=>h.drop.rd) (by intro x hx; rw [List.mem_singleton.1 hx]; decide) (by simp; omega) fun w h=>⟨rfl,?_⟩
   refine ⟨⟨rfl,rfl,rfl⟩,hin (j+1) _ ⟨by omega,?_⟩ (by omega)⟩
   rw [List.replicate_succ',← List.append_assoc]
   exact h.tail1
 · have h1:((xs ++ [128] ++ List.replicate j 0).length:Int) % 64=56:=by simpa using h1
   have hjz:j=(119 - xs.length % 64) % 64:=by omega
   unfold qjb.j3
   obtain ⟨rest,r1,r2,r3,h2⟩:=shA_o h.at1
   refine qzd (h2.blk.ldI (o:=69) (qvj r1) ?_)
   refine qw (qn (by omega) (by omega)) ?_
   refine qpe.c (s:=⟨none,0,0⟩) (xs:=[]) h ⟨rfl,fun i hi=>by simp [u8s] at hi⟩ (by simp) fun s w l1 l2 h=>⟨s,rfl,?_⟩
   refine qac.c (zs:=be8 (8 * xs.length)) h.at1 (fun w' p h=>h.drop.rd) (qzh 8 8 _) (by rw [hyl]; show _+8≤_; omega) fun w h=>⟨rfl,?_⟩
   have e:xs ++ [128] ++ List.replicate j 0 ++ be8 (8 * xs.length)=padded xs:=by rw [padded,zeros,hjz]
   rw [e] at h
   refine qjb.out hz (h.tail1.tail fun _ _ _ h=>h.at1) fun w h=>hk w h
end
end Go.Proofs.YtigmbblgfnkpbaaGreat
namespace Go.Proofs.YtigmbblgfnkpbaaGreat
open Go Go.Proofs
set_option linter.unusedVariables false
set_option linter.unusedSimpArgs false
attribute [local irreducible] apK cpK mkK hs qte
section
variable {F0:List Nat} {w0 w:World} {ps:List As}
theorem qgg (xs:List Int):(u8s (qte xs)).length=20:=by rw [qlb]; exact qxf xs
theorem qkf {l:List Int}:∀ v ∈ (⟨u8s l⟩:Array Value),storable v:=by
 intro v hv
 have hv:v ∈ u8s l:=by simpa using hv
 obtain ⟨n,_,rfl⟩:=List.mem_map.1 hv
 trivial
theorem St.st20 {nb:Nat} {c l:List Value} {K:World→Prop} (h:St F0 w0 w (qmb nb c :: ps)) (hc:c.length=20) (hl:l.length=20) (hs:∀ v ∈ (⟨l⟩:Array Value),storable v)
 (hk:∀ w',St F0 w0 w' (qmb nb l :: ps)→K w'):Go.Proofs.YtigmbblgfnkpbaaGreat.stA w ⟨nb,0,none⟩ ⟨l⟩ K:=by
 refine h.stA (o:=0) (by show 0+l.length≤c.length; omega) hs fun w' h=>hk w' ?_
 have e:c.take 0 ++ (⟨l⟩:Array Value).toList ++ c.drop (0+(⟨l⟩:Array Value).size)=l:=by
  rw [List.take_zero,List.nil_append,List.drop_eq_nil_of_le (by show c.length≤0+l.length; omega),List.append_nil]
 rwa [e] at h
theorem St.ld20 {nb n:Nat} {l:List Value} {K:Array Value→Prop} (h:St F0 w0 w (qmb nb l :: ps)) (hl:l.length=n) (hk:K ⟨l⟩):ldA w ⟨nb,0,none⟩ n K :=
 h.blk.ldA (cs:=⟨l⟩) hl (fun j hj=>by rw [qlg,Nat.zero_add]) hk
theorem qnh.c {s:Sl} {xs:List Int} {K:Ending→World→Prop} (h:St F0 w0 w ps) (hr:∀ w' p q,St F0 w0 w' (p :: q :: ps)→Rd w' 1 s (u8s xs)) (hx:qae xs) (hL:xs.length≤34359738368)
 (hk:∀ w',St F0 w0 w' ps→K (.returned (.agg ⟨u8s (qte xs)⟩)) w'):Calls Tryz.prog 38 ⟨[.slice s.a s.len s.cap]⟩ w K:=by
 refine qbc (qnh.ok _ _ _ ?_)
 unfold qnh
 refine h.new fun nb w h=>?_
 have hz:(zc Tryz.prog 24).toList.length=20:=by rw [Array.length_toList]; exact qrm
 generalize (zc Tryz.prog 24).toList=c at h hz
 refine qzj.c h fun hb w h=>⟨_,rfl,?_⟩
 refine qac.c h (fun w' p h=>hr w' p _ h) hx (by simp; omega) fun w h=>⟨rfl,?_⟩
 rw [List.nil_append] at h
 refine qjb.c h hL fun w h=>⟨_,rfl,?_⟩
 refine ⟨qgg xs,?_⟩
 refine h.drop.st20 hz (qgg xs) qkf fun w h=>?_
 refine h.ld20 (qgg xs) ?_
 exact hk w h.drop
end
end Go.Proofs.YtigmbblgfnkpbaaGreat
namespace Go.Proofs.YtigmbblgfnkpbaaGreat
open Go Go.Proofs
set_option linter.unusedVariables false
set_option linter.unusedSimpArgs false
attribute [local irreducible] apK cpK mkK hs qte rounds qaf
theorem or32 {a b t m:Nat} (hm:m=2 ^ t) (ha:a < m) (hs:a+b * m < 4294967296):orV .u32 ((b * m:Nat):Int) (a:Int)=((a+b * m:Nat):Int):=by
 subst hm
 have h:=orV_uadd (k:=.u32) (a:=a) (b:=b) (t:=t) rfl ha hs
 rw [qdl]
 have e:((b * 2 ^ t:Nat):Int)=(b:Int) * 2 ^ t:=by simp
 rw [e,h,Int.natCast_add,e]
theorem shl32 {a t m:Nat} (hm:m=2 ^ t) (ht:t≤32) (hs:a * m < 4294967296):qdf .u32 (a:Int) (t:Int)=((a * m:Nat):Int):=by
 subst hm
 rw [shlV_u (k:=.u32) rfl ht hs]
 simp
theorem word_of {a b c d:Int} (ha:0≤a∧a < 256) (hb:0≤b∧b < 256) (hc:0≤c∧c < 256) (hd:0≤d∧d < 256) :
 orV .u32 (orV .u32 (orV .u32 (qdf .u32 a 24) (qdf .u32 b 16)) (qdf .u32 c 8)) d=be [a,b,c,d]:=by
 obtain ⟨a,rfl⟩:∃ n:Nat,a=n:=⟨a.toNat,by omega⟩
 obtain ⟨b,rfl⟩:∃ n:Nat,b=n:=⟨b.toNat,by omega⟩
 obtain ⟨c,rfl⟩:∃ n:Nat,c=n:=⟨c.toNat,by omega⟩
 obtain ⟨d,rfl⟩:∃ n:Nat,d=n:=⟨d.toNat,by omega⟩
 have h1:qdf .u32 (a:Int) 24=((a * 16777216:Nat):Int):=shl32 (t:=24) (by decide) (by decide) (by omega)
 have h2:qdf .u32 (b:Int) 16=((b * 65536:Nat):Int):=shl32 (t:=16) (by decide) (by decide) (by omega)
 have h3:qdf .u32 (c:Int) 8=((c * 256:Nat):Int):=shl32 (t:=8) (by decide) (by decide) (by omega)
 have u1:=or32 (a:=b * 65536) (b:=a) (t:=24) (m:=16777216) (by decide) (by omega) (by omega)
 have u2:=or32 (a:=c * 256) (b:=b+a * 256) (t:=16) (m:=65536) (by decide) (by omega) (by omega)
 have u3:=or32 (a:=d) (b:=c+(b+a * 256) * 256) (t:=8) (m:=256) (by decide) (by omega) (by omega)
 rw [show (b+a * 256) * 65536=b * 65536+a * 16777216 by omega] at u2
 rw [show (c+(b+a * 256) * 256) * 256=c * 256+(b * 65536+a * 16777216) by omega] at u3
 rw [h1,h2,h3,u1,u2,u3]
 simp only [be,List.foldl_cons,List.foldl_nil]
 omega
section
variable {F0:List Nat} {w0 w:World} {ps:List As}
theorem qqe.c {s:Sl} {xs:List Int} {K:Ending→World→Prop} (hr:Rd w 1 s (u8s xs)) (hx:qae xs) (hl:4≤xs.length) (hk:∀ w',Mod [] w w'→K (.returned (.int .u32 (be (xs.take 4)))) w'):Calls Tryz.prog 106 ⟨[.slice s.a s.len s.cap]⟩ w K:=by
 have hs:=hr.1
 rw [qlb] at hs
 refine qbc (qqe.ok _ _ _ ?_)
 unfold qqe
 refine qyc ?_
 have hr:=hr.keep (Mod.drew w) (by simp)
 match xs,hl,hx,hr,hk with
 | a :: b :: c :: d :: r,_,hx,hr,hk =>
   have ha:=hx a (by simp)
   have hb:=hx b (by simp)
   have hc:=hx c (by simp)
   have hd:=hx d (by simp)
   refine hr.ix (by decide) (by decide) (by omega) fun p hp=>?_
   refine hr.ldI (i:=0) (n:=a) hp rfl ?_
   refine qw (show IntKind.u32.wrap a=a by rw [qsi]; omega) ?_
   refine ⟨by decide,qyc ?_⟩
   refine hr.ix (by decide) (by decide) (by omega) fun p hp=>?_
   refine hr.ldI (i:=1) (n:=b) hp rfl ?_
   refine qw (show IntKind.u32.wrap b=b by rw [qsi]; omega) ?_
   refine ⟨by decide,qyc (qyc ?_)⟩
   refine hr.ix (by decide) (by decide) (by omega) fun p hp=>?_
   refine hr.ldI (i:=2) (n:=c) hp rfl ?_
   refine qw (show IntKind.u32.wrap c=c by rw [qsi]; omega) ?_
   refine ⟨by decide,qyc (qyc ?_)⟩
   refine hr.ix (by decide) (by decide) (by omega) fun p hp=>?_
   refine hr.ldI (i:=3) (n:=d) hp rfl ?_
   refine qw (show IntKind.u32.wrap d=d by rw [qsi]; omega) ?_
   refine qw (word_of ha hb hc hd) ?_
   exact hk _ (Mod.drew w)
end
end Go.Proofs.YtigmbblgfnkpbaaGreat
namespace Go.Proofs.YtigmbblgfnkpbaaGreat
open Go Go.Proofs
set_option linter.unusedVariables false
set_option linter.unusedSimpArgs false
attribute [local irreducible] apK cpK mkK hs qte rounds qaf
theorem zc_u32:zc Tryz.prog 125=#[.int .u32 0]:=by kernel_rfl
theorem zc_w5:zc Tryz.prog 126=⟨qje [0,0,0,0,0]⟩:=by kernel_rfl
theorem info_u32:Tryz.prog.info? 125=some Tryz.t125:=by kernel_rfl
theorem bytes_u32:Tryz.prog.bytesOf 125≤16:=by
 rw [Program.bytesOf,info_u32]
 decide
section
variable {F0:List Nat} {w0 w:World} {ps:List As}
theorem St.ldo32 {s:Sl} {l:List Int} {i:Int} {j:Nat} {K:Int→Prop} (h:St F0 w0 w (qib 1 s (qje l) :: ps)) (hi:i=j) (hj:j < l.length) (hk:K (l.getD j 0)):ixS s.a s.len i 1 fun a=>ldI .u32 w a K:=by
 subst hi
 have hr:=h.ord
 have hl:=hr.1
 rw [qlc] at hl
 refine hr.ix (by decide) (by omega) (by omega) fun a ha=>?_
 rw [show ((j:Int)).toNat * 1=j by omega]
 exact hr.ldI ha (qti hj) hk
theorem St.sto32 {s:Sl} {l:List Int} {i v:Int} {j:Nat} {K:World→Prop} (h:St F0 w0 w (qib 1 s (qje l) :: ps)) (hi:i=j) (hj:j < l.length) (hk:∀ w',St F0 w0 w' (qib 1 s (qje (l.set j v)) :: ps)→K w'):ixS s.a s.len i 1 fun a=>Go.Proofs.YtigmbblgfnkpbaaGreat.st w a (.int .u32 v) K:=by
 subst hi
 have hr:=h.ord
 have hl:=hr.1
 rw [qlc] at hl
 refine hr.ix (by decide) (by omega) (by omega) fun a ha=>?_
 rw [show ((j:Int)).toNat * 1=j by omega]
 refine h.setO ha (by rw [qlc]; exact hj) trivial fun w h=>hk w ?_
 rw [u32s_set] at h
 exact h
theorem St.ldx {nb n:Nat} {l:List Int} {i:Int} {j:Nat} {K:Int→Prop} (h:St F0 w0 w (qmb nb (qje l) :: ps)) (hi:i=j) (hn:l.length=n) (hj:j < n) (hk:K (l.getD j 0)):ixA ⟨nb,0,none⟩ n i 1 fun a=>ldI .u32 w a K:=by
 subst hi
 refine qrh (by omega) (by omega) ?_
 exact h.ldu32' (i:=j) (by omega) (by omega) hk
theorem St.stx {nb n:Nat} {l:List Int} {i v:Int} {j:Nat} {K:World→Prop} (h:St F0 w0 w (qmb nb (qje l) :: ps)) (hi:i=j) (hn:l.length=n) (hj:j < n) (hk:∀ w',St F0 w0 w' (qmb nb (qje (l.set j v)) :: ps)→K w'):ixA ⟨nb,0,none⟩ n i 1 fun a=>Go.Proofs.YtigmbblgfnkpbaaGreat.st w a (.int .u32 v) K:=by
 subst hi
 refine qrh (by omega) (by omega) ?_
 exact h.stu32 (i:=j) (by omega) (by omega) hk
theorem St.st5 {nb:Nat} {c l:List Value} {n:Nat} {K:World→Prop} (h:St F0 w0 w (qmb nb c :: ps)) (hc:c.length=n) (hl:l.length=n) (hs:∀ v ∈ (⟨l⟩:Array Value),storable v)
 (hk:∀ w',St F0 w0 w' (qmb nb l :: ps)→K w'):Go.Proofs.YtigmbblgfnkpbaaGreat.stA w ⟨nb,0,none⟩ ⟨l⟩ K:=by
 refine h.stA (o:=0) (by show 0+l.length≤c.length; omega) hs fun w' h=>hk w' ?_
 have e:c.take 0 ++ (⟨l⟩:Array Value).toList ++ c.drop (0+(⟨l⟩:Array Value).size)=l:=by
  rw [List.take_zero,List.nil_append,List.drop_eq_nil_of_le (by show c.length≤0+l.length; omega),List.append_nil]
 rwa [e] at h
theorem qog {l:List Int}:∀ v ∈ (⟨qje l⟩:Array Value),storable v:=by
 intro v hv
 have hv:v ∈ qje l:=by simpa using hv
 obtain ⟨n,_,rfl⟩:=List.mem_map.1 hv
 trivial
theorem qg.add {n2 n4 n8:Nat} {s x:W5} {c:List Value} (hc:c.length=5) {Q:VWP} (h:St F0 w0 w (qmb n2 (qje s.l) :: qmb n8 (qje x.l) :: qmb n4 c :: ps))
 (hk:∀ w',St F0 w0 w' ps→Q (.agg ⟨qje (addW s x).l⟩) w'):qg.j5 ⟨n2,0,none⟩ ⟨n4,0,none⟩ ⟨n8,0,none⟩ Q w:=by
 unfold qg.j5 qg.j7
 refine qvd (fun (i:Nat) (i':Int) w=>i'=i∧i≤5∧St F0 w0 w (qmb n2 (qje (someW s x i)) :: qmb n8 (qje x.l) :: qmb n4 c :: ps)) (fun i=>5 - i) 0 ⟨rfl,by omega,h⟩ ?_
 clear h
 rintro i i' w I μ ⟨rfl,hi,h⟩ hin
 unfold qg.b1
 refine qic (fun h1=>?_) (fun h1=>?_)
 · have hi5:i < 5:=by omega
   refine h.drewK fun w h=>?_
   refine h.ldx (j:=i) rfl rfl hi5 ?_
   refine h.at1.ldx (j:=i) rfl rfl hi5 ?_
   refine qyc ?_
   refine h.stx (j:=i) rfl rfl hi5 fun w h=>?_
   refine qw (qn (by omega) (by omega)) ?_
   refine ⟨⟨rfl,rfl,rfl⟩,hin (i+1) _ _ ⟨by simp,by omega,?_⟩ (by omega)⟩
   have hc:i=0 ∨ i=1 ∨ i=2 ∨ i=3 ∨ i=4:=by omega
   rcases hc with rfl | rfl | rfl | rfl | rfl <;> exact h
 · have:i=5:=by omega
   subst this
   unfold qg.j6
   have h:St F0 w0 w (qmb n2 (qje (addW s x).l) :: qmb n8 (qje x.l) :: qmb n4 c :: ps):=h
   refine h.ld20 rfl ?_
   refine ⟨rfl,?_⟩
   refine h.at2.st5 hc rfl qog fun w h=>?_
   refine h.ld20 rfl ?_
   exact hk w h.drop.drop.drop
end
end Go.Proofs.YtigmbblgfnkpbaaGreat
namespace Go.Proofs.YtigmbblgfnkpbaaGreat
open Go Go.Proofs
set_option linter.unusedVariables false
set_option linter.unusedSimpArgs false
attribute [local irreducible] apK cpK mkK hs qte rounds qaf
section
variable {F0:List Nat} {w0 w:World} {ps:List As}
theorem qg.last {n8:Nat} {x:W5} {t:Nat} {v:Int} {t2 t4:Addr} {t5:Sl} {Q:VWP} {nx:Addr→Addr→Sl→Addr→Int→World→Prop} (ht:t < 80) (h:St F0 w0 w (qmb n8 (qje x.l) :: ps))
 (hk:∀ w',St F0 w0 w' (qmb n8 (qje [v,x.a,lf x.b 30,x.c,x.d]) :: ps)→nx t2 t4 t5 ⟨n8,0,none⟩ ((t:Int)+1) w'):qg.j13 t2 t4 t5 ⟨n8,0,none⟩ t v Q nx w:=by
 unfold qg.j13
 refine h.ldx (j:=3) rfl rfl (by decide) ?_
 refine h.stx (j:=4) rfl rfl (by decide) fun w h=>?_
 refine h.ldx (j:=2) rfl rfl (by decide) ?_
 refine h.stx (j:=3) rfl rfl (by decide) fun w h=>?_
 refine h.ldx (j:=1) rfl rfl (by decide) ?_
 refine qpc.c (by decide) ⟨_,rfl,?_⟩
 refine h.stx (j:=2) rfl rfl (by decide) fun w h=>?_
 refine h.ldx (j:=0) rfl rfl (by decide) ?_
 refine h.stx (j:=1) rfl rfl (by decide) fun w h=>?_
 refine h.stx (j:=0) rfl rfl (by decide) fun w h=>?_
 unfold qg.j10
 refine qw (qn (by omega) (by omega)) ?_
 exact hk w h
theorem qg.mid {n8:Nat} {x:W5} {l:List Int} {t:Nat} {f k:Int} {t2 t4:Addr} {t5:Sl} {Q:VWP} {nx:Addr→Addr→Sl→Addr→Int→World→Prop} (ht:t < 80) (hl:l.length=80) (hf:(mixF t x.b x.c x.d)=(f,k))
 (h:St F0 w0 w (qmb n8 (qje x.l) :: qib 1 t5 (qje l) :: ps))
 (hk:∀ w',St F0 w0 w' (qmb n8 (qje (stepF t (l.getD t 0) x).l) :: qib 1 t5 (qje l) :: ps)→nx t2 t4 t5 ⟨n8,0,none⟩ ((t:Int)+1) w'):qg.j12 t2 t4 t5 ⟨n8,0,none⟩ t f k Q nx w:=by
 have e:(stepF t (l.getD t 0) x).l=[IntKind.u32.wrap (IntKind.u32.wrap (IntKind.u32.wrap (IntKind.u32.wrap (lf x.a 5+f)+x.e)+k)+l.getD t 0),x.a,lf x.b 30,x.c,x.d]:=by
  unfold stepF
  rw [hf]
  rfl
 rw [e] at hk
 unfold qg.j12
 refine h.drewK fun w h=>?_
 have hr:=h.at1.ord
 have hlen:=hr.1
 rw [qlc] at hlen
 refine h.ldx (j:=0) rfl rfl (by decide) ?_
 refine qrh (by decide) (by decide) ?_
 refine hr.ix (by decide) (by omega) (by omega) fun a ha=>?_
 rw [show ((t:Int)).toNat * 1=t by omega]
 have l4:∀ {K:Int→Prop},K x.e→ldI .u32 w ⟨n8,0+(4:Int).toNat * 1,none⟩ K:=fun hK=>h.ldu32' (i:=4) rfl (by show 4 < 5; decide) hK
 have lw:∀ {K:Int→Prop},K (l.getD t 0)→ldI .u32 w (a.add t) K:=fun hK=>hr.ldI ha (qti (by omega)) hK
 refine ⟨?_,?_,?_⟩
 · refine qpc.c (by decide) ⟨_,rfl,qyc ⟨?_,?_⟩⟩
   · exact l4 (qyc (qyc (lw (qyc (qg.last ht h hk)))))
   · exact lw (l4 (qyc (qyc (qyc (qg.last ht h hk)))))
 · refine l4 ⟨?_,?_⟩
   · exact qpc.c (by decide) ⟨_,rfl,qyc (qyc (qyc (lw (qyc (qg.last ht h hk)))))⟩
   · exact lw (qpc.c (by decide) ⟨_,rfl,qyc (qyc (qyc (qyc (qg.last ht h hk))))⟩)
 · refine lw ⟨?_,?_⟩
   · exact qpc.c (by decide) ⟨_,rfl,qyc (l4 (qyc (qyc (qyc (qg.last ht h hk)))))⟩
   · exact l4 (qpc.c (by decide) ⟨_,rfl,qyc (qyc (qyc (qyc (qg.last ht h hk))))⟩)
theorem qg.loop {n2 n4 n8:Nat} {s:W5} {l:List Int} {c:List Value} {t5:Sl} (hl:l.length=80) (hc:c.length=5) {Q:VWP}
 (h:St F0 w0 w (qmb n8 (qje s.l) :: qib 1 t5 (qje l) :: qmb n2 (qje s.l) :: qmb n4 c :: ps))
 (hk:∀ w',St F0 w0 w' ps→Q (.agg ⟨qje (addW s (rounds l 80 s)).l⟩) w'):qg.j4 ⟨n2,0,none⟩ ⟨n4,0,none⟩ t5 ⟨n8,0,none⟩ Q w:=by
 unfold qg.j4 qg.j8
 refine qvd (fun (t:Nat) (t':Int) w=>t'=t∧t≤80∧St F0 w0 w (qmb n8 (qje (rounds l t s).l) :: qib 1 t5 (qje l) :: qmb n2 (qje s.l) :: qmb n4 c :: ps)) (fun t=>80 - t) 0 ⟨rfl,by omega,by rw [rounds]; exact h⟩ ?_
 clear h
 rintro t t' w I μ ⟨rfl,ht,h⟩ hin
 have hr:rounds l (t+1) s=stepF t (l.getD t 0) (rounds l t s):=by rw [rounds]
 generalize hx:rounds l t s=x at h hr
 unfold qg.b2
 refine qic (fun h1=>?_) (fun h1=>?_)
 · have ht80:t < 80:=by omega
   have fin:∀ w',St F0 w0 w' (qmb n8 (qje (stepF t (l.getD t 0) x).l) :: qib 1 t5 (qje l) :: qmb n2 (qje s.l) :: qmb n4 c :: ps) →
    ((⟨n2,0,none⟩:Addr)=⟨n2,0,none⟩∧(⟨n4,0,none⟩:Addr)=⟨n4,0,none⟩∧t5=t5∧(⟨n8,0,none⟩:Addr)=⟨n8,0,none⟩)∧I ((t:Int)+1) w'∧μ ((t:Int)+1) w' < μ (t:Int) w:=by
    intro w' h
    rw [← hr] at h
    exact ⟨⟨rfl,rfl,rfl,rfl⟩,hin (t+1) _ _ ⟨by simp,by omega,h⟩ (by omega)⟩
   unfold qg.j9 qg.j11
   have x1:∀ {K:Int→Prop},K x.b→ixA ⟨n8,0,none⟩ 5 1 1 fun a=>ldI .u32 w a K:=fun hK=>h.ldx (j:=1) rfl rfl (by decide) hK
   have x2:∀ {K:Int→Prop},K x.c→ixA ⟨n8,0,none⟩ 5 2 1 fun a=>ldI .u32 w a K:=fun hK=>h.ldx (j:=2) rfl rfl (by decide) hK
   have x3:∀ {K:Int→Prop},K x.d→ixA ⟨n8,0,none⟩ 5 3 1 fun a=>ldI .u32 w a K:=fun hK=>h.ldx (j:=3) rfl rfl (by decide) hK
   refine qic (fun h2=>?_) (fun h2=>?_)
   · refine x1 (x2 (qyc (x1 (qyc (x3 (qyc (qyc ?_)))))))
     exact qg.mid ht80 hl (by unfold mixF; rw [if_pos (by omega)]; rfl) h fin
   refine qic (fun h3=>?_) (fun h3=>?_)
   · refine x1 (x2 (qyc (x3 (qyc ?_))))
     exact qg.mid ht80 hl (by unfold mixF; rw [if_neg (by omega),if_pos (by omega)]) h fin
   refine qic (fun h4=>?_) (fun h4=>?_)
   · refine x1 (x2 (qyc (x1 (x3 (qyc (qyc (x2 (x3 (qyc (qyc ?_))))))))))
     exact qg.mid ht80 hl (by unfold mixF; rw [if_neg (by omega),if_neg (by omega),if_pos (by omega)]) h fin
   · refine x1 (x2 (qyc (x3 (qyc ?_))))
     exact qg.mid ht80 hl (by unfold mixF; rw [if_neg (by omega),if_neg (by omega),if_neg (by omega)]) h fin
 · have:t=80:=by omega
   subst this
   refine qg.add (x:=x) hc (h.at2.tail fun _ _ _ h=>h.tail1) ?_
   rw [← hx]
   exact hk
end
end Go.Proofs.YtigmbblgfnkpbaaGreat
namespace Go.Proofs.YtigmbblgfnkpbaaGreat
open Go Go.Proofs
set_option linter.unusedVariables false
set_option linter.unusedSimpArgs false
attribute [local irreducible] apK cpK mkK hs qte rounds qaf
section
variable {F0:List Nat} {w0 w:World} {ps:List As}
theorem rep_u32 (n:Nat):List.replicate n (Value.int .u32 0)=qje (List.replicate n 0):=by
 unfold qje
 rw [List.map_replicate]
theorem base_take {p:List Int} {t:Nat} (ht:t < 16):(qsd p).take (t+1)=(qsd p).take t ++ [be ((p.drop (4 * t)).take 4)]:=by
 have hl:(qsd p).length=16:=by simp [qsd]
 rw [List.take_succ_eq_append_getElem (by omega)]
 congr 1
 simp [qsd]
theorem set_next {l:List Int} {k:Nat} {v:Int} (hk:0 < k):(l ++ List.replicate k 0).set l.length v=(l ++ [v]) ++ List.replicate (k - 1) 0:=by
 rw [List.set_append_right _ _ (Nat.le_refl _),Nat.sub_self]
 cases k with
 | zero=>omega
 | succ k =>
   rw [List.replicate_succ,List.set_cons_zero,List.append_assoc]
   rfl
theorem qg.c {sl:Sl} {s:W5} {p:List Int} {K:Ending→World→Prop} (hp:p.length=64) (hpb:qae p) (hcap:sl.len≤sl.cap) (h:St F0 w0 w ps) (hr:∀ w' qs,St F0 w0 w' (qs ++ ps)→Rd w' 1 sl (u8s p))
 (hk:∀ w',St F0 w0 w' ps→K (.returned (.agg ⟨qje (blkF s p).l⟩)) w'):Calls Tryz.prog 79 ⟨[.agg ⟨qje s.l⟩,.slice sl.a sl.len sl.cap]⟩ w K:=by
 unfold blkF at hk
 have hsl:=(hr w [] h).1
 rw [qlb] at hsl
 refine qbc (qg.ok _ _ _ _ ?_)
 unfold qg
 refine h.new fun n2 w h=>?_
 refine h.new fun n4 w h=>?_
 rw [zc_w5] at h
 refine h.make1 (n:=80) zc_u32 rfl rfl (by decide) bytes_u32 fun t5 w hl5 hc5 h=>?_
 rw [rep_u32] at h
 unfold qg.j1 qg.j15
 have hb16:(qsd p).length=16:=by simp [qsd]
 refine qvd (fun (t:Nat) (t':Int) w=>t'=t∧t≤16∧St F0 w0 w (qib 1 t5 (qje ((qsd p).take t ++ List.replicate (80 - t) 0)) :: qmb n4 (qje [0,0,0,0,0]) :: qmb n2 (qje s.l) :: ps)) (fun t=>16 - t) 0 ⟨rfl,by omega,h⟩ ?_
 clear h
 rintro t t' w I μ ⟨rfl,ht,h⟩ hin
 unfold qg.b4
 refine qic (fun h1=>?_) (fun h1=>?_)
 · refine qw (qn (by omega) (by omega)) ?_
   refine ⟨⟨by omega,by omega⟩,qyc ?_⟩
   have hrd:=hr w [_,_,_] h
   have e4:(4 * (t:Int)).toNat=4 * t:=by omega
   rw [e4]
   have hcut:=hrd.cut (n:=4 * t) (m:=sl.len) (by decide) (Nat.le_refl _) (by omega) hcap (sl.cap - 4 * t)
   have ec:((u8s p).drop (4 * t * 1)).take ((sl.len - 4 * t) * 1)=u8s (p.drop (4 * t)):=by
    rw [Nat.mul_one,Nat.mul_one,List.take_of_length_le (by rw [List.length_drop,qlb]; omega)]
    unfold u8s
    rw [List.map_drop]
   rw [ec] at hcut
   refine qqe.c hcut (fun x hx=>hpb x (List.mem_of_mem_drop hx)) (by rw [List.length_drop]; omega) fun w1 hm=>⟨_,rfl,?_⟩
   have h:=h.skip hm
   have hlt:((qsd p).take t).length=t:=by rw [List.length_take]; omega
   refine h.sto32 (j:=t) rfl (by rw [List.length_append,hlt,List.length_replicate]; omega) fun w h=>?_
   refine qw (qn (by omega) (by omega)) ?_
   refine ⟨⟨rfl,rfl,rfl,rfl⟩,hin (t+1) _ _ ⟨by simp,by omega,?_⟩ (by omega)⟩
   have es:=set_next (l:=(qsd p).take t) (k:=80 - t) (v:=be ((p.drop (4 * t)).take 4)) (by omega)
   rw [hlt] at es
   rw [es,show 80 - t - 1=80 - (t+1) by omega,← base_take (by omega)] at h
   exact h
 have:t=16:=by omega
 subst this
 rw [List.take_of_length_le (by omega)] at h
 clear hin ht h1
 unfold qg.j2 qg.j14
 refine qvd (fun (t:Nat) (t':Int) w=>t'=(t:Int)+16∧t≤64∧St F0 w0 w (qib 1 t5 (qje (qaf t (qsd p) ++ List.replicate (64 - t) 0)) :: qmb n4 (qje [0,0,0,0,0]) :: qmb n2 (qje s.l) :: ps)) (fun t=>64 - t) 0 ⟨rfl,by omega,by rw [qaf]; exact h⟩ ?_
 clear h
 rintro t t' w I μ ⟨rfl,ht,h⟩ hin
 have hgl:(qaf t (qsd p)).length=t+16:=by rw [qsk,hb16]; omega
 unfold qg.b3
 refine qic (fun h1=>?_) (fun h1=>?_)
 · refine h.drewK fun w h=>?_
   have hlen:(qaf t (qsd p) ++ List.replicate (64 - t) (0:Int)).length=80:=by rw [List.length_append,hgl,List.length_replicate]; omega
   refine qw (qn (by omega) (by omega)) ?_
   refine h.ldo32 (j:=t+13) (by omega) (by omega) ?_
   refine qw (qn (by omega) (by omega)) ?_
   refine h.ldo32 (j:=t+8) (by omega) (by omega) ?_
   refine qyc ?_
   refine qw (qn (by omega) (by omega)) ?_
   refine h.ldo32 (j:=t+2) (by omega) (by omega) ?_
   refine qyc ?_
   refine qw (qn (by omega) (by omega)) ?_
   refine h.ldo32 (j:=t) (by omega) (by omega) ?_
   refine qyc ?_
   refine qpc.c (by decide) ⟨_,rfl,?_⟩
   refine h.sto32 (j:=t+16) (by omega) (by omega) fun w h=>?_
   refine qw (qn (by omega) (by omega)) ?_
   refine ⟨⟨rfl,rfl,rfl⟩,hin (t+1) _ _ ⟨by omega,by omega,?_⟩ (by omega)⟩
   rw [qwe (by omega),qwe (by omega),qwe (by omega),qwe (by omega)] at h
   have es:=set_next (l:=qaf t (qsd p)) (k:=64 - t) (v:=nextW (qaf t (qsd p))) (by omega)
   rw [hgl,← qan,show 64 - t - 1=64 - (t+1) by omega] at es
   rw [← es]
   unfold nextW
   rw [hgl]
   exact h
 have:t=64:=by omega
 subst this
 clear hin ht h1
 rw [Nat.sub_self,List.replicate_zero,List.append_nil] at h
 unfold qg.j3
 refine h.at2.ld20 rfl ?_
 refine h.new fun n8 w h=>?_
 rw [zc_w5] at h
 refine ⟨rfl,?_⟩
 refine h.st5 rfl rfl qog fun w h=>?_
 exact qg.loop (by rw [hgl]) rfl (h.tail fun _ _ _ h=>h.tail fun _ _ _ h=>h.at1) hk
end
end Go.Proofs.YtigmbblgfnkpbaaGreat
namespace Go.Proofs.YtigmbblgfnkpbaaGreat
open Go Go.Proofs
set_option linter.unusedVariables false
set_option linter.unusedSimpArgs false
attribute [local irreducible] apK cpK mkK hs qte rounds qaf
theorem zc_20:zc Tryz.prog 23=⟨u8s (List.replicate 20 0)⟩:=by kernel_rfl
theorem sum_byte (s:W5) (i:Nat) (hi:i < 20):(s.l.flatMap word4).getD i 0=(s.l.getD (i / 4) 0) / 2 ^ (24 - 8 * (i % 4)) % 256:=by
 have:i=0 ∨ i=1 ∨ i=2 ∨ i=3 ∨ i=4 ∨ i=5 ∨ i=6 ∨ i=7 ∨ i=8 ∨ i=9 ∨ i=10 ∨ i=11 ∨ i=12 ∨ i=13 ∨ i=14 ∨ i=15 ∨ i=16 ∨ i=17 ∨ i=18 ∨ i=19:=by omega
 rcases this with rfl | rfl | rfl | rfl | rfl | rfl | rfl | rfl | rfl | rfl | rfl | rfl | rfl | rfl | rfl | rfl | rfl | rfl | rfl | rfl
 all_goals first
  | rfl
  | (show _ % 256=_ / 2 ^ 0 % 256; rw [Int.pow_zero,Int.ediv_one]; rfl)
section
variable {F0:List Nat} {w0 w:World} {ps:List As}
theorem St.dropN {qs:List As} (h:St F0 w0 w (qs ++ ps)):St F0 w0 w ps:=by
 induction qs with
 | nil=>exact h
 | cons q qs ih=>exact ih h.drop
theorem St.stu8 {b o:Nat} {l:List Int} {i:Nat} {v:Int} {K:World→Prop} (h:St F0 w0 w (qmb b (u8s l) :: ps)) (ho:o=i) (hi:i < l.length) (hk:∀ w',St F0 w0 w' (qmb b (u8s (l.set i v)) :: ps)→K w'):Go.Proofs.YtigmbblgfnkpbaaGreat.st w ⟨b,o,none⟩ (.int .u8 v) K:=by
 subst ho
 refine h.st (by rw [qlb]; exact hi) trivial fun w' h=>hk w' ?_
 rw [u8s_set] at h
 exact h
theorem qq.out {n2 n6:Nat} {s:W5} {c:List Value} (hc:c.length=20) (hs:okW s) {Q:VWP} (h:St F0 w0 w (qmb n6 (qje s.l) :: qmb n2 c :: ps))
 (hk:∀ w',St F0 w0 w' ps→Q (.agg ⟨u8s (s.l.flatMap word4)⟩) w'):qq.j7 ⟨n2,0,none⟩ ⟨n6,0,none⟩ Q w:=by
 unfold qq.j7
 refine h.new fun n8 w h=>?_
 rw [zc_20] at h
 unfold qq.j8 qq.j10
 have hfl:(s.l.flatMap word4).length=20:=rfl
 refine qvd (fun (i:Nat) (i':Int) w=>i'=i∧i≤20∧St F0 w0 w (qmb n8 (u8s ((s.l.flatMap word4).take i ++ List.replicate (20 - i) 0)) :: qmb n6 (qje s.l) :: qmb n2 c :: ps)) (fun i=>20 - i) 0 ⟨rfl,by omega,h⟩ ?_
 clear h
 rintro i i' w I μ ⟨rfl,hi,h⟩ hin
 unfold qq.b1
 refine qic (fun h1=>?_) (fun h1=>?_)
 · have hi20:i < 20:=by omega
   refine ⟨by decide,?_⟩
   rw [tdiv_nn (by omega)]
   refine qw (qn (by omega) (by omega)) ?_
   refine h.at1.ldx (j:=i / 4) (by omega) rfl (by omega) ?_
   refine ⟨by decide,?_⟩
   refine qw (qwj (by omega)) ?_
   have em:(i:Int) % 4=(i % 4:Nat):=by omega
   rw [em]
   refine qw (show IntKind.u64.wrap ((i % 4:Nat):Int)=(i % 4:Nat) by rw [qbe]; omega) ?_
   refine qw (show IntKind.u64.wrap (8 * ((i % 4:Nat):Int))=(8 * (i % 4):Nat) by rw [qbe]; omega) ?_
   refine qw (show IntKind.u64.wrap (24 - ((8 * (i % 4):Nat):Int))=(24 - 8 * (i % 4):Nat) by rw [qbe]; omega) ?_
   refine ⟨by omega,?_⟩
   refine qw (qug .u32 _ (show 24 - 8 * (i % 4)≤32 by omega)) ?_
   refine qw (qlh _) ?_
   rw [← sum_byte s i hi20]
   have hlt:((s.l.flatMap word4).take i).length=i:=by rw [List.length_take]; omega
   refine qrh (by omega) (by omega) ?_
   refine h.stu8 (i:=i) (by omega) (by rw [List.length_append,hlt,List.length_replicate]; omega) fun w h=>?_
   refine qw (qn (by omega) (by omega)) ?_
   refine ⟨⟨rfl,rfl,rfl⟩,hin (i+1) _ _ ⟨by simp,by omega,?_⟩ (by omega)⟩
   have es:=set_next (l:=(s.l.flatMap word4).take i) (k:=20 - i) (v:=(s.l.flatMap word4).getD i 0) (by omega)
   rw [hlt] at es
   have et:(s.l.flatMap word4).take (i+1)=(s.l.flatMap word4).take i ++ [(s.l.flatMap word4).getD i 0]:=by
    rw [List.take_succ_eq_append_getElem (by omega)]
    congr 2
    simp [List.getD,List.getElem?_eq_getElem (show i < (s.l.flatMap word4).length by omega)]
   rw [es,show 20 - i - 1=20 - (i+1) by omega,← et] at h
   exact h
 · have:i=20:=by omega
   subst this
   have h:St F0 w0 w (qmb n8 (u8s (s.l.flatMap word4)) :: qmb n6 (qje s.l) :: qmb n2 c :: ps):=by
    rw [List.take_of_length_le (by omega),Nat.sub_self,List.replicate_zero,List.append_nil] at h
    exact h
   unfold qq.j9
   have hl20:(u8s (s.l.flatMap word4)).length=20:=by rw [qlb]; exact hfl
   refine h.ld20 hl20 ?_
   refine ⟨hl20,?_⟩
   refine h.at2.st20 hc hl20 qkf fun w h=>?_
   refine h.ld20 hl20 ?_
   exact hk w h.drop.drop.drop
theorem qq.blocks {n2:Nat} {t3:Sl} {xs:List Int} {c:List Value} (hc:c.length=20) (hxb:qae xs) (hm:xs.length % 64=0) (hL:xs.length≤1099511627776) {Q:VWP} (h:St F0 w0 w (qib 1 t3 (u8s xs) :: qmb n2 c :: ps))
 (hk:∀ w',St F0 w0 w' ps→Q (.agg ⟨u8s ((Go.Proofs.YtigmbblgfnkpbaaGreat.hs xs (xs.length / 64)).l.flatMap word4)⟩) w'):qq.j5 ⟨n2,0,none⟩ t3 Q w:=by
 unfold qq.j5
 refine h.new fun n6 w h=>?_
 rw [zc_w5] at h
 refine ⟨rfl,?_⟩
 have e0:(⟨[.int .u32 1732584193,.int .u32 4023233417,.int .u32 2562383102,.int .u32 271733878,.int .u32 3285377520]⟩:Array Value)=⟨qje (Go.Proofs.YtigmbblgfnkpbaaGreat.hs xs 0).l⟩:=by rw [Go.Proofs.YtigmbblgfnkpbaaGreat.hs]; rfl
 rw [e0]
 refine h.st5 (n:=5) rfl rfl qog fun w h=>?_
 unfold qq.j6 qq.j11
 have hlen:=h.at1.len
 rw [qlb] at hlen
 have hcap:=h.at1.cap (by decide)
 refine qvd (fun (k:Nat) (i':Int) w=>i'=((64 * k:Nat):Int)∧64 * k≤xs.length∧St F0 w0 w (qmb n6 (qje (Go.Proofs.YtigmbblgfnkpbaaGreat.hs xs k).l) :: qib 1 t3 (u8s xs) :: qmb n2 c :: ps)) (fun k=>xs.length - 64 * k) 0 ⟨rfl,by omega,h⟩ ?_
 clear h
 rintro k i' w I μ ⟨rfl,hi,h⟩ hin
 unfold qq.b2
 refine qic (fun h1=>?_) (fun h1=>?_)
 · have h64:64 * k+64≤xs.length:=by omega
   refine h.drewK fun w h=>?_
   refine h.ld20 (n:=5) rfl ?_
   refine qw (qn (by omega) (by omega)) ?_
   refine ⟨⟨by omega,by omega⟩,⟨by omega,by omega⟩,qyc ?_⟩
   have en:(((64 * k:Nat):Int)+64).toNat=64 * k+64:=by omega
   have em:(((64 * k:Nat):Int)).toNat=64 * k:=by omega
   rw [en,em]
   have hlenb:((xs.drop (64 * k)).take 64).length=64:=by rw [List.length_take,List.length_drop]; omega
   refine qg.c (p:=(xs.drop (64 * k)).take 64) hlenb (fun x hx=>hxb x (List.mem_of_mem_drop (List.mem_of_mem_take hx))) (by show 64 * k+64 - 64 * k≤t3.cap - 64 * k; omega) h (fun w' qs h=>?_) fun w h=>⟨_,rfl,?_⟩
   · have hrd:=h.dropN.at1.ord
     have hcut:=hrd.cut (n:=64 * k) (m:=64 * k+64) (by decide) (by omega) (by omega) hcap (t3.cap - 64 * k)
     have ec:((u8s xs).drop (64 * k * 1)).take ((64 * k+64 - 64 * k) * 1)=u8s ((xs.drop (64 * k)).take 64):=by
      rw [Nat.mul_one,Nat.mul_one,show 64 * k+64 - 64 * k=64 by omega]
      unfold u8s
      rw [List.map_take,List.map_drop]
     rw [ec] at hcut
     exact hcut
   refine ⟨rfl,?_⟩
   refine h.st5 (n:=5) rfl rfl qog fun w h=>?_
   refine qw (qn (by omega) (by omega)) ?_
   refine ⟨⟨rfl,rfl,rfl⟩,hin (k+1) _ _ ⟨by omega,by omega,?_⟩ (by omega)⟩
   rw [Go.Proofs.YtigmbblgfnkpbaaGreat.hs]
   exact h
 · have:k=xs.length / 64:=by omega
   subst this
   exact qq.out hc (okW_hs _ _) (h.tail fun _ _ _ h=>h.drop) hk
end
end Go.Proofs.YtigmbblgfnkpbaaGreat
namespace Go.Proofs.YtigmbblgfnkpbaaGreat
open Go Go.Proofs
set_option linter.unusedVariables false
set_option linter.unusedSimpArgs false
attribute [local irreducible] apK cpK mkK hs qte rounds qaf
section
variable {F0:List Nat} {w0 w:World} {ps:List As}
theorem be8_take (v:Int) {i:Nat} (hi:i < 8):(be8 v).take (i+1)=(be8 v).take i ++ [v / 2 ^ (8 * (7 - i)) % 256]:=by
 have hl:(be8 v).length=8:=by simp [be8]
 rw [List.take_succ_eq_append_getElem (by omega)]
 congr 2
 simp [be8]
theorem qq.c {s:Sl} {xs:List Int} {K:Ending→World→Prop} (h:St F0 w0 w ps) [Rdb F0 w0 s ps 1 (u8s xs)] (hx:qae xs) (hL:xs.length≤34359738368)
 (hk:∀ w',St F0 w0 w' ps→K (.returned (.agg ⟨u8s (qte xs)⟩)) w'):Calls Tryz.prog 41 ⟨[.slice s.a s.len s.cap]⟩ w K:=by
 have hsl:=(h.rdb s).1
 rw [qlb] at hsl
 refine qbc (qq.ok _ _ _ ?_)
 unfold qq
 refine h.new fun n2 w h=>?_
 have hz:(zc Tryz.prog 23).toList.length=20:=by rw [Array.length_toList,zc_20]; rfl
 generalize (zc Tryz.prog 23).toList=c at h hz
 unfold qq.j1
 refine h.clone (k:=.u8) (s2:=s) (by omega) fun s1 w h=>?_
 refine h.pushI (by omega) fun s2 w h=>?_
 unfold qq.j2
 refine qvd (fun (j:Nat) (o:Sl) w=>j≤(119 - xs.length % 64) % 64∧St F0 w0 w (qib 1 o (u8s (xs ++ [128] ++ List.replicate j 0)) :: qmb n2 c :: ps)) (fun j=>64 - j) 0 ⟨by omega,by simpa using h⟩ ?_
 clear h
 rintro j o w I μ ⟨hj,h⟩ hin
 have hyl:(xs ++ [128] ++ List.replicate j 0).length=xs.length+1+j:=by simp; omega
 have hol:=h.len
 rw [qlb,hyl] at hol
 unfold qq.b4
 refine ⟨by decide,?_⟩
 refine qw (qwj (by omega)) ?_
 refine qqc (fun h1=>?_) (fun h1=>?_)
 · have h1:¬ ((o.len:Nat):Int) % 64=56:=by simpa using h1
   refine h.pushI (by rw [hyl]; omega) fun s2 w h=>?_
   refine ⟨⟨rfl,rfl⟩,hin (j+1) _ _ ⟨by omega,?_⟩ (by omega)⟩
   rw [List.replicate_succ',← List.append_assoc]
   exact h
 have h1:((o.len:Nat):Int) % 64=56:=by simpa using h1
 have hjz:j=(119 - xs.length % 64) % 64:=by omega
 clear hin
 unfold qq.j3
 refine qw (show IntKind.u64.wrap ((s.len:Nat):Int)=xs.length by rw [qbe]; omega) ?_
 refine qw (show IntKind.u64.wrap ((xs.length:Int) * 8)=8 * (xs.length:Int) by rw [qbe]; omega) ?_
 unfold qq.j4 qq.j12
 have h0:xs ++ [128] ++ List.replicate j 0=xs ++ [128] ++ zeros xs.length:=by rw [zeros,hjz]
 rw [h0] at h
 have hzl:(xs ++ [128] ++ zeros xs.length).length≤34359739000:=by rw [← h0,hyl]; omega
 have hbl:(be8 (8 * (xs.length:Int))).length=8:=by simp [be8]
 refine qif (fun (i:Nat) (o:Sl) (i':Int) w=>i'=7 - (i:Int)∧i≤8∧St F0 w0 w (qib 1 o (u8s (xs ++ [128] ++ zeros xs.length ++ (be8 (8 * (xs.length:Int))).take i)) :: qmb n2 c :: ps)) (fun i=>8 - i) 0 ⟨rfl,by omega,by rw [List.take_zero,List.append_nil]; exact h⟩ ?_
 clear h
 rintro i o i' w I μ ⟨rfl,hi,h⟩ hin
 unfold qq.b3
 refine qic (fun h1=>?_) (fun h1=>?_)
 · have hi8:i < 8:=by omega
   refine qw (show IntKind.u64.wrap (7 - (i:Int))=((7 - i:Nat):Int) by rw [qbe]; omega) ?_
   refine qw (show IntKind.u64.wrap (8 * ((7 - i:Nat):Int))=((8 * (7 - i):Nat):Int) by rw [qbe]; omega) ?_
   refine ⟨by omega,?_⟩
   refine qw (qug .u64 _ (show 8 * (7 - i)≤64 by omega)) ?_
   refine qw (qlh _) ?_
   refine h.pushI (by rw [List.length_append,List.length_take,hbl]; omega) fun s2 w h=>?_
   refine qw (qn (by omega) (by omega)) ?_
   refine ⟨⟨rfl,rfl⟩,hin (i+1) _ _ _ ⟨by omega,by omega,?_⟩ (by omega)⟩
   rw [be8_take _ hi8,← List.append_assoc]
   exact h
 · have:i=8:=by omega
   subst this
   rw [List.take_of_length_le (by omega)] at h
   have e:xs ++ [128] ++ zeros xs.length ++ be8 (8 * xs.length)=padded xs:=rfl
   rw [e] at h
   have hpb:qae (padded xs):=by
    rw [← e]
    intro x hx'
    rcases List.mem_append.1 hx' with hx' | hx'
    rcases List.mem_append.1 hx' with hx' | hx'
    rcases List.mem_append.1 hx' with hx' | hx'
    · exact hx x hx'
    · rw [List.mem_singleton.1 hx']; decide
    · rw [List.eq_of_mem_replicate hx']; decide
    · exact qzh 8 8 _ x hx'
   have hpl:(padded xs).length≤1099511627776:=by rw [← e,List.length_append,hbl]; omega
   refine qq.blocks hz hpb (padded_length xs) hpl h fun w h=>?_
   have:=hk w h
   unfold qte sumW at this
   exact this
end
end Go.Proofs.YtigmbblgfnkpbaaGreat
namespace Go.Proofs.YtigmbblgfnkpbaaGreat
open Go Go.Proofs
set_option linter.unusedVariables false
set_option linter.unusedSimpArgs false
attribute [local irreducible] apK cpK mkK hs qte rounds qaf
section
variable {F0:List Nat} {w0 w:World} {ps rest:List As}
theorem qnh.d {s:Sl} {xs:List Int} {K:Ending→World→Prop} (h:St F0 w0 w ps) [Rdb F0 w0 s ps 1 (u8s xs)] (hx:qae xs) (hL:xs.length≤34359738368)
 (hk:∀ w',St F0 w0 w' ps→K (.returned (.agg ⟨u8s (qte xs)⟩)) w'):Calls Tryz.prog 38 ⟨[.slice s.a s.len s.cap]⟩ w K :=
 qnh.c h (fun w' p q h=>h.drop.drop.rdb s) hx hL hk
end
end Go.Proofs.YtigmbblgfnkpbaaGreat
namespace Go.Proofs.YtigmbblgfnkpbaaGreat
open Go Go.Proofs
set_option linter.unusedVariables false
set_option maxRecDepth 100000
def qpi (b_0:Sl) (Q:VWP) (w:World):Prop :=
 qad 100 [sV b_0] w fun r3 w2 =>
 nw w2 (⟨[sV r3,.int .i64 0,.int .i64 0]⟩:Array Value) 152 fun a4 w5 =>
 Q (.pointer (some a4)) w5
theorem qpi.ok (b_0:Sl) (Q:VWP) (w:World) (h:qpi b_0 Q w):Calls Tryz.prog 73 ⟨[sV b_0]⟩ w (Ret Q) :=
 qdc [.tmp 2] qjd Tryz.func73 rfl rfl rfl rfl .lf (by kernel_rfl) h
def qfe (r_0:OAd) (Q:VWP) (w:World):Prop :=
 nz r_0 fun a1 =>
 ldI .i64 w (Addr.add a1 2) fun x2 =>
 Q (.int .i64 x2) w
theorem qfe.ok (r_0:OAd) (Q:VWP) (w:World) (h:qfe r_0 Q w):Calls Tryz.prog 78 ⟨[.pointer r_0]⟩ w (Ret Q) :=
 qdc [.tmp 2] qjd Tryz.func78 rfl rfl rfl rfl .lf (by kernel_rfl) h
def qie (r_0:OAd) (Q:VWP) (w:World):Prop :=
 nz r_0 fun a1 =>
 ldI .i64 w (Addr.add a1 2) fun x2 =>
 br (x2 != 0) (
 Q (.int .i64 0) w) (
 lt (World.drew w) fun w3 =>
 nz r_0 fun a4 =>
 ldL w3 (Addr.add a4 0) fun x5 =>
 nz r_0 fun a6 =>
 ldI .i64 w3 (Addr.add a6 1) fun x7 =>
 lt (IntKind.i64.wrap ((x5.len:Int) - x7)) fun x8 =>
 Q (.int .i64 x8) w3)
theorem qie.ok (r_0:OAd) (Q:VWP) (w:World) (h:qie r_0 Q w):Calls Tryz.prog 116 ⟨[.pointer r_0]⟩ w (Ret Q) :=
 qdc [.tmp 2] qjd Tryz.func116 rfl rfl rfl rfl .lf (by kernel_rfl) h
def qfc.j1 (r_0:OAd) (n_1:Int) (Q:VWP) (w:World):Prop :=
 nz r_0 fun a1 =>
 ldI .i64 w (Addr.add a1 2) fun x2 =>
 br (x2 != 0) (
 Q (.slice none 0 0) w) (
 nz r_0 fun a3 =>
 ldI .i64 w (Addr.add a3 1) fun x4 =>
 lt (IntKind.i64.wrap (x4+n_1)) fun x5 =>
 nz r_0 fun a6 =>
 st w (Addr.add a6 1) (.int .i64 x5) fun w7 =>
 lt (World.drew w7) fun w8 =>
 nz r_0 fun a9 =>
 ldL w8 (Addr.add a9 0) fun x10 =>
 nz r_0 fun a11 =>
 ldI .i64 w8 (Addr.add a11 1) fun x12 =>
 lt (IntKind.i64.wrap (x12 - n_1)) fun x13 =>
 nz r_0 fun a14 =>
 ldI .i64 w8 (Addr.add a14 1) fun x15 =>
 bd x15 x10.cap fun n16 =>
 bd x13 n16 fun n17 =>
 lt (⟨qqd x10.a x10.cap n17 1,n16 - n17,x10.cap - n17⟩:Sl) fun s18 =>
 Q (sV s18) w8)
def qfc (r_0:OAd) (n_1:Int) (Q:VWP) (w:World):Prop :=
 nz r_0 fun a19 =>
 ldI .i64 w (Addr.add a19 2) fun x20 =>
 br (x20 == 0) (
 br (decide (n_1 < 0)) (
 nz r_0 fun a21 =>
 st w (Addr.add a21 2) (.int .i64 3) fun w22 =>
 qfc.j1 r_0 n_1 Q w22) (
 qhf 116 [.pointer r_0] w fun r25 w24 =>
 br (decide (n_1 > r25)) (
 nz r_0 fun a26 =>
 st w24 (Addr.add a26 2) (.int .i64 3) fun w27 =>
 qfc.j1 r_0 n_1 Q w27) (
 qfc.j1 r_0 n_1 Q w24))) (
 qfc.j1 r_0 n_1 Q w)
theorem qfc.ok (r_0:OAd) (n_1:Int) (Q:VWP) (w:World) (h:qfc r_0 n_1 Q w):Calls Tryz.prog 105 ⟨[.pointer r_0,.int .i64 n_1]⟩ w (Ret Q) :=
 qdc [.tmp 4] qjd Tryz.func105 rfl rfl rfl rfl (.pr 1 [sP 0,sI 1] (fun a b w=>qfc.j1 a b Q w) .lf) (by kernel_rfl) h
def qkb.j2 (v_5:Int) (Q:VWP) (w:World):Prop :=
 Q (.int .i64 v_5) w
def qkb.b1 (t10:Sl) (t11:Int) (v_5 t12:Int) (Q:VWP) (nx1:Sl→Int→Int→Int→WP) (w:World):Prop :=
 br (decide (t12 < t11)) (
 ixS t10.a t10.len t12 1 fun a1 =>
 ldI .u8 w a1 fun x2 =>
 (0:Int)≤8 ∧
 lt (qdf .i64 v_5 8) fun x3 =>
 lt (IntKind.i64.wrap x2) fun x4 =>
 lt (orV .i64 x3 x4) fun x5 =>
 lt (IntKind.i64.wrap (t12+1)) fun x6 =>
 nx1 t10 t11 x5 x6 w) (
 qkb.j2 v_5 Q w)
def qkb.l1 (t10:Sl) (t11:Int) (v_5 t12:Int) (Q:VWP) (w:World):Prop :=
 ∃ (I:Int→Int→WP) (μ:Int→Int→World→Nat),I v_5 t12 w∧∀ v_5:Int,∀ t12:Int,∀ w:World,I v_5 t12 w→qkb.b1 t10 t11 v_5 t12 Q (fun t10' t11' v_5' t12' w'=>(t10'=t10∧t11'=t11)∧I v_5' t12' w'∧μ v_5' t12' w' < μ v_5 t12 w) w
def qkb.j3 (v_5:Int) (t10:Sl) (t11 t12:Int) (Q:VWP) (w:World):Prop :=
 qkb.l1 t10 t11 v_5 t12 Q w
def qkb.j1 (r_0:OAd) (n_1:Int) (v_5:Int) (Q:VWP) (w:World):Prop :=
 qad 105 [.pointer r_0,.int .i64 n_1] w fun r9 w8 =>
 qkb.j3 v_5 r9 (r9.len:Int) 0 Q w8
def qkb (r_0:OAd) (n_1:Int) (Q:VWP) (w:World):Prop :=
 qkb.j1 r_0 n_1 0 Q w
theorem qkb.ok (r_0:OAd) (n_1:Int) (Q:VWP) (w:World) (h:qkb r_0 n_1 Q w):Calls Tryz.prog 104 ⟨[.pointer r_0,.int .i64 n_1]⟩ w (Ret Q) :=
 qdc [.tmp 4] qjd Tryz.func104 rfl rfl rfl rfl (.pr 1 [sP 0,sI 1,sI 5] (fun a b c w=>qkb.j1 a b c Q w) (.sq [sI 5] (fun a w=>qkb.j2 a Q w) (.sq [sI 5,sL 10,sI 11,sI 12] (fun a b c d w=>qkb.j3 a b c d Q w) .lf (.bk (.lo [sL 10,sI 11] [sI 5,sI 12] (fun a b c d w=>qkb.l1 a b c d Q w) (fun nx1 a b c d w=>qkb.b1 a b c d Q nx1 w) fun nx1=>.lf))) .lf)) (by kernel_rfl) h
def qhd (r_0:OAd) (Q:VWP) (w:World):Prop :=
 qhf 104 [.pointer r_0,.int .i64 4] w fun r3 w2 =>
 Q (.int .i64 r3) w2
theorem qhd.ok (r_0:OAd) (Q:VWP) (w:World) (h:qhd r_0 Q w):Calls Tryz.prog 74 ⟨[.pointer r_0]⟩ w (Ret Q) :=
 qdc [.tmp 2] qjd Tryz.func74 rfl rfl rfl rfl .lf (by kernel_rfl) h
def qre (r_0:OAd) (Q:VWP) (w:World):Prop :=
 qhf 104 [.pointer r_0,.int .i64 8] w fun r3 w2 =>
 br (decide (r3 < 0)) (
 nz r_0 fun a4 =>
 ldI .i64 w2 (Addr.add a4 1) fun x5 =>
 lt (IntKind.i64.wrap (x5 - 8)) fun x6 =>
 nz r_0 fun a7 =>
 st w2 (Addr.add a7 1) (.int .i64 x6) fun w8 =>
 nz r_0 fun a9 =>
 st w8 (Addr.add a9 2) (.int .i64 5) fun w10 =>
 Q (.int .i64 0) w10) (
 Q (.int .i64 r3) w2)
theorem qre.ok (r_0:OAd) (Q:VWP) (w:World) (h:qre r_0 Q w):Calls Tryz.prog 76 ⟨[.pointer r_0]⟩ w (Ret Q) :=
 qdc [.tmp 2] qjd Tryz.func76 rfl rfl rfl rfl .lf (by kernel_rfl) h
def qld (r_0:OAd) (n_1:Int) (Q:VWP) (w:World):Prop :=
 qad 105 [.pointer r_0,.int .i64 n_1] w fun r3 w2 =>
 qad 100 [sV r3] w2 fun r6 w5 =>
 qad 66 [sV r6] w5 fun r9 w8 =>
 Q (sV r9) w8
theorem qld.ok (r_0:OAd) (n_1:Int) (Q:VWP) (w:World) (h:qld r_0 n_1 Q w):Calls Tryz.prog 75 ⟨[.pointer r_0,.int .i64 n_1]⟩ w (Ret Q) :=
 qdc [.tmp 4] qjd Tryz.func75 rfl rfl rfl rfl .lf (by kernel_rfl) h
end Go.Proofs.YtigmbblgfnkpbaaGreat
namespace Go.Proofs.YtigmbblgfnkpbaaGreat
open Go Go.Proofs
set_option linter.unusedVariables false
set_option maxRecDepth 100000
def qxb.j2 (b_0:Sl) (Q:VWP) (w:World):Prop :=
 Q (sV b_0) w
def qxb.b1 (u_7:Int) (b_0:Sl) (i_8:Int) (Q:VWP) (nx1:Int→Sl→Int→WP) (w:World):Prop :=
 br (decide (i_8 ≥ 0)) (
 lt (IntKind.u64.wrap i_8) fun x1 =>
 lt (IntKind.u64.wrap (8 * x1)) fun x2 =>
 (0:Int)≤x2 ∧
 lt (shrV .u64 u_7 x2) fun x3 =>
 lt (IntKind.u8.wrap x3) fun x4 =>
 nw w ⟨[.int .u8 x4]⟩ 5 fun a5 w6 =>
 rdO w6 (some a5) (1 * 1) fun c7 =>
 apK Tryz.prog 5 w6 b_0.a b_0.len b_0.cap 1 c7 fun s8 w9 =>
 lt (IntKind.i64.wrap (i_8 - 1)) fun x10 =>
 nx1 u_7 s8 x10 w9) (
 qxb.j2 b_0 Q w)
def qxb.l1 (u_7:Int) (b_0:Sl) (i_8:Int) (Q:VWP) (w:World):Prop :=
 ∃ (I:Sl→Int→WP) (μ:Sl→Int→World→Nat),I b_0 i_8 w∧∀ b_0:Sl,∀ i_8:Int,∀ w:World,I b_0 i_8 w→qxb.b1 u_7 b_0 i_8 Q (fun u_7' b_0' i_8' w'=>(u_7'=u_7)∧I b_0' i_8' w'∧μ b_0' i_8' w' < μ b_0 i_8 w) w
def qxb.j3 (b_0:Sl) (u_7:Int) (i_8:Int) (Q:VWP) (w:World):Prop :=
 qxb.l1 u_7 b_0 i_8 Q w
def qxb.j1 (b_0:Sl) (n_2:Int) (u_7:Int) (Q:VWP) (w:World):Prop :=
 lt (IntKind.i64.wrap (n_2 - 1)) fun x11 =>
 qxb.j3 b_0 u_7 x11 Q w
def qxb (b_0:Sl) (v_1:Int) (n_2:Int) (Q:VWP) (w:World):Prop :=
 lt (IntKind.u64.wrap v_1) fun x12 =>
 qxb.j1 b_0 n_2 x12 Q w
theorem qxb.ok (b_0:Sl) (v_1:Int) (n_2:Int) (Q:VWP) (w:World) (h:qxb b_0 v_1 n_2 Q w):Calls Tryz.prog 67 ⟨[sV b_0,.int .i64 v_1,.int .i64 n_2]⟩ w (Ret Q) :=
 qdc [.tmp 6] qjd Tryz.func67 rfl rfl rfl rfl (.pr 1 [sL 0,sI 2,(7,.I .u64)] (fun a b c w=>qxb.j1 a b c Q w) (.sq [sL 0] (fun a w=>qxb.j2 a Q w) (.sq [sL 0,(7,.I .u64),sI 8] (fun a b c w=>qxb.j3 a b c Q w) .lf (.bk (.lo [(7,.I .u64)] [sL 0,sI 8] (fun a b c w=>qxb.l1 a b c Q w) (fun nx1 a b c w=>qxb.b1 a b c Q nx1 w) fun nx1=>.lf))) .lf)) (by kernel_rfl) h
def qxc (r_0:OAd) (n_1:Int) (Q:VWP) (w:World):Prop :=
 nz r_0 fun a1 =>
 ldI .i64 w (Addr.add a1 2) fun x2 =>
 br (x2 != 0) (
 Q (.slice none 0 0) w) (
 lt (World.drew w) fun w3 =>
 br (decide (n_1 < 0)) (
 nz r_0 fun a4 =>
 st w3 (Addr.add a4 2) (.int .i64 3) fun w5 =>
 Q (.slice none 0 0) w5) (
 nz r_0 fun a6 =>
 ldL w3 (Addr.add a6 0) fun x7 =>
 nz r_0 fun a8 =>
 ldI .i64 w3 (Addr.add a8 1) fun x9 =>
 lt (IntKind.i64.wrap ((x7.len:Int) - x9)) fun x10 =>
 br (decide (n_1 > x10)) (
 nz r_0 fun a11 =>
 st w3 (Addr.add a11 2) (.int .i64 3) fun w12 =>
 Q (.slice none 0 0) w12) (
 lt (World.drew w3) fun w13 =>
 nz r_0 fun a14 =>
 ldL w13 (Addr.add a14 0) fun x15 =>
 nz r_0 fun a16 =>
 ldI .i64 w13 (Addr.add a16 1) fun x17 =>
 nz r_0 fun a18 =>
 ldI .i64 w13 (Addr.add a18 1) fun x19 =>
 lt (IntKind.i64.wrap (x19+n_1)) fun x20 =>
 bd x20 x15.cap fun n21 =>
 bd x17 n21 fun n22 =>
 lt (⟨qqd x15.a x15.cap n22 1,n21 - n22,x15.cap - n22⟩:Sl) fun s23 =>
 nw w13 ⟨[]⟩ 5 fun a24 w25 =>
 rdO w25 s23.a (s23.len * 1) fun c26 =>
 apK Tryz.prog 5 w25 (some a24) 0 0 s23.len c26 fun s27 w28 =>
 nz r_0 fun a29 =>
 ldI .i64 w28 (Addr.add a29 1) fun x30 =>
 lt (IntKind.i64.wrap (x30+n_1)) fun x31 =>
 nz r_0 fun a32 =>
 st w28 (Addr.add a32 1) (.int .i64 x31) fun w33 =>
 Q (sV s27) w33)))
theorem qxc.ok (r_0:OAd) (n_1:Int) (Q:VWP) (w:World) (h:qxc r_0 n_1 Q w):Calls Tryz.prog 108 ⟨[.pointer r_0,.int .i64 n_1]⟩ w (Ret Q) :=
 qdc [.tmp 4] qjd Tryz.func108 rfl rfl rfl rfl .lf (by kernel_rfl) h
def qdb.j3 (r_0:OAd) (was_5:Int) (u_7:Int) (Q:VWP) (w:World):Prop :=
 br (decide (u_7 > 9223372036854775807)) (
 nz r_0 fun a1 =>
 st w (Addr.add a1 1) (.int .i64 was_5) fun w2 =>
 nz r_0 fun a3 =>
 st w2 (Addr.add a3 2) (.int .i64 5) fun w4 =>
 Q (.int .i64 0) w4) (
 lt (IntKind.i64.wrap u_7) fun x5 =>
 Q (.int .i64 x5) w)
def qdb.b1 (r_0:OAd) (was_5:Int) (x_6:Sl) (u_7:Int) (i_8:Int) (Q:VWP) (nx1:OAd→Int→Sl→Int→Int→WP) (w:World):Prop :=
 br (decide (i_8 < (x_6.len:Int))) (
 (0:Int)≤8 ∧
 lt (qdf .u64 u_7 8) fun x6 =>
 ixS x_6.a x_6.len i_8 1 fun a7 =>
 ldI .u8 w a7 fun x8 =>
 lt (IntKind.u64.wrap x8) fun x9 =>
 lt (orV .u64 x6 x9) fun x10 =>
 lt (IntKind.i64.wrap (i_8+1)) fun x11 =>
 nx1 r_0 was_5 x_6 x10 x11 w) (
 qdb.j3 r_0 was_5 u_7 Q w)
def qdb.l1 (r_0:OAd) (was_5:Int) (x_6:Sl) (u_7:Int) (i_8:Int) (Q:VWP) (w:World):Prop :=
 ∃ (I:Int→Int→WP) (μ:Int→Int→World→Nat),I u_7 i_8 w∧∀ u_7:Int,∀ i_8:Int,∀ w:World,I u_7 i_8 w→qdb.b1 r_0 was_5 x_6 u_7 i_8 Q (fun r_0' was_5' x_6' u_7' i_8' w'=>(r_0'=r_0∧was_5'=was_5∧x_6'=x_6)∧I u_7' i_8' w'∧μ u_7' i_8' w' < μ u_7 i_8 w) w
def qdb.j4 (r_0:OAd) (was_5:Int) (x_6:Sl) (u_7:Int) (i_8:Int) (Q:VWP) (w:World):Prop :=
 qdb.l1 r_0 was_5 x_6 u_7 i_8 Q w
def qdb.j2 (r_0:OAd) (was_5:Int) (x_6:Sl) (u_7:Int) (Q:VWP) (w:World):Prop :=
 qdb.j4 r_0 was_5 x_6 u_7 0 Q w
def qdb.j1 (r_0:OAd) (n_1:Int) (was_5:Int) (Q:VWP) (w:World):Prop :=
 qad 108 [.pointer r_0,.int .i64 n_1] w fun r14 w13 =>
 qdb.j2 r_0 was_5 r14 0 Q w13
def qdb (r_0:OAd) (n_1:Int) (Q:VWP) (w:World):Prop :=
 nz r_0 fun a15 =>
 ldI .i64 w (Addr.add a15 1) fun x16 =>
 qdb.j1 r_0 n_1 x16 Q w
theorem qdb.ok (r_0:OAd) (n_1:Int) (Q:VWP) (w:World) (h:qdb r_0 n_1 Q w):Calls Tryz.prog 80 ⟨[.pointer r_0,.int .i64 n_1]⟩ w (Ret Q) :=
 qdc [.tmp 4] qjd Tryz.func80 rfl rfl rfl rfl (.pr 1 [sP 0,sI 1,sI 5] (fun a b c w=>qdb.j1 a b c Q w) (.pr 1 [sP 0,sI 5,sL 6,(7,.I .u64)] (fun a b c d w=>qdb.j2 a b c d Q w) (.sq [sP 0,sI 5,(7,.I .u64)] (fun a b c w=>qdb.j3 a b c Q w) (.sq [sP 0,sI 5,sL 6,(7,.I .u64),sI 8] (fun a b c d e w=>qdb.j4 a b c d e Q w) .lf (.bk (.lo [sP 0,sI 5,sL 6] [(7,.I .u64),sI 8] (fun a b c d e w=>qdb.l1 a b c d e Q w) (fun nx1 a b c d e w=>qdb.b1 a b c d e Q nx1 w) fun nx1=>.lf))) .lf))) (by kernel_rfl) h
end Go.Proofs.YtigmbblgfnkpbaaGreat
namespace Go.Proofs.YtigmbblgfnkpbaaGreat
open Go Go.Proofs
set_option linter.unusedVariables false
set_option linter.unusedSimpArgs false
attribute [local irreducible] apK cpK mkK
theorem qtm (k:IntKind) {x y:Int} (h:x % 2 ^ k.bits=y % 2 ^ k.bits):k.wrap x=k.wrap y:=by simp only [IntKind.wrap,h]
theorem wrap_mod (k:IntKind) (x:Int):k.wrap x % 2 ^ k.bits=x % 2 ^ k.bits:=by
 simp only [IntKind.wrap]
 split
 · rw [Int.sub_emod_right,Int.emod_emod]
 · rw [Int.emod_emod]
theorem or_byte64 {k:IntKind} (hb:k.bits=64) {v c:Int} (hc:0≤c∧c < 256):orV k (qdf k v 8) c=k.wrap (v * 256+c):=by
 obtain ⟨n,rfl⟩:∃ n:Nat,c=n:=⟨c.toNat,by omega⟩
 unfold orV qdf
 have h8:min (8:Int).toNat k.bits=8:=by rw [hb]; rfl
 rw [h8]
 have e1:=qhj k.bits (k.wrap (v * 2 ^ 8))
 rw [wrap_mod] at e1
 have e2:(BitVec.ofInt k.bits (n:Int)).toNat=n:=qmf _ _ (by rw [hb]; omega)
 rw [BitVec.toNat_or,e2]
 generalize (BitVec.ofInt k.bits (k.wrap (v * 2 ^ 8))).toNat=A at e1
 have h28:(2:Int) ^ 8=256:=by decide
 have h64:(2:Int) ^ k.bits=18446744073709551616:=by rw [hb]; decide
 rw [h28,h64] at e1
 obtain ⟨q,rfl⟩:∃ q,A=2 ^ 8 * q:=⟨A / 256,by omega⟩
 have:=Nat.two_pow_add_eq_or_of_lt (i:=8) (b:=n) (by omega) q
 rw [← this]
 apply qtm
 rw [h64]
 have h28n:(2:Nat) ^ 8=256:=by decide
 rw [h28n] at e1 ⊢
 omega
theorem be_fold (k:IntKind) (hb:k.bits=64) (a:Int) (l:List Int) (c:Int) (hc:0≤c∧c < 256):orV k (qdf k (k.wrap (be l)) 8) c=k.wrap (be (l ++ [c])):=by
 rw [or_byte64 hb hc,be_snoc]
 apply qtm
 have h64:(2:Int) ^ k.bits=18446744073709551616:=by rw [hb]; decide
 have:=wrap_mod k (be l)
 rw [h64] at this ⊢
 omega
theorem be_beJ (n:Nat) (v:Int):∀ j,j≤n→be (beJ n j v)=v / 2 ^ (8 * (n - j)) % 2 ^ (8 * j):=by
 intro j
 induction j with
 | zero=>intro _; simp [beJ,be,Int.emod_one]
 | succ j ih =>
   intro hj
   rw [qjl,be_snoc,ih (by omega),show n - 1 - j=n - (j+1) by omega]
   have e1:v / 2 ^ (8 * (n - j))=v / 2 ^ (8 * (n - (j+1))) / 256:=by
    rw [show 8 * (n - j)=8 * (n - (j+1))+8 by omega,Int.pow_add,show (2:Int) ^ 8=256 by decide,Int.ediv_ediv_of_nonneg (Int.le_of_lt (Int.pow_pos (by decide)))]
   have e2:(2:Int) ^ (8 * (j+1))=256 * 2 ^ (8 * j):=by rw [show 8 * (j+1)=8+8 * j by omega,Int.pow_add]; rfl
   rw [e1,e2]
   generalize v / 2 ^ (8 * (n - (j+1)))=x
   have hp:(0:Int) < 2 ^ (8 * j):=Int.pow_pos (by decide)
   generalize (2:Int) ^ (8 * j)=m at hp
   have h1:=Int.mul_ediv_add_emod (x / 256) m
   have h2:=Int.mul_ediv_add_emod x 256
   have h3:=Int.emod_lt_of_pos (x / 256) hp
   have h4:=Int.emod_nonneg (x / 256) (show m ≠ 0 by omega)
   have h5:x=(x / 256 % m * 256+x % 256)+(x / 256 / m) * (256 * m):=by
    have e:(x / 256 / m) * (256 * m)=256 * (m * (x / 256 / m)):=by rw [← Int.mul_assoc,Int.mul_comm (x / 256 / m) 256,Int.mul_assoc,Int.mul_comm (x / 256 / m) m]
    rw [e]; omega
   have h6:=Int.add_mul_emod_self_right (x / 256 % m * 256+x % 256) (x / 256 / m) (256 * m)
   rw [← h5] at h6
   have h7:(x / 256 % m * 256+x % 256) % (256 * m)=x / 256 % m * 256+x % 256:=Int.emod_eq_of_lt (by omega) (by omega)
   rw [h6,h7]
theorem be_beJ' (n:Nat) (v:Int):be (beJ n n v)=v % 2 ^ (8 * n):=by
 rw [be_beJ n v n (Nat.le_refl _),Nat.sub_self,Nat.mul_zero,Int.pow_zero,Int.ediv_one]
theorem be_lt8 {l:List Int} (h:qae l) {n:Nat} (hn:l.length≤n):0≤be l∧be l < 2 ^ (8 * n):=by
 have:=be_lt l h
 refine ⟨this.1,Int.lt_of_lt_of_le this.2 ?_⟩
 have e:(256:Int) ^ l.length=2 ^ (8 * l.length):=by rw [show (256:Int)=2 ^ 8 by decide,← Int.pow_mul]
 rw [e]
 exact_mod_cast Nat.pow_le_pow_right (by decide) (show 8 * l.length≤8 * n by omega)
def tkS (xs:List Int) (at':Nat) (err n:Int):List Int × Nat × Int :=
 if err=0∧0≤n∧n≤xs.length - at' then ((xs.drop at').take n.toNat,at'+n.toNat,0) else ([],at',if err=0 then 3 else err)
def nuS (xs:List Int) (at':Nat) (err:Int) (n:Nat):Int × Nat × Int :=
 if 9223372036854775807 < be (tkS xs at' err n).1 then (0,at',5) else (be (tkS xs at' err n).1,(tkS xs at' err n).2)
def brA (rb:Nat) (x:List Int × Nat × Int):As:=exA fun s:Sl=>ifA (x.2.1≤x.1.length∧s.len≤s.cap∧qae x.1∧x.1.length≤1099511627776) <| andA (qmb rb [.slice s.a s.len s.cap,.int .i64 (x.2.1:Int),.int .i64 x.2.2]) (qib 1 s (u8s x.1))
section
variable {F0:List Nat} {w0 w:World} {ps rest:List As} {rb at':Nat} {xs:List Int} {err:Int}
theorem brA_o (h:St F0 w0 w ps) [PkF brA rb ps (xs,at',err) rest]:∃ s:Sl,at'≤xs.length∧s.len≤s.cap∧s.len=xs.length∧qae xs∧xs.length≤1099511627776∧St F0 w0 w (qmb rb [.slice s.a s.len s.cap,.int .i64 (at':Int),.int .i64 err] :: qib 1 s (u8s xs) :: rest):=by
 obtain ⟨s,h⟩:=(h.toF brA rb).exE
 obtain ⟨⟨h1,h2,h3,h4⟩,h⟩:=h.ifE
 have h:=h.split
 have hl:=h.at1.len
 rw [qz] at hl
 exact ⟨s,h1,h2,by simp only at hl; omega,h3,h4,h⟩
theorem brA_i {s:Sl} (h1:at'≤xs.length) (h2:s.len≤s.cap) (h3:qae xs) (h4:xs.length≤1099511627776) (h:St F0 w0 w (qmb rb [.slice s.a s.len s.cap,.int .i64 (at':Int),.int .i64 err] :: qib 1 s (u8s xs) :: rest)):St F0 w0 w (brA rb (xs,at',err) :: rest) :=
 (h.join.ifI (c:=at'≤xs.length∧s.len≤s.cap∧qae xs∧xs.length≤1099511627776) ⟨h1,h2,h3,h4⟩).exI (p:=fun s:Sl=>ifA (at'≤xs.length∧s.len≤s.cap∧qae xs∧xs.length≤1099511627776) <| andA (qmb rb [.slice s.a s.len s.cap,.int .i64 (at':Int),.int .i64 err]) (qib 1 s (u8s xs))) s
theorem qpi.c {s:Sl} {K:Ending→World→Prop} (h:St F0 w0 w ps) [Rdb F0 w0 s ps 1 (u8s xs)] (hx:qae xs) (hL:xs.length≤1099511627776)
 (hk:∀ nb w',St F0 w0 w' (brA nb (xs,0,0) :: ps)→K (.returned (.pointer (some ⟨nb,0,none⟩))) w'):Calls Tryz.prog 73 ⟨[.slice s.a s.len s.cap]⟩ w K:=by
 refine qbc (qpi.ok _ _ _ ?_)
 unfold qpi
 refine qnc.c h (h.rdb s) (by omega) fun s1 w h=>⟨s1,rfl,?_⟩
 have hc:=h.cap (by decide)
 refine h.new fun nb w h=>?_
 exact hk nb w (brA_i (Nat.zero_le _) hc hx hL h)
theorem qfe.c {K:Ending→World→Prop} (h:St F0 w0 w ps) [PkF brA rb ps (xs,at',err) rest] (hk:K (.returned (.int .i64 err)) w):Calls Tryz.prog 78 ⟨[.pointer (some ⟨rb,0,none⟩)]⟩ w K:=by
 refine qbc (qfe.ok _ _ _ ?_)
 unfold qfe
 obtain ⟨s,h1,h2,h3,h4,h5,h⟩:=brA_o (rb:=rb) h
 exact qzd (h.fI hk)
theorem qie.r {s:Sl} {K:Ending→World→Prop} (h:St F0 w0 w (qmb rb [.slice s.a s.len s.cap,.int .i64 (at':Int),.int .i64 err] :: rest)) (hl:at'≤s.len) (hL:s.len≤1099511627776)
 (hk:∀ w',St F0 w0 w' (qmb rb [.slice s.a s.len s.cap,.int .i64 (at':Int),.int .i64 err] :: rest)→K (.returned (.int .i64 (if err=0 then (s.len:Int) - at' else 0))) w'):Calls Tryz.prog 116 ⟨[.pointer (some ⟨rb,0,none⟩)]⟩ w K:=by
 refine qbc (qie.ok _ _ _ ?_)
 unfold qie
 refine qzd (h.fI (qqc (fun g=>?_) (fun g=>?_)))
 · rw [if_neg (by simpa using g)] at hk
   exact hk w h
 · rw [if_pos (by simpa using g)] at hk
   refine h.drewK fun w h=>?_
   refine qzd (h.fL (qzd (h.fI ?_)))
   refine qw (qn (by simp only; omega) (by simp only; omega)) ?_
   exact hk w h
theorem qfc.r {s:Sl} {n:Int} {K:Ending→World→Prop} (h:St F0 w0 w (qmb rb [.slice s.a s.len s.cap,.int .i64 (at':Int),.int .i64 err] :: rest)) (hl:at'≤s.len) (hc:s.len≤s.cap) (hL:s.len≤1099511627776)
 (hk:∀ (m:Nat) w',err=0→n=m→m≤s.len - at'→St F0 w0 w' (qmb rb [.slice s.a s.len s.cap,.int .i64 ((at'+m:Nat):Int),.int .i64 0] :: rest)→K (.returned (.slice (qqd s.a s.cap at' 1) (at'+m - at') (s.cap - at'))) w')
 (hk2:∀ w',¬(err=0∧0≤n∧n≤(s.len:Int) - at')→St F0 w0 w' (qmb rb [.slice s.a s.len s.cap,.int .i64 (at':Int),.int .i64 (if err=0 then 3 else err)] :: rest)→K (.returned (.slice none 0 0)) w') :
 Calls Tryz.prog 105 ⟨[.pointer (some ⟨rb,0,none⟩),.int .i64 n]⟩ w K:=by
 refine qbc (qfc.ok _ _ _ _ ?_)
 unfold qfc
 have bad:∀ (e:Int) w',e ≠ 0→e=(if err=0 then 3 else err)→¬(err=0∧0≤n∧n≤(s.len:Int) - at')→St F0 w0 w' (qmb rb [.slice s.a s.len s.cap,.int .i64 (at':Int),.int .i64 e] :: rest)→qfc.j1 (some ⟨rb,0,none⟩) n (fun v w'=>K (.returned v) w') w':=by
  intro e w he e1 hn h
  unfold qfc.j1
  refine qzd (h.fI (br_is (by simpa using he) ?_))
  subst e1
  exact hk2 w hn h
 refine qzd (h.fI (qqc (fun g=>?_) (fun g=>?_)))
 · have g:err=0:=by simpa using g
   subst g
   refine qic (fun g=>?_) (fun g=>?_)
   · refine qzd (h.fst trivial fun w h=>?_)
     exact bad 3 w (by decide) rfl (by omega) h
   · refine qie.r h hl hL fun w h=>⟨_,rfl,?_⟩
     rw [if_pos rfl]
     refine qic (fun g2=>?_) (fun g2=>?_)
     · refine qzd (h.fst trivial fun w h=>?_)
       exact bad 3 w (by decide) rfl (by omega) h
     · obtain ⟨m,rfl⟩:∃ m:Nat,n=m:=⟨n.toNat,by omega⟩
       unfold qfc.j1
       refine qzd (h.fI (br_no (by simp) ?_))
       refine qzd (h.fI ?_)
       refine qw (qn (by omega) (by omega)) ?_
       refine qzd (h.fst trivial fun w h=>?_)
       refine h.drewK fun w h=>?_
       refine qzd (h.fL (qzd (h.fI ?_)))
       refine qw (qn (by omega) (by omega)) ?_
       refine qzd (h.fI ?_)
       refine qlj (n:=at'+m) (by omega) (by simp only; omega) ?_
       refine qlj (n:=at') (by omega) (by omega) (qyc ?_)
       exact hk m w rfl rfl (by omega) (by rw [Int.natCast_add]; exact h)
 · have g:err ≠ 0:=by simpa using g
   exact bad err w g (by rw [if_neg g]) (fun e=>g e.1) h
end
end Go.Proofs.YtigmbblgfnkpbaaGreat
namespace Go.Proofs.YtigmbblgfnkpbaaGreat
open Go Go.Proofs
set_option linter.unusedVariables false
set_option linter.unusedSimpArgs false
attribute [local irreducible] apK cpK mkK
theorem tkS_ok {xs:List Int} (hx:qae xs) (at':Nat) (err n:Int):qae (tkS xs at' err n).1∧(tkS xs at' err n).1.length≤n.toNat∧(tkS xs at' err n).1.length≤xs.length∧(at'≤xs.length→(tkS xs at' err n).2.1≤xs.length):=by
 unfold tkS
 split
 · refine ⟨fun x h=>hx x (List.mem_of_mem_drop (List.mem_of_mem_take h)),by simp; omega,by simp; omega,fun _=>by simp only; omega⟩
 · exact ⟨fun x h=>by simp at h,by simp,by simp,fun h=>h⟩
theorem take_snoc {xs:List Int} {i:Nat} (h:i < xs.length):xs.take (i+1)=xs.take i ++ [xs.getD i 0]:=by
 rw [List.take_succ_eq_append_getElem h]
 simp [List.getD,List.getElem?_eq_getElem h]
theorem allB_getD {xs:List Int} (hx:qae xs) {i:Nat} (h:i < xs.length):0≤xs.getD i 0∧xs.getD i 0 < 256:=by
 have:xs.getD i 0=xs[i]:=by simp [List.getD,List.getElem?_eq_getElem h]
 rw [this]; exact hx _ (List.getElem_mem h)
section
variable {F0:List Nat} {w0 w:World} {ps rest:List As} {rb at':Nat} {xs:List Int} {err:Int}
theorem qkb.loop {t:Sl} {ys:List Int} {Q:VWP} (h:St F0 w0 w ps) [Rdb F0 w0 t ps 1 (u8s ys)] (hy:qae ys) (hL:ys.length≤1099511627776)
 (hk:∀ w',St F0 w0 w' ps→Q (.int .i64 (IntKind.i64.wrap (be ys))) w'):qkb.j3 0 t ((t.len:Nat):Int) 0 Q w:=by
 unfold qkb.j3
 have hl:=(h.rdb t).1
 rw [qz] at hl
 refine qif (fun (i:Nat) (v i':Int) w'=>i'=i∧i≤ys.length∧v=IntKind.i64.wrap (be (ys.take i))∧St F0 w0 w' ps) (fun i=>ys.length - i) 0 ⟨rfl,by omega,rfl,h⟩ ?_
 clear h
 rintro i v i' w I μ ⟨rfl,hi,rfl,h⟩ hin
 unfold qkb.b1
 refine qic (fun g=>?_) (fun g=>?_)
 · have hiy:i < ys.length:=by omega
   have hc:=allB_getD hy hiy
   refine h.lx i rfl hiy ⟨by decide,qyc ?_⟩
   refine qw (qn (by omega) (by omega)) ?_
   refine qw (be_fold .i64 rfl 0 _ _ hc) ?_
   rw [← take_snoc hiy]
   refine qw (qn (by omega) (by omega)) ?_
   exact ⟨⟨rfl,rfl⟩,hin (i+1) _ _ _ ⟨by omega,by omega,rfl,h⟩ (by omega)⟩
 · have:i=ys.length:=by omega
   subst this
   rw [List.take_length]
   exact hk w h
theorem qkb.c {n:Nat} {K:Ending→World→Prop} (h:St F0 w0 w ps) [PkF brA rb ps (xs,at',err) rest]
 (hk:∀ w',St F0 w0 w' (brA rb (xs,(tkS xs at' err n).2) :: rest)→K (.returned (.int .i64 (IntKind.i64.wrap (be (tkS xs at' err n).1)))) w'):Calls Tryz.prog 104 ⟨[.pointer (some ⟨rb,0,none⟩),.int .i64 (n:Int)]⟩ w K:=by
 refine qbc (qkb.ok _ _ _ _ ?_)
 unfold qkb qkb.j1
 obtain ⟨s,h1,h2,h3,h4,h5,h⟩:=brA_o (rb:=rb) h
 refine qfc.r h (by omega) h2 (by omega) (fun m w e1 e2 e3 g=>⟨⟨_,_,_⟩,rfl,?_⟩) (fun w hn h=>⟨⟨none,0,0⟩,rfl,?_⟩)
 · have e2:n=m:=by omega
   subst e2 e1
   have h:=g
   have et:tkS xs at' 0 n=((xs.drop at').take n,at'+n,0):=by unfold tkS; rw [if_pos ⟨rfl,by omega,by omega⟩,Int.toNat_natCast]
   rw [et] at hk
   haveI:=h.cutR s at' (at'+n) (s.cap - at') (ys:=(xs.drop at').take n) (by omega) (by omega) h2 (by rw [show at'+n - at'=n by omega])
   refine qkb.loop (t:=⟨qqd s.a s.cap at' 1,at'+n - at',s.cap - at'⟩) (ys:=(xs.drop at').take n) h (fun x hx=>h4 x (List.mem_of_mem_drop (List.mem_of_mem_take hx))) (by simp; omega) fun w h=>?_
   exact hk w (brA_i (by omega) h2 h4 h5 h)
 · have et:tkS xs at' err n=([],at',if err=0 then 3 else err):=by unfold tkS; rw [if_neg (by omega)]
   rw [et] at hk
   haveI:=Rdb.nil (F0:=F0) (w0:=w0) (ps:=qmb rb [.slice s.a s.len s.cap,.int .i64 (at':Int),.int .i64 (if err=0 then 3 else err)] :: qib 1 s (u8s xs) :: rest) 0
   refine qkb.loop (t:=⟨none,0,0⟩) (ys:=[]) h (fun x hx=>by cases hx) (by simp) fun w h=>?_
   exact hk w (brA_i h1 h2 h4 h5 h)
theorem nuS_small {n:Nat} (hx:qae xs) (hn:n≤4):IntKind.i64.wrap (be (tkS xs at' err n).1)=(nuS xs at' err n).1∧(nuS xs at' err n).2=(tkS xs at' err n).2:=by
 have h:=tkS_ok hx at' err n
 have h2:=be_lt8 h.1 (n:=4) (by omega)
 have h3:(2:Int) ^ (8 * 4)=4294967296:=by decide
 rw [h3] at h2
 unfold nuS
 rw [if_neg (by omega),qn (by omega) (by omega)]
 exact ⟨rfl,rfl⟩
theorem qhd.c {K:Ending→World→Prop} (h:St F0 w0 w ps) [PkF brA rb ps (xs,at',err) rest] (hx:qae xs)
 (hk:∀ w',St F0 w0 w' (brA rb (xs,(nuS xs at' err 4).2) :: rest)→K (.returned (.int .i64 (nuS xs at' err 4).1)) w'):Calls Tryz.prog 74 ⟨[.pointer (some ⟨rb,0,none⟩)]⟩ w K:=by
 refine qbc (qhd.ok _ _ _ ?_)
 unfold qhd
 obtain ⟨e1,e2⟩:=nuS_small (at':=at') (err:=err) hx (show 4≤4 by decide)
 refine qkb.c (n:=4) h fun w h=>⟨_,rfl,?_⟩
 rw [← e2] at h
 rw [e1]
 exact hk w h
theorem qre.c {K:Ending→World→Prop} (h:St F0 w0 w ps) [PkF brA rb ps (xs,at',err) rest] (hx:qae xs)
 (hk:∀ w',St F0 w0 w' (brA rb (xs,(nuS xs at' err 8).2) :: rest)→K (.returned (.int .i64 (nuS xs at' err 8).1)) w'):Calls Tryz.prog 76 ⟨[.pointer (some ⟨rb,0,none⟩)]⟩ w K:=by
 refine qbc (qre.ok _ _ _ ?_)
 unfold qre
 have hl0:at'≤xs.length:=by obtain ⟨s,h1,_⟩:=brA_o (rb:=rb) h; exact h1
 refine qkb.c (n:=8) h fun w h=>⟨_,rfl,?_⟩
 have hd:((8:Nat):Int)=8:=rfl
 rw [hd] at h ⊢
 have hok:=tkS_ok hx at' err 8
 have h2:=be_lt8 hok.1 (n:=8) (by omega)
 have h3:(2:Int) ^ (8 * 8)=18446744073709551616:=by decide
 rw [h3] at h2
 have hw:=wrap_i64_eq (be (tkS xs at' err 8).1)
 unfold nuS at hk
 rw [hd] at hk
 refine qic (fun g=>?_) (fun g=>?_)
 · rw [if_pos (by omega)] at hk
   have hat:(tkS xs at' err 8).2=(at'+8,0):=by
    unfold tkS at g ⊢
    split
    · rfl
    · rename_i hn
      rw [if_neg hn] at g
      exact absurd g (by show ¬ IntKind.i64.wrap (be []) < 0; decide)
   rw [hat] at h
   obtain ⟨s,h1,h2,h3,h4,h5,h⟩:=brA_o (rb:=rb) h
   refine qzd (h.fI ?_)
   refine qw (qn (by omega) (by omega)) ?_
   refine qzd (h.fst trivial fun w h=>?_)
   refine qzd (h.fst trivial fun w h=>?_)
   rw [show ((at'+8:Nat):Int) - 8=(at':Int) by omega] at h
   exact hk w (brA_i hl0 h2 h4 h5 h)
 · rw [if_neg (by omega)] at hk
   rw [qn (by omega) (by omega)]
   exact hk w h
theorem qld.c {n:Int} {K:Ending→World→Prop} (h:St F0 w0 w ps) [PkF brA rb ps (xs,at',err) rest]
 (hk:∀ s' w',St F0 w0 w' (rdA 1 s' (u8s (tkS xs at' err n).1) :: brA rb (xs,(tkS xs at' err n).2) :: rest)→K (.returned (.slice s'.a s'.len s'.cap)) w'):Calls Tryz.prog 75 ⟨[.pointer (some ⟨rb,0,none⟩),.int .i64 n]⟩ w K:=by
 refine qbc (qld.ok _ _ _ _ ?_)
 unfold qld
 obtain ⟨s,h1,h2,h3,h4,h5,h⟩:=brA_o (rb:=rb) h
 refine qfc.r h (by omega) h2 (by omega) (fun m w e1 e2 e3 g=>⟨⟨_,_,_⟩,rfl,?_⟩) (fun w hn h=>⟨⟨none,0,0⟩,rfl,?_⟩)
 · subst e2 e1
   have h:=g
   have et:tkS xs at' 0 m=((xs.drop at').take m,at'+m,0):=by unfold tkS; rw [if_pos ⟨rfl,by omega,by omega⟩,Int.toNat_natCast]
   rw [et] at hk
   have hr:=(h.cutR s at' (at'+m) (s.cap - at') (ys:=(xs.drop at').take m) (by omega) (by omega) h2 (by rw [show at'+m - at'=m by omega])).rd h
   refine qnc.c h hr (by simp; omega) fun s1 w h=>⟨s1,rfl,?_⟩
   refine qgc.c h.ro (h.cap (by decide)) fun s2 _ _ h=>⟨s2,rfl,?_⟩
   exact hk s2 w (h.tail fun _ _ _ h=>brA_i (by omega) h2 h4 h5 h)
 · have et:tkS xs at' err n=([],at',if err=0 then 3 else err):=by unfold tkS; rw [if_neg (by omega)]
   rw [et] at hk
   refine qnc.c (s:=⟨none,0,0⟩) (xs:=[]) h ((Rdb.nil 0).rd h) (by simp) fun s1 w h=>⟨s1,rfl,?_⟩
   refine qgc.c h.ro (h.cap (by decide)) fun s2 _ _ h=>⟨s2,rfl,?_⟩
   exact hk s2 w (h.tail fun _ _ _ h=>brA_i h1 h2 h4 h5 h)
def brR (rb:Nat) (x:Sl × Nat × Int):As:=qmb rb [.slice x.1.a x.1.len x.1.cap,.int .i64 (x.2.1:Int),.int .i64 x.2.2]
theorem brR_o {s:Sl} (h:St F0 w0 w ps) [PkF brR rb ps (s,at',err) rest]:St F0 w0 w (qmb rb [.slice s.a s.len s.cap,.int .i64 (at':Int),.int .i64 err] :: rest):=h.toF brR rb
theorem qxc.c {s:Sl} {n:Int} {K:Ending→World→Prop} (h:St F0 w0 w ps) [PkF brR rb ps (s,at',err) rest] [Rdb F0 w0 s rest 1 (u8s xs)] (ha:at'≤xs.length) (hL:xs.length≤1099511627776) (hc:s.len≤s.cap)
 (hk:∀ s' w',St F0 w0 w' (qib 1 s' (u8s (tkS xs at' err n).1) :: brR rb (s,(tkS xs at' err n).2) :: rest)→K (.returned (.slice s'.a s'.len s'.cap)) w'):Calls Tryz.prog 108 ⟨[.pointer (some ⟨rb,0,none⟩),.int .i64 n]⟩ w K:=by
 refine qbc (qxc.ok _ _ _ _ ?_)
 unfold qxc
 have h:=brR_o (rb:=rb) h
 have hl:=(h.rdb s).1
 rw [qz] at hl
 have bad:∀ (e:Int) w',e=(if err=0 then 3 else err)→¬(err=0∧0≤n∧n≤(xs.length:Int) - at')→St F0 w0 w' (qmb rb [.slice s.a s.len s.cap,.int .i64 (at':Int),.int .i64 e] :: rest)→K (.returned (.slice none 0 0)) w':=by
  intro e w e1 hn h
  subst e1
  have et:tkS xs at' err n=([],at',if err=0 then 3 else err):=by unfold tkS; rw [if_neg (by omega)]
  rw [et] at hk
  exact hk ⟨none,0,0⟩ w (h.nil 1)
 refine qzd (h.fI (qqc (fun g=>?_) (fun g=>?_)))
 · have g:err ≠ 0:=by simpa using g
   exact bad err w (by rw [if_neg g]) (fun e=>g e.1) h
 · have g:err=0:=by simpa using g
   subst g
   refine h.drewK fun w h=>?_
   refine qic (fun g=>?_) (fun g=>?_)
   · refine qzd (h.fst trivial fun w h=>?_)
     exact bad 3 w rfl (by omega) h
   refine qzd (h.fL (qzd (h.fI ?_)))
   refine qw (qn (by simp only; omega) (by simp only; omega)) ?_
   refine qic (fun g2=>?_) (fun g2=>?_)
   · simp only at g2
     refine qzd (h.fst trivial fun w h=>?_)
     exact bad 3 w rfl (by omega) h
   · simp only at g2
     obtain ⟨m,rfl⟩:∃ m:Nat,n=m:=⟨n.toNat,by omega⟩
     refine h.drewK fun w h=>?_
     refine qzd (h.fL (qzd (h.fI (qzd (h.fI ?_)))))
     refine qw (qn (by omega) (by omega)) ?_
     refine qlj (n:=at'+m) (by omega) (by simp only; omega) ?_
     refine qlj (n:=at') (by omega) (by omega) (qyc ?_)
     have et:tkS xs at' 0 m=((xs.drop at').take m,at'+m,0):=by unfold tkS; rw [if_pos ⟨rfl,by omega,by omega⟩,Int.toNat_natCast]
     rw [et] at hk
     haveI:=h.cutR s at' (at'+m) (s.cap - at') (ys:=(xs.drop at').take m) (by omega) (by omega) hc (by rw [show at'+m - at'=m by omega])
     refine h.clone (k:=.u8) (s2:=⟨qqd s.a s.cap at' 1,at'+m - at',s.cap - at'⟩) (ys:=(xs.drop at').take m) (by simp; omega) fun s1 w h=>?_
     refine qzd (h.fI ?_)
     refine qw (qn (by omega) (by omega)) ?_
     refine qzd (h.fst trivial fun w h=>?_)
     have h:=h.at1
     rw [← Int.natCast_add] at h
     exact hk s1 w h
theorem qdb.c {s:Sl} {n:Nat} {K:Ending→World→Prop} (hx:qae xs) (hn:n≤8) (h:St F0 w0 w ps) [PkF brR rb ps (s,at',err) rest] [Rdb F0 w0 s rest 1 (u8s xs)] (ha:at'≤xs.length) (hL:xs.length≤1099511627776) (hc:s.len≤s.cap)
 (hk:∀ w',St F0 w0 w' (brR rb (s,(nuS xs at' err n).2) :: rest)→K (.returned (.int .i64 (nuS xs at' err n).1)) w'):Calls Tryz.prog 80 ⟨[.pointer (some ⟨rb,0,none⟩),.int .i64 (n:Int)]⟩ w K:=by
 refine qbc (qdb.ok _ _ _ _ ?_)
 unfold qdb qdb.j1
 have h:=brR_o (rb:=rb) h
 have h:St F0 w0 w (brR rb (s,at',err) :: rest):=h
 have hh:St F0 w0 w (qmb rb [.slice s.a s.len s.cap,.int .i64 (at':Int),.int .i64 err] :: rest):=h
 refine qzd (hh.fI ?_)
 refine qxc.c (xs:=xs) (n:=n) h ha hL hc fun s1 w h=>⟨s1,rfl,?_⟩
 have hok:=tkS_ok hx at' err n
 have hb:=be_lt8 hok.1 (n:=8) (by omega)
 have h3:(2:Int) ^ (8 * 8)=18446744073709551616:=by decide
 rw [h3] at hb
 unfold nuS at hk
 generalize tkS xs at' err n=t at h hok hb hk
 obtain ⟨ys,at2,err2⟩:=t
 simp only at h hok hb hk
 unfold qdb.j2 qdb.j4
 have hl:=h.len
 rw [qz] at hl
 refine qif (fun (i:Nat) (v i':Int) w'=>i'=i∧i≤ys.length∧v=IntKind.u64.wrap (be (ys.take i))∧St F0 w0 w' (qib 1 s1 (u8s ys) :: brR rb (s,at2,err2) :: rest)) (fun i=>ys.length - i) 0 ⟨rfl,by omega,rfl,h⟩ ?_
 clear h
 rintro i v i' w I μ ⟨rfl,hi,rfl,h⟩ hin
 unfold qdb.b1
 refine qic (fun g=>?_) (fun g=>?_)
 · have hiy:i < ys.length:=by omega
   have hcc:=allB_getD hok.1 hiy
   refine ⟨by decide,qyc ?_⟩
   refine h.lx i rfl hiy ?_
   refine qw (show IntKind.u64.wrap (ys.getD i 0)=ys.getD i 0 by rw [qbe]; omega) ?_
   refine qw (be_fold .u64 rfl 0 _ _ hcc) ?_
   rw [← take_snoc hiy]
   refine qw (qn (by omega) (by omega)) ?_
   exact ⟨⟨rfl,rfl,rfl⟩,hin (i+1) _ _ _ ⟨by omega,by omega,rfl,h⟩ (by omega)⟩
 · have:i=ys.length:=by omega
   subst this
   rw [List.take_length]
   have ew:IntKind.u64.wrap (be ys)=be ys:=by rw [qbe]; omega
   rw [ew]
   unfold qdb.j3
   have h:St F0 w0 w (qmb rb [.slice s.a s.len s.cap,.int .i64 (at2:Int),.int .i64 err2] :: rest):=h.drop
   refine qic (fun g=>?_) (fun g=>?_)
   · rw [if_pos (by omega)] at hk
     refine qzd (h.fst trivial fun w h=>?_)
     refine qzd (h.fst trivial fun w h=>?_)
     exact hk w h
   · rw [if_neg (by omega)] at hk
     refine qw (qn (by omega) (by omega)) ?_
     exact hk w h
end
end Go.Proofs.YtigmbblgfnkpbaaGreat
namespace Go.Proofs.YtigmbblgfnkpbaaGreat
open Go Go.Proofs
set_option linter.unusedVariables false
set_option linter.unusedSimpArgs false
attribute [local irreducible] apK cpK mkK
section
variable {F0:List Nat} {w0 w:World} {ps rest:List As} {xs:List Int}
theorem qgc.d {s:Sl} {ys:List Int} {K:Ending→World→Prop} (h:St F0 w0 w (qib 1 s (u8s ys) :: ps))
 (hk:∀ s':Sl,s'.len=ys.length→s'.cap=s'.len→St F0 w0 w (rdA 1 s' (u8s ys) :: ps)→K (.returned (.slice s'.a s'.len s'.cap)) w):Calls Tryz.prog 66 ⟨[.slice s.a s.len s.cap]⟩ w K:=by
 have hl:=h.len
 rw [qz] at hl
 exact qgc.c h.ro (h.cap (by decide)) fun s' h1 h2 h=>hk s' (by omega) (by omega) h
end
end Go.Proofs.YtigmbblgfnkpbaaGreat
namespace Go.Proofs.YtigmbblgfnkpbaaGreat
open Go Go.Proofs Go.ChangeShapes Go.WideShapes Go.Deep
set_option linter.unusedVariables false
set_option linter.unusedSimpArgs false
section
variable {H:Type} {enc:TypeId × Value→H} {P:Program} {w:World} {base:Nat} {spare:Nat→Bool} {held:Bool}
theorem open_row {t e:TypeId} {k:IntKind} {fuel:Nat} {s:Sl} {x:DataW H × List MemPlace} (ht:P.underlying t=some (.slice e)) (he:P.underlying e=some (.int k)) (hc:P.cellsOf e=1)
 (h:DataW.trod enc P w base spare held fuel t [.slice s.a s.len s.cap]=some x) :
 ∃ xs:List Int,Rd w 1 s (xs.map (Value.int k))∧(∀ n ∈ xs,(Lit.int k n).wf=true)∧xs.length=s.len∧s.len≤s.cap:=by
 obtain ⟨sa,sl,sc⟩:=s
 rcases open_ints ht he hc h with ⟨hcs,_⟩ | ⟨a,l,c,zs,hcs,_,hl,hm,hz,_,hcell,hwz⟩
 · simp at hcs
   obtain ⟨rfl,rfl,rfl⟩:=hcs
   exact ⟨[],⟨rfl,fun i hi=>by simp at hi⟩,by simp,rfl,Nat.le_refl _⟩
 · simp at hcs
   obtain ⟨rfl,rfl,rfl⟩:=hcs
   have hz:sl≤zs.length:=by rw [hz]; split <;> omega
   refine ⟨zs.take sl,⟨by simp; omega,fun i hi=>⟨a,rfl,?_⟩⟩,fun n hn=>hwz n (List.mem_of_mem_take hn),by simp; omega,hl⟩
   simp only [List.length_map,List.length_take] at hi
   rw [hcell i (by omega)]
   rw [List.getElem?_map,List.getElem?_take,if_pos (by omega),List.getElem?_eq_getElem (show i < zs.length by omega)]
   simp [List.getD,List.getElem?_eq_getElem (show i < zs.length by omega)]
instance:Inhabited Sl:=⟨⟨none,0,0⟩⟩
end
end Go.Proofs.YtigmbblgfnkpbaaGreat
namespace Go.Proofs.YtigmbblgfnkpbaaGreat
open Go Go.Proofs
set_option linter.unusedVariables false
set_option linter.unusedSimpArgs false
attribute [local irreducible] apK cpK mkK
section
variable {F0:List Nat} {w0 w:World} {ps rest:List As} {xs:List Int}
theorem qmd.d {s:Sl} {v:Int} {K:Ending→World→Prop} (h:St F0 w0 w ps) [Rdb F0 w0 s ps 1 (u8s xs)] (hL:xs.length≤1099511627776)
 (hk:∀ s' w',s'.len=xs.length+4→s'.cap=s'.len→St F0 w0 w' (rdA 1 s' (u8s (xs ++ beJ 4 4 v)) :: ps)→K (.returned (.slice s'.a s'.len s'.cap)) w'):Calls Tryz.prog 30 ⟨[.slice s.a s.len s.cap,.int .i64 v]⟩ w K:=by
 refine qbc (qmd.ok _ _ _ _ ?_)
 unfold qmd
 exact qzc.c (n:=4) h (h.rdb s) hL (by decide) fun s' w h1 h2 h=>⟨s',rfl,hk s' w h1 h2 h⟩
theorem qpe.d {s:Sl} {v:Int} {K:Ending→World→Prop} (h:St F0 w0 w ps) [Rdb F0 w0 s ps 1 (u8s xs)] (hL:xs.length≤1099511627776)
 (hk:∀ s' w',s'.len=xs.length+8→s'.cap=s'.len→St F0 w0 w' (rdA 1 s' (u8s (xs ++ beJ 8 8 v)) :: ps)→K (.returned (.slice s'.a s'.len s'.cap)) w'):Calls Tryz.prog 32 ⟨[.slice s.a s.len s.cap,.int .i64 v]⟩ w K:=by
 refine qbc (qpe.ok _ _ _ _ ?_)
 unfold qpe
 exact qzc.c (n:=8) h (h.rdb s) hL (by decide) fun s' w h1 h2 h=>⟨s',rfl,hk s' w h1 h2 h⟩
end
end Go.Proofs.YtigmbblgfnkpbaaGreat
namespace Go.Proofs.YtigmbblgfnkpbaaGreat
open Go Go.Proofs
set_option linter.unusedVariables false
set_option linter.unusedSimpArgs false
def nmA (A P:List Nm):List Int:=P.map fun p=>(qxg A p:Int)
theorem qid (A P:List Nm):(nmA A P).length=P.length:=by simp [nmA]
def numA (q:List Int):Int:=if 0 < q.length then q.getD 0 0 else 1879048192
def numB (e:Nat) (q:List Int):Int:=if q.length=2 then q.getD 1 0 else if 2 < q.length then 2147483648+(e:Int) else 1879048192
def edw (q:List Int):List Int:=if 2 < q.length then (q.drop 1).dropLast ++ [q.getD (q.length - 1) 0+2147483648] else []
def wB (ws:List Int):List Int:=ws.flatMap (beJ 4 4)
theorem qjf (ws:List Int):(wB ws).length=4 * ws.length:=by
 induction ws with
 | nil=>rfl
 | cons v ws ih =>
   show (beJ 4 4 v ++ wB ws).length=_
   rw [List.length_append,ih,qec,List.length_cons]
   omega
theorem qfj (a b:List Int):wB (a ++ b)=wB a ++ wB b:=by simp [wB]
theorem qpk (v:Int):wB [v]=beJ 4 4 v:=by simp [wB]
theorem be4 (v:Int):beJ 4 4 v=[v / 16777216 % 256,v / 65536 % 256,v / 256 % 256,v % 256]:=by
 simp [beJ,List.range,List.range.loop]
theorem mark_last {E D:List Int} {v:Int} (h0:0≤v) (h1:v < 2147483648):(E ++ wB (D ++ [v])).set ((E ++ wB (D ++ [v])).length - 4) (v / 16777216 % 256+128)=E ++ wB (D ++ [v+2147483648]):=by
 rw [qfj,qfj,qpk,qpk,← List.append_assoc,← List.append_assoc]
 generalize E ++ wB D=X
 rw [List.length_append,qec,List.set_append_right _ _ (by omega),show X.length+4 - 4 - X.length=0 by omega,be4,be4,List.set_cons_zero]
 congr 1
 rw [List.cons.injEq,List.cons.injEq,List.cons.injEq,List.cons.injEq]
 refine ⟨by omega,by omega,by omega,by omega,rfl⟩
theorem edw_nil {q:List Int} (h:¬ 2 < q.length):edw q=[]:=by unfold edw; rw [if_neg h]
theorem drop1_last {q:List Int} (h:2 < q.length):q.drop 1=(q.drop 1).dropLast ++ [q.getD (q.length - 1) 0]:=by
 have hne:q.drop 1 ≠ []:=fun e=>by
  have:=congrArg List.length e
  rw [List.length_drop,List.length_nil] at this
  omega
 conv=>lhs; rw [← List.dropLast_concat_getLast hne]
 congr 2
 rw [List.getLast_eq_getElem,List.getElem_drop]
 have hl:1+((q.drop 1).length - 1)=q.length - 1:=by rw [List.length_drop]; omega
 simp only [hl]
 rw [List.getD_eq_getElem?_getD,List.getElem?_eq_getElem (by omega)]
 rfl
theorem qjk (q:List Int):(edw q).length=if 2 < q.length then q.length - 1 else 0:=by
 unfold edw
 split
 · simp; omega
 · rfl
def qC (A:List Nm) (c:Cm):List Int:=nmA A c.par
def eG (A:List Nm) (S:List Cm):List Int:=S.flatMap fun c=>edw (qC A c)
theorem eG_snoc (A:List Nm) (S:List Cm) (c:Cm):eG A (S ++ [c])=eG A S ++ edw (qC A c):=by simp [eG]
theorem eG_take {A:List Nm} {S:List Cm} {i:Nat} (h:i < S.length):eG A (S.take (i+1))=eG A (S.take i) ++ edw (qC A S[i]):=by
 rw [List.take_succ_eq_append_getElem h,eG_snoc]
theorem eG_le (A:List Nm) (S:List Cm) (i:Nat):(eG A (S.take i)).length≤(eG A S).length:=by
 have:eG A S=eG A (S.take i) ++ eG A (S.drop i):=by
  unfold eG
  rw [← List.flatMap_append,List.take_append_drop]
 rw [this,List.length_append]
 omega
def drow (qqf q:List Int) (e:Nat) (gd:Int):List Int:=qqf ++ (beJ 4 4 (numA q) ++ (beJ 4 4 (numB e q) ++ beJ 8 8 gd))
def drw (A:List Nm) (g:Nm→Int) (S:List Cm) (j:Nat):List Int:=drow (S.getD j default).qqf.1 (qC A (S.getD j default)) (eG A (S.take j)).length (g (S.getD j default).id * 17179869184+(S.getD j default).date)
theorem drw_len (A:List Nm) (g:Nm→Int) (S:List Cm) (j:Nat):(drw A g S j).length=36:=by
 unfold drw drow
 rw [List.length_append,List.length_append,List.length_append,qec,qec,qec,(S.getD j default).qqf.2.1]
def dG (A:List Nm) (g:Nm→Int) (S:List Cm) (i:Nat):List Int:=(List.range i).flatMap (drw A g S)
theorem qem (A:List Nm) (g:Nm→Int) (S:List Cm) (i:Nat):dG A g S (i+1)=dG A g S i ++ drw A g S i:=by
 unfold dG
 rw [List.range_succ,List.flatMap_append]
 simp
theorem qtj (A:List Nm) (g:Nm→Int) (S:List Cm) (i:Nat):(dG A g S i).length=36 * i:=by
 induction i with
 | zero=>rfl
 | succ i ih=>rw [qem,List.length_append,ih,drw_len]; omega
def fB (A:List Nm):List Int:=wB (fanL A)
theorem qyg (A:List Nm):(fanL A).length=256:=by unfold fanL; rw [qed]
theorem qvk (A:List Nm):(fB A).length=1024:=by unfold fB; rw [qjf,qyg]
def nB (A:List Nm):List Int:=A.flatMap (·.1)
theorem qqk (A:List Nm):(nB A).length=20 * A.length:=by
 induction A with
 | nil=>rfl
 | cons a A ih =>
   show (a.1 ++ nB A).length=_
   rw [List.length_append,ih,a.2.1,List.length_cons]
   omega
theorem nB_snoc (A:List Nm) (a:Nm):nB (A ++ [a])=nB A ++ a.1:=by simp [nB]
def wrdB:List (List Int):=[[79,73,68,70],[79,73,68,76],[67,68,65,84],[69,68,71,69]]
def ofs (l:List (List Int)) (i:Nat):Nat:=8+(l.length+1) * 12+(l.take i).flatten.length
def tb (l:List (List Int)) (i:Nat):List Int:=(List.range i).flatMap fun j=>wrdB.getD j [] ++ beJ 8 8 (ofs l j)
theorem qxj (l:List (List Int)) (i:Nat):tb l (i+1)=tb l i ++ (wrdB.getD i [] ++ beJ 8 8 (ofs l i)):=by
 unfold tb
 rw [List.range_succ,List.flatMap_append]
 simp
theorem ofs_succ {l:List (List Int)} {i:Nat} (h:i < l.length):ofs l (i+1)=ofs l i+l[i].length:=by
 unfold ofs
 rw [List.take_succ_eq_append_getElem h,List.flatten_append,List.length_append]
 simp
 omega
theorem tb_len (l:List (List Int)) {i:Nat} (hi:i≤4):(tb l i).length=12 * i:=by
 induction i with
 | zero=>rfl
 | succ i ih =>
   have hw:(wrdB.getD i []).length=4:=by
    have:i=0 ∨ i=1 ∨ i=2 ∨ i=3:=by omega
    rcases this with rfl | rfl | rfl | rfl <;> rfl
   rw [qxj,List.length_append,List.length_append,ih (by omega),qec,hw]
   omega
def hdB (n:Int):List Int:=[67,71,80,72] ++ [1,1,n,0]
def qkh (l:List (List Int)):List Int:=hdB l.length ++ tb l l.length ++ [0,0,0,0] ++ beJ 8 8 (ofs l l.length) ++ l.flatten
def chkB (l:List (List Int)):List Int:=qkh l ++ qte (qkh l)
def qrd (A:List Nm) (g:Nm→Int) (S:List Cm):List (List Int):=[fB A,nB A,dG A g S S.length] ++ if (eG A S).length=0 then [] else [wB (eG A S)]
def gB (S:List Cm) (g:Nm→Int):List Int:=chkB (qrd (S.map (·.id)) g S)
theorem qoc {a b:List Int}:qae (a ++ b) ↔ qae a∧qae b:=by
 unfold qae
 constructor
 · exact fun h=>⟨fun x hx=>h x (by simp [hx]),fun x hx=>h x (by simp [hx])⟩
 · rintro ⟨h1,h2⟩ x hx
   rcases List.mem_append.1 hx with hx | hx
   · exact h1 x hx
   · exact h2 x hx
theorem qqi {α:Type} {f:α→List Int} {l:List α} (h:∀ x ∈ l,qae (f x)):qae (l.flatMap f):=by
 intro y hy
 obtain ⟨x,hx,hy⟩:=List.mem_flatMap.1 hy
 exact h x hx y hy
theorem wB_ok (ws:List Int):qae (wB ws):=qqi fun v _=>qzh 4 4 v
theorem nm_ok (a:Nm):qae a.1:=a.2.2
theorem drow_ok {qqf q:List Int} {e:Nat} {gd:Int} (ht:qae qqf):qae (drow qqf q e gd):=by
 unfold drow
 rw [qoc,qoc,qoc]
 exact ⟨ht,qzh 4 4 _,qzh 4 4 _,qzh 8 8 _⟩
theorem dG_ok (A:List Nm) (g:Nm→Int) (S:List Cm) (i:Nat):qae (dG A g S i):=qqi fun j _=>drow_ok (nm_ok _)
theorem nB_ok (A:List Nm):qae (nB A):=qqi fun a _=>nm_ok a
end Go.Proofs.YtigmbblgfnkpbaaGreat
namespace Go.Proofs.YtigmbblgfnkpbaaGreat
open Go Go.Proofs
set_option linter.unusedVariables false
set_option linter.unusedSimpArgs false
attribute [local irreducible] apK cpK mkK br
def clA (sz:Nat) (s:Sl) (cs:List Value):As where
 hd w F:=(s.a=none∧s.len=0∧cs=[]∧F=[]) ∨ ∃ ob rest,s.a=some ⟨ob,0,none⟩∧Blk w ob (cs ++ rest)∧cs.length=s.len * sz∧F=[ob]
 keep:=by
  rintro w w' F G (h | ⟨ob,rest,h1,hb,h2,rfl⟩) m hd
  · exact Or.inl h
  · exact Or.inr ⟨ob,rest,h1,hb.keep m (hd ob (by simp)),h2,rfl⟩
 lt:=by
  rintro w F (⟨_,_,_,rfl⟩ | ⟨ob,rest,h1,hb,h2,rfl⟩) x hx
  · cases hx
  · have:x=ob:=by simpa using hx
    subst this; exact hb.lt
section
variable {F0:List Nat} {w0 w:World} {ps rest:List As} {s:Sl} {sz:Nat} {cs:List Value} {xs:List Int}
theorem St.ocl (h:St F0 w0 w (qib sz s cs :: ps)):St F0 w0 w (clA sz s cs :: ps):=h.mp (by
 rintro F (⟨rfl,rfl,rfl⟩ | ⟨ob,rs,h1,hb,h2,h3,rfl⟩)
 · exact Or.inl ⟨rfl,rfl,rfl,rfl⟩
 · exact Or.inr ⟨ob,rs,h1,hb,h2,rfl⟩)
theorem St.recapC {s':Sl} (h:St F0 w0 w (clA sz s cs :: ps)) (ha:s'.a=s.a) (hl:s'.len=s.len):St F0 w0 w (clA sz s' cs :: ps):=h.mp (by
 rintro F (⟨h1,h2,h3,rfl⟩ | ⟨ob,rs,h1,hb,h2,rfl⟩)
 · exact Or.inl ⟨by rw [ha]; exact h1,by rw [hl]; exact h2,h3,rfl⟩
 · exact Or.inr ⟨ob,rs,by rw [ha]; exact h1,hb,by rw [hl]; exact h2,rfl⟩)
theorem St.clrd (h:St F0 w0 w (clA sz s cs :: ps)):Rd w sz s cs:=by
 obtain ⟨F,⟨h1,h2,rfl,_⟩ | ⟨ob,rs,h1,hb,h2,_⟩⟩:=h.get
 · exact ⟨by simp [h2],fun i hi=>by simp at hi⟩
 · refine ⟨h2,fun i hi=>⟨_,h1,?_⟩⟩
   rw [qgd,Nat.zero_add,hb.cell,List.getElem?_append_left hi]
instance Rdb.cl:Rdb F0 w0 s (clA sz s cs :: ps) sz cs:=⟨fun h=>h.clrd⟩
theorem St.clx {k:IntKind} {zs:List Int} {i v:Int} {K:World→Prop} (h:St F0 w0 w (clA 1 s (ivs k zs) :: ps)) (j:Nat) (hi:i=j) (hj:j < zs.length) (hk:∀ w',St F0 w0 w' (clA 1 s (ivs k (zs.set j v)) :: ps)→K w'):ixS s.a s.len i 1 fun a=>Go.Proofs.YtigmbblgfnkpbaaGreat.st w a (.int k v) K:=by
 subst hi
 obtain ⟨F,ho,hst⟩:=h.step
 rcases ho with ⟨h1,h2,h3,_⟩ | ⟨ob,rs,h1,hb,h2,rfl⟩
 · have:(ivs k zs).length=0:=by rw [h3]; rfl
   rw [qz] at this
   omega
 · rw [qz,Nat.mul_one] at h2
   unfold ixS
   rw [h1]
   refine ⟨⟨by omega,by omega⟩,?_⟩
   rw [qgd,Int.toNat_natCast]
   refine hb.st (by rw [List.length_append,qz]; omega) trivial fun w' hm hb'=>hk w' (hst w' [ob] (clA 1 s (ivs k (zs.set j v))) hm (Gr.refl _ _) (Or.inr ⟨ob,rs,h1,?_,?_,rfl⟩))
   · rw [show 0+j * 1=j by omega,List.set_append_left _ _ (by rw [qz]; exact hj),ivs_set] at hb'
     exact hb'
   · rw [qz,List.length_set]; omega
theorem qzc.cl {v:Int} {n:Nat} {K:Ending→World→Prop} (h:St F0 w0 w ps) (hr:Rd w 1 s (u8s xs)) (hL:xs.length≤1099511627776) (hn:n≤8)
 (hk:∀ s' w',s'.len=xs.length+n→s'.cap=s'.len→St F0 w0 w' (clA 1 s' (u8s (xs ++ beJ n n v)) :: ps)→K (.returned (.slice s'.a s'.len s'.cap)) w'):Calls Tryz.prog 64 ⟨[.slice s.a s.len s.cap,.int .i64 v,.int .i64 ((8 * n:Nat):Int)]⟩ w K:=by
 refine qbc (qzc.ok _ _ _ _ _ ?_)
 unfold qzc
 refine qnc.c h hr (by omega) fun s1 w h=>⟨s1,rfl,?_⟩
 unfold qzc.j1
 refine qif (fun (j:Nat) (b':Int) (o':Sl) w=>b'=((8 * (n - j):Nat):Int)∧j≤n∧St F0 w0 w (qib 1 o' (u8s (xs ++ beJ n j v)) :: ps)) (fun j=>n - j) 0 ⟨rfl,by omega,by simpa [beJ] using h⟩ ?_
 clear h
 rintro j b' o w I μ ⟨rfl,hj,h⟩ hin
 unfold qzc.b1
 refine qic (fun h1=>?_) (fun h1=>?_)
 · refine qw (qn (by omega) (by omega)) ?_
   have e:((8 * (n - j):Nat):Int) - 8=((8 * (n - 1 - j):Nat):Int):=by omega
   rw [e]
   refine ⟨by omega,?_⟩
   refine qw (qug .i64 _ (show 8 * (n - 1 - j)≤64 by omega)) ?_
   refine qw (qlh _) ?_
   refine h.new fun nb w h=>?_
   refine h.rdB rfl ?_
   refine h.drop.append_u8 (by rw [List.length_append,qec]; omega) rfl fun s2 w h=>?_
   refine ⟨rfl,hin (j+1) _ _ _ ⟨?_,by omega,?_⟩ (by omega)⟩
   · rw [show n - 1 - j=n - (j+1) by omega]
   · rw [qjl,← List.append_assoc]
     exact h
 · have:j=n:=by omega
   subst this
   have hcap:=h.cap (by decide)
   have hlen:=h.len
   rw [qlb,List.length_append,qec] at hlen
   unfold qzc.j2
   refine qbc (qgc.ok _ _ _ ?_)
   unfold qgc
   refine qlj rfl hcap (qlj rfl (Nat.le_refl _) (qyc ⟨_,rfl,?_⟩))
   refine hk _ w ?_ rfl (h.ocl.recapC ?_ ?_)
   · show o.len - 0=_
     omega
   · show qqd o.a o.len 0 1=o.a
     unfold qqd
     split
     · rfl
     · rw [Nat.zero_mul]
       cases o.a with
       | none=>rfl
       | some a=>simp [Addr.add]
   · show o.len - 0=o.len
     omega
theorem qmd.cl {v:Int} {K:Ending→World→Prop} (h:St F0 w0 w ps) [Rdb F0 w0 s ps 1 (u8s xs)] (hL:xs.length≤1099511627776)
 (hk:∀ s' w',s'.len=xs.length+4→s'.cap=s'.len→St F0 w0 w' (clA 1 s' (u8s (xs ++ beJ 4 4 v)) :: ps)→K (.returned (.slice s'.a s'.len s'.cap)) w'):Calls Tryz.prog 30 ⟨[.slice s.a s.len s.cap,.int .i64 v]⟩ w K:=by
 refine qbc (qmd.ok _ _ _ _ ?_)
 unfold qmd
 exact qzc.cl (n:=4) h (h.rdb s) hL (by decide) fun s' w h1 h2 h=>⟨s',rfl,hk s' w h1 h2 h⟩
end
end Go.Proofs.YtigmbblgfnkpbaaGreat
namespace Go.Proofs.YtigmbblgfnkpbaaGreat
open Go Go.Proofs
set_option linter.unusedVariables false
set_option linter.unusedSimpArgs false
attribute [local irreducible] apK cpK mkK br
def slB (L:List (Sl × List Int)):List Value:=L.map fun x=>.slice x.1.a x.1.len x.1.cap
section
variable {F0:List Nat} {w0 w:World} {ps rest:List As} {s:Sl}
theorem St.frontB {sz:Nat} {cs:List Value} (h:St F0 w0 w (qib sz s cs :: ps)) (m:Nat) (hm:m≤s.len):St F0 w0 w (qib sz ⟨qqd s.a s.cap 0 sz,m - 0,s.cap - 0⟩ (cs.take (m * sz)) :: ps):=by
 refine h.mp ?_
 rintro F (⟨rfl,rfl,rfl⟩ | ⟨ob,rs,h1,hb,h2,h3,rfl⟩)
 · have:m=0:=by simpa using hm
   subst this
   exact Or.inl ⟨rfl,by simp,rfl⟩
 · refine Or.inr ⟨ob,cs.drop (m * sz) ++ rs,?_,?_,?_,?_,rfl⟩
   · show qqd s.a s.cap 0 sz=_
     unfold qqd
     rw [h1]
     split
     · rfl
     · rw [Option.map_some,qgd,Nat.zero_mul]
   · rw [← List.append_assoc,List.take_append_drop]; exact hb
   · rw [List.length_take,h2]
     exact Nat.min_eq_left (Nat.mul_le_mul_right _ hm)
   · rw [← List.append_assoc,List.take_append_drop]; exact h3
theorem qyd.c {n:Nat} {K:Ending→World→Prop} (h:St F0 w0 w ps) (hn:n≤1000000)
 (hk:∀ t w',t.len=0→St F0 w0 w' (qib 1 t (ivs .u8 []) :: ps)→K (.returned (.slice t.a t.len t.cap)) w'):Calls Tryz.prog 101 ⟨[.slice none 0 0,.int .i64 n]⟩ w K:=by
 refine qbc (qyd.ok ⟨none,0,0⟩ _ _ _ ?_)
 unfold qyd
 dsimp only
 refine qic (fun g=>by omega) (fun _=>?_)
 refine qw (qn (by omega) (by omega)) ?_
 refine qw (qn (by omega) (by omega)) ?_
 have e:(n:Int) - (((0:Nat):Int) - ((0:Nat):Int))=n:=by simp
 rw [e]
 have h:=h.nil 1
 refine qic (fun g=>?_) (fun g=>hk ⟨none,0,0⟩ w rfl h)
 refine qlj (n:=0) rfl (Nat.le_refl _) (qyc ?_)
 have he:Elt Tryz.prog 5 (.int .u8 0):=elt_u8
 dsimp only
 refine ⟨⟨by omega,by omega,?_,by omega⟩,?_⟩
 · have hb:=(Elt.bytes (P:=Tryz.prog) (e:=5) (z:=.int .u8 0))
   have h3:(n:Int) * (Tryz.prog.bytesOf 5:Int)≤1000000 * 16:=Int.mul_le_mul (by omega) (by omega) (by omega) (by omega)
   exact Int.le_trans h3 (by decide)
 rw [Int.toNat_natCast,he.zc,repL_one]
 refine St.app (s:=⟨none,0,0⟩) (cs2:=List.replicate n (.int .u8 0)) (z:=.int .u8 0) h rfl (by simp) (by rw [List.length_nil]; omega) (fun v hv=>?_) fun s6 w h=>?_
 · have hv:v ∈ List.replicate n (Value.int .u8 0):=by simpa using hv
   rw [(List.mem_replicate.1 hv).2]
   trivial
 refine qlj (n:=0) rfl (Nat.zero_le _) (qyc ?_)
 refine hk ⟨qqd s6.a s6.cap 0 1,0 - 0,s6.cap - 0⟩ w rfl ?_
 have h:=h.frontB 0 (Nat.zero_le _)
 rw [Nat.zero_mul,List.take_zero] at h
 exact h
theorem Rd.lslB {L:List (Sl × List Int)} {i:Int} {K:Sl→Prop} (h:Rd w 1 s (slB L)) (j:Nat) (hi:i=j) (hj:j < L.length) (hk:K L[j].1):ixS s.a s.len i 1 fun a=>ldL w a K:=by
 subst hi
 have hl:=h.1
 rw [show (slB L).length=L.length by simp [slB]] at hl
 refine h.ix (by decide) (by omega) (by omega) fun a ha=>?_
 rw [show ((j:Int)).toNat * 1=j by omega]
 exact ldL_c (by rw [h.cell ha (by simp [slB]; omega)]; simp [slB,hj]) hk
def catB (L:List (Sl × List Int)):List Int:=L.flatMap (·.2)
theorem catB_snoc (L:List (Sl × List Int)) {i:Nat} (h:i < L.length):catB (L.take (i+1))=catB (L.take i) ++ L[i].2:=by
 unfold catB
 rw [List.take_succ_eq_append_getElem h,List.flatMap_append]
 simp
theorem catB_le (L:List (Sl × List Int)) (i:Nat):(catB (L.take i)).length≤(catB L).length:=by
 have:catB L=catB (L.take i) ++ catB (L.drop i):=by
  unfold catB
  rw [← List.flatMap_append,List.take_append_drop]
 rw [this,List.length_append]
 omega
theorem qy.c {L:List (Sl × List Int)} {K:Ending→World→Prop} (h:St F0 w0 w ps) [Rdb F0 w0 s ps 1 (slB L)] (hL:∀ y ∈ L,∀ w,St F0 w0 w ps→Rd w 1 y.1 (ivs .u8 y.2)) (hn:L.length≤1000) (hlen:(catB L).length≤1000000)
 (hk:∀ t w',t.len=(catB L).length→St F0 w0 w' (qib 1 t (ivs .u8 (catB L)) :: ps)→K (.returned (.slice t.a t.len t.cap)) w'):Calls Tryz.prog 65 ⟨[.slice s.a s.len s.cap]⟩ w K:=by
 have hl:=(h.rdb s).1
 rw [show (slB L).length=L.length by simp [slB]] at hl
 refine qbc (qy.ok _ _ _ ?_)
 unfold qy qy.j1 qy.j6
 refine qif (fun (i:Nat) (z:Int) (i':Int) w'=>i'=i∧i≤L.length∧z=(catB (L.take i)).length∧St F0 w0 w' ps) (fun i=>L.length - i) 0 ⟨rfl,by omega,by simp [catB],h⟩ ?_
 clear h
 rintro i z i' wL I μ ⟨rfl,hi,rfl,h⟩ hin
 have hle:=catB_le L i
 unfold qy.b2
 refine qic (fun g=>?_) (fun g=>?_)
 · have hix:i < L.length:=by omega
   have hsn:=catB_snoc L hix
   have hle2:=catB_le L (i+1)
   refine (h.rdb s).lslB i rfl hix ?_
   have hy:=(hL L[i] (List.getElem_mem hix) _ h).1
   rw [qz] at hy
   rw [hsn,List.length_append] at hle2
   refine qw (qn (by omega) (by omega)) ?_
   refine qic (fun g=>by omega) (fun _=>?_)
   refine qw (qn (by omega) (by omega)) ?_
   refine ⟨⟨rfl,rfl,rfl⟩,hin (i+1) _ _ _ ⟨by omega,by omega,?_,h⟩ (by omega)⟩
   rw [hsn,List.length_append]
   omega
 · have:i=L.length:=by omega
   subst this
   rw [List.take_length]
   unfold qy.j2
   refine qyd.c h hlen fun t w ht h=>⟨t,rfl,?_⟩
   unfold qy.j3 qy.j5
   refine qif (fun (i:Nat) (o:Sl) (i':Int) w'=>i'=i∧i≤L.length∧St F0 w0 w' (qib 1 o (ivs .u8 (catB (L.take i))) :: ps)) (fun i=>L.length - i) 0 ⟨rfl,by omega,by simpa [catB] using h⟩ ?_
   clear h
   rintro i o i' wL I μ ⟨rfl,hi,h⟩ hin
   have hle:=catB_le L i
   unfold qy.b1
   refine qic (fun g=>?_) (fun g=>?_)
   · have hix:i < L.length:=by omega
     have hsn:=catB_snoc L hix
     have hle2:=catB_le L (i+1)
     rw [hsn,List.length_append] at hle2
     refine (h.rdb s).lslB i rfl hix ?_
     haveI:Rdb F0 w0 L[i].1 ps 1 (ivs .u8 L[i].2):=⟨fun h=>hL L[i] (List.getElem_mem hix) _ h⟩
     refine h.appI (s:=o) (s2:=L[i].1) (k:=.u8) (by omega) fun o2 w h=>?_
     refine qw (qn (by omega) (by omega)) ?_
     refine ⟨⟨rfl,rfl⟩,hin (i+1) _ _ _ ⟨by omega,by omega,?_⟩ (by omega)⟩
     rw [hsn]
     exact h
   · have:i=L.length:=by omega
     subst this
     rw [List.take_length] at h
     unfold qy.j4
     have:=h.len
     rw [qz] at this
     exact hk o wL (by omega) h
theorem qoi {nb n:Nat} {l:List Value} [PkB nb ps l rest] (hn:l.length=n):Rdb F0 w0 ⟨some ⟨nb,0,none⟩,n,n⟩ ps 1 l:=⟨fun h=>by
 have hb:=(h.toB nb).blk
 refine ⟨by rw [Nat.mul_one]; exact hn,fun i hi=>⟨_,rfl,?_⟩⟩
 rw [qgd,Nat.zero_add,hb.cell]⟩
end
end Go.Proofs.YtigmbblgfnkpbaaGreat
namespace Go.Proofs.YtigmbblgfnkpbaaGreat
open Go Go.Proofs
set_option linter.unusedVariables false
set_option linter.unusedSimpArgs false
attribute [local irreducible] apK cpK mkK br qte
def apA (s:Sl) (cs:List Value):As:=exA fun b:Bool=>ifA (b=true ∨ s.cap=s.len) (if b then qib 1 s cs else rdA 1 s cs)
section
variable {F0:List Nat} {w0 w:World} {ps rest:List As} {s t:Sl} {xs ys zs:List Int} {cs:List Value}
theorem St.apO (h:St F0 w0 w (qib 1 s cs :: ps)):St F0 w0 w (apA s cs :: ps):=St.exI true (St.ifI (Or.inl rfl) h)
theorem St.apR (h:St F0 w0 w (rdA 1 s cs :: ps)) (hc:s.cap=s.len):St F0 w0 w (apA s cs :: ps):=St.exI false (St.ifI (Or.inr hc) h)
theorem St.ap0 (h:St F0 w0 w ps):St F0 w0 w (apA ⟨none,0,0⟩ (u8s []) :: ps):=St.apO (h.nil 1)
theorem St.apE (h:St F0 w0 w (apA s cs :: ps)):St F0 w0 w (qib 1 s cs :: ps) ∨ (s.cap=s.len∧St F0 w0 w (rdA 1 s cs :: ps)):=by
 obtain ⟨b,h⟩:=h.exE
 obtain ⟨hc,h⟩:=h.ifE
 cases b with
 | true=>exact Or.inl h
 | false=>exact Or.inr ⟨hc.resolve_left (by decide),h⟩
instance Rdb.ap:Rdb F0 w0 s (apA s cs :: ps) 1 cs:=⟨fun h=>by
 rcases h.apE with h | ⟨_,h⟩
 · exact h.rdb s
 · exact h.rdb s⟩
theorem St.appFc {P:Program} {e:TypeId} {z:Value} {k:IntKind} {c:Array Value} {n:Nat} {K:Sl→World→Prop} [he:Elt P e z] (h:St F0 w0 w ps) [Rdb F0 w0 s ps 1 (ivs k zs)] (hcv:c=⟨ivs k ys⟩) (hn:ys.length=n) (hc:s.cap=s.len) (hy:0 < n) (hlen:zs.length+n≤1099511627776)
 (hk:∀ s' w',St F0 w0 w' (qib 1 s' (ivs k (zs ++ ys)) :: ps)→K s' w'):apK P e w s.a s.len s.cap n c K:=by
 subst hcv
 have hr:=h.rdb s
 have hl:=hr.1
 rw [qz] at hl
 obtain ⟨i,h1,h2,h3,h4⟩:=he.info
 have hbo:P.bytesOf e=i.bytes:=by simp [Program.bytesOf,h1]
 unfold apK withSz
 simp only [h1,h2]
 rw [if_neg (by omega)]
 refine ⟨⟨?_,by rw [hbo]; exact h3⟩,?_⟩
 · rw [hbo]
   have:=next_le (s.len+n) s.cap (by omega) (by omega)
   refine Nat.le_trans (Nat.mul_le_mul this h4) ?_
   rw [show (2:Nat) ^ 48=281474976710656 from rfl]
   omega
 · refine hr.rdO (by rw [qz]; omega) fun c hcc=>?_
   have hbl:=Blk.new w.drew (ivs k zs ++ ivs k ys ++ qlf (c - (s.len+n)) (zc P e).toList) e
   have e1:((⟨ivs k zs⟩:Array Value) ++ (⟨ivs k ys⟩:Array Value) ++ ⟨qlf (c - (s.len+n)) (zc P e).toList⟩)=⟨ivs k zs ++ ivs k ys ++ qlf (c - (s.len+n)) (zc P e).toList⟩:=by
    apply Array.ext'
    simp
   rw [e1]
   refine hk _ _ (h.add (f':=[w.heap.size]) (((Mod.drew w).trans (Mod.alloc w.drew _) (fun _ hx=>by cases hx)).mono (fun _ hx=>by cases hx)) ?_ ?_)
   · rw [← qxl]
     refine Or.inr ⟨w.heap.size,_,rfl,hbl,?_,?_,rfl⟩
     · show _=(s.len+n) * 1
       rw [List.length_append,qz,qz]; omega
     · show _=c * 1
       rw [List.length_append,List.length_append,qz,qz,qle,he.zc]
       show _+(c - (s.len+n)) * 1=_
       omega
   · intro x hx
     have:x=w.heap.size:=by simpa using hx
     exact Or.inr (by omega)
theorem St.apx {P:Program} {e:TypeId} {z:Value} {c:Array Value} {n:Nat} {K:Sl→World→Prop} [he:Elt P e z] (h:St F0 w0 w (apA s (u8s xs) :: ps)) (hcv:c=⟨u8s ys⟩) (hn:ys.length=n) (hy:0 < n) (hlen:xs.length+n≤1099511627776)
 (hk:∀ s' w',St F0 w0 w' (qib 1 s' (u8s (xs ++ ys)) :: ps)→K s' w'):apK P e w s.a s.len s.cap n c K:=by
 rcases h.apE with h | ⟨hc,h⟩
 · exact h.app (cs:=u8s xs) (cs2:=u8s ys) hcv (by rw [qz]; exact hn) (by rw [qz]; exact hlen) qof fun s' w h=>hk s' w (by show St F0 w0 w (qib 1 s' (ivs .u8 (xs ++ ys)) :: ps); rw [← qxl]; exact h)
 · exact h.appFc (zs:=xs) (ys:=ys) (k:=.u8) hcv hn hc hy hlen fun s' w h=>hk s' w (h.tail fun _ _ _ h=>h.drop)
theorem St.apxR {P:Program} {e:TypeId} {z:Value} {K:Sl→World→Prop} [he:Elt P e z] (h:St F0 w0 w (apA s (u8s xs) :: ps)) [hr:Rdb F0 w0 t (apA s (u8s xs) :: ps) 1 (u8s ys)] (hy:0 < ys.length) (hlen:xs.length+ys.length≤1099511627776)
 (hk:∀ s' w',St F0 w0 w' (qib 1 s' (u8s (xs ++ ys)) :: ps)→K s' w'):rdO w t.a (t.len * 1) fun c=>apK P e w s.a s.len s.cap t.len c K:=by
 have hr:=h.rdb t
 have hl:=hr.1
 rw [qz] at hl
 refine hr.rdO (by rw [qz]; omega) ?_
 exact h.apx rfl (by omega) (by omega) (by omega) hk
theorem cutP_b (b o:Nat):cutP ⟨b,o,none⟩ 20 0 1=some ⟨b,o,none⟩:=by
 unfold cutP
 rw [if_neg (by decide),qgd,Nat.zero_mul,Nat.add_zero]
theorem ixS_blk {b n:Nat} {i:Int} {X:Addr→Prop} (j:Nat) (hi:i=j) (hj:j < n) (hk:X ⟨b,j,none⟩):ixS (some ⟨b,0,none⟩) n i 1 X:=by
 subst hi
 unfold ixS
 refine ⟨⟨by omega,by omega⟩,?_⟩
 rw [qgd]
 simpa using hk
def wrdS:List ByteArray:=[⟨#[79,73,68,70]⟩,⟨#[79,73,68,76]⟩,⟨#[67,68,65,84]⟩,⟨#[69,68,71,69]⟩]
theorem qsm:∀ j < 4,∃ h:j < wrdS.length,strCells wrdS[j] (ByteArray.size wrdS[j])=⟨u8s (wrdB.getD j [])⟩∧ByteArray.size wrdS[j]=4:=by
 intro j hj
 have:j=0 ∨ j=1 ∨ j=2 ∨ j=3:=by omega
 rcases this with rfl | rfl | rfl | rfl <;> exact ⟨by decide,by kernel_rfl,by kernel_rfl⟩
theorem qbl {j:Nat} (hj:j < 4):(wrdB.getD j []).length=4:=by
 have:j=0 ∨ j=1 ∨ j=2 ∨ j=3:=by omega
 rcases this with rfl | rfl | rfl | rfl <;> rfl
theorem St.sealed {b:Nat} {K:Sl→World→Prop} {P:Program} {e:TypeId} {z:Value} [he:Elt P e z] (h:St F0 w0 w (qmb b (u8s ys) :: apA s (u8s xs) :: ps)) (hy:ys.length=20) (hlen:xs.length≤1000000000)
 (hk:∀ s' w',St F0 w0 w' (qib 1 s' (u8s (xs ++ ys)) :: ps)→K s' w') :
 lt (⟨cutP ⟨b,0,none⟩ 20 0 1,20 - 0,20 - 0⟩:Sl) fun s21=>rdO w s21.a (s21.len * 1) fun c=>apK P e w s.a s.len s.cap s21.len c K:=by
 rw [cutP_b]
 refine qyc ?_
 have h2:St F0 w0 w (apA s (u8s xs) :: qmb b (u8s ys) :: ps):=h.at1
 haveI:Rdb F0 w0 ⟨some ⟨b,0,none⟩,20,20⟩ (apA s (u8s xs) :: qmb b (u8s ys) :: ps) 1 (u8s ys):=qoi (by rw [qlb,hy])
 exact h2.apxR (t:=⟨some ⟨b,0,none⟩,20,20⟩) (by omega) (by omega) fun s' w h=>hk s' w (h.tail fun _ _ _ h=>h.drop)
theorem qnb.go {L:List (Sl × List Int)} {Q:VWP} {b:Nat} {K:Ending→World→Prop} (h:St F0 w0 w (qmb b (wrdS.map Value.string) :: ps)) [Rdb F0 w0 s ps 1 (slB L)] (h4:L.length≤4) (h3:0 < (catB L).length)
 (hL:∀ y ∈ L,∀ w,St F0 w0 w ps→Rd w 1 y.1 (ivs .u8 y.2)) (hB:∀ y ∈ L,qae y.2) (hlen:(catB L).length≤1000000)
 (hk:∀ t w',(t.len=(chkB (L.map Prod.snd)).length∧t.cap=t.len)→St F0 w0 w' (rdA 1 t (u8s (chkB (L.map Prod.snd))) :: ps)→Q (sV t) w') :
 qnb.j2 s ⟨some ⟨b,0,none⟩,4,4⟩ Q w:=by
 have hl:=(h.drop.rdb s).1
 rw [show (slB L).length=L.length by simp [slB],Nat.mul_one] at hl
 have hcf:(L.map Prod.snd).flatten=catB L:=by simp [catB,List.flatMap_def]
 have ho:∀ i,ofs (L.map Prod.snd) i≤2000000:=fun i=>by
  unfold ofs
  have:(L.map Prod.snd).flatten=((L.map Prod.snd).take i).flatten ++ ((L.map Prod.snd).drop i).flatten:=by rw [← List.flatten_append,List.take_append_drop]
  have h2:=congrArg List.length this
  rw [List.length_append,hcf] at h2
  rw [List.length_map]
  omega
 unfold qnb.j2
 refine h.new fun cb w h=>?_
 have h:St F0 w0 w (qmb cb (u8s [67,71,80,72]) :: qmb b (wrdS.map Value.string) :: ps):=h
 refine h.str (n:=4) rfl fun w h=>?_
 refine qw (e':=(L.length:Int)) (by rw [qlh]; omega) ?_
 refine h.new fun nb w h=>?_
 have h:St F0 w0 w (qmb nb (u8s [1,1,(L.length:Int),0]) :: rdA 1 ⟨some ⟨cb,0,none⟩,4,4⟩ (u8s [67,71,80,72]) :: qmb b (wrdS.map Value.string) :: ps):=h
 haveI:Rdb F0 w0 ⟨some ⟨nb,0,none⟩,4,4⟩ (qmb nb (u8s [1,1,(L.length:Int),0]) :: rdA 1 ⟨some ⟨cb,0,none⟩,4,4⟩ (u8s [67,71,80,72]) :: qmb b (wrdS.map Value.string) :: ps) 1 (u8s [1,1,(L.length:Int),0]):=qoi rfl
 refine St.appF (s:=⟨some ⟨cb,0,none⟩,4,4⟩) (s2:=⟨some ⟨nb,0,none⟩,4,4⟩) (zs:=[67,71,80,72]) (ys:=[1,1,(L.length:Int),0]) (k:=.u8) h rfl (by show 0 < 4; decide) (by show 4+4≤_; decide) fun o w h=>?_
 have h:St F0 w0 w (qib 1 o (u8s (hdB L.length)) :: _):=h
 have h:St F0 w0 w (apA o (u8s (hdB L.length ++ tb (L.map Prod.snd) 0)) :: qmb b (wrdS.map Value.string) :: ps):=by
  have e:hdB L.length ++ tb (L.map Prod.snd) 0=hdB L.length:=by simp [tb]
  rw [e]
  exact (h.apO).tail fun _ _ _ h=>h.drop.drop
 have hol:=(h.rdb o).1
 rw [qlb,Nat.mul_one,show (hdB L.length ++ tb (L.map Prod.snd) 0).length=8 by simp [tb,hdB]] at hol
 refine qw (e':=(L.length:Int)+1) (by rw [qn (by omega) (by omega)]; omega) ?_
 refine qw (qn (by omega) (by omega)) ?_
 refine qw (e':=(ofs (L.map Prod.snd) 0:Int)) (by rw [qn (by omega) (by omega)]; unfold ofs; simp; omega) ?_
 unfold qnb.j3 qnb.j5
 refine loop3 (fun (i:Nat) (o:Sl) (a i':Int) w'=>i'=(i:Int)∧i≤L.length∧a=(ofs (L.map Prod.snd) i:Int)∧St F0 w0 w' (apA o (u8s (hdB L.length ++ tb (L.map Prod.snd) i)) :: qmb b (wrdS.map Value.string) :: ps)) (fun i=>L.length - i) 0 ⟨rfl,Nat.zero_le _,rfl,h⟩ ?_
 clear h hol
 rintro i o _ _ wL I μ ⟨rfl,hi,rfl,h⟩ hin
 have htl:=tb_len (L.map Prod.snd) (i:=i) (by omega)
 have hxl:(hdB (L.length:Int) ++ tb (L.map Prod.snd) i).length≤100:=by rw [List.length_append,htl]; show 8+_≤_; omega
 have hoi:=ho i
 unfold qnb.b1
 refine qic (fun g=>?_) (fun g=>?_)
 · have hix:i < L.length:=by omega
   refine (h.rdb s).lslB i rfl hix ?_
   obtain ⟨hw,hc,hs⟩:=qsm i (by omega)
   refine ixS_blk i rfl (show i < 4 by omega) ?_
   refine (h.toB b).blk.ldS (n:=wrdS[i]) ?_ ⟨rfl,?_⟩
   · rw [List.getElem?_map,List.getElem?_eq_getElem hw]; rfl
   rw [hc,hs]
   refine qyc ?_
   refine h.apx (ys:=wrdB.getD i []) rfl (qbl (by omega)) (by decide) (by omega) fun o2 w h=>?_
   refine qpe.d (s:=o2) (xs:=hdB L.length ++ tb (L.map Prod.snd) i ++ wrdB.getD i []) h (by rw [List.length_append,qbl (by omega)]; omega) fun o3 w h1 h2 h=>⟨o3,rfl,?_⟩
   have hoi2:=ho (i+1)
   have hos:=ofs_succ (l:=L.map Prod.snd) (i:=i) (by rw [List.length_map]; exact hix)
   have hyl:L[i].1.len=L[i].2.length:=by
    have:=(hL L[i] (List.getElem_mem hix) w h.drop.drop.drop).1
    rw [qz,Nat.mul_one] at this
    exact this.symm
   rw [List.getElem_map] at hos
   refine qw (e':=(ofs (L.map Prod.snd) (i+1):Int)) (by rw [qn (by omega) (by omega)]; omega) ?_
   refine qw (e':=((i+1:Nat):Int)) (by rw [qn (by omega) (by omega)]; rfl) ?_
   refine ⟨⟨rfl,rfl,rfl,rfl⟩,hin (i+1) _ _ _ _ ⟨rfl,by omega,rfl,?_⟩ (by omega)⟩
   rw [qxj,← List.append_assoc,← List.append_assoc]
   exact (h.apR h2).tail fun _ _ _ h=>h.drop
 · have:i=L.length:=by omega
   subst this
   unfold qnb.j4
   refine h.new fun zb w h=>?_
   have h:St F0 w0 w (qmb zb (u8s [0,0,0,0]) :: apA o (u8s (hdB L.length ++ tb (L.map Prod.snd) L.length)) :: qmb b (wrdS.map Value.string) :: ps):=h
   haveI:Rdb F0 w0 ⟨some ⟨zb,0,none⟩,4,4⟩ (apA o (u8s (hdB L.length ++ tb (L.map Prod.snd) L.length)) :: qmb zb (u8s [0,0,0,0]) :: qmb b (wrdS.map Value.string) :: ps) 1 (u8s [0,0,0,0]):=qoi rfl
   refine St.apxR (t:=⟨some ⟨zb,0,none⟩,4,4⟩) (ys:=[0,0,0,0]) h.at1 (by show 0 < 4; decide) (by show _+4≤_; omega) fun o2 w h=>?_
   refine qpe.d (s:=o2) h (by rw [List.length_append]; show _+4≤_; omega) fun o3 w h1 h2 h=>⟨o3,rfl,?_⟩
   have hX:(hdB (L.length:Int) ++ tb (L.map Prod.snd) L.length ++ [0,0,0,0] ++ beJ 8 8 (ofs (L.map Prod.snd) L.length)).length≤200:=by
    rw [List.length_append,List.length_append,qec]
    show _+4+8≤_
    omega
   have h:St F0 w0 w (rdA 1 o3 (u8s (hdB L.length ++ tb (L.map Prod.snd) L.length ++ [0,0,0,0] ++ beJ 8 8 (ofs (L.map Prod.snd) L.length))) :: ps):=h.tail fun _ _ _ h=>h.drop.drop.drop
   refine qy.c (s:=s) (L:=L) h (fun y hy w h=>hL y hy w h.drop) (by omega) hlen fun o4 w ht h=>⟨o4,rfl,?_⟩
   have h2:St F0 w0 w (apA o3 (u8s (hdB L.length ++ tb (L.map Prod.snd) L.length ++ [0,0,0,0] ++ beJ 8 8 (ofs (L.map Prod.snd) L.length))) :: qib 1 o4 (ivs .u8 (catB L)) :: ps):=h.at1.apR h2
   refine h2.apxR (t:=o4) h3 (by omega) fun o5 w h=>?_
   have hpre:hdB (L.length:Int) ++ tb (L.map Prod.snd) L.length ++ [0,0,0,0] ++ beJ 8 8 (ofs (L.map Prod.snd) L.length) ++ catB L=qkh (L.map Prod.snd):=by
    unfold qkh
    rw [hcf,List.length_map]
   rw [hpre] at h
   have hpl:(qkh (L.map Prod.snd)).length≤1000200:=by
    rw [← hpre,List.length_append]; omega
   have hpb:qae (qkh (L.map Prod.snd)):=by
    have htb:∀ i≤4,qae (tb (L.map Prod.snd) i):=by
     intro i
     induction i with
     | zero=>intro _ x hx; simp [tb] at hx
     | succ i ih =>
       intro hi
       rw [qxj,qoc,qoc]
       refine ⟨ih (by omega),?_,qzh 8 8 _⟩
       have:i=0 ∨ i=1 ∨ i=2 ∨ i=3:=by omega
       rcases this with rfl | rfl | rfl | rfl <;> (intro x hx; simp [wrdB] at hx; omega)
    unfold qkh
    rw [qoc,qoc,qoc,qoc]
    refine ⟨⟨⟨⟨?_,htb _ (by rw [List.length_map]; exact h4)⟩,by intro x hx; simp at hx; omega⟩,qzh 8 8 _⟩,?_⟩
    · intro x hx
      simp [hdB] at hx
      omega
    · rw [hcf]
      exact qqi fun y hy=>hB y hy
   refine qnh.d (s:=o5) (xs:=qkh (L.map Prod.snd)) h hpb (by omega) fun w h=>⟨_,rfl,?_⟩
   have hzc:zc Tryz.prog 24=⟨ivs .u8 z20⟩:=zc_id
   rw [hzc]
   refine h.new fun kb w h=>?_
   have h:St F0 w0 w (qmb kb (u8s z20) :: qib 1 o5 (u8s (qkh (L.map Prod.snd))) :: qib 1 o4 (ivs .u8 (catB L)) :: ps):=h
   refine ⟨qgg _,?_⟩
   refine St.sA (b:=kb) (l':=u8s (qte (qkh (L.map Prod.snd)))) h rfl (qgg _) qkf fun w h=>?_
   refine St.sealed (s:=o5) (xs:=qkh (L.map Prod.snd)) (ys:=qte (qkh (L.map Prod.snd))) (h.tail fun _ _ _ h=>h.apO) (qxf _) (by omega) fun o6 w h=>?_
   refine qgc.d h fun o7 h1 h2 h=>⟨o7,rfl,?_⟩
   refine hk o7 w ?_ (h.tail fun _ _ _ h=>h.drop)
   have:=(h.rdb o7).1
   rw [qlb,Nat.mul_one] at this
   exact ⟨this.symm,by omega⟩
theorem qnb.c {s1 s2 s3 s4:Sl} {x1 x2 x3 x4:List Int} {K:Ending→World→Prop} (h:St F0 w0 w ps) [Rdb F0 w0 s ps 1 (slB [(s1,x1),(s2,x2),(s3,x3),(s4,x4)])] (hc:s.len≤s.cap) (h3:0 < x1.length)
 [Rdb F0 w0 s1 ps 1 (u8s x1)] [Rdb F0 w0 s2 ps 1 (u8s x2)] [Rdb F0 w0 s3 ps 1 (u8s x3)] [Rdb F0 w0 s4 ps 1 (u8s x4)] (b1:qae x1) (b2:qae x2) (b3:qae x3) (b4:qae x4) (hlen:x1.length+x2.length+x3.length+x4.length≤1000000)
 (hk:∀ t w',(t.len=(chkB ([x1,x2,x3] ++ if x4.length=0 then [] else [x4])).length∧t.cap=t.len)→St F0 w0 w' (rdA 1 t (u8s (chkB ([x1,x2,x3] ++ if x4.length=0 then [] else [x4]))) :: ps)→K (.returned (sV t)) w') :
 Calls Tryz.prog 33 ⟨[sV s]⟩ w K:=by
 have hl:=(h.rdb s).1
 have hl:4=s.len * 1:=hl
 have hx4:=(h.rdb s4).1
 rw [qlb,Nat.mul_one] at hx4
 refine qbc (qnb.ok _ _ _ ?_)
 unfold qnb qnb.j1
 refine h.new fun b w h=>?_
 have h:St F0 w0 w (qmb b (wrdS.map Value.string) :: ps):=h
 refine (h.rdb s).lslB (L:=[(s1,x1),(s2,x2),(s3,x3),(s4,x4)]) 3 rfl (by simp) ?_
 show br (((s4.len:Nat):Int) == 0) _ _
 refine qqc (fun g=>?_) (fun g=>?_)
 · have g:x4.length=0:=by
    have:((s4.len:Nat):Int)=0:=by simpa using g
    omega
   rw [if_pos g,List.append_nil] at hk
   refine qlj (n:=3) rfl (by omega) (qyc ?_)
   haveI:Rdb F0 w0 ⟨qqd s.a s.cap 0 1,3 - 0,s.cap - 0⟩ ps 1 (slB [(s1,x1),(s2,x2),(s3,x3)]):=⟨fun h=>by
    have:=(h.rdb s).cut (n:=0) (m:=3) (by decide) (by omega) (by omega) hc (s.cap - 0)
    exact this⟩
   refine qnb.go (K:=K) (s:=⟨qqd s.a s.cap 0 1,3 - 0,s.cap - 0⟩) (L:=[(s1,x1),(s2,x2),(s3,x3)]) h (by simp) (by simp [catB]; omega) ?_ ?_ (by simp [catB]; omega) hk
   · intro y hy w h
     rcases List.mem_cons.1 hy with rfl | hy
     · exact h.rdb s1
     rcases List.mem_cons.1 hy with rfl | hy
     · exact h.rdb s2
     rcases List.mem_cons.1 hy with rfl | hy
     · exact h.rdb s3
     cases hy
   · intro y hy
     rcases List.mem_cons.1 hy with rfl | hy
     · exact b1
     rcases List.mem_cons.1 hy with rfl | hy
     · exact b2
     rcases List.mem_cons.1 hy with rfl | hy
     · exact b3
     cases hy
 · have g:¬ x4.length=0:=by
    have:¬ ((s4.len:Nat):Int)=0:=by simpa using g
    omega
   rw [if_neg g] at hk
   refine qnb.go (K:=K) (s:=s) (L:=[(s1,x1),(s2,x2),(s3,x3),(s4,x4)]) h (by simp) (by simp [catB]; omega) ?_ ?_ (by simp [catB]; omega) hk
   · intro y hy w h
     rcases List.mem_cons.1 hy with rfl | hy
     · exact h.rdb s1
     rcases List.mem_cons.1 hy with rfl | hy
     · exact h.rdb s2
     rcases List.mem_cons.1 hy with rfl | hy
     · exact h.rdb s3
     rcases List.mem_cons.1 hy with rfl | hy
     · exact h.rdb s4
     cases hy
   · intro y hy
     rcases List.mem_cons.1 hy with rfl | hy
     · exact b1
     rcases List.mem_cons.1 hy with rfl | hy
     · exact b2
     rcases List.mem_cons.1 hy with rfl | hy
     · exact b3
     rcases List.mem_cons.1 hy with rfl | hy
     · exact b4
     cases hy
end
end Go.Proofs.YtigmbblgfnkpbaaGreat
namespace Go.Proofs.YtigmbblgfnkpbaaGreat
open Go Go.Proofs
set_option linter.unusedVariables false
set_option linter.unusedSimpArgs false
attribute [local irreducible] apK cpK mkK br qte
theorem or_date {g d:Int} (hg:0≤g∧g≤1000000) (hd:0≤d∧d < 17179869184):orV .i64 (g * 17179869184) d=g * 17179869184+d:=by
 obtain ⟨a,rfl⟩:∃ a:Nat,g=a:=⟨g.toNat,by omega⟩
 obtain ⟨b,rfl⟩:∃ b:Nat,d=b:=⟨d.toNat,by omega⟩
 have:=orV_add' .i64 (a:=b) (b:=a) (t:=34) (by show b < 17179869184; omega) (by show b+a * 17179869184 < 9223372036854775808; omega)
 have e:((2:Int) ^ 34)=17179869184:=by decide
 rw [e] at this
 rw [this]; omega
theorem shl_gen {g:Int} (hg:0≤g∧g≤1000000):qdf .i64 g 34=g * 17179869184:=by
 have:=shlV_lit .i64 (x:=g) (y:=34) (t:=34) rfl (by decide) hg.1 (by show g * 17179869184 < 9223372036854775808; omega)
 exact this
theorem or_high {x:Nat} (h:x < 2147483648):orV .i64 2147483648 (x:Int)=2147483648+(x:Int):=by
 have:=orV_add' .i64 (a:=x) (b:=1) (t:=31) (by show x < 2147483648; exact h) (by show x+1 * 2147483648 < 9223372036854775808; omega)
 have e:(((1:Nat):Int) * (2:Int) ^ 31)=2147483648:=by decide
 rw [e] at this
 rw [this]; omega
section
variable {F0:List Nat} {w0 w:World} {ps rest:List As} {s t:Sl} {xs ys zs:List Int} {n:Nd} {G:Rws Int} {gb xb:Nat}
 {t6 t7 t8 t9 t10 t48:Sl} {t49 t50:Int} {Q:VWP} {nx1:(Option Nat)→Sl→Sl→Sl→Int→Sl→Sl→Sl→Int→World→Prop}
theorem Build_14 {a b:Int} (h:St F0 w0 w (qib 1 t9 (u8s xs) :: ps)) [PkB xb ps (ndC n) rest] [MpR Int inV gb ps G] (hx:xs.length≤1000000) (hg:0≤gD G n.nm∧gD G n.nm≤1000000) (hd:0≤n.date∧n.date < 17179869184)
 (hk:∀ r w',r.cap=r.len→St F0 w0 w' (rdA 1 r (u8s (xs ++ (beJ 4 4 a ++ (beJ 4 4 b ++ beJ 8 8 (gD G n.nm * 17179869184+n.date))))) :: ps)→qj.j10 (some gb) t6 t7 t8 r t10 t48 t49 t50 Q nx1 w') :
 qj.j14 (some gb) t6 t7 t8 t9 t10 ⟨xb,0,none⟩ a b t48 t49 t50 Q nx1 w:=by
 have hb:St F0 w0 w ps:=h.drop
 unfold qj.j14
 refine (hb.toB xb).blk.ldIdN ⟨_,qah hb gb n.nm,?_⟩
 refine qic (fun g=>by exfalso; omega) (fun _=>?_)
 have hw:Mod [] w w.drew:=Mod.drew w
 refine h.drewK fun w h=>?_
 have hb:St F0 w0 w ps:=h.drop
 have hA:∀ {w':World} {Z:Array Value→Prop},St F0 w0 w' ps→Z ⟨nmC n.nm⟩→ldA w' (Addr.add ⟨xb,0,none⟩ 0) 20 Z:=fun h hz=>(h.toB xb).blk.ldIdN hz
 have hD:∀ {w':World} {Z:Int→Prop},St F0 w0 w' ps→Z n.date→ldI .i64 w' (Addr.add ⟨xb,0,none⟩ 41) Z:=fun h hz=>(h.toB xb).blk.ldDate hz
 have hK:∀ {w':World} {Z:Int→Prop},St F0 w0 w' ps→Z (gD G n.nm)→∃ r:Int,lkR Tryz.prog 53 (.map (some gb)) (.agg ⟨nmC n.nm⟩) false w' (.int .i64 r)∧Z r:=fun h hz=>⟨_,qah h gb n.nm,hz⟩
 have hP1:∀ {w':World} {Z:Sl→World→Prop},St F0 w0 w' (qib 1 t9 (u8s xs) :: ps)→(∀ r w'',St F0 w0 w'' (rdA 1 r (u8s (xs ++ beJ 4 4 a)) :: ps)→St F0 w0 w'' ps→Z r w'')→qad 30 [sV t9,.int .i64 a] w' Z:=fun h hz =>
  qmd.d (s:=t9) (xs:=xs) h (by omega) fun r w' _ _ h=>⟨r,rfl,hz r w' (h.tail fun _ _ _ h=>h.drop) h.drop.drop⟩
 have hP2:∀ {w':World} {r0:Sl} {Z:Sl→World→Prop},St F0 w0 w' (rdA 1 r0 (u8s (xs ++ beJ 4 4 a)) :: ps)→(∀ r w'',St F0 w0 w'' (rdA 1 r (u8s (xs ++ beJ 4 4 a ++ beJ 4 4 b)) :: ps)→St F0 w0 w'' ps→Z r w'')→qad 30 [sV r0,.int .i64 b] w' Z:=fun h hz =>
  qmd.d (s:=_) (xs:=xs ++ beJ 4 4 a) h (by rw [List.length_append,qec]; omega) fun r w' _ _ h=>⟨r,rfl,hz r w' (h.tail fun _ _ _ h=>h.drop) h.drop.drop⟩
 have e1:qdf .i64 (gD G n.nm) 34=gD G n.nm * 17179869184:=shl_gen hg
 have e2:orV .i64 (gD G n.nm * 17179869184) n.date=gD G n.nm * 17179869184+n.date:=or_date hg hd
 have hP3:∀ {w':World} {r0:Sl},St F0 w0 w' (rdA 1 r0 (u8s (xs ++ beJ 4 4 a ++ beJ 4 4 b)) :: ps)→qad 32 [sV r0,.int .i64 (gD G n.nm * 17179869184+n.date)] w' fun r w''=>qj.j10 (some gb) t6 t7 t8 r t10 t48 t49 t50 Q nx1 w'':=fun h =>
  qpe.d (s:=_) (xs:=xs ++ beJ 4 4 a ++ beJ 4 4 b) h (by rw [List.length_append,List.length_append,qec,qec]; omega) fun r w' _ hc h=>⟨r,rfl,hk r w' hc (by
   rw [List.append_assoc,List.append_assoc] at h
   exact h.tail fun _ _ _ h=>h.drop)⟩
 repeat' first
  | with_reducible refine qw e1 ?_
  | with_reducible refine qw e2 ?_
  | with_reducible refine hA (by assumption) ?_
  | with_reducible refine hD (by assumption) ?_
  | with_reducible exact hP3 (by assumption)
  | with_reducible refine hP1 (by assumption) fun r w' h1 h2=>?_
  | with_reducible refine hP2 (by assumption) fun r w' h1 h2=>?_
  | with_reducible refine hK (by assumption) ?_
  | with_reducible refine And.intro (show (0:Int)≤34 by decide) ?_
  | with_reducible refine And.intro ?_ ?_
end
end Go.Proofs.YtigmbblgfnkpbaaGreat
namespace Go.Proofs.YtigmbblgfnkpbaaGreat
open Go Go.Proofs
set_option linter.unusedVariables false
set_option linter.unusedSimpArgs false
attribute [local irreducible] apK cpK mkK br qte
theorem or_mark {x:Int} (h:0≤x∧x < 128):orV .u8 x 128=x+128:=by
 obtain ⟨a,rfl⟩:∃ a:Nat,x=a:=⟨x.toNat,by omega⟩
 have:=orV_uadd (k:=.u8) rfl (a:=a) (b:=1) (t:=7) (by show a < 128; omega) (by show a+1 * 128 < 256; omega)
 have e:(((1:Nat):Int) * (2:Int) ^ 7)=128:=by decide
 rw [e] at this
 exact this
theorem last_word {E D:List Int} {v:Int}:(E ++ wB (D ++ [v])).getD ((E ++ wB (D ++ [v])).length - 4) 0=v / 16777216 % 256:=by
 rw [qfj,qpk,← List.append_assoc]
 generalize E ++ wB D=X
 rw [List.length_append,qec,List.getD_eq_getElem?_getD,List.getElem?_append_right (by omega),show X.length+4 - 4 - X.length=0 by omega,be4]
 rfl
section
variable {F0:List Nat} {w0 w:World} {ps rest:List As} {s t u:Sl} {E q:List Int} {n:Nd} {gb:Nat} {t14:Addr}
 {t6 t7 t8 t9 t10 t48:Sl} {t49 t50:Int} {Q:VWP} {nx1:(Option Nat)→Sl→Sl→Sl→Int→Sl→Sl→Sl→Int→World→Prop}
theorem Build_17 {a b:Int} (h:St F0 w0 w (clA 1 t10 (u8s E) :: ps)) [Rdb F0 w0 u ps 1 (ivs .i64 q)] (hc:u.len≤u.cap) (hq:2 < q.length) (hq2:q.length≤1000000) (hE:E.length≤10000000) (hv:∀ v ∈ q,0≤v∧v < 2147483648)
 (hk:∀ t' w',St F0 w0 w' (clA 1 t' (u8s (E ++ wB (edw q))) :: ps)→qj.j14 (some gb) t6 t7 t8 t9 t' t14 a b t48 t49 t50 Q nx1 w') :
 qj.j17 (some gb) t6 t7 t8 t9 t10 t14 u a b t48 t49 t50 Q nx1 w:=by
 have hul:=(h.rdb u).1
 rw [qz,Nat.mul_one] at hul
 have hdl:(q.drop 1).length=q.length - 1:=List.length_drop ..
 have hlast:=drop1_last hq
 have hvl:0≤q.getD (q.length - 1) 0∧q.getD (q.length - 1) 0 < 2147483648:=hv _ (qsf (by omega))
 unfold qj.j17
 refine qlj (n:=1) rfl (by omega) (qyc ?_)
 haveI:Rdb F0 w0 ⟨qqd u.a u.cap 1 1,u.len - 1,u.cap - 1⟩ ps 1 (ivs .i64 (q.drop 1)):=h.drop.cutR u 1 u.len _ (Nat.le_refl _) (by omega) hc (List.take_of_length_le (by omega))
 unfold qj.j19
 refine qif (fun (k:Nat) (t':Sl) (k':Int) w'=>k'=(k:Int)∧k≤(q.drop 1).length∧St F0 w0 w' (clA 1 t' (u8s (E ++ wB ((q.drop 1).take k))) :: ps)) (fun k=>(q.drop 1).length - k) 0 ⟨rfl,Nat.zero_le _,by simpa [wB] using h⟩ ?_
 clear h
 rintro k t' _ wL I μ ⟨rfl,hk',h⟩ hin
 unfold qj.b2
 refine qic (fun g=>?_) (fun g=>?_)
 · have g:(k:Int) < ((u.len - 1:Nat):Int):=g
   have hkx:k < (q.drop 1).length:=by omega
   refine h.lx (s:=⟨qqd u.a u.cap 1 1,u.len - 1,u.cap - 1⟩) k rfl hkx ?_
   refine qmd.cl (s:=t') (xs:=E ++ wB ((q.drop 1).take k)) h (by rw [List.length_append,qjf,List.length_take]; omega) fun t2 w _ _ h=>⟨t2,rfl,?_⟩
   refine qw (e':=((k+1:Nat):Int)) (by rw [qn (by omega) (by omega)]; rfl) ?_
   refine ⟨⟨rfl,rfl,rfl,rfl,rfl,rfl,rfl,rfl,rfl,rfl,rfl,rfl,rfl⟩,hin (k+1) _ _ _ ⟨rfl,by omega,?_⟩ (by omega)⟩
   rw [qjg hkx,qfj,qpk,← List.append_assoc]
   exact h.tail fun _ _ _ h=>h.drop
 · have g:¬ (k:Int) < ((u.len - 1:Nat):Int):=g
   have:k=(q.drop 1).length:=by omega
   subst this
   rw [List.take_length,hlast] at h
   have hl:=h.clrd.1
   rw [qlb,Nat.mul_one] at hl
   have hge:4≤(E ++ wB ((q.drop 1).dropLast ++ [q.getD (q.length - 1) 0])).length:=by
    rw [List.length_append,qjf,List.length_append,List.length_singleton]; omega
   have hle:(E ++ wB ((q.drop 1).dropLast ++ [q.getD (q.length - 1) 0])).length≤100000000:=by
    rw [List.length_append,qjf,List.length_append,List.length_singleton,List.length_dropLast]; omega
   unfold qj.j18
   refine qw (e':=(((E ++ wB ((q.drop 1).dropLast ++ [q.getD (q.length - 1) 0])).length - 4:Nat):Int)) (by rw [qn (by omega) (by omega)]; omega) ?_
   refine h.lx (s:=t') (zs:=E ++ wB ((q.drop 1).dropLast ++ [q.getD (q.length - 1) 0])) _ rfl (by omega) ?_
   rw [last_word]
   refine qw (or_mark (by omega)) ?_
   refine h.clx _ rfl (by omega) fun w h=>?_
   rw [mark_last hvl.1 hvl.2] at h
   refine hk t' w ?_
   have:edw q=(q.drop 1).dropLast ++ [q.getD (q.length - 1) 0+2147483648]:=by unfold edw; rw [if_pos hq]
   rw [this]
   exact h
theorem Build_12 (h:St F0 w0 w (clA 1 t10 (u8s E) :: ps)) [Rdb F0 w0 u ps 1 (ivs .i64 q)] (hc:u.len≤u.cap) (hq2:q.length≤1000000) {e:Nat} (hEe:E.length=4 * e) (hE:e≤1000000) (hv:∀ v ∈ q,0≤v∧v < 2147483648)
 (hk:∀ t' w',St F0 w0 w' (clA 1 t' (u8s (E ++ wB (edw q))) :: ps)→qj.j14 (some gb) t6 t7 t8 t9 t' t14 (numA q) (numB e q) t48 t49 t50 Q nx1 w') :
 qj.j12 (some gb) t6 t7 t8 t9 t10 t14 u t48 t49 t50 Q nx1 w:=by
 have hul:=(h.rdb u).1
 rw [qz,Nat.mul_one] at hul
 have h10:=h.clrd.1
 rw [qlb,Nat.mul_one] at h10
 have j13:qj.j13 (some gb) t6 t7 t8 t9 t10 t14 u (numA q) 1879048192 t48 t49 t50 Q nx1 w:=by
  unfold qj.j13 qj.j15
  refine qqc (fun g=>?_) (fun g=>?_)
  · have g:q.length=2:=by
     have:(u.len:Int)=2:=by simpa using g
     omega
    refine h.lx (s:=u) (zs:=q) 1 rfl (by omega) ?_
    have:=hk t10 w (by
     rw [edw_nil (by omega)]
     simpa [wB] using h)
    unfold numB at this
    rw [if_pos g] at this
    exact this
  · have g:¬ q.length=2:=by
     have:¬ (u.len:Int)=2:=by simpa using g
     omega
    unfold qj.j16
    refine qic (fun g2=>?_) (fun g2=>?_)
    · refine ⟨by decide,?_⟩
      have e1:Int.tdiv (t10.len:Int) 4=(e:Int):=by
       rw [Int.tdiv_eq_ediv_of_nonneg (by omega)]
       omega
      refine qw (e':=(e:Int)) (by rw [e1,qn (by omega) (by omega)]) ?_
      refine qw (or_high (by omega)) ?_
      refine Build_17 (u:=u) h hc (by omega) hq2 (by omega) hv fun t' w' h=>?_
      have:=hk t' w' h
      unfold numB at this
      rw [if_neg g,if_pos (by omega)] at this
      exact this
    · have:=hk t10 w (by
       rw [edw_nil (by omega)]
       simpa [wB] using h)
      unfold numB at this
      rw [if_neg g,if_neg (by omega)] at this
      exact this
 unfold qj.j12
 refine qic (fun g=>?_) (fun g=>?_)
 · refine h.lx (s:=u) (zs:=q) 0 rfl (by omega) ?_
   unfold numA at j13
   rw [if_pos (by omega)] at j13
   exact j13
 · unfold numA at j13
   rw [if_neg (by omega)] at j13
   exact j13
end
end Go.Proofs.YtigmbblgfnkpbaaGreat
namespace Go.Proofs.YtigmbblgfnkpbaaGreat
open Go Go.Proofs
set_option linter.unusedVariables false
set_option linter.unusedSimpArgs false
attribute [local irreducible] apK cpK mkK br qte
theorem posN_le (A:List Nm) (q:Nm):qxg A q≤A.length:=by
 induction A with
 | nil=>exact Nat.le_refl _
 | cons a A ih =>
   rw [qxg,List.length_cons]
   split <;> omega
theorem nmA_b {A P:List Nm} (hA:A.length≤1000000):∀ v ∈ nmA A P,0≤v∧v < 2147483648:=by
 intro v hv
 obtain ⟨p,_,rfl⟩:=List.mem_map.1 hv
 have:=posN_le A p
 omega
theorem ptI_at {k:IntKind} {zs:List Int} {i:Nat} {K:Int→Prop} (hj:i < zs.length) (hk:K (zs.getD i 0)):ptI k ⟨ivs k zs⟩ (Int.toNat (i:Int) * 1) K:=by
 rw [show Int.toNat (i:Int) * 1=i by omega]
 refine ⟨zs.getD i 0,?_,hk⟩
 have:=qwl (k:=k) hj
 simpa using this
theorem sum_eG (A:List Nm) (S:List Cm):(eG A S).length≤(S.map fun c=>c.par.length).sum:=by
 induction S with
 | nil=>exact Nat.le_refl _
 | cons c S ih =>
   show (edw (qC A c) ++ eG A S).length≤_
   rw [List.length_append,List.map_cons,List.sum_cons,qjk]
   have:(qC A c).length=c.par.length:=qid A c.par
   split <;> omega
section
variable {F0:List Nat} {w0 w:World} {ps rest:List As} {s t u:Sl} {S L:List Nd} {n:Nd} {pr:Nd→List Nm} {gb:Nat} {G:Rws Int} {K:Ending→World→Prop}
theorem nds_Clone.c (h:St F0 w0 w ps) [Rdb F0 w0 s ps 42 (L.flatMap ndC)] (hP:L.length≤1000000) (hk:∀ t w',t.len=L.length→St F0 w0 w' (qib 42 t (L.flatMap ndC) :: ps)→K (.returned (slV t)) w') :
 Calls Tryz.prog 25 ⟨[sV s]⟩ w K:=by
 refine qbc (qnd.ok _ _ _ ?_)
 unfold qnd
 refine qqc (fun g=>?_) (fun g=>?_)
 · have:s.a=none:=by simpa using g
   have hP:=h.isnil (s:=s) (f:=ndC) (L:=L) this
   subst hP
   exact hk ⟨none,0,0⟩ w rfl h.nilO
 · refine h.cloneR (s2:=s) (M:=L) (by omega) fun s' w' hs h=>?_
   exact hk s' w' hs h
theorem Build_8 {t6 t7 t48:Sl} {Q:VWP} (h:St F0 w0 w (qib 42 t48 (S.flatMap ndC) :: qib 20 t6 ((S.map Nd.nm).flatMap nmC) :: rdA 1 t7 (u8s (fB (S.map Nd.nm))) :: tmA inV gb G :: ps))
 (hS:S.length≤1024) (hris:RisN S) (hsum:(S.map fun n=>(pr n).length).sum≤200000) (hP:∀ n ∈ S,Rdb F0 w0 n.par ps 20 ((pr n).flatMap nmC)) (hd:∀ n ∈ S,0≤n.date∧n.date < 17179869184) (hg:∀ n ∈ S,0≤gD G n.nm∧gD G n.nm≤1000000)
 (hk:∀ t w',(t.len=(gB (S.map (cmN pr)) (gD G)).length∧t.cap=t.len)→St F0 w0 w' (rdA 1 t (u8s (gB (S.map (cmN pr)) (gD G))) :: ps)→Q (.tuple ⟨[sV t,.int .i64 0]⟩) w') :
 qj.j8 (some gb) t6 t7 ⟨none,0,0⟩ ⟨none,0,0⟩ ⟨none,0,0⟩ t48 (t48.len:Int) 0 Q w:=by
 have hl48:=h.rlen (s:=t48) (f:=ndC) (L:=S)
 have hA:Ris (S.map Nd.nm):=by
  unfold Ris
  rw [List.pairwise_map]
  exact hris
 have hAl:(S.map Nd.nm).length=S.length:=List.length_map ..
 have hids:(S.map (cmN pr)).map (·.id)=S.map Nd.nm:=qzg pr S
 generalize hAe:S.map Nd.nm=A at h hA hAl hids
 generalize hCe:S.map (cmN pr)=C at hids hk
 have hCl:C.length=S.length:=by rw [← hCe,List.length_map]
 have hpl:∀ n ∈ S,(pr n).length≤200000:=fun n hn=>by
  have:(pr n).length≤(S.map fun n=>(pr n).length).sum:=qzf (f:=fun n=>(pr n).length) hn
  omega
 have hsC:(C.map fun c=>c.par.length).sum≤200000:=by
  have:(C.map fun c=>c.par.length)=S.map fun n=>(pr n).length:=by rw [← hCe,List.map_map]; rfl
  rw [this]; exact hsum
 have heG:∀ i,(eG A (C.take i)).length≤200000:=fun i=>Nat.le_trans (eG_le A C i) (Nat.le_trans (sum_eG A C) hsC)
 unfold qj.j8
 refine loop4 (fun (i:Nat) (t8 t9 t10:Sl) (i':Int) w'=>i'=(i:Int)∧i≤S.length∧St F0 w0 w' (qib 1 t8 (u8s (nB (A.take i))) :: apA t9 (u8s (dG A (gD G) C i)) :: clA 1 t10 (u8s (wB (eG A (C.take i)))) :: qib 42 t48 (S.flatMap ndC) :: qib 20 t6 (A.flatMap nmC) :: rdA 1 t7 (u8s (fB A)) :: tmA inV gb G :: ps)) (fun i=>S.length - i) 0 ⟨rfl,Nat.zero_le _,?_⟩ ?_
 · have h1:St F0 w0 w (clA 1 ⟨none,0,0⟩ (u8s (wB (eG A (C.take 0)))) :: _):=(h.nil 1).ocl
   have h2:St F0 w0 w (apA ⟨none,0,0⟩ (u8s (dG A (gD G) C 0)) :: _):=h1.ap0
   exact h2.nil 1
 clear h
 rintro i t8 t9 t10 _ wL I μ ⟨rfl,hi,h⟩ hin
 have hnl:(nB (A.take i)).length≤100000:=by rw [qqk,List.length_take]; omega
 have hdl:(dG A (gD G) C i).length≤100000:=by rw [qtj]; omega
 unfold qj.b1
 refine qic (fun g=>?_) (fun g=>?_)
 · have hix:i < S.length:=by omega
   have hSi:=List.getElem_mem hix
   haveI:=hP _ hSi
   have hpi:=hpl _ hSi
   have hdi:=hd _ hSi
   have hgi:=hg _ hSi
   have hA1:A.take (i+1)=A.take i ++ [S[i].nm]:=by
    rw [← hAe,List.take_succ_eq_append_getElem (by rw [List.length_map]; exact hix)]
    simp
   have hCi:C.getD i default=cmN pr S[i]:=by
    rw [← hCe,List.getD_eq_getElem?_getD,List.getElem?_map,List.getElem?_eq_getElem hix]
    rfl
   have heS:eG A (C.take (i+1))=eG A (C.take i) ++ edw (nmA A (pr S[i])):=by
    have hic:i < C.length:=by omega
    rw [eG_take hic]
    have:C[i]=cmN pr S[i]:=by
     have:=hCi
     rw [List.getD_eq_getElem?_getD,List.getElem?_eq_getElem hic] at this
     exact this
    rw [this]
    rfl
   have hdS:dG A (gD G) C (i+1)=dG A (gD G) C i ++ (S[i].qqf ++ (beJ 4 4 (numA (nmA A (pr S[i]))) ++ (beJ 4 4 (numB (eG A (C.take i)).length (nmA A (pr S[i]))) ++ beJ 8 8 (gD G S[i].nm * 17179869184+S[i].date)))):=by
    rw [qem]
    unfold drw drow
    rw [hCi]
    rfl
   unfold qj.j9
   refine h.lr (s:=t48) (f:=ndC) (L:=S) i rfl hix ?_
   generalize S[i]=n at *
   rw [qwf]
   refine h.new fun xb w h=>?_
   have h:St F0 w0 w (qmb xb (ndC ndZ) :: qib 1 t8 (u8s (nB (A.take i))) :: apA t9 (u8s (dG A (gD G) C i)) :: clA 1 t10 (u8s (wB (eG A (C.take i)))) :: qib 42 t48 (S.flatMap ndC) :: qib 20 t6 (A.flatMap nmC) :: rdA 1 t7 (u8s (fB A)) :: tmA inV gb G :: ps):=h
   refine ⟨qob _,?_⟩
   refine h.setR (f:=ndC) (x:=n) (qob _) fun w h=>?_
   rw [qgd,cutP_b]
   refine qyc ?_
   haveI:∀ qs,Rdb F0 w0 ⟨some ⟨xb,0,none⟩,20,20⟩ (qmb xb (ndC n) :: qs) 1 (u8s n.id):=fun qs=>⟨fun h=>by
    have:=h.blk.rdAt (o:=0) (n:=20) (c:=20) (by rw [qob]; decide)
    rw [ndC_id] at this
    exact this⟩
   haveI:∀ qs,Rdb F0 w0 ⟨some ⟨xb,20,none⟩,20,20⟩ (qmb xb (ndC n) :: qs) 1 (u8s n.qqf):=fun qs=>⟨fun h=>by
    have:=h.blk.rdAt (o:=20) (n:=20) (c:=20) (by rw [qob]; decide)
    have e:((ndC n).drop 20).take 20=u8s n.qqf:=by
     unfold ndC
     rw [List.drop_append,qz,n.hid,List.drop_eq_nil_of_le (by rw [qz,n.hid]; decide),List.nil_append]
     exact List.take_left' (by rw [qz,n.htr])
    rw [e] at this
    exact this⟩
   refine h.appI (s:=t8) (s2:=⟨some ⟨xb,0+0,none⟩,20,20⟩) (zs:=nB (A.take i)) (ys:=n.id) (k:=.u8) (by rw [n.hid]; omega) fun t8' w h=>?_
   have h:St F0 w0 w (apA t9 (u8s (dG A (gD G) C i)) :: qmb xb (ndC n) :: qib 1 t8' (u8s (nB (A.take i) ++ n.id)) :: clA 1 t10 (u8s (wB (eG A (C.take i)))) :: qib 42 t48 (S.flatMap ndC) :: qib 20 t6 (A.flatMap nmC) :: rdA 1 t7 (u8s (fB A)) :: tmA inV gb G :: ps):=h.sub
   unfold qj.j11
   rw [qgd,cutP_b]
   refine qyc ?_
   refine h.apxR (t:=⟨some ⟨xb,0+20,none⟩,20,20⟩) (ys:=n.qqf) (by rw [n.htr]; decide) (by rw [n.htr]; omega) fun t9' w h=>?_
   refine (h.toB xb).blk.ldPar ?_
   refine numbers.c (s:=t6) (t:=n.par) (A:=A) (P:=pr n) h hA (by omega) (by omega) fun u w hu h=>⟨u,rfl,?_⟩
   have h:St F0 w0 w (qib 1 u (ivs .i64 (nmA A (pr n))) :: qib 1 t9' (u8s (dG A (gD G) C i ++ n.qqf)) :: qmb xb (ndC n) :: qib 1 t8' (u8s (nB (A.take i) ++ n.id)) :: clA 1 t10 (u8s (wB (eG A (C.take i)))) :: qib 42 t48 (S.flatMap ndC) :: qib 20 t6 (A.flatMap nmC) :: rdA 1 t7 (u8s (fB A)) :: tmA inV gb G :: ps):=h
   have huc:=own_cap (by decide) h
   have h:St F0 w0 w (clA 1 t10 (u8s (wB (eG A (C.take i)))) :: qib 1 u (ivs .i64 (nmA A (pr n))) :: qib 1 t9' (u8s (dG A (gD G) C i ++ n.qqf)) :: qmb xb (ndC n) :: qib 1 t8' (u8s (nB (A.take i) ++ n.id)) :: qib 42 t48 (S.flatMap ndC) :: qib 20 t6 (A.flatMap nmC) :: rdA 1 t7 (u8s (fB A)) :: tmA inV gb G :: ps):=h.sub
   refine Build_12 (u:=u) (q:=nmA A (pr n)) (e:=(eG A (C.take i)).length) h huc (by rw [qid]; omega) (qjf _) (by have:=heG i; omega) (nmA_b (by omega)) fun t10' w h=>?_
   rw [← qfj,← heS] at h
   have h:St F0 w0 w (qib 1 t9' (u8s (dG A (gD G) C i ++ n.qqf)) :: qmb xb (ndC n) :: qib 1 t8' (u8s (nB (A.take i) ++ n.id)) :: clA 1 t10' (u8s (wB (eG A (C.take (i+1))))) :: qib 42 t48 (S.flatMap ndC) :: qib 20 t6 (A.flatMap nmC) :: rdA 1 t7 (u8s (fB A)) :: tmA inV gb G :: ps):=h.sub
   refine Build_14 (n:=n) (G:=G) (xb:=xb) h (by rw [List.length_append,n.htr]; omega) hgi hdi fun r w hrc h=>?_
   rw [List.append_assoc,← hdS] at h
   unfold qj.j10
   refine qw (e':=((i+1:Nat):Int)) (by rw [qn (by omega) (by omega)]; rfl) ?_
   refine ⟨⟨rfl,rfl,rfl,rfl,rfl⟩,hin (i+1) _ _ _ _ _ ⟨rfl,by omega,?_⟩ (by omega)⟩
   have e8:nB (A.take (i+1))=nB (A.take i) ++ n.id:=by rw [hA1,nB_snoc]; rfl
   rw [e8]
   exact (h.apR hrc).sub
 · have:i=S.length:=by omega
   subst this
   rw [List.take_of_length_le (by omega),List.take_of_length_le (by omega)] at h
   unfold qj.j7
   refine h.new fun ab w h=>?_
   have h:St F0 w0 w (qmb ab (slB [(t7,fB A),(t8,nB A),(t9,dG A (gD G) C S.length),(t10,wB (eG A C))]) :: _):=h
   haveI:=qoi (F0:=F0) (w0:=w0) (nb:=ab) (n:=4) (l:=slB [(t7,fB A),(t8,nB A),(t9,dG A (gD G) C S.length),(t10,wB (eG A C))]) (ps:=qmb ab (slB [(t7,fB A),(t8,nB A),(t9,dG A (gD G) C S.length),(t10,wB (eG A C))]) :: qib 1 t8 (u8s (nB A)) :: apA t9 (u8s (dG A (gD G) C S.length)) :: clA 1 t10 (u8s (wB (eG A C))) :: qib 42 t48 (S.flatMap ndC) :: qib 20 t6 (A.flatMap nmC) :: rdA 1 t7 (u8s (fB A)) :: tmA inV gb G :: ps) rfl
   have hte:=heG C.length
   rw [List.take_length] at hte
   refine qnb.c (s:=⟨some ⟨ab,0,none⟩,4,4⟩) (s1:=t7) (s2:=t8) (s3:=t9) (s4:=t10) (x1:=fB A) (x2:=nB A) (x3:=dG A (gD G) C S.length) (x4:=wB (eG A C)) h (Nat.le_refl _) (by rw [qvk]; decide) (wB_ok _) (nB_ok _) (dG_ok _ _ _ _) (wB_ok _) ?_ fun t w ht h=>⟨t,rfl,?_⟩
   · rw [qvk,qqk,qtj,qjf]; omega
   have e:chkB ([fB A,nB A,dG A (gD G) C S.length] ++ if (wB (eG A C)).length=0 then [] else [wB (eG A C)])=gB C (gD G):=by
    unfold gB qrd
    rw [hids,hCl]
    by_cases g0:(eG A C).length=0
    · rw [if_pos g0,if_pos (by rw [qjf,g0])]
    · rw [if_neg g0,if_neg (by rw [qjf]; omega)]
   rw [e] at ht h
   exact hk t w ht h.sub
end
end Go.Proofs.YtigmbblgfnkpbaaGreat
namespace Go.Proofs.YtigmbblgfnkpbaaGreat
open Go Go.Proofs
set_option linter.unusedVariables false
set_option linter.unusedSimpArgs false
attribute [local irreducible] apK cpK mkK br qte
theorem wrong_ok (pr:Nd→List Nm) (L:List Nd):wrongN pr L=false ↔ OkC (L.map (cmN pr)):=by
 unfold wrongN
 by_cases hn:(L.map (·.id)).Nodup
 · rw [decide_eq_true hn,Bool.not_true,Bool.false_or]
   have hin:∀ p,inM (rowsN L) p=true ↔ p ∈ (L.map (cmN pr)).map (·.id):=fun p=>by
    rw [inM_map (pr:=pr),← qih,← fC_rows pr hn]
   rw [List.any_eq_false]
   constructor
   · intro h
     have hb:∀ n ∈ L,badN (rowsN L) pr n=false:=fun n hm=>by simpa using h n hm
     refine ⟨by rw [qzg]; exact qag.2 hn,fun c hc=>?_,fun c hc p hp=>?_⟩
     · obtain ⟨n,hm,rfl⟩:=List.mem_map.1 hc
       have:=hb n hm
       unfold badN at this
       simp only [Bool.or_eq_false_iff,decide_eq_false_iff_not] at this
       exact ⟨Int.not_lt.1 this.1,Int.not_le.1 this.2.1⟩
     · obtain ⟨n,hm,rfl⟩:=List.mem_map.1 hc
       have:=hb n hm
       unfold badN at this
       simp only [Bool.or_eq_false_iff] at this
       have h3:=List.any_eq_false.1 this.2.2 p hp
       have h3:inM (rowsN L) p=true:=by simpa using h3
       exact (hin p).1 h3
   · intro h n hm
     have hc:cmN pr n ∈ L.map (cmN pr):=List.mem_map.2 ⟨n,hm,rfl⟩
     have hd:=h.dt _ hc
     have hd:0≤n.date∧n.date < 17179869184:=hd
     unfold badN
     rw [decide_eq_false (by omega),decide_eq_false (by omega),Bool.false_or,Bool.false_or]
     have:((pr n).any fun p=>!inM (rowsN L) p)=false:=List.any_eq_false.2 fun p hp=>by
      have:=(hin p).2 (h.par _ hc p hp)
      simp [this]
     rw [this]; decide
 · rw [decide_eq_false hn]
   constructor
   · intro h; cases h
   · intro h
     exact absurd (qag.1 (by have:=h.nd; rwa [qzg] at this)) hn
theorem wk_names {C:List Cm} {lost:Bool} {O:List Nm} {g:Nm→Int} (h:Wk (fC C) lost O g):∀ q ∈ O,q ∈ C.map (·.id):=fun q hq=>by
 obtain ⟨ps,h1,_⟩:=h.en.dom q hq
 exact qih.1 (by rw [h1]; rfl)
theorem wk_lenC {C:List Cm} {lost:Bool} {O:List Nm} {g:Nm→Int} (h:Wk (fC C) lost O g):O.length≤C.length:=by
 have:=qqg h.nd (wk_names h)
 simpa using this
theorem wk_full {C:List Cm} {lost:Bool} {O:List Nm} {g:Nm→Int} (h:Wk (fC C) lost O g) (hl:C.length≤O.length):∀ q ∈ C.map (·.id),q ∈ O:=by
 intro q hq
 refine Classical.byContradiction fun e=>?_
 have:=qqg (O:=q :: O) (S:=C.map (·.id)) (List.nodup_cons.2 ⟨e,h.nd⟩) fun x hx=>by
  rcases List.mem_cons.1 hx with rfl | hx
  · exact hq
  · exact wk_names h x hx
 simp at this
 omega
theorem wk_gen {C:List Cm} {lost:Bool} {O:List Nm} {g:Nm→Int} (h:Wk (fC C) lost O g) (hl:C.length≤O.length) {c:Cm} (hc:c ∈ C):1≤g c.id∧g c.id≤C.length:=by
 have hO:=wk_full h hl c.id (List.mem_map.2 ⟨c,hc,rfl⟩)
 have:=h.bound h.en h.nd (fun q hq=>hq) c.id hO
 have:=wk_lenC h
 omega
section
variable {F0:List Nat} {w0 w:World} {ps rest:List As} {s t u:Sl} {S L:List Nd} {n:Nd} {pr:Nd→List Nm} {gb:Nat} {G:Rws Int} {K:Ending→World→Prop}
theorem wk_rows (hn:(L.map (·.id)).Nodup) {O:List Nm} (h:WkE (rowsN L) pr true O G):Wk (fC (L.map (cmN pr))) true O (gD G):=by
 have:=h.wk
 rwa [fC_rows pr hn] at this
theorem wkE_le {O:List Nm} (h:WkE (rowsN L) pr true O G):O.length≤G.length:=by
 have:=qqg (O:=O.map (·.1)) (S:=kys G) (by
  have:=h.nd
  unfold List.Nodup at this ⊢
  rw [List.pairwise_map]
  exact this.imp fun hab e=>hab (Nm.ext' e)) fun k hk=>by
   obtain ⟨q,hq,rfl⟩:=List.mem_map.1 hk
   exact (h.keys q).2 hq
 simpa [kys] using this
theorem wkE_len {O:List Nm} (h:WkE (rowsN L) pr true O G) (hok:okE G):O.length=G.length:=by
 refine Nat.le_antisymm (wkE_le h) ?_
 have:=qqg (O:=kys G) (S:=O.map (·.1)) hok.1 fun k hk=>by
  obtain ⟨e,he,rfl⟩:=List.mem_map.1 hk
  exact List.mem_map.2 ⟨⟨e.1,hok.2 e he⟩,(h.keys ⟨e.1,hok.2 e he⟩).1 hk,rfl⟩
 simpa [kys] using this
theorem Build.c (h:St F0 w0 w ps) [Rdb F0 w0 s ps 42 (L.flatMap ndC)] (hL:L.length≤1000000) (hsum:(L.map fun n=>(pr n).length).sum≤200000) (hP:∀ n ∈ L,Rdb F0 w0 n.par ps 20 ((pr n).flatMap nmC))
 (hk1:¬ OkC (L.map (cmN pr))→∀ w',St F0 w0 w' ps→K (.returned (.tuple ⟨[.slice none 0 0,.int .i64 1]⟩)) w')
 (hk2:OkC (L.map (cmN pr))→∀ O g w',Wk (fC (L.map (cmN pr))) true O g→O.length < L.length→St F0 w0 w' ps→K (.returned (.tuple ⟨[.slice none 0 0,.int .i64 12]⟩)) w')
 (hk3:OkC (L.map (cmN pr))→∀ O g w',Wk (fC (L.map (cmN pr))) true O g→L.length≤O.length→1024 < L.length→St F0 w0 w' ps→K (.returned (.tuple ⟨[.slice none 0 0,.int .i64 5]⟩)) w')
 (hk4:OkC (L.map (cmN pr))→∀ O g S t w',Wk (fC (L.map (cmN pr))) true O g→L.length≤O.length→L.length≤1024→S.Perm L→RisN S→(t.len=(gB (S.map (cmN pr)) g).length∧t.cap=t.len) →
   St F0 w0 w' (rdA 1 t (u8s (gB (S.map (cmN pr)) g)) :: ps)→K (.returned (.tuple ⟨[sV t,.int .i64 0]⟩)) w') :
 Calls Tryz.prog 8 ⟨[sV s]⟩ w K:=by
 have hpl:∀ n ∈ L,(pr n).length≤1000000:=fun n hn=>by
  have:(pr n).length≤(L.map fun n=>(pr n).length).sum:=qzf (f:=fun n=>(pr n).length) hn
  omega
 refine qbc (qj.ok _ _ _ ?_)
 unfold qj qj.j1
 refine wrong.c (pr:=pr) (L:=L) h hL hpl hP fun w h=>⟨_,rfl,?_⟩
 refine qqc (fun g=>?_) (fun g=>?_)
 · exact hk1 (fun e=>by have:=(wrong_ok pr L).2 e; rw [this] at g; cases g) w h
 have hok:=(wrong_ok pr L).1 (by simpa using g)
 have hn:(L.map (·.id)).Nodup:=qag.1 (by have:=hok.nd; rwa [qzg] at this)
 refine Generations.c (pr:=pr) (L:=L) h hL (by omega) hP (fun e=>absurd hn e) (fun _ O G w hE hl h=>?_) (fun _ gb O G w hE hl h=>?_)
 · refine ⟨none,12,rfl,?_⟩
   unfold qj.j2
   refine qqc (fun _=>?_) (fun g=>by cases g)
   have:=wkE_le hE
   exact hk2 hok O _ w (wk_rows hn hE) (by omega) h
 · refine ⟨some gb,0,rfl,?_⟩
   have hOG:=wkE_len hE (h.okE gb)
   have hW:=wk_rows hn hE
   unfold qj.j2
   refine qqc (fun g=>by cases g) (fun _=>?_)
   refine nds_Clone.c (s:=s) (L:=L) h hL fun d w hd h=>⟨d,rfl,?_⟩
   unfold qj.j3
   refine SortFunc.c (s:=d) (L:=L) h hL hn fun S w hS hs h=>⟨rfl,?_⟩
   have hdl:=h.rlen (s:=d) (f:=ndC) (L:=S)
   have hSl:=hS.length_eq
   refine qic (fun g=>?_) (fun g=>?_)
   · exact hk3 hok O _ w hW (by omega) (by omega) h.drop.drop
   unfold qj.j4
   refine qkc.c (s:=d) (L:=S) h (by omega) fun t6 w ht6 h=>⟨t6,rfl,?_⟩
   unfold qj.j5
   refine qsb.c (s:=t6) (A:=S.map Nd.nm) h (by rw [List.length_map]; omega) fun w h=>⟨_,rfl,?_⟩
   unfold qj.j20
   refine qif (fun (i:Nat) (t7:Sl) (i':Int) w'=>i'=(i:Int)∧i≤256∧St F0 w0 w' (rdA 1 t7 (u8s (wB ((fanL (S.map Nd.nm)).take i))) :: qib 20 t6 ((S.map Nd.nm).flatMap nmC) :: qib 42 d (S.flatMap ndC) :: tmA inV gb G :: ps)) (fun i=>256 - i) 0 ⟨rfl,Nat.zero_le _,(h.nil 1).ro⟩ ?_
   clear h
   rintro i t7 _ wL I μ ⟨rfl,hi,h⟩ hin
   unfold qj.b3
   refine qic (fun g=>?_) (fun g=>?_)
   · have hi2:i < 256:=by omega
     refine ⟨⟨by omega,by omega⟩,?_⟩
     refine ptI_at (by rw [qyg]; exact hi2) ?_
     refine qmd.d (s:=t7) h (by rw [qjf,List.length_take]; omega) fun t7' w _ _ h=>⟨t7',rfl,?_⟩
     refine qw (e':=((i+1:Nat):Int)) (by rw [qn (by omega) (by omega)]; rfl) ?_
     refine ⟨⟨rfl,rfl,rfl,rfl,rfl,rfl,rfl⟩,hin (i+1) _ _ _ ⟨rfl,by omega,?_⟩ (by omega)⟩
     rw [qjg (by rw [qyg]; exact hi2),qfj,qpk]
     exact h.tail fun _ _ _ h=>h.drop
   · have:i=256:=by omega
     subst this
     rw [List.take_of_length_le (by rw [qyg]; exact Nat.le_refl _)] at h
     have hm:∀ n,n ∈ S→n ∈ L:=fun n hn=>hS.mem_iff.1 hn
     have hsumS:(S.map fun n=>(pr n).length).sum≤200000:=by
      rw [(hS.map fun n=>(pr n).length).sum_nat]; exact hsum
     have h:St F0 w0 wL (rdA 1 t7 (u8s (fB (S.map Nd.nm))) :: qib 20 t6 ((S.map Nd.nm).flatMap nmC) :: qib 42 d (S.flatMap ndC) :: tmA inV gb G :: ps):=h
     unfold qj.j6
     refine Build_8 (ps:=ps) (pr:=pr) (S:=S) (G:=G) (gb:=gb) (t7:=t7) (t6:=t6) (t48:=d) (Q:=fun v w'=>K (.returned v) w') h.sub (by omega) hs hsumS (fun n hn=>hP n (hm n hn)) (fun n hn=>?_) (fun n hn=>?_) fun t w ht h=>?_
     · exact hok.dt _ (List.mem_map.2 ⟨n,hm n hn,rfl⟩)
     · have:=wk_gen hW (by rw [List.length_map]; omega) (List.mem_map.2 ⟨n,hm n hn,rfl⟩)
       rw [List.length_map] at this
       have e:(cmN pr n).id=n.nm:=rfl
       rw [e] at this
       omega
     · exact hk4 hok O _ S t w hW (by omega) (by omega) hS hs ht h
end
end Go.Proofs.YtigmbblgfnkpbaaGreat
namespace Go.Proofs.YtigmbblgfnkpbaaGreat
open Go Go.Proofs
set_option linter.unusedVariables false
set_option linter.unusedSimpArgs false
attribute [local irreducible] apK cpK mkK br qte
section
variable {F0:List Nat} {w0 w:World} {ps rest:List As} {s t u:Sl} {xs:List Int} {S L:List Nd} {n:Nd} {pr:Nd→List Nm} {K:Ending→World→Prop}
theorem qdi.c {v:Int} {n:Nat} (h:St F0 w0 w (qib 1 s (u8s xs) :: ps)) (hL:xs.length≤1000000000) (hv:0≤v∧v < 9223372036854775808) (hn:n≤8)
 (hk:∀ s' w',St F0 w0 w' (qib 1 s' (u8s (xs ++ beJ n n v)) :: ps)→K (.returned (sV s')) w'):Calls Tryz.prog 67 ⟨[sV s,.int .i64 v,.int .i64 (n:Int)]⟩ w K:=by
 refine qbc (qxb.ok _ _ _ _ _ ?_)
 unfold qxb
 refine qw (e':=v) (by rw [qbe]; omega) ?_
 unfold qxb.j1
 refine qw (qn (by omega) (by omega)) ?_
 unfold qxb.j3
 refine qif (fun (j:Nat) (o:Sl) (i':Int) w'=>i'=(n:Int) - 1 - j∧j≤n∧St F0 w0 w' (qib 1 o (u8s (xs ++ beJ n j v)) :: ps)) (fun j=>n - j) 0 ⟨by omega,Nat.zero_le _,by simpa [beJ] using h⟩ ?_
 clear h
 rintro j o _ wL I μ ⟨rfl,hj,h⟩ hin
 unfold qxb.b1
 refine qic (fun g=>?_) (fun g=>?_)
 · refine qw (e':=((n - 1 - j:Nat):Int)) (by rw [qbe]; omega) ?_
   refine qw (e':=((8 * (n - 1 - j):Nat):Int)) (by rw [qbe]; omega) ?_
   refine ⟨by omega,?_⟩
   refine qw (qug .u64 _ (show 8 * (n - 1 - j)≤64 by omega)) ?_
   refine qw (qlh _) ?_
   refine h.pushI (s:=o) (by rw [List.length_append,qec]; omega) fun o2 w h=>?_
   refine qw (qn (by omega) (by omega)) ?_
   refine ⟨rfl,hin (j+1) _ _ _ ⟨by omega,by omega,?_⟩ (by omega)⟩
   rw [qjl,← List.append_assoc]
   exact h
 · have:j=n:=by omega
   subst this
   unfold qxb.j2
   exact hk o wL h
end
theorem atD_pos {S:List Nd} (hris:RisN S) {p:Nm} (hp:p ∈ S.map Nd.nm):atD S p=(qxg (S.map Nd.nm) p:Int):=by
 have h0:0≤atD S p:=Classical.byContradiction fun e=>qnk.1 (by omega) hp
 obtain ⟨hj,e⟩:=atD_get h0
 have hA:Ris (S.map Nd.nm):=by
  unfold Ris
  rw [List.pairwise_map]
  exact hris
 have:=pos_at hA (i:=(atD S p).toNat) (by rw [List.length_map]; exact hj)
 rw [List.getElem_map,e] at this
 omega
theorem nmA_get {A P:List Nm} {k:Nat} (h:k < P.length):(nmA A P).getD k 0=(qxg A P[k]:Int):=by
 unfold nmA
 rw [List.getD_eq_getElem?_getD,List.getElem?_map,List.getElem?_eq_getElem h]
 rfl
theorem edw_get {q:List Int} {k:Nat} (hq:2 < q.length) (h1:1≤k) (hk:k < q.length):(edw q).take k=(edw q).take (k - 1) ++ [if k=q.length - 1 then q.getD k 0+2147483648 else q.getD k 0]:=by
 obtain ⟨k,rfl⟩:∃ m,k=m+1:=⟨k - 1,by omega⟩
 have hl:(edw q).length=q.length - 1:=by rw [qjk,if_pos hq]
 rw [Nat.add_sub_cancel,qjg (by omega)]
 congr 2
 unfold edw
 rw [if_pos hq,List.getD_eq_getElem?_getD]
 have hdl:(q.drop 1).dropLast.length=q.length - 2:=by rw [List.length_dropLast,List.length_drop]; omega
 by_cases g:k+1=q.length - 1
 · rw [if_pos g,List.getElem?_append_right (by omega),show k - (q.drop 1).dropLast.length=0 by omega,← g]
   rfl
 · rw [if_neg g,List.getElem?_append_left (by omega),List.getElem?_dropLast,if_pos (by rw [List.length_drop]; omega),List.getElem?_drop,List.getD_eq_getElem?_getD,Nat.add_comm 1 k]
end Go.Proofs.YtigmbblgfnkpbaaGreat
namespace Go.Proofs.YtigmbblgfnkpbaaGreat
open Go Go.Proofs
set_option linter.unusedVariables false
set_option linter.unusedSimpArgs false
attribute [local irreducible] apK cpK mkK br qte
abbrev grR (t u:Sl):List Value:=[.slice t.a t.len t.cap,.slice u.a u.len u.cap]
section
variable {F0:List Nat} {w0 w:World} {ps rest:List As} {s t u:Sl} {xs E q:List Int} {S L:List Nd} {n:Nd} {P:List Nm} {g:Nm→Int} {gb xb i:Nat} {t3 t4 t5:Sl}
 {Q:VWP} {nx4:OAd→Sl→Sl→Sl→Int→World→Prop}
theorem ref_21 {a b:Int} (h:St F0 w0 w (qib 1 t4 (u8s xs) :: qmb xb (ndC n) :: ps)) [PkB gb ps (grR t u) rest] [Rdb F0 w0 u ps 1 (ivs .i64 (S.map fun n=>g n.nm))] (hx:xs.length≤1000000) (hi:i < S.length) (hn:n=S[i])
 (ha:0≤a∧a < 9223372036854775808) (hb:0≤b∧b < 9223372036854775808) (hg:0≤g n.nm∧g n.nm≤1000000) (hd:0≤n.date∧n.date < 17179869184)
 (hk:∀ r w',St F0 w0 w' (qib 1 r (u8s (xs ++ (beJ 4 4 a ++ (beJ 4 4 b ++ beJ 8 8 (g n.nm * 17179869184+n.date))))) :: qmb xb (ndC n) :: ps)→qc.j16 (some ⟨gb,0,none⟩) t3 r t5 (i:Int) Q nx4 w') :
 qc.j21 (some ⟨gb,0,none⟩) t3 t4 t5 (i:Int) ⟨xb,0,none⟩ a b Q nx4 w:=by
 unfold qc.j21
 refine qdi.c (s:=t4) (n:=4) h (by omega) ha (by decide) fun r1 w h=>⟨r1,rfl,?_⟩
 refine qdi.c (s:=r1) (n:=4) h (by rw [List.length_append,qec]; omega) hb (by decide) fun r2 w h=>⟨r2,rfl,?_⟩
 refine h.drewK fun w h=>?_
 refine qzd (h.gL (b:=gb) ?_)
 have hgi:(S.map fun n:Nd=>g n.nm).getD i 0=g n.nm:=by
  rw [List.getD_eq_getElem?_getD,List.getElem?_map,List.getElem?_eq_getElem hi,hn]
  rfl
 refine h.lx (s:=u) (zs:=S.map fun n:Nd=>g n.nm) i rfl (by rw [List.length_map]; exact hi) ?_
 rw [hgi]
 refine ⟨by decide,qw (shl_gen hg) ?_⟩
 refine (h.toB xb).blk.ldDate ?_
 refine qw (or_date hg hd) ?_
 refine qdi.c (s:=r2) (n:=8) h (by rw [List.length_append,List.length_append,qec,qec]; omega) (by omega) (by decide) fun r3 w h=>⟨r3,rfl,?_⟩
 refine hk r3 w ?_
 rw [List.append_assoc,List.append_assoc] at h
 exact h
theorem ref_23 {a b:Int} (h:St F0 w0 w (qib 1 t5 (u8s E) :: qmb xb (ndC n) :: ps)) [PkB gb ps (grR t u) rest] [Rdb F0 w0 t ps 42 (S.flatMap ndC)] [Rdb F0 w0 n.par ps 20 (P.flatMap nmC)] (hS:S.length≤1000000) (hris:RisN S) (hP:∀ p ∈ P,p ∈ S.map Nd.nm) (hPl:P.length≤1000000) (h2:2 < P.length) (hE:E.length≤10000000)
 (hk:∀ t5' w',St F0 w0 w' (qib 1 t5' (u8s (E ++ wB (edw (nmA (S.map Nd.nm) P)))) :: qmb xb (ndC n) :: ps)→qc.j21 (some ⟨gb,0,none⟩) t3 t4 t5' (i:Int) ⟨xb,0,none⟩ a b Q nx4 w') :
 qc.j23 (some ⟨gb,0,none⟩) t3 t4 t5 (i:Int) ⟨xb,0,none⟩ a b 1 Q nx4 w:=by
 have hpl:=h.rlen (s:=n.par) (f:=nmC) (L:=P)
 have hql:(nmA (S.map Nd.nm) P).length=P.length:=qid _ _
 have hel:(edw (nmA (S.map Nd.nm) P)).length=P.length - 1:=by rw [qjk,if_pos (by omega),hql]
 unfold qc.j23
 refine qif (fun (k:Nat) (o:Sl) (k':Int) w'=>k'=(k:Int)∧1≤k∧k≤P.length∧St F0 w0 w' (qib 1 o (u8s (E ++ wB ((edw (nmA (S.map Nd.nm) P)).take (k - 1)))) :: qmb xb (ndC n) :: ps)) (fun k=>P.length - k) 1 ⟨rfl,Nat.le_refl _,by omega,by simpa [wB] using h⟩ ?_
 clear h
 rintro k o _ wL I μ ⟨rfl,hk1,hk2,h⟩ hin
 have hwl:(E ++ wB ((edw (nmA (S.map Nd.nm) P)).take (k - 1))).length≤100000000:=by rw [List.length_append,qjf,List.length_take]; omega
 unfold qc.b5
 refine (h.toB xb).blk.ldPar ?_
 refine qic (fun g2=>?_) (fun g2=>?_)
 · have hkx:k < P.length:=by omega
   refine h.drewK fun w h=>?_
   refine qzd (h.gL (b:=gb) ?_)
   refine (h.toB xb).blk.ldPar ?_
   refine h.lr (s:=n.par) (f:=nmC) (L:=P) k rfl hkx ?_
   refine qnj.c (s:=t) (L:=S) (q:=P[k]) h hS fun w h=>⟨_,rfl,?_⟩
   rw [atD_pos hris (hP _ (List.getElem_mem hkx)),← nmA_get hkx]
   have hv:=nmA_b (A:=S.map Nd.nm) (P:=P) (by rw [List.length_map]; exact hS) _ (qsf (i:=k) (by omega))
   have hsn:=edw_get (q:=nmA (S.map Nd.nm) P) (k:=k) (by omega) hk1 (by omega)
   generalize (nmA (S.map Nd.nm) P).getD k 0=v at hv hsn ⊢
   refine (h.toB xb).blk.ldPar ?_
   refine qw (e':=((P.length - 1:Nat):Int)) (by rw [qn (by omega) (by omega)]; omega) ?_
   have nxt:∀ r w,St F0 w0 w (qib 1 r (u8s (E ++ wB ((edw (nmA (S.map Nd.nm) P)).take k))) :: qmb xb (ndC n) :: ps)→lt (IntKind.i64.wrap ((k:Int)+1)) fun x=>(some (⟨gb,0,none⟩:Addr)=some ⟨gb,0,none⟩∧t3=t3∧t4=t4∧(i:Int)=(i:Int)∧(⟨xb,0,none⟩:Addr)=⟨xb,0,none⟩∧a=a∧b=b)∧I r x w∧μ r x w < μ o (k:Int) wL:=fun r w h=>by
    refine qw (e':=((k+1:Nat):Int)) (by rw [qn (by omega) (by omega)]; rfl) ?_
    refine ⟨⟨rfl,rfl,rfl,rfl,rfl,rfl,rfl⟩,hin (k+1) _ _ _ ⟨rfl,by omega,by omega,?_⟩ (by omega)⟩
    rw [Nat.add_sub_cancel]
    exact h
   refine qqc (fun g3=>?_) (fun g3=>?_)
   · have g3:k=P.length - 1:=by
      have:(k:Int)=((P.length - 1:Nat):Int):=by simpa using g3
      omega
     rw [hql,if_pos g3] at hsn
     obtain ⟨m,rfl⟩:∃ m:Nat,v=m:=⟨v.toNat,by omega⟩
     refine qw (e':=(m:Int)+2147483648) (by rw [qdl,or_high (by omega)]; omega) ?_
     refine qdi.c (s:=o) (n:=4) h (by omega) (by omega) (by decide) fun r w h=>⟨r,rfl,nxt r w ?_⟩
     rw [hsn,qfj,qpk,← List.append_assoc]
     exact h
   · have g3:¬ k=P.length - 1:=by
      have:¬ (k:Int)=((P.length - 1:Nat):Int):=by simpa using g3
      omega
     rw [hql,if_neg g3] at hsn
     refine qdi.c (s:=o) (n:=4) h (by omega) (by omega) (by decide) fun r w h=>⟨r,rfl,nxt r w ?_⟩
     rw [hsn,qfj,qpk,← List.append_assoc]
     exact h
 · have:k=P.length:=by omega
   subst this
   rw [List.take_of_length_le (by omega)] at h
   exact hk o wL h
theorem ref_18 (h:St F0 w0 w (qib 1 t4 (u8s xs) :: qib 1 t5 (u8s E) :: qmb xb (ndC n) :: ps)) [PkB gb ps (grR t u) rest] [Rdb F0 w0 t ps 42 (S.flatMap ndC)] [Rdb F0 w0 u ps 1 (ivs .i64 (S.map fun n=>g n.nm))] [Rdb F0 w0 n.par ps 20 (P.flatMap nmC)] (hS:S.length≤1000000) (hris:RisN S) (hP:∀ p ∈ P,p ∈ S.map Nd.nm) (hPl:P.length≤1000000)
 {e:Nat} (hEe:E.length=4 * e) (he:e≤1000000) (hx:xs.length≤1000000) (hi:i < S.length) (hn:n=S[i]) (hg:0≤g n.nm∧g n.nm≤1000000) (hd:0≤n.date∧n.date < 17179869184)
 (hk:∀ r t5' w',St F0 w0 w' (qib 1 r (u8s (xs ++ (beJ 4 4 (numA (nmA (S.map Nd.nm) P)) ++ (beJ 4 4 (numB e (nmA (S.map Nd.nm) P)) ++ beJ 8 8 (g n.nm * 17179869184+n.date))))) :: qib 1 t5' (u8s (E ++ wB (edw (nmA (S.map Nd.nm) P)))) :: qmb xb (ndC n) :: ps)→qc.j16 (some ⟨gb,0,none⟩) t3 r t5' (i:Int) Q nx4 w') :
 qc.j18 (some ⟨gb,0,none⟩) t3 t4 t5 (i:Int) ⟨xb,0,none⟩ 1879048192 Q nx4 w:=by
 have hpl:=h.rlen (s:=n.par) (f:=nmC) (L:=P)
 have hql:(nmA (S.map Nd.nm) P).length=P.length:=qid _ _
 have hv:∀ k,k < P.length→0≤(nmA (S.map Nd.nm) P).getD k 0∧(nmA (S.map Nd.nm) P).getD k 0 < 2147483648:=fun k hk=>nmA_b (by rw [List.length_map]; exact hS) _ (qsf (by omega))
 have hat:∀ k (hk:k < P.length),atD S P[k]=(nmA (S.map Nd.nm) P).getD k 0:=fun k hk=>by rw [atD_pos hris (hP _ (List.getElem_mem hk)),nmA_get hk]
 have hnA:0≤numA (nmA (S.map Nd.nm) P)∧numA (nmA (S.map Nd.nm) P) < 9223372036854775808:=by
  unfold numA
  split
  · have:=hv 0 (by omega); omega
  · omega
 have h20:∀ w b,b=numB e (nmA (S.map Nd.nm) P) ∨ 2 < P.length→(0≤b∧b < 9223372036854775808)→St F0 w0 w (qib 1 t4 (u8s xs) :: qib 1 t5 (u8s E) :: qmb xb (ndC n) :: ps)→qc.j20 (some ⟨gb,0,none⟩) t3 t4 t5 (i:Int) ⟨xb,0,none⟩ (numA (nmA (S.map Nd.nm) P)) b Q nx4 w:=fun w b hb hbb h=>by
  unfold qc.j20
  refine (h.toB xb).blk.ldPar ?_
  unfold qc.j22
  have h5:=h.drop.len
  rw [qlb,Nat.mul_one] at h5
  refine qic (fun g2=>?_) (fun g2=>?_)
  · refine ⟨by decide,?_⟩
    have e1:Int.tdiv (t5.len:Int) 4=(e:Int):=by
     rw [Int.tdiv_eq_ediv_of_nonneg (by omega)]
     omega
    refine qw (e':=(e:Int)) (by rw [e1,qn (by omega) (by omega)]) ?_
    refine qw (or_high (by omega)) ?_
    have h:St F0 w0 w (qib 1 t5 (u8s E) :: qmb xb (ndC n) :: qib 1 t4 (u8s xs) :: ps):=h.sub
    refine ref_23 (t:=t) (u:=u) (S:=S) (n:=n) (P:=P) h hS hris hP hPl (by omega) (by omega) fun t5' w h=>?_
    have h:St F0 w0 w (qib 1 t4 (u8s xs) :: qmb xb (ndC n) :: qib 1 t5' (u8s (E ++ wB (edw (nmA (S.map Nd.nm) P)))) :: ps):=h.sub
    have eb:2147483648+(e:Int)=numB e (nmA (S.map Nd.nm) P):=by unfold numB; rw [if_neg (by omega),if_pos (by omega)]
    rw [eb]
    exact ref_21 (S:=S) (g:=g) (t:=t) (u:=u) h hx hi hn hnA (by omega) hg hd fun r w h=>hk r t5' w h.sub
  · have hb:=hb.resolve_right (by omega)
    subst hb
    have h:St F0 w0 w (qib 1 t4 (u8s xs) :: qmb xb (ndC n) :: qib 1 t5 (u8s E) :: ps):=h.sub
    refine ref_21 (S:=S) (g:=g) (t:=t) (u:=u) h hx hi hn hnA hbb hg hd fun r w h=>hk r t5 w ?_
    rw [edw_nil (by omega)]
    simp only [wB,List.flatMap_nil,List.append_nil]
    exact h.sub
 have h19:∀ w,St F0 w0 w (qib 1 t4 (u8s xs) :: qib 1 t5 (u8s E) :: qmb xb (ndC n) :: ps)→qc.j19 (some ⟨gb,0,none⟩) t3 t4 t5 (i:Int) ⟨xb,0,none⟩ (numA (nmA (S.map Nd.nm) P)) 1879048192 Q nx4 w:=fun w h=>by
  unfold qc.j19
  refine (h.toB xb).blk.ldPar ?_
  refine qqc (fun g2=>?_) (fun g2=>?_)
  · have g2:P.length=2:=by
     have:(n.par.len:Int)=2:=by simpa using g2
     omega
    refine h.drewK fun w h=>?_
    refine qzd (h.gL (b:=gb) ?_)
    refine (h.toB xb).blk.ldPar ?_
    refine h.lr (s:=n.par) (f:=nmC) (L:=P) 1 rfl (by omega) ?_
    refine qnj.c (s:=t) (L:=S) (q:=P[1]) h hS fun w h=>⟨_,rfl,?_⟩
    rw [hat 1 (by omega)]
    have:=hv 1 (by omega)
    exact h20 w _ (Or.inl (by unfold numB; rw [if_pos (by omega)])) (by omega) h
  · have g2:¬ P.length=2:=by
     have:¬ (n.par.len:Int)=2:=by simpa using g2
     omega
    refine h20 w _ ?_ (by omega) h
    by_cases g3:2 < P.length
    · exact Or.inr g3
    · exact Or.inl (by unfold numB; rw [if_neg (by omega),if_neg (by omega)])
 unfold qc.j18
 refine (h.toB xb).blk.ldPar ?_
 refine qic (fun g2=>?_) (fun g2=>?_)
 · refine h.drewK fun w h=>?_
   refine qzd (h.gL (b:=gb) ?_)
   refine (h.toB xb).blk.ldPar ?_
   refine h.lr (s:=n.par) (f:=nmC) (L:=P) 0 rfl (by omega) ?_
   refine qnj.c (s:=t) (L:=S) (q:=P[0]) h hS fun w h=>⟨_,rfl,?_⟩
   rw [hat 0 (by omega)]
   have e:numA (nmA (S.map Nd.nm) P)=(nmA (S.map Nd.nm) P).getD 0 0:=by unfold numA; rw [if_pos (by omega)]
   rw [← e]
   exact h19 w h
 · have e:numA (nmA (S.map Nd.nm) P)=1879048192:=by unfold numA; rw [if_neg (by omega)]
   have:=h19 w h
   rw [e] at this
   exact this
end
end Go.Proofs.YtigmbblgfnkpbaaGreat
namespace Go.Proofs.YtigmbblgfnkpbaaGreat
open Go Go.Proofs
set_option linter.unusedVariables false
set_option linter.unusedSimpArgs false
attribute [local irreducible] apK cpK mkK br qte
instance elt_str:Elt Tryz.prog 9 (.string ⟨#[]⟩):=⟨⟨Tryz.t9,by kernel_rfl,rfl,by decide,by decide⟩,by kernel_rfl⟩
theorem zc_20b:zc Tryz.prog 23=⟨ivs .u8 z20⟩:=by kernel_rfl
theorem Rd.recS {α:Type} {f:α→List Value} {sz c:Nat} [i:Rec f sz] {w:World} {s:Sl} {L:List α} (h:Rd w sz s (L.flatMap f)) {a0:Addr} (ha:s.a=some a0) {j:Nat} (hj:j < L.length):Rd w 1 ⟨some (a0.add (j * sz)),sz,c⟩ (f L[j]):=by
 refine ⟨by rw [i.len]; exact (Nat.mul_one _).symm,fun o ho=>⟨_,rfl,?_⟩⟩
 rw [i.len] at ho
 exact h.rcell ha hj ho
theorem ldS_c {w:World} {a:Addr} {n:ByteArray} {K:ByteArray→Prop} (hc:w.cell? a=some (.string n)) (hk:K n):ldS w a K:=⟨n,hc,hk⟩
theorem Rd.atS {w:World} {s:Sl} {l:List Value} {i:Int} {n:ByteArray} {K:ByteArray→Prop} (h:Rd w 1 s l) (j:Nat) (hi:i=j) (hj:l[j]?=some (.string n)) (hk:K n):ixS s.a s.len i 1 fun a=>ldS w a K:=by
 subst hi
 have hl:=h.1
 have hjl:j < l.length:=(List.getElem?_eq_some_iff.1 hj).1
 refine h.ix (by decide) (by omega) (by omega) fun a ha=>?_
 rw [show ((j:Int)).toNat * 1=j by omega]
 exact ldS_c (by rw [h.cell ha hjl]; exact hj) hk
theorem qkk (A:List Nm) (g:Nm→Int) (C:List Cm):(qrd A g C).flatten=fB A ++ nB A ++ dG A g C C.length ++ wB (eG A C):=by
 unfold qrd
 by_cases h:(eG A C).length=0
 · rw [if_pos h,List.eq_nil_of_length_eq_zero h]
   simp [wB]
 · rw [if_neg h]
   simp
theorem qfm (A:List Nm) (g:Nm→Int) (C:List Cm):(qrd A g C).length=if (eG A C).length=0 then 3 else 4:=by
 unfold qrd
 split <;> simp
section
variable {F0:List Nat} {w0 w:World} {ps rest:List As} {s t u:Sl} {xs:List Int} {S L:List Nd} {C:List Cm} {A:List Nm} {n:Nd} {P:List Nm} {g:Nm→Int} {gb xb i:Nat} {t3 t4 t5 t12 t13:Sl} {l:List (List Int)}
 {Q:VWP}
theorem ref_5 (h:St F0 w0 w (qib 1 t12 ((wrdS.take l.length).map Value.string) :: qib 1 t13 (ivs .i64 (l.map fun x:List Int=>(x.length:Int))) :: ps)) [Rdb F0 w0 t3 ps 20 (A.flatMap nmC)] [Rdb F0 w0 t4 ps 1 (u8s (dG A g C C.length))] [Rdb F0 w0 t5 ps 1 (u8s (wB (eG A C)))] (hl:l=qrd A g C) (hA:A.length=C.length) (hC:C.length≤1024) (he:(eG A C).length≤200000)
 (hk:∀ t w',t.len=(chkB l).length→St F0 w0 w' (qib 1 t (u8s (chkB l)) :: ps)→Q (sV t) w') :
 qc.j5 t3 t4 t5 t12 t13 Q w:=by
 have hfl:l.flatten=fB A ++ nB A ++ dG A g C C.length ++ wB (eG A C):=by rw [hl]; exact qkk A g C
 have hll:l.length≤4:=by rw [hl,qfm]; split <;> omega
 have h12:=h.len
 rw [List.length_map,List.length_take,Nat.mul_one] at h12
 have h12:l.length=t12.len:=by
  have:min l.length wrdS.length=min l.length 4:=rfl
  omega
 have hfll:l.flatten.length≤900000:=by
  rw [hfl,List.length_append,List.length_append,List.length_append,qvk,qqk,qtj,qjf]
  omega
 have ho:∀ i,ofs l i≤1000000:=fun i=>by
  unfold ofs
  have:l.flatten=(l.take i).flatten ++ (l.drop i).flatten:=by rw [← List.flatten_append,List.take_append_drop]
  have h2:=congrArg List.length this
  rw [List.length_append] at h2
  omega
 unfold qc.j5
 refine h.new fun cb w h=>?_
 have h:St F0 w0 w (qmb cb (u8s [67,71,80,72]) :: qib 1 t12 ((wrdS.take l.length).map Value.string) :: qib 1 t13 (ivs .i64 (l.map fun x:List Int=>(x.length:Int))) :: ps):=h
 refine h.str (n:=4) rfl fun w h=>?_
 refine qw (e':=(l.length:Int)) (by rw [qlh]; omega) ?_
 refine h.new fun nb w h=>?_
 have h:St F0 w0 w (qmb nb (u8s [1,1,(l.length:Int),0]) :: rdA 1 ⟨some ⟨cb,0,none⟩,4,4⟩ (u8s [67,71,80,72]) :: qib 1 t12 ((wrdS.take l.length).map Value.string) :: qib 1 t13 (ivs .i64 (l.map fun x:List Int=>(x.length:Int))) :: ps):=h
 haveI:Rdb F0 w0 ⟨some ⟨nb,0,none⟩,4,4⟩ (qmb nb (u8s [1,1,(l.length:Int),0]) :: rdA 1 ⟨some ⟨cb,0,none⟩,4,4⟩ (u8s [67,71,80,72]) :: qib 1 t12 ((wrdS.take l.length).map Value.string) :: qib 1 t13 (ivs .i64 (l.map fun x:List Int=>(x.length:Int))) :: ps) 1 (u8s [1,1,(l.length:Int),0]):=qoi rfl
 refine St.appF (s:=⟨some ⟨cb,0,none⟩,4,4⟩) (s2:=⟨some ⟨nb,0,none⟩,4,4⟩) (zs:=[67,71,80,72]) (ys:=[1,1,(l.length:Int),0]) (k:=.u8) h rfl (by show 0 < 4; decide) (by show 4+4≤_; decide) fun o w h=>?_
 have h:St F0 w0 w (qib 1 o (u8s (hdB l.length ++ tb l 0)) :: qib 1 t12 ((wrdS.take l.length).map Value.string) :: qib 1 t13 (ivs .i64 (l.map fun x:List Int=>(x.length:Int))) :: ps):=by
  have e:hdB l.length ++ tb l 0=hdB l.length:=by simp [tb]
  rw [e]
  exact h.tail fun _ _ _ h=>h.drop.drop
 refine qw (e':=(l.length:Int)+1) (by rw [qn (by omega) (by omega)]; omega) ?_
 refine qw (qn (by omega) (by omega)) ?_
 refine qw (e':=(ofs l 0:Int)) (by rw [qn (by omega) (by omega)]; unfold ofs; simp; omega) ?_
 unfold qc.j6 qc.j13
 refine loop3 (fun (i:Nat) (o:Sl) (a i':Int) w'=>i'=(i:Int)∧i≤l.length∧a=(ofs l i:Int)∧St F0 w0 w' (qib 1 o (u8s (hdB l.length ++ tb l i)) :: qib 1 t12 ((wrdS.take l.length).map Value.string) :: qib 1 t13 (ivs .i64 (l.map fun x:List Int=>(x.length:Int))) :: ps)) (fun i=>l.length - i) 0 ⟨rfl,Nat.zero_le _,rfl,h⟩ ?_
 clear h
 rintro i o _ _ wL I μ ⟨rfl,hi,rfl,h⟩ hin
 have htl:=tb_len l (i:=i) (by omega)
 have hxl:(hdB (l.length:Int) ++ tb l i).length≤100:=by rw [List.length_append,htl]; show 8+_≤_; omega
 have hoi:=ho i
 unfold qc.b3
 refine qic (fun g2=>?_) (fun g2=>?_)
 · have hix:i < l.length:=by omega
   obtain ⟨hw,hc,hs⟩:=qsm i (by omega)
   refine (h.rdb t12).atS i rfl (n:=wrdS[i]) ?_ ⟨rfl,?_⟩
   · rw [List.getElem?_map,List.getElem?_take,if_pos hix,List.getElem?_eq_getElem hw]; rfl
   rw [hc,hs]
   refine qyc ?_
   refine St.apx (ys:=wrdB.getD i []) h.apO rfl (qbl (by omega)) (by decide) (by omega) fun o2 w h=>?_
   refine qdi.c (s:=o2) (n:=8) h (by rw [List.length_append,qbl (by omega)]; omega) (by omega) (by decide) fun o3 w h=>⟨o3,rfl,?_⟩
   have hoi2:=ho (i+1)
   have hos:=ofs_succ (l:=l) (i:=i) hix
   refine h.lx (s:=t13) (zs:=l.map fun x:List Int=>(x.length:Int)) i rfl (by rw [List.length_map]; exact hix) ?_
   have hsz:(l.map fun x:List Int=>(x.length:Int)).getD i 0=(l[i].length:Int):=by
    rw [List.getD_eq_getElem?_getD,List.getElem?_map,List.getElem?_eq_getElem hix]; rfl
   rw [hsz]
   refine qw (e':=(ofs l (i+1):Int)) (by rw [qn (by omega) (by omega)]; omega) ?_
   refine qw (e':=((i+1:Nat):Int)) (by rw [qn (by omega) (by omega)]; rfl) ?_
   refine ⟨⟨rfl,rfl,rfl,rfl,rfl⟩,hin (i+1) _ _ _ _ ⟨rfl,by omega,rfl,?_⟩ (by omega)⟩
   rw [qxj,← List.append_assoc,← List.append_assoc]
   exact h
 · have:i=l.length:=by omega
   subst this
   unfold qc.j7
   refine h.new fun zb w h=>?_
   have h:St F0 w0 w (qmb zb (u8s [0,0,0,0]) :: qib 1 o (u8s (hdB l.length ++ tb l l.length)) :: qib 1 t12 ((wrdS.take l.length).map Value.string) :: qib 1 t13 (ivs .i64 (l.map fun x:List Int=>(x.length:Int))) :: ps):=h
   have h:St F0 w0 w (apA o (u8s (hdB l.length ++ tb l l.length)) :: qmb zb (u8s [0,0,0,0]) :: ps):=h.at1.apO.tail fun _ _ _ h=>h.tail fun _ _ _ h=>h.drop.drop
   haveI:Rdb F0 w0 ⟨some ⟨zb,0,none⟩,4,4⟩ (apA o (u8s (hdB l.length ++ tb l l.length)) :: qmb zb (u8s [0,0,0,0]) :: ps) 1 (u8s [0,0,0,0]):=qoi rfl
   refine St.apxR (t:=⟨some ⟨zb,0,none⟩,4,4⟩) (ys:=[0,0,0,0]) h (by show 0 < 4; decide) (by show _+4≤_; omega) fun o2 w h=>?_
   refine qdi.c (s:=o2) (n:=8) h (by rw [List.length_append]; show _+4≤_; omega) (by omega) (by decide) fun o3 w h=>⟨o3,rfl,?_⟩
   have hX:(hdB (l.length:Int) ++ tb l l.length ++ [0,0,0,0] ++ beJ 8 8 (ofs l l.length)).length≤200:=by
    rw [List.length_append,List.length_append,qec]
    show _+4+8≤_
    omega
   have hpre:hdB (l.length:Int) ++ tb l l.length ++ [0,0,0,0] ++ beJ 8 8 (ofs l l.length) ++ l.flatten=qkh l:=rfl
   generalize hdB (l.length:Int) ++ tb l l.length ++ [0,0,0,0] ++ beJ 8 8 (ofs l l.length)=X at h hX hpre
   have h:St F0 w0 w (qib 1 o3 (u8s X) :: ps):=h.tail fun _ _ _ h=>h.drop
   refine ref_Fanout.c (s:=t3) (A:=A) h (by omega) fun tf w htf h=>⟨tf,rfl,?_⟩
   unfold qc.j8 qc.j12
   refine qif (fun (i:Nat) (o:Sl) (i':Int) w'=>i'=(i:Int)∧i≤256∧St F0 w0 w' (qib 1 o (u8s (X ++ wB ((fanL A).take i))) :: qib 1 tf (ivs .i64 (fanL A)) :: ps)) (fun i=>256 - i) 0 ⟨rfl,Nat.zero_le _,by simpa [wB] using h.at1⟩ ?_
   clear h
   rintro i o _ wM I2 μ2 ⟨rfl,hi2,h⟩ hnx
   unfold qc.b2
   refine qic (fun g3=>?_) (fun g3=>?_)
   · have hi3:i < 256:=by omega
     refine h.lx (s:=tf) (zs:=fanL A) i rfl (by rw [qyg]; exact hi3) ?_
     have hfv:0≤(fanL A).getD i 0∧(fanL A).getD i 0≤1024:=by
      unfold fanL
      rw [qcf hi3]
      have:qni A i≤A.length:=List.countP_le_length
      omega
     refine qdi.c (s:=o) (n:=4) h (by rw [List.length_append,qjf,List.length_take]; omega) (by omega) (by decide) fun o2 w h=>⟨o2,rfl,?_⟩
     refine qw (e':=((i+1:Nat):Int)) (by rw [qn (by omega) (by omega)]; rfl) ?_
     refine ⟨⟨rfl,rfl,rfl,rfl⟩,hnx (i+1) _ _ _ ⟨rfl,by omega,?_⟩ (by omega)⟩
     rw [qjg (by rw [qyg]; exact hi3),qfj,qpk,← List.append_assoc]
     exact h
   · have:i=256:=by omega
     subst this
     rw [List.take_of_length_le (by rw [qyg]; exact Nat.le_refl _)] at h
     have h:St F0 w0 wM (qib 1 o (u8s (X ++ fB A ++ nB (A.take 0))) :: ps):=by
      have e:X ++ fB A ++ nB (A.take 0)=X ++ wB (fanL A):=by simp [nB,fB]
      rw [e]
      exact h.tail fun _ _ _ h=>h.drop
     have hl3:=h.rlen (s:=t3) (f:=nmC) (L:=A)
     unfold qc.j9 qc.j11
     refine qif (fun (i:Nat) (o:Sl) (i':Int) w'=>i'=(i:Int)∧i≤A.length∧St F0 w0 w' (qib 1 o (u8s (X ++ fB A ++ nB (A.take i))) :: ps)) (fun i=>A.length - i) 0 ⟨rfl,Nat.zero_le _,h⟩ ?_
     clear h hnx hin
     rintro i o _ wN I3 μ3 ⟨rfl,hi4,h⟩ hny
     unfold qc.b1
     refine qic (fun g4=>?_) (fun g4=>?_)
     · have hix:i < A.length:=by omega
       refine h.rix (s:=t3) (f:=nmC) (L:=A) i rfl hix fun a0 ha=>?_
       have hcp:cutP (a0.add (i * 20)) 20 0 1=some (a0.add (i * 20)):=by
        unfold cutP
        rw [if_neg (by decide),qkj,Nat.zero_mul,Nat.add_zero]
       rw [hcp]
       refine qyc ?_
       haveI:Rdb F0 w0 ⟨some (a0.add (i * 20)),20,20⟩ (qib 1 o (u8s (X ++ fB A ++ nB (A.take i))) :: ps) 1 (ivs .u8 A[i].1):=⟨fun h=>(h.rdb t3).recS (f:=nmC) (L:=A) ha hix⟩
       refine h.appI (s:=o) (s2:=⟨some (a0.add (i * 20)),20,20⟩) (k:=.u8) (by rw [A[i].2.1,List.length_append,List.length_append,qvk,qqk,List.length_take]; omega) fun o2 w h=>?_
       refine qw (e':=((i+1:Nat):Int)) (by rw [qn (by omega) (by omega)]; rfl) ?_
       refine ⟨⟨rfl,rfl,rfl⟩,hny (i+1) _ _ _ ⟨rfl,by omega,?_⟩ (by omega)⟩
       rw [List.take_succ_eq_append_getElem hix,nB_snoc,← List.append_assoc]
       exact h
     · have:i=A.length:=by omega
       subst this
       rw [List.take_length] at h
       have hnl:=qqk A
       have hfl2:=qvk A
       have hdl2:=qtj A g C C.length
       have hwl2:=qjf (eG A C)
       unfold qc.j10
       refine h.appI (s:=o) (s2:=t4) (k:=.u8) (ys:=dG A g C C.length) (by rw [List.length_append,List.length_append]; omega) fun o2 w h=>?_
       refine h.appI (s:=o2) (s2:=t5) (k:=.u8) (ys:=wB (eG A C)) (by rw [List.length_append,List.length_append,List.length_append]; omega) fun o3 w h=>?_
       have e:X ++ fB A ++ nB A ++ dG A g C C.length ++ wB (eG A C)=qkh l:=by
        rw [← hpre,hfl]
        simp only [List.append_assoc]
       rw [e] at h
       have hpl:(qkh l).length≤1000000:=by rw [← hpre,List.length_append]; omega
       have hpb:qae (qkh l):=by
        have htb:∀ i≤4,qae (tb l i):=by
         intro i
         induction i with
         | zero=>intro _ x hx; simp [tb] at hx
         | succ i ih =>
           intro hi
           rw [qxj,qoc,qoc]
           refine ⟨ih (by omega),?_,qzh 8 8 _⟩
           have:i=0 ∨ i=1 ∨ i=2 ∨ i=3:=by omega
           rcases this with rfl | rfl | rfl | rfl <;> (intro x hx; simp [wrdB] at hx; omega)
        unfold qkh
        rw [qoc,qoc,qoc,qoc]
        refine ⟨⟨⟨⟨?_,htb _ hll⟩,by intro x hx; simp at hx; omega⟩,qzh 8 8 _⟩,?_⟩
        · intro x hx
          simp [hdB] at hx
          omega
        · rw [hfl,qoc,qoc,qoc]
          exact ⟨⟨⟨wB_ok _,nB_ok _⟩,dG_ok _ _ _ _⟩,wB_ok _⟩
       refine qq.c (s:=o3) (xs:=qkh l) h hpb (by omega) fun w h=>⟨_,rfl,?_⟩
       rw [zc_20b]
       refine h.new fun kb w h=>?_
       have h:St F0 w0 w (qmb kb (u8s z20) :: qib 1 o3 (u8s (qkh l)) :: ps):=h
       refine ⟨qgg _,?_⟩
       refine St.sA (b:=kb) (l':=u8s (qte (qkh l))) h rfl (qgg _) qkf fun w h=>?_
       refine St.sealed (s:=o3) (xs:=qkh l) (ys:=qte (qkh l)) (h.tail fun _ _ _ h=>h.apO) (qxf _) (by omega) fun o6 w h=>?_
       have:=h.len
       rw [qlb,Nat.mul_one] at this
       exact hk o6 w this.symm h
end
end Go.Proofs.YtigmbblgfnkpbaaGreat
namespace Go.Proofs.YtigmbblgfnkpbaaGreat
open Go Go.Proofs
set_option linter.unusedVariables false
set_option linter.unusedSimpArgs false
attribute [local irreducible] apK cpK mkK br qte
section
variable {F0:List Nat} {w0 w:World} {ps rest:List As} {s t u:Sl} {S L:List Nd} {n:Nd} {g:Nm→Int} {pr:Nd→List Nm} {gb:Nat} {K:Ending→World→Prop}
theorem ref_Bytes.c (h:St F0 w0 w ps) [PkB gb ps (grR t u) rest] [Rdb F0 w0 t ps 42 (S.flatMap ndC)] [Rdb F0 w0 u ps 1 (ivs .i64 (S.map fun n=>g n.nm))] (hS:S.length≤1024) (hris:RisN S) (hok:OkC (S.map (cmN pr))) (hsum:(S.map fun n=>(pr n).length).sum≤200000) (hP:∀ n ∈ S,Rdb F0 w0 n.par ps 20 ((pr n).flatMap nmC)) (hg:∀ n ∈ S,0≤g n.nm∧g n.nm≤1000000)
 (hk:∀ t w',t.len=(gB (S.map (cmN pr)) g).length→St F0 w0 w' (qib 1 t (u8s (gB (S.map (cmN pr)) g)) :: ps)→K (.returned (sV t)) w') :
 Calls Tryz.prog 35 ⟨[.pointer (some ⟨gb,0,none⟩)]⟩ w K:=by
 have lenC:∀ p:Nm,(nmC p).length=20:=fun p=>(inferInstance:Rec nmC 20).len p
 have htl:=h.rlen (s:=t) (f:=ndC) (L:=S)
 have hids:(S.map (cmN pr)).map (·.id)=S.map Nd.nm:=qzg pr S
 have hPS:∀ n ∈ S,∀ p ∈ pr n,p ∈ S.map Nd.nm:=fun n hn p hp=>by
  have:=hok.par _ (List.mem_map.2 ⟨n,hn,rfl⟩) p hp
  rwa [hids] at this
 have hAl:(S.map Nd.nm).length=S.length:=List.length_map ..
 generalize hAe:S.map Nd.nm=A at hids hAl
 generalize hCe:S.map (cmN pr)=C at hids hk
 have hCl:C.length=S.length:=by rw [← hCe,List.length_map]
 have hpl:∀ n ∈ S,(pr n).length≤200000:=fun n hn=>by
  have:(pr n).length≤(S.map fun n=>(pr n).length).sum:=qzf (f:=fun n=>(pr n).length) hn
  omega
 have hsC:(C.map fun c=>c.par.length).sum≤200000:=by
  have:(C.map fun c=>c.par.length)=S.map fun n=>(pr n).length:=by rw [← hCe,List.map_map]; rfl
  rw [this]; exact hsum
 have heG:∀ i,(eG A (C.take i)).length≤200000:=fun i=>Nat.le_trans (eG_le A C i) (Nat.le_trans (sum_eG A C) hsC)
 refine qbc (qc.ok _ _ _ ?_)
 unfold qc qc.j1 qc.j2 qc.j14
 refine loop4 (fun (i:Nat) (t3 t4 t5:Sl) (i':Int) w'=>i'=(i:Int)∧i≤S.length∧St F0 w0 w' (qib 20 t3 ((A.take i).flatMap nmC) :: qib 1 t4 (u8s (dG A g C i)) :: qib 1 t5 (u8s (wB (eG A (C.take i)))) :: ps)) (fun i=>S.length - i) 0 ⟨rfl,Nat.zero_le _,?_⟩ ?_
 · have h1:St F0 w0 w (qib 1 ⟨none,0,0⟩ (u8s (wB (eG A (C.take 0)))) :: ps):=h.nil 1
   have h2:St F0 w0 w (qib 1 ⟨none,0,0⟩ (u8s (dG A g C 0)) :: _):=h1.nil 1
   exact h2.nilO
 clear h
 rintro i t3 t4 t5 _ wL I μ ⟨rfl,hi,h⟩ hin
 have hdl:(dG A g C i).length≤100000:=by rw [qtj]; omega
 unfold qc.b4
 refine qzd (h.gL (b:=gb) ?_)
 refine qic (fun g2=>?_) (fun g2=>?_)
 · have g2:(i:Int) < (t.len:Int):=g2
   have hix:i < S.length:=by omega
   have hSi:=List.getElem_mem hix
   haveI:=hP _ hSi
   have hpi:=hpl _ hSi
   have hdi:0≤S[i].date∧S[i].date < 17179869184:=hok.dt _ (List.mem_map.2 ⟨_,hSi,rfl⟩)
   have hgi:=hg _ hSi
   have hPi:=hPS _ hSi
   have hA1:A.take (i+1)=A.take i ++ [S[i].nm]:=by
    rw [← hAe,List.take_succ_eq_append_getElem (by rw [List.length_map]; exact hix)]
    simp
   have hCi:C.getD i default=cmN pr S[i]:=by
    rw [← hCe,List.getD_eq_getElem?_getD,List.getElem?_map,List.getElem?_eq_getElem hix]
    rfl
   have heS:eG A (C.take (i+1))=eG A (C.take i) ++ edw (nmA A (pr S[i])):=by
    have hic:i < C.length:=by omega
    rw [eG_take hic]
    have:C[i]=cmN pr S[i]:=by
     have:=hCi
     rw [List.getD_eq_getElem?_getD,List.getElem?_eq_getElem hic] at this
     exact this
    rw [this]
    rfl
   have hdS:dG A g C (i+1)=dG A g C i ++ (S[i].qqf ++ (beJ 4 4 (numA (nmA A (pr S[i]))) ++ (beJ 4 4 (numB (eG A (C.take i)).length (nmA A (pr S[i]))) ++ beJ 8 8 (g S[i].nm * 17179869184+S[i].date)))):=by
    rw [qem]
    unfold drw drow
    rw [hCi]
    rfl
   unfold qc.j15
   refine qzd (h.gL (b:=gb) ?_)
   refine h.lr (s:=t) (f:=ndC) (L:=S) i rfl hix ?_
   have hni:S[i]=S[i]:=rfl
   generalize hne:S[i]=n at *
   rw [zc_rnode]
   refine h.new fun xb w h=>?_
   have h:St F0 w0 w (qmb xb (ndC ndZ) :: qib 20 t3 ((A.take i).flatMap nmC) :: qib 1 t4 (u8s (dG A g C i)) :: qib 1 t5 (u8s (wB (eG A (C.take i)))) :: ps):=h
   refine ⟨qob _,?_⟩
   refine h.setR (f:=ndC) (x:=n) (qob _) fun w h=>?_
   refine h.blk.ldIdN ⟨lenC n.nm,?_⟩
   rw [qyf (by rw [show (ivs .u8 n.id).length=20 from lenC n.nm]; rfl)]
   refine h.pushR (s:=t3) (L:=A.take i) (x:=n.nm) (by rw [List.length_take]; omega) rfl fun t3' w hs h=>?_
   rw [← hA1] at h
   unfold qc.j17
   rw [qgd,cutP_b]
   refine qyc ?_
   have h:St F0 w0 w (qib 1 t4 (u8s (dG A g C i)) :: qib 1 t5 (u8s (wB (eG A (C.take i)))) :: qmb xb (ndC n) :: qib 20 t3' ((A.take (i+1)).flatMap nmC) :: ps):=h.sub
   haveI:Rdb F0 w0 ⟨some ⟨xb,20,none⟩,20,20⟩ (qib 1 t4 (u8s (dG A g C i)) :: qib 1 t5 (u8s (wB (eG A (C.take i)))) :: qmb xb (ndC n) :: qib 20 t3' ((A.take (i+1)).flatMap nmC) :: ps) 1 (u8s n.qqf):=⟨fun h=>by
    have:=(h.toB xb).blk.rdAt (o:=20) (n:=20) (c:=20) (by rw [qob]; decide)
    have e:((ndC n).drop 20).take 20=u8s n.qqf:=by
     unfold ndC
     rw [List.drop_append,qz,n.hid,List.drop_eq_nil_of_le (by rw [qz,n.hid]; decide),List.nil_append]
     exact List.take_left' (by rw [qz,n.htr])
    rw [e] at this
    exact this⟩
   refine h.appI (s:=t4) (s2:=⟨some ⟨xb,0+20,none⟩,20,20⟩) (k:=.u8) (ys:=n.qqf) (by rw [n.htr]; omega) fun t4' w h=>?_
   subst hAe
   refine ref_18 (t:=t) (u:=u) (S:=S) (g:=g) (P:=pr n) (e:=(eG (S.map Nd.nm) (C.take i)).length) h (by omega) hris hPi (by omega) (qjf _) (by have:=heG i; omega) (by rw [List.length_append,n.htr]; omega) hix hne.symm hgi hdi fun r t5' w h=>?_
   rw [List.append_assoc,← hdS,← qfj,← heS] at h
   unfold qc.j16
   refine qw (e':=((i+1:Nat):Int)) (by rw [qn (by omega) (by omega)]; rfl) ?_
   exact ⟨rfl,hin (i+1) _ _ _ _ _ ⟨rfl,by omega,h.sub⟩ (by omega)⟩
 · have g2:¬ (i:Int) < (t.len:Int):=g2
   have:i=S.length:=by omega
   subst this
   rw [List.take_of_length_le (by omega),List.take_of_length_le (by omega)] at h
   have hte:=heG C.length
   rw [List.take_length] at hte
   have h4:=h.drop.len
   rw [qlb,qtj,Nat.mul_one] at h4
   have h5:=h.drop.drop.len
   rw [qlb,qjf,Nat.mul_one] at h5
   have h3:=h.rlen (s:=t3) (f:=nmC) (L:=A)
   rw [← hCl] at h
   unfold qc.j3
   refine h.new fun wb w h=>?_
   have h:St F0 w0 w (qmb wb ((wrdS.take 3).map Value.string) :: qib 20 t3 (A.flatMap nmC) :: qib 1 t4 (u8s (dG A g C C.length)) :: qib 1 t5 (u8s (wB (eG A C))) :: ps):=h
   have h:=h.ownB (n:=3) rfl
   unfold qc.j4
   refine qw (e':=((20 * A.length:Nat):Int)) (by rw [qn (by omega) (by omega)]; omega) ?_
   refine h.new fun nb w h=>?_
   have e3:([1024,((20 * A.length:Nat):Int),(t4.len:Int)]:List Int)=([fB A,nB A,dG A g C C.length]:List (List Int)).map fun x:List Int=>(x.length:Int):=by
    simp only [List.map_cons,List.map_nil,qvk,qqk,qtj]
    rw [← h4,hCl]
    rfl
   have h:St F0 w0 w (qmb nb (ivs .i64 [1024,((20 * A.length:Nat):Int),(t4.len:Int)]) :: qib 1 ⟨some ⟨wb,0,none⟩,3,3⟩ ((wrdS.take 3).map Value.string) :: qib 20 t3 (A.flatMap nmC) :: qib 1 t4 (u8s (dG A g C C.length)) :: qib 1 t5 (u8s (wB (eG A C))) :: ps):=h
   rw [e3] at h
   have h:=h.ownB (n:=3) rfl
   have fin:∀ l:List (List Int),l=qrd A g C→∀ t12 t13 w,St F0 w0 w (qib 1 t12 ((wrdS.take l.length).map Value.string) :: qib 1 t13 (ivs .i64 (l.map fun x:List Int=>(x.length:Int))) :: qib 20 t3 (A.flatMap nmC) :: qib 1 t4 (u8s (dG A g C C.length)) :: qib 1 t5 (u8s (wB (eG A C))) :: ps)→qc.j5 t3 t4 t5 t12 t13 (fun v w'=>K (.returned v) w') w:=fun l hl t12 t13 w h=>by
    refine ref_5 (A:=A) (g:=g) (C:=C) (l:=l) h hl (by omega) (by omega) hte fun r w hr h=>?_
    have e:chkB l=gB C g:=by unfold gB; rw [hl,hids]
    rw [e] at hr h
    exact hk r w hr h.sub
   refine qic (fun g3=>?_) (fun g3=>?_)
   · have h:St F0 w0 w (qib 1 ⟨some ⟨wb,0,none⟩,3,3⟩ ((wrdS.take 3).map Value.string) :: qib 1 ⟨some ⟨nb,0,none⟩,3,3⟩ (ivs .i64 (([fB A,nB A,dG A g C C.length]:List (List Int)).map fun x:List Int=>(x.length:Int))) :: qib 20 t3 (A.flatMap nmC) :: qib 1 t4 (u8s (dG A g C C.length)) :: qib 1 t5 (u8s (wB (eG A C))) :: ps):=h.sub
     refine St.push (s:=⟨some ⟨wb,0,none⟩,3,3⟩) (v:=.string ⟨#[69,68,71,69]⟩) h (by show 3≤_; decide) trivial fun t12 w h=>?_
     refine h.pushI (s:=⟨some ⟨nb,0,none⟩,3,3⟩) (by show 3≤_; decide) fun t13 w h=>?_
     refine fin [fB A,nB A,dG A g C C.length,wB (eG A C)] ?_ t12 t13 w ?_
     · unfold qrd
       rw [if_neg (by omega)]
       rfl
     · have e4:(([fB A,nB A,dG A g C C.length]:List (List Int)).map fun x:List Int=>(x.length:Int)) ++ [(t5.len:Int)]=([fB A,nB A,dG A g C C.length,wB (eG A C)]:List (List Int)).map fun x:List Int=>(x.length:Int):=by
        simp only [List.map_cons,List.map_nil,List.cons_append,List.nil_append,qjf]
        rw [← h5]
       rw [e4] at h
       exact h.at1
   · have h0:(eG A C).length=0:=by omega
     refine fin [fB A,nB A,dG A g C C.length] ?_ _ _ w h.sub
     unfold qrd
     rw [if_pos h0]
     rfl
end
end Go.Proofs.YtigmbblgfnkpbaaGreat
