/- Own texts as one, only what is reached (shake.py). -/
import Derived.Test.YthdmmmfgjmmelaaGreatZdd
import Derived.Test.YthdmmmfgjmmelaaGreatProg
namespace Go.Proofs.YthdmmmfgjmmelaaGreat
open Go Go.Proofs
set_option linter.unusedVariables false
set_option linter.unusedSimpArgs false
section
variable {B:List Bool} {most:Int} {cl a b:List Int} {out:List Int}
theorem flat3 {S:List Int} {f:Int→List Bool} (hf:∀ s,(f s).length=3):∀ {p:Nat} {r:List Bool},B.drop p=S.flatMap f ++ r→∀ k,k < S.length→∃ r',B.drop (p+3 * k)=f (S.getD k 0) ++ r':=by
 induction S with
 | nil=>intro p r _ k hk; simp at hk
 | cons s S ih =>
   intro p r hd k hk
   rw [List.flatMap_cons,List.append_assoc] at hd
   cases k with
   | zero=>exact ⟨_,hd⟩
   | succ k =>
     simp only [List.length_cons] at hk
     obtain ⟨r',h⟩:=ih (qoc hd) k (by omega)
     rw [hf] at h
     exact ⟨r',by rw [show p+3 * (k+1)=p+3+3 * k by omega,h]; rfl⟩
theorem qgq {S:List Int} {f:Int→List Bool} (hf:∀ s,(f s).length=3):(S.flatMap f).length=3 * S.length:=by
 induction S with
 | nil=>rfl
 | cons s S ih=>rw [List.flatMap_cons,List.length_append,ih,hf,List.length_cons]; omega
def clS (cl:List Int) (k:Nat):List Int:=qzk 19 fun s=>if s ∈ (qxg.take k).map Int.toNat then cl.getD s 0 else 0
theorem zord_take {k:Nat} (h:k < 19):qxg.take (k+1)=qxg.take k ++ [qxg.getD k 0]:=qrg h
theorem zord_lt2 {k:Nat} (h:k < 19):(qxg.getD k 0).toNat < 19:=by
 have:∀ k:Nat,k < 19→(qxg.getD k 0).toNat < 19:=by decide
 exact this k h
theorem clS_succ (cl:List Int) {k:Nat} (h:k < 19):(clS cl k).set (qxg.getD k 0).toNat (cl.getD (qxg.getD k 0).toNat 0)=clS cl (k+1):=by
 have h1:=zord_lt2 h
 refine lext (by rw [List.length_set]; exact (qid _ _).trans (qid _ _).symm) fun j hj=>?_
 rw [List.length_set,clS,qid] at hj
 have e2:(clS cl (k+1)).getD j 0=_:=quf hj
 have e1:(clS cl k).getD j 0=_:=quf hj
 have hmem:j ∈ (qxg.take (k+1)).map Int.toNat ↔ j ∈ (qxg.take k).map Int.toNat ∨ j=(qxg.getD k 0).toNat:=by
  rw [zord_take h,List.map_append,List.mem_append]
  simp
 rw [e2]
 by_cases hjk:j=(qxg.getD k 0).toNat
 · subst hjk
   rw [List.getD_eq_getElem?_getD,List.getElem?_set_self (by rw [clS,qid]; exact h1),if_pos (hmem.2 (Or.inr rfl))]
   rfl
 · rw [List.getD_eq_getElem?_getD,List.getElem?_set_ne (by omega),← List.getD_eq_getElem?_getD,e1]
   by_cases hm:j ∈ (qxg.take k).map Int.toNat
   · rw [if_pos hm,if_pos (hmem.2 (Or.inl hm))]
   · rw [if_neg hm,if_neg fun e=>(hmem.1 e).elim hm hjk]
theorem clS_all {n:Nat} (hcl:cl.length=19) (hz:∀ j,n≤j→j < 19→cl.getD (qxg.getD j 0).toNat 0=0):clS cl n=cl:=by
 refine lext (by rw [clS,qid,hcl]) fun s hs=>?_
 rw [clS,qid] at hs
 have e1:(clS cl n).getD s 0=_:=quf hs
 rw [e1]
 split
 · rfl
 · rename_i hm
   have key:∀ s:Nat,s < 19→∃ j:Nat,j < 19∧(qxg.getD j 0).toNat=s:=by decide
   obtain ⟨j,hj,rfl⟩:=key s hs
   rcases Nat.lt_or_ge j n with h | h
   · exact absurd (List.mem_map.2 ⟨qxg.getD j 0,List.mem_iff_getElem?.2 ⟨j,by
      have hjl:j < qxg.length:=hj
      rw [List.getElem?_take,if_pos h]
      simp [List.getD,hjl]⟩,rfl⟩) hm
   · exact (hz j h hj).symm
theorem zclr_at {n p:Nat} {r:List Bool} (hb:∀ j:Nat,0≤cl.getD j 0∧cl.getD j 0 < 8) (hn:n≤19) (hp:p≤B.length)
 (hd:B.drop p=(qxg.take n).flatMap (fun s=>qm (cl.getD s.toNat 0) 3) ++ r):∀ k,k≤n→qsi B (p,out,0) k=(clS cl k,(p+3 * k,out,0)):=by
 have hfl:=qgq (S:=qxg.take n) (f:=fun s=>qm (cl.getD s.toNat 0) 3) (fun s=>qq _ _)
 have hll:(qxg.take n).length=n:=by rw [List.length_take]; exact Nat.min_eq_left hn
 have hdl:=qvc hd
 rw [hfl,hll] at hdl
 intro k
 induction k with
 | zero=>intro _; rw [qsi]; exact Prod.ext (by show _=clS cl 0; unfold clS; rfl) rfl
 | succ k ih =>
   intro hk
   obtain ⟨r',hr'⟩:=flat3 (S:=qxg.take n) (f:=fun s=>qm (cl.getD s.toNat 0) 3) (fun s=>qq _ _) hd k (by omega)
   rw [qmp (show k < n by omega)] at hr'
   have hx:=hb (qxg.getD k 0).toNat
   have hg:=qbg (out:=out) (n:=3) hr' (by rw [qq]; rfl) (by rw [qq]; decide) (by omega)
   have vs:=qcf (e:=cl.getD (qxg.getD k 0).toNat 0) (x:=3) hx.1 hx.2
   rw [show (3:Int).toNat=3 from rfl] at vs
   rw [vs,qq] at hg
   rw [qsi,ih (by omega)]
   simp only
   rw [hg]
   simp only
   rw [clS_succ _ (by omega)]
   rfl
def hdB (a b cl:List Int) (n:Nat) (ps:List Pc):List Bool :=
 qm ((a.length:Int) - 257) 5 ++ (qm ((b.length:Int) - 1) 5 ++ (qm ((n:Int) - 4) 4 ++ ((qxg.take n).flatMap (fun s=>qm (cl.getD s.toNat 0) 3) ++ pcsB cl ps)))
theorem zlens_at {n p:Nat} {ps:List Pc} {r:List Bool} (ha1:257≤a.length) (ha2:a.length≤286) (hb1:1≤b.length) (hb2:b.length≤30) (hcl:cl.length=19) (hcb:∀ j:Nat,0≤cl.getD j 0∧cl.getD j 0 < 8) (hn1:4≤n) (hn2:n≤19)
 (hz:∀ j,n≤j→j < 19→cl.getD (qxg.getD j 0).toNat 0=0) (hc:okC cl) (hnew0:qji cl false=0) (hr:Runs (a ++ b) 0 ps) (hin:∀ q ∈ ps,inC cl q.1.toNat) (hp:p≤B.length)
 (hd:B.drop p=hdB a b cl n ps ++ r):qoh B (p,out,0)=((a,b),(p+(hdB a b cl n ps).length,out,0)):=by
 unfold hdB at hd
 simp only [List.append_assoc] at hd
 have hd1:=qoc hd
 have hd2:=qoc hd1
 have hd3:=qoc hd2
 have hd4:=qoc hd3
 have l0:=qvc hd
 have l1:=qvc hd1
 have l2:=qvc hd2
 have l3:=qvc hd3
 have hfl:=qgq (S:=qxg.take n) (f:=fun s=>qm (cl.getD s.toNat 0) 3) (fun s=>qq _ _)
 have hll:(qxg.take n).length=n:=by rw [List.length_take]; exact Nat.min_eq_left hn2
 rw [hll] at hfl
 simp only [qq] at hd1 hd2 hd3 hd4 l0 l1 l2 l3
 have g1:=qbg (out:=out) (n:=5) hd (by rw [qq]; rfl) (by rw [qq]; decide) hp
 have g2:=qbg (out:=out) (n:=5) hd1 (by rw [qq]; rfl) (by rw [qq]; decide) (by omega)
 have g3:=qbg (out:=out) (n:=4) hd2 (by rw [qq]; rfl) (by rw [qq]; decide) (by omega)
 have v1:=qcf (e:=(a.length:Int) - 257) (x:=5) (by omega) (by show (a.length:Int) - 257 < 32; omega)
 have v2:=qcf (e:=(b.length:Int) - 1) (x:=5) (by omega) (by show (b.length:Int) - 1 < 32; omega)
 have v3:=qcf (e:=(n:Int) - 4) (x:=4) (by omega) (by show (n:Int) - 4 < 16; omega)
 rw [show (5:Int).toNat=5 from rfl] at v1 v2
 rw [show (4:Int).toNat=4 from rfl] at v3
 rw [v1,qq] at g1
 rw [v2,qq] at g2
 rw [v3,qq] at g3
 have hclr:=zclr_at (out:=out) hcb hn2 (by omega) hd3 n (Nat.le_refl _)
 rw [clS_all hcl hz] at hclr
 rw [hfl] at hd4 l3
 have hzl:=zll_runs (out:=out) hc hr hin (by omega) hd4 (a.length+b.length+1) (by have:=hr.le; rw [List.length_append] at this; omega)
 unfold qoh
 simp only
 have c1:(if (286:Int) < (a.length:Int) - 257+257 then qdd 2 (p+5,out,0) else (p+5,out,0))=((p+5,out,0):Z):=if_neg (by omega)
 have c2:(if (30:Int) < (b.length:Int) - 1+1 then qdd 2 (p+5+5,out,0) else (p+5+5,out,0))=((p+5+5,out,0):Z):=if_neg (by omega)
 simp only [g1,c1,g2,c2,g3]
 rw [show (((n:Int) - 4)+4).toNat=n by omega,hclr]
 simp only
 have e5:zcodeH cl false (p+5+5+4+3 * n,out,0)=(p+5+5+4+3 * n,out,0):=by unfold zcodeH; rw [if_neg (fun e=>e.2 hnew0)]
 rw [e5,show (((a.length:Int) - 257+257)+((b.length:Int) - 1+1)).toNat=a.length+b.length by omega]
 rw [List.take_zero,List.length_append] at hzl
 rw [hzl]
 simp only
 rw [if_neg (fun e=>e rfl),show ((a.length:Int) - 257+257).toNat=a.length by omega,List.take_left' rfl,List.drop_left' rfl]
 unfold hdB
 simp only [List.length_append,qq]
 rw [hfl]
 refine Prod.ext rfl (Prod.ext ?_ rfl)
 show _=p+_
 simp only
 omega
end
def Dfl (xs:List Int) (D:List Bool):Prop :=
 ∀ (B r:List Bool) (most:Int),B=D ++ r→0≤most→((xs.length:Int)≤most→ZAll B most 0 (0,[],0) (D.length,xs,0))∧(most < xs.length→∃ z',ZAll B most 0 (0,[],0) z'∧z'.2.2=5)
section
variable {B:List Bool} {most:Int} {xs:List Int}
theorem Dfl.of {D:List Bool} (h:∀ (B r:List Bool) (most:Int),B=D ++ r→0≤most→((xs.length:Int)≤most→qyc B most (0,[],0)=(true,(D.length,xs,0)))∧(most < xs.length→(qyc B most (0,[],0)).2.2.2=5)):Dfl xs D:=by
 intro B r most e h0
 obtain ⟨h1,h2⟩:=h B r most e h0
 refine ⟨fun hm=>?_,fun hm=>?_⟩
 · have e:=h1 hm
   have:=ZAll.last (B:=B) (most:=most) (z:=(0,[],0)) (by rw [e]) (by rw [e])
   rwa [e] at this
 · have e:=h2 hm
   exact ⟨_,ZAll.bad (by rw [e]; decide),e⟩
theorem qun {k:List Bool} {p:Nat} {r:List Bool} (hk:k.length=2) (h:B.drop 0=([true] ++ k) ++ r):qie B 1 (0,[],0)=(1,(1,[],0))∧qie B 2 (1,[],0)=((val k:Int),(3,[],0))∧B.drop 3=r∧3≤B.length:=by
 rw [List.append_assoc] at h
 have l:=qvc h
 have g1:=qbg (out:=[]) (n:=1) h rfl (by decide) (by omega)
 have h2:=qoc h
 have l2:=qvc h2
 have g2:=qbg (out:=[]) (n:=2) h2 (by rw [hk]; rfl) (by omega) (by simp only [List.length_singleton] at l ⊢; omega)
 have h3:=qoc h2
 rw [hk] at g2 h3 l2
 simp only [List.length_singleton] at l l2
 exact ⟨g1,g2,h3,by omega⟩
theorem zblockA_fix {r:List Bool} (h:B.drop 0=([true] ++ [true,false]) ++ r):qyc B most (0,[],0)=(true,zblk qih qme B most (3,[],0)):=by
 obtain ⟨g1,g2,_,_⟩:=qun (p:=0) rfl h
 unfold qyc
 simp only
 rw [g1]
 simp only
 rw [g2]
 simp only
 rw [if_neg (by simp),if_neg (by decide),if_pos (by decide)]
 rfl
theorem zblockA_dyn {r:List Bool} (h:B.drop 0=([true] ++ [false,true]) ++ r):qyc B most (0,[],0)=(true,let q:=qoh B (3,[],0); if q.2.2.2 ≠ 0 then q.2 else zblk q.1.1 q.1.2 B most q.2):=by
 obtain ⟨g1,g2,_,_⟩:=qun (p:=0) rfl h
 unfold qyc
 simp only
 rw [g1]
 simp only
 rw [g2]
 simp only
 rw [if_neg (by simp),if_neg (by decide),if_neg (by decide),if_pos (by decide)]
 rfl
theorem zblockA_sto {r:List Bool} (h:B.drop 0=([true] ++ [false,false]) ++ r):qyc B most (0,[],0)=(true,zstored B most (3,[],0)):=by
 obtain ⟨g1,g2,_,_⟩:=qun (p:=0) rfl h
 unfold qyc
 simp only
 rw [g1]
 simp only
 rw [g2]
 simp only
 rw [if_neg (by simp),if_pos (by decide)]
 rfl
theorem qjn:okC qih:=⟨by unfold okL; decide +kernel,by decide +kernel⟩
theorem qkn:okC qme:=⟨by unfold okL; decide +kernel,by decide +kernel⟩
theorem flit_new:qji qih true=0:=by decide +kernel
theorem qjq:qji qme true=0:=by decide +kernel
theorem qdq {s:Nat} (h:s < 288):inC qih s:=by
 have:∀ s:Nat,s < 288→s < qih.length∧0 < qih.getD s 0:=by decide +kernel
 exact this s h
theorem fdist_in {s:Nat} (h:s < 32):inC qme s:=by
 have:∀ s:Nat,s < 32→s < qme.length∧0 < qme.getD s 0:=by decide +kernel
 exact this s h
def fxB (L:List Tk):List Bool:=[true,true,false] ++ (tksB qih qme L ++ quc qih 256)
theorem Dfl.fixed {L:List Tk} (hb:∀ x ∈ xs,0≤x∧x < 256) (hL:qxf xs 0 L xs.length) (hin:∀ t ∈ L,tkIn qih qme t):Dfl xs (fxB L):=by
 refine Dfl.of fun B r most e h0=>?_
 have g:=tks_gx hb hL (Nat.zero_le _) Gx.nil hin
 rw [List.nil_append,List.take_length] at g
 have hd:B.drop 0=([true] ++ [true,false]) ++ ((tksB qih qme L ++ quc qih 256) ++ r):=by
  rw [e]; rfl
 obtain ⟨_,_,hd3,h3⟩:=qun (p:=0) rfl hd
 rw [zblockA_fix hd]
 refine ⟨fun hm=>?_,fun hm=>?_⟩
 · rw [zblk_good qjn qkn flit_new qjq g (qdq (by decide)) h3 hd3 hm]
   refine Prod.ext rfl (Prod.ext ?_ rfl)
   unfold fxB
   simp only [List.length_append,List.length_cons,List.length_nil]
 · have hh:=qcr qjn qkn flit_new qjq g (qdq (by decide)) h3 hd3 h0 hm
   revert hh
   generalize zblk qih qme B most (3,[],0)=z
   exact id
def dyB (a b cl:List Int) (n:Nat) (ps:List Pc) (L:List Tk):List Bool:=[true,false,true] ++ (hdB a b cl n ps ++ (tksB a b L ++ quc a 256))
theorem Dfl.dynamic {L:List Tk} {a b cl:List Int} {n:Nat} {ps:List Pc} (hb:∀ x ∈ xs,0≤x∧x < 256) (hL:qxf xs 0 L xs.length) (hin:∀ t ∈ L,tkIn a b t)
 (ha1:257≤a.length) (ha2:a.length≤286) (hb1:1≤b.length) (hb2:b.length≤30) (hcl:cl.length=19) (hcb:∀ j:Nat,0≤cl.getD j 0∧cl.getD j 0 < 8) (hn1:4≤n) (hn2:n≤19)
 (hz:∀ j,n≤j→j < 19→cl.getD (qxg.getD j 0).toNat 0=0) (hc:okC cl) (hnew0:qji cl false=0) (hr:Runs (a ++ b) 0 ps) (hpi:∀ q ∈ ps,inC cl q.1.toNat)
 (hca:okC a) (hcb2:okC b) (hna:qji a true=0) (hnb:qji b true=0) (hi:inC a 256):Dfl xs (dyB a b cl n ps L):=by
 refine Dfl.of fun B r most e h0=>?_
 have g:=tks_gx hb hL (Nat.zero_le _) Gx.nil hin
 rw [List.nil_append,List.take_length] at g
 have hd:B.drop 0=([true] ++ [false,true]) ++ (hdB a b cl n ps ++ ((tksB a b L ++ quc a 256) ++ r)):=by
  rw [e]
  unfold dyB
  simp only [List.append_assoc]
  rfl
 obtain ⟨_,_,hd3,h3⟩:=qun (p:=0) rfl hd
 rw [zblockA_dyn hd]
 have hz:=zlens_at (out:=[]) ha1 ha2 hb1 hb2 hcl hcb hn1 hn2 hz hc hnew0 hr hpi h3 hd3
 have hd4:=qoc hd3
 have l3:=qvc hd3
 simp only
 rw [hz]
 simp only
 rw [if_neg (fun e=>e rfl)]
 refine ⟨fun hm=>?_,fun hm=>?_⟩
 · rw [zblk_good hca hcb2 hna hnb g hi (by omega) hd4 hm]
   refine Prod.ext rfl (Prod.ext ?_ rfl)
   unfold dyB
   simp only [List.length_append,List.length_cons,List.length_nil]
   omega
 · exact qcr hca hcb2 hna hnb g hi (by omega) hd4 h0 hm
def sdB (xs:List Int):List Bool:=[true,false,false] ++ (List.replicate 5 false ++ (qm (xs.length:Int) 16 ++ (qm ((65535 ^^^ xs.length:Nat):Int) 16 ++ bb xs)))
theorem Dfl.stored (hb:∀ x ∈ xs,0≤x∧x < 256) (hl:xs.length < 65536):Dfl xs (sdB xs):=by
 refine Dfl.of fun B r most e h0=>?_
 obtain ⟨x1,x2⟩:=xor_good hl
 generalize hcx:65535 ^^^ xs.length=c at x1 x2
 have hd:B.drop 0=([true] ++ [false,false]) ++ (List.replicate 5 false ++ (qm (xs.length:Int) 16 ++ (qm (c:Int) 16 ++ (bb xs ++ r)))):=by
  rw [e]
  unfold sdB
  rw [hcx]
  simp only [List.append_assoc]
  rfl
 obtain ⟨_,_,hd3,h3⟩:=qun (p:=0) rfl hd
 rw [zblockA_sto hd]
 have l3:=qvc hd3
 have hd4:=qoc hd3
 rw [List.length_replicate] at hd4 l3
 have l4:=qvc hd4
 have hd5:=qoc hd4
 rw [qq] at hd5 l4
 have l5:=qvc hd5
 have hd6:=qoc hd5
 rw [qq] at hd6 l5
 have e16:(2:Int) ^ (16:Int).toNat=65536:=by decide
 have g3:=qbg (B:=B) (out:=[]) (n:=16) hd4 (by rw [qq]; rfl) (by rw [qq]; decide) (by omega)
 have g4:=qbg (B:=B) (out:=[]) (n:=16) hd5 (by rw [qq]; rfl) (by rw [qq]; decide) (by omega)
 have v1:=qcf (e:=(xs.length:Int)) (x:=16) (by omega) (by rw [e16]; omega)
 have v2:=qcf (e:=(c:Int)) (x:=16) (by omega) (by rw [e16]; omega)
 rw [show (16:Int).toNat=16 from rfl] at v1 v2
 rw [v1,qq] at g3
 rw [v2,qq] at g4
 have st:zstored B most (3,[],0)=if most - ([]:List Int).length < (xs.length:Int) then qdd 5 (40,[],0) else zst B most xs.length (40,[],0):=by
  unfold zstored
  simp only
  rw [show 8 * ((3+7) / 8)=3+5 from rfl,g3]
  simp only
  rw [g4]
  simp only
  rw [if_neg (by simp),xorV_nat (by omega) (by omega),x2,if_neg (by decide),Int.toNat_natCast]
 rw [st]
 refine ⟨fun hm=>?_,fun hm=>?_⟩
 · rw [if_neg (by simp; omega),zst_full xs 40 [] r hb (by omega) hd6 (by simpa using hm)]
   refine Prod.ext rfl (Prod.ext ?_ rfl)
   unfold sdB
   simp only [List.length_append,List.length_cons,List.length_nil,List.length_replicate,qq,qmn]
   omega
 · rw [if_pos (by simp; omega)]
   rfl
end
end Go.Proofs.YthdmmmfgjmmelaaGreat
namespace Go.Proofs.YthdmmmfgjmmelaaGreat
open Go Go.Proofs
set_option linter.unusedVariables false
set_option maxRecDepth 100000
def qyf (s_0:OAd) (e_1:Int) (Q:VWP) (w:World):Prop :=
 nz s_0 fun a1 =>
 ldI .i64 w (Addr.add a1 3) fun x2 =>
 br ((x2:Int) == 0) (
 nz s_0 fun a3 =>
 st w (Addr.add a3 3) (.int .i64 e_1) fun w4 =>
 Q (.tuple ⟨[]⟩) w4) (
 Q (.tuple ⟨[]⟩) w)
theorem qyf.ok (s_0:OAd) (e_1:Int) (Q:VWP) (w:World) (h:qyf s_0 e_1 Q w):Calls Tryz.prog 221 ⟨[.pointer s_0,.int .i64 e_1]⟩ w (Ret Q):=by
 refine qp [] Tryz.func221 rfl rfl rfl rfl ?_
 exact qg qpb _ (Eq.mp (by kernel_rfl) h)
def qmg (s_0:OAd) (n_1:Int) (Q:VWP) (w:World):Prop :=
 nz s_0 fun a1 =>
 ldI .i64 w (Addr.add a1 3) fun x2 =>
 br ((x2:Int) != 0) (
 Q (.int .i64 0) w) (
 nz s_0 fun a3 =>
 ldP w (Addr.add a3 0) fun x4 =>
 Calls Tryz.prog 289 ⟨[.pointer x4,.int .i64 n_1]⟩ w fun e5 w6 =>
 ∃ r7:Int,∃ r8:Bool,e5=.returned (.tuple ⟨[.int .i64 r7,.bool r8]⟩) ∧
 br (!r8) (
 Calls Tryz.prog 221 ⟨[.pointer s_0,.int .i64 3]⟩ w6 fun e9 w10 =>
 e9=.returned (.tuple ⟨[]⟩) ∧
 Q (.int .i64 r7) w10) (
 Q (.int .i64 r7) w6))
theorem qmg.ok (s_0:OAd) (n_1:Int) (Q:VWP) (w:World) (h:qmg s_0 n_1 Q w):Calls Tryz.prog 216 ⟨[.pointer s_0,.int .i64 n_1]⟩ w (Ret Q):=by
 refine qp [.tmp 4] Tryz.func216 rfl rfl rfl rfl ?_
 exact qg qpb _ (Eq.mp (by kernel_rfl) h)
def qkg (s_0 c_1:OAd) (Q:VWP) (w:World):Prop :=
 nz s_0 fun a1 =>
 ldI .i64 w (Addr.add a1 3) fun x2 =>
 br ((x2:Int) != 0) (
 Q (.int .i64 0) w) (
 nz s_0 fun a3 =>
 ldP w (Addr.add a3 0) fun x4 =>
 Calls Tryz.prog 329 ⟨[.pointer c_1,.pointer x4]⟩ w fun e5 w6 =>
 ∃ r7:Int,∃ r8:Int,e5=.returned (.tuple ⟨[.int .i64 r7,.int .i64 r8]⟩) ∧
 br ((r8:Int) != 0) (
 Calls Tryz.prog 221 ⟨[.pointer s_0,.int .i64 r8]⟩ w6 fun e9 w10 =>
 e9=.returned (.tuple ⟨[]⟩) ∧
 Q (.int .i64 r7) w10) (
 Q (.int .i64 r7) w6))
theorem qkg.ok (s_0:OAd) (c_1:OAd) (Q:VWP) (w:World) (h:qkg s_0 c_1 Q w):Calls Tryz.prog 293 ⟨[.pointer s_0,.pointer c_1]⟩ w (Ret Q):=by
 refine qp [.tmp 4] Tryz.func293 rfl rfl rfl rfl ?_
 exact qg qpb _ (Eq.mp (by kernel_rfl) h)
def qlg (s_0:OAd) (b_1:Int) (Q:VWP) (w:World):Prop :=
 nz s_0 fun a1 =>
 ldI .i64 w (Addr.add a1 3) fun x2 =>
 br ((x2:Int) != 0) (
 Q (.tuple ⟨[]⟩) w) (
 lt (World.drew w) fun w3 =>
 nz s_0 fun a4 =>
 ldL w3 (Addr.add a4 1) fun x5 =>
 nz s_0 fun a6 =>
 ldI .i64 w3 (Addr.add a6 2) fun x7 =>
 br (decide ((((x5.len:Nat):Int):Int) ≥ x7)) (
 Calls Tryz.prog 221 ⟨[.pointer s_0,.int .i64 5]⟩ w3 fun e8 w9 =>
 e8=.returned (.tuple ⟨[]⟩) ∧
 Q (.tuple ⟨[]⟩) w9) (
 nz s_0 fun a10 =>
 ldL w3 (Addr.add a10 1) fun x11 =>
 lt (⟨World.heapSize w3,0,none⟩:Addr) fun a12 =>
 lt (World.alloc w3 (.cells ⟨[.int .u8 b_1]⟩ 5)) fun w13 =>
 rdO w13 (some a12) (1 * 1) fun c14 =>
 apK Tryz.prog 5 w13 x11.a x11.len x11.cap 1 c14 fun s15 w16 =>
 nz s_0 fun a17 =>
 st w16 (Addr.add a17 1) (.slice s15.a s15.len s15.cap) fun w18 =>
 Q (.tuple ⟨[]⟩) w18))
theorem qlg.ok (s_0:OAd) (b_1:Int) (Q:VWP) (w:World) (h:qlg s_0 b_1 Q w):Calls Tryz.prog 291 ⟨[.pointer s_0,.int .u8 b_1]⟩ w (Ret Q):=by
 refine qp [] Tryz.func291 rfl rfl rfl rfl ?_
 exact qg qpb _ (Eq.mp (by kernel_rfl) h)
def qjb.b1 (s_0:OAd) (n_2:Int) (i_4:Int) (Q:VWP) (nx1:OAd→Int→Int→World→Prop) (w:World):Prop :=
 br (decide ((i_4:Int) < n_2)) (
 Calls Tryz.prog 216 ⟨[.pointer s_0,.int .i64 8]⟩ w fun e1 w2 =>
 ∃ r3:Int,e1=.returned (.int .i64 r3) ∧
 lt (IntKind.u8.wrap r3) fun x4 =>
 Calls Tryz.prog 291 ⟨[.pointer s_0,.int .u8 x4]⟩ w2 fun e5 w6 =>
 e5=.returned (.tuple ⟨[]⟩) ∧
 lt (IntKind.i64.wrap (i_4+1)) fun x7 =>
 nx1 s_0 n_2 x7 w6) (
 Q (.tuple ⟨[]⟩) w)
def qjb.l1 (s_0:OAd) (n_2:Int) (i_4:Int) (Q:VWP) (w:World):Prop :=
 ∃ (I:Int→World→Prop) (μ:Int→World→Nat),I i_4 w∧∀ i_4:Int,∀ w:World,I i_4 w→qjb.b1 s_0 n_2 i_4 Q (fun s_0' n_2' i_4' w'=>(s_0'=s_0∧n_2'=n_2)∧I i_4' w'∧μ i_4' w' < μ i_4 w) w
def qjb.j4 (s_0:OAd) (n_2:Int) (i_4:Int) (Q:VWP) (w:World):Prop :=
 qjb.l1 s_0 n_2 i_4 Q w
def qjb.j3 (s_0:OAd) (n_2:Int) (Q:VWP) (w:World):Prop :=
 lt (World.drew w) fun w8 =>
 nz s_0 fun a9 =>
 ldI .i64 w8 (Addr.add a9 2) fun x10 =>
 nz s_0 fun a11 =>
 ldL w8 (Addr.add a11 1) fun x12 =>
 lt (IntKind.i64.wrap (x10 - ((x12.len:Nat):Int))) fun x13 =>
 br (decide ((n_2:Int) > x13)) (
 Calls Tryz.prog 221 ⟨[.pointer s_0,.int .i64 5]⟩ w8 fun e14 w15 =>
 e14=.returned (.tuple ⟨[]⟩) ∧
 Q (.tuple ⟨[]⟩) w15) (
 qjb.j4 s_0 n_2 0 Q w8)
def qjb.j2 (s_0:OAd) (n_2:Int) (m_3:Int) (Q:VWP) (w:World):Prop :=
 nz s_0 fun a16 =>
 ldI .i64 w (Addr.add a16 3) fun x17 =>
 br ((x17:Int) != 0) (
 Q (.tuple ⟨[]⟩) w) (
 lt (xorV .i64 n_2 m_3) fun x18 =>
 br ((x18:Int) != 65535) (
 Calls Tryz.prog 221 ⟨[.pointer s_0,.int .i64 2]⟩ w fun e19 w20 =>
 e19=.returned (.tuple ⟨[]⟩) ∧
 Q (.tuple ⟨[]⟩) w20) (
 qjb.j3 s_0 n_2 Q w))
def qjb.j1 (s_0:OAd) (Q:VWP) (w:World):Prop :=
 Calls Tryz.prog 216 ⟨[.pointer s_0,.int .i64 16]⟩ w fun e21 w22 =>
 ∃ r23:Int,e21=.returned (.int .i64 r23) ∧
 Calls Tryz.prog 216 ⟨[.pointer s_0,.int .i64 16]⟩ w22 fun e24 w25 =>
 ∃ r26:Int,e24=.returned (.int .i64 r26) ∧
 qjb.j2 s_0 r23 r26 Q w25
def qjb (s_0:OAd) (Q:VWP) (w:World):Prop :=
 nz s_0 fun a27 =>
 ldP w (Addr.add a27 0) fun x28 =>
 Calls Tryz.prog 290 ⟨[.pointer x28]⟩ w fun e29 w30 =>
 e29=.returned (.tuple ⟨[]⟩) ∧
 qjb.j1 s_0 Q w30
theorem qjb.ok (s_0:OAd) (Q:VWP) (w:World) (h:qjb s_0 Q w):Calls Tryz.prog 217 ⟨[.pointer s_0]⟩ w (Ret Q):=by
 refine qp [] Tryz.func217 rfl rfl rfl rfl ?_
 refine qu (fun ρ w=>asP (ρ 0) fun s_0=>qjb.j1 s_0 Q w) ?_ ?_
 · skip
   exact qg qpb _ (Eq.mp (by kernel_rfl) h)
 · intro ρ w h
   obtain ⟨s_0,e0,h⟩:=qr h
   refine qb e0 ?_
   refine qfb qpb (fun ρ w=>asP (ρ 0) fun s_0=>asI .i64 (ρ 2) fun n_2=>asI .i64 (ρ 3) fun m_3=>qjb.j2 s_0 n_2 m_3 Q w) (Eq.mp (by kernel_rfl) h) ?_
   intro ρ w h
   obtain ⟨s_0,e0,h⟩:=qr h
   obtain ⟨n_2,e2,h⟩:=qd h
   obtain ⟨m_3,e3,h⟩:=qd h
   refine qb e0 (qb (qa e2 rfl) (qb (qa (qa e3 rfl) rfl) ?_))
   refine qfb qpb (fun ρ w=>asP (ρ 0) fun s_0=>asI .i64 (ρ 2) fun n_2=>qjb.j3 s_0 n_2 Q w) (Eq.mp (by kernel_rfl) h) ?_
   intro ρ w h
   obtain ⟨s_0,e0,h⟩:=qr h
   obtain ⟨n_2,e2,h⟩:=qd h
   refine qb e0 (qb (qa e2 rfl) ?_)
   refine qfb qpb (fun ρ w=>asP (ρ 0) fun s_0=>asI .i64 (ρ 2) fun n_2=>asI .i64 (ρ 4) fun i_4=>qjb.j4 s_0 n_2 i_4 Q w) (Eq.mp (by kernel_rfl) h) ?_
   intro ρ w h
   obtain ⟨s_0,e0,h⟩:=qr h
   obtain ⟨n_2,e2,h⟩:=qd h
   obtain ⟨i_4,e4,h⟩:=qd h
   refine qb e0 (qb (qa e2 rfl) (qb (qa (qa e4 rfl) rfl) ?_))
   refine qcb ?_
   obtain ⟨I,μ,hI,hr⟩:=h
   refine qlb (α:=Int) (fun s ρ=>ρ 4=.int .i64 s∧ρ 0=.pointer s_0∧ρ 2=.int .i64 n_2) (fun s w=>I s w) (fun s w=>μ s w) i_4 ⟨rfl,rfl,rfl⟩ hI ?_
   rintro i_4 ρ w ⟨e4,e0,e2⟩ hI
   have h:=hr i_4 w hI
   clear hr
   obtain ⟨nx1,hnx⟩:∃ nx:OAd→Int→Int→World→Prop,nx=(fun s_0' n_2' i_4' w'=>(s_0'=s_0∧n_2'=n_2)∧I i_4' w'∧μ i_4' w' < μ i_4 w):=⟨_,rfl⟩
   rw [← hnx] at h
   refine qsb (M:=fun ρ w=>asP (ρ 0) fun s_0=>asI .i64 (ρ 2) fun n_2=>asI .i64 (ρ 4) fun i_4=>nx1 s_0 n_2 i_4 w) ?_ (fun ρ w h=>?_)
   · skip
     refine qb e0 (qb (qa e2 rfl) (qb (qa (qa e4 rfl) rfl) ?_))
     exact qg qpb _ (Eq.mp (by kernel_rfl) h)
   · skip
     obtain ⟨s_0',e0',h⟩:=qr h
     obtain ⟨n_2',e2',h⟩:=qd h
     obtain ⟨i_4',e4',h⟩:=qd h
     rw [hnx] at h
     obtain ⟨hu,hI2,hμ⟩:=h
     obtain ⟨rfl,rfl⟩:=hu
     exact ⟨i_4',⟨e4',e0',e2'⟩,hI2,hμ⟩
def qe.j9 (d_0:OAd) (t4:Int) (t12:Sl) (Q:VWP) (w:World):Prop :=
 nz d_0 fun a1 =>
 ldI .i64 w (Addr.add a1 3) fun x2 =>
 br ((x2:Int) != 0) (
 Q (.tuple ⟨[.slice none 0 0,.slice none 0 0]⟩) w) (
 lt (World.drew w) fun w3 =>
 bd t4 t12.cap fun n4 =>
 lt (⟨qwf t12.a t12.cap 0 1,n4 - 0,t12.cap - 0⟩:Sl) fun s5 =>
 bd t4 t12.len fun n6 =>
 lt (⟨qwf t12.a t12.cap n6 1,t12.len - n6,t12.cap - n6⟩:Sl) fun s7 =>
 Q (.tuple ⟨[.slice s5.a s5.len s5.cap,.slice s7.a s7.len s7.cap]⟩) w3)
def qe.b2 (d_0:OAd) (t4:Int) (t5:Int) (t10:OAd) (t14 t15:Int) (t12:Sl) (t16:Int) (Q:VWP) (nx1:OAd→Int→Int→OAd→Sl→World→Prop) (nx2:OAd→Int→Int→OAd→Int→Int→Sl→Int→World→Prop) (w:World):Prop :=
 br (decide ((t16:Int) < t14)) (
 lt (⟨World.heapSize w,0,none⟩:Addr) fun a8 =>
 lt (World.alloc w (.cells ⟨[.int .i64 t15]⟩ 3)) fun w9 =>
 rdO w9 (some a8) (1 * 1) fun c10 =>
 apK Tryz.prog 3 w9 t12.a t12.len t12.cap 1 c10 fun s11 w12 =>
 lt (IntKind.i64.wrap (t16+1)) fun x13 =>
 nx2 d_0 t4 t5 t10 t14 t15 s11 x13 w12) (
 nx1 d_0 t4 t5 t10 t12 w)
def qe.l2 (d_0:OAd) (t4:Int) (t5:Int) (t10:OAd) (t14 t15:Int) (t12:Sl) (t16:Int) (Q:VWP) (nx1:OAd→Int→Int→OAd→Sl→World→Prop) (w:World):Prop :=
 ∃ (I:Sl→Int→World→Prop) (μ:Sl→Int→World→Nat),I t12 t16 w∧∀ t12:Sl,∀ t16:Int,∀ w:World,I t12 t16 w→qe.b2 d_0 t4 t5 t10 t14 t15 t12 t16 Q nx1 (fun d_0' t4' t5' t10' t14' t15' t12' t16' w'=>(d_0'=d_0∧t4'=t4∧t5'=t5∧t10'=t10∧t14'=t14∧t15'=t15)∧I t12' t16' w'∧μ t12' t16' w' < μ t12 t16 w) w
def qe.j14 (d_0:OAd) (t4:Int) (t5:Int) (t10:OAd) (t12:Sl) (t14:Int) (t15 t16:Int) (Q:VWP) (nx1:OAd→Int→Int→OAd→Sl→World→Prop) (w:World):Prop :=
 qe.l2 d_0 t4 t5 t10 t14 t15 t12 t16 Q nx1 w
def qe.j13 (d_0:OAd) (t4:Int) (t5:Int) (t10:OAd) (t12:Sl) (t14:Int) (t15:Int) (Q:VWP) (nx1:OAd→Int→Int→OAd→Sl→World→Prop) (w:World):Prop :=
 lt (IntKind.i64.wrap (t4+t5)) fun x14 =>
 lt (IntKind.i64.wrap (x14 - ((t12.len:Nat):Int))) fun x15 =>
 br (decide ((t14:Int) > x15)) (
 Calls Tryz.prog 221 ⟨[.pointer d_0,.int .i64 2]⟩ w fun e16 w17 =>
 e16=.returned (.tuple ⟨[]⟩) ∧
 Q (.tuple ⟨[.slice none 0 0,.slice none 0 0]⟩) w17) (
 qe.j14 d_0 t4 t5 t10 t12 t14 t15 0 Q nx1 w)
def qe.j12 (d_0:OAd) (t4:Int) (t5:Int) (t10:OAd) (t12:Sl) (t14:Int) (t15:Int) (Q:VWP) (nx1:OAd→Int→Int→OAd→Sl→World→Prop) (w:World):Prop :=
 nz d_0 fun a18 =>
 ldI .i64 w (Addr.add a18 3) fun x19 =>
 br ((x19:Int) != 0) (
 Q (.tuple ⟨[.slice none 0 0,.slice none 0 0]⟩) w) (
 qe.j13 d_0 t4 t5 t10 t12 t14 t15 Q nx1 w)
def qe.j11 (d_0:OAd) (t4:Int) (t5:Int) (t10:OAd) (t12:Sl) (t13:Int) (t14:Int) (Q:VWP) (nx1:OAd→Int→Int→OAd→Sl→World→Prop) (w:World):Prop :=
 br ((t13:Int) == 16) (
 br ((((t12.len:Nat):Int):Int) == 0) (
 Calls Tryz.prog 221 ⟨[.pointer d_0,.int .i64 2]⟩ w fun e20 w21 =>
 e20=.returned (.tuple ⟨[]⟩) ∧
 Q (.tuple ⟨[.slice none 0 0,.slice none 0 0]⟩) w21) (
 lt (IntKind.i64.wrap (((t12.len:Nat):Int) - 1)) fun x22 =>
 ixS t12.a t12.len x22 1 fun a23 =>
 ldI .i64 w a23 fun x24 =>
 Calls Tryz.prog 216 ⟨[.pointer d_0,.int .i64 2]⟩ w fun e25 w26 =>
 ∃ r27:Int,e25=.returned (.int .i64 r27) ∧
 lt (IntKind.i64.wrap (3+r27)) fun x28 =>
 qe.j12 d_0 t4 t5 t10 t12 x28 x24 Q nx1 w26)) (
 br ((t13:Int) == 17) (
 Calls Tryz.prog 216 ⟨[.pointer d_0,.int .i64 3]⟩ w fun e29 w30 =>
 ∃ r31:Int,e29=.returned (.int .i64 r31) ∧
 lt (IntKind.i64.wrap (3+r31)) fun x32 =>
 qe.j12 d_0 t4 t5 t10 t12 x32 0 Q nx1 w30) (
 br ((t13:Int) == 18) (
 Calls Tryz.prog 216 ⟨[.pointer d_0,.int .i64 7]⟩ w fun e33 w34 =>
 ∃ r35:Int,e33=.returned (.int .i64 r35) ∧
 lt (IntKind.i64.wrap (11+r35)) fun x36 =>
 qe.j12 d_0 t4 t5 t10 t12 x36 0 Q nx1 w34) (
 qe.j12 d_0 t4 t5 t10 t12 t14 t13 Q nx1 w)))
def qe.j10 (d_0:OAd) (t4:Int) (t5:Int) (t10:OAd) (t12:Sl) (Q:VWP) (nx1:OAd→Int→Int→OAd→Sl→World→Prop) (w:World):Prop :=
 Calls Tryz.prog 293 ⟨[.pointer d_0,.pointer t10]⟩ w fun e37 w38 =>
 ∃ r39:Int,e37=.returned (.int .i64 r39) ∧
 qe.j11 d_0 t4 t5 t10 t12 r39 1 Q nx1 w38
def qe.b1 (d_0:OAd) (t4:Int) (t5:Int) (t10:OAd) (t12:Sl) (Q:VWP) (nx1:OAd→Int→Int→OAd→Sl→World→Prop) (w:World):Prop :=
 lt (IntKind.i64.wrap (t4+t5)) fun x40 =>
 br (decide ((((t12.len:Nat):Int):Int) < x40)) (
 nz d_0 fun a41 =>
 ldI .i64 w (Addr.add a41 3) fun x42 =>
 br ((x42:Int) == 0) (
 qe.j10 d_0 t4 t5 t10 t12 Q nx1 w) (
 qe.j9 d_0 t4 t12 Q w)) (
 qe.j9 d_0 t4 t12 Q w)
def qe.l1 (d_0:OAd) (t4:Int) (t5:Int) (t10:OAd) (t12:Sl) (Q:VWP) (w:World):Prop :=
 ∃ (I:Sl→World→Prop) (μ:Sl→World→Nat),I t12 w∧∀ t12:Sl,∀ w:World,I t12 w→qe.b1 d_0 t4 t5 t10 t12 Q (fun d_0' t4' t5' t10' t12' w'=>(d_0'=d_0∧t4'=t4∧t5'=t5∧t10'=t10)∧I t12' w'∧μ t12' w' < μ t12 w) w
def qe.j8 (d_0:OAd) (t4:Int) (t5:Int) (t10:OAd) (t12:Sl) (Q:VWP) (w:World):Prop :=
 qe.l1 d_0 t4 t5 t10 t12 Q w
def qe.j7 (d_0:OAd) (t4:Int) (t5:Int) (t10:OAd) (t11:Int) (Q:VWP) (w:World):Prop :=
 br ((t11:Int) != 0) (
 Calls Tryz.prog 221 ⟨[.pointer d_0,.int .i64 2]⟩ w fun e43 w44 =>
 e43=.returned (.tuple ⟨[]⟩) ∧
 Q (.tuple ⟨[.slice none 0 0,.slice none 0 0]⟩) w44) (
 qe.j8 d_0 t4 t5 t10 ⟨none,0,0⟩ Q w)
def qe.j6 (d_0:OAd) (t4:Int) (t5:Int) (t8:Sl) (Q:VWP) (w:World):Prop :=
 nz d_0 fun a45 =>
 ldI .i64 w (Addr.add a45 3) fun x46 =>
 br ((x46:Int) != 0) (
 Q (.tuple ⟨[.slice none 0 0,.slice none 0 0]⟩) w) (
 Calls Tryz.prog 292 ⟨[.slice t8.a t8.len t8.cap,.bool false]⟩ w fun e47 w48 =>
 ∃ r49:OAd,∃ r50:Int,e47=.returned (.tuple ⟨[.pointer r49,.int .i64 r50]⟩) ∧
 qe.j7 d_0 t4 t5 r49 r50 Q w48)
def qe.b3 (d_0:OAd) (t4:Int) (t5 t6:Int) (t7:Sl) (t8:Sl) (t9:Int) (Q:VWP) (nx3:OAd→Int→Int→Int→Sl→Sl→Int→World→Prop) (w:World):Prop :=
 br (decide ((t9:Int) < t6)) (
 nz d_0 fun a51 =>
 ldI .i64 w (Addr.add a51 3) fun x52 =>
 br ((x52:Int) == 0) (
 lt (World.drew w) fun w53 =>
 ixS t7.a t7.len t9 1 fun a54 =>
 (ldI .i64 w53 a54 fun x55 =>
 Calls Tryz.prog 216 ⟨[.pointer d_0,.int .i64 3]⟩ w53 fun e56 w57 =>
 ∃ r58:Int,e56=.returned (.int .i64 r58) ∧
 ixS t8.a t8.len x55 1 fun a59 =>
 st w57 a59 (.int .i64 r58) fun w60 =>
 lt (IntKind.i64.wrap (t9+1)) fun x61 =>
 nx3 d_0 t4 t5 t6 t7 t8 x61 w60)∧(
 Calls Tryz.prog 216 ⟨[.pointer d_0,.int .i64 3]⟩ w53 fun e62 w63 =>
 ∃ r64:Int,e62=.returned (.int .i64 r64) ∧
 ldI .i64 w63 a54 fun x65 =>
 ixS t8.a t8.len x65 1 fun a66 =>
 st w63 a66 (.int .i64 r64) fun w67 =>
 lt (IntKind.i64.wrap (t9+1)) fun x68 =>
 nx3 d_0 t4 t5 t6 t7 t8 x68 w67)) (
 qe.j6 d_0 t4 t5 t8 Q w)) (
 qe.j6 d_0 t4 t5 t8 Q w)
def qe.l3 (d_0:OAd) (t4:Int) (t5 t6:Int) (t7:Sl) (t8:Sl) (t9:Int) (Q:VWP) (w:World):Prop :=
 ∃ (I:Int→World→Prop) (μ:Int→World→Nat),I t9 w∧∀ t9:Int,∀ w:World,I t9 w→qe.b3 d_0 t4 t5 t6 t7 t8 t9 Q (fun d_0' t4' t5' t6' t7' t8' t9' w'=>(d_0'=d_0∧t4'=t4∧t5'=t5∧t6'=t6∧t7'=t7∧t8'=t8)∧I t9' w'∧μ t9' w' < μ t9 w) w
def qe.j15 (d_0:OAd) (t4:Int) (t5 t6:Int) (t7:Sl) (t8:Sl) (t9:Int) (Q:VWP) (w:World):Prop :=
 qe.l3 d_0 t4 t5 t6 t7 t8 t9 Q w
def qe.j5 (d_0:OAd) (t4:Int) (t5 t6:Int) (t7:Sl) (t8:Sl) (Q:VWP) (w:World):Prop :=
 qe.j15 d_0 t4 t5 t6 t7 t8 0 Q w
def qe.j4 (d_0:OAd) (t4:Int) (t5 t6:Int) (Q:VWP) (w:World):Prop :=
 lt (⟨World.heapSize w,0,none⟩:Addr) fun a69 =>
 lt (World.alloc w (.cells ⟨[.int .i64 16,.int .i64 17,.int .i64 18,.int .i64 0,.int .i64 8,.int .i64 7,.int .i64 9,.int .i64 6,.int .i64 10,.int .i64 5,.int .i64 11,.int .i64 4,.int .i64 12,.int .i64 3,.int .i64 13,.int .i64 2,.int .i64 14,.int .i64 1,.int .i64 15]⟩ 3)) fun w70 =>
 mkK Tryz.prog 3 w70 19 19 fun s71 w72 =>
 qe.j5 d_0 t4 t5 t6 ⟨(some a69),19,19⟩ s71 Q w72
def qe.j3 (d_0:OAd) (t4:Int) (t5:Int) (Q:VWP) (w:World):Prop :=
 Calls Tryz.prog 216 ⟨[.pointer d_0,.int .i64 4]⟩ w fun e73 w74 =>
 ∃ r75:Int,e73=.returned (.int .i64 r75) ∧
 lt (IntKind.i64.wrap (r75+4)) fun x76 =>
 qe.j4 d_0 t4 t5 x76 Q w74
def qe.j2 (d_0:OAd) (t4:Int) (Q:VWP) (w:World):Prop :=
 Calls Tryz.prog 216 ⟨[.pointer d_0,.int .i64 5]⟩ w fun e77 w78 =>
 ∃ r79:Int,e77=.returned (.int .i64 r79) ∧
 lt (IntKind.i64.wrap (r79+1)) fun x80 =>
 br (decide ((x80:Int) > 30)) (
 Calls Tryz.prog 221 ⟨[.pointer d_0,.int .i64 2]⟩ w78 fun e81 w82 =>
 e81=.returned (.tuple ⟨[]⟩) ∧
 qe.j3 d_0 t4 x80 Q w82) (
 qe.j3 d_0 t4 x80 Q w78)
def qe.j1 (d_0:OAd) (Q:VWP) (w:World):Prop :=
 Calls Tryz.prog 216 ⟨[.pointer d_0,.int .i64 5]⟩ w fun e83 w84 =>
 ∃ r85:Int,e83=.returned (.int .i64 r85) ∧
 lt (IntKind.i64.wrap (r85+257)) fun x86 =>
 br (decide ((x86:Int) > 286)) (
 Calls Tryz.prog 221 ⟨[.pointer d_0,.int .i64 2]⟩ w84 fun e87 w88 =>
 e87=.returned (.tuple ⟨[]⟩) ∧
 qe.j2 d_0 x86 Q w88) (
 qe.j2 d_0 x86 Q w84)
def qe (d_0:OAd) (Q:VWP) (w:World):Prop :=
 qe.j1 d_0 Q w
theorem qe.ok (d_0:OAd) (Q:VWP) (w:World) (h:qe d_0 Q w):Calls Tryz.prog 220 ⟨[.pointer d_0]⟩ w (Ret Q):=by
 refine qp [.tmp 2,.tmp 3] Tryz.func220 rfl rfl rfl rfl ?_
 refine qu (fun ρ w=>asP (ρ 0) fun d_0=>qe.j1 d_0 Q w) ?_ ?_
 · skip
   exact qg qpb _ (Eq.mp (by kernel_rfl) h)
 · intro ρ w h
   obtain ⟨d_0,e0,h⟩:=qr h
   refine qb e0 ?_
   refine qfb qpb (fun ρ w=>asP (ρ 0) fun d_0=>asI .i64 (ρ 4) fun t4=>qe.j2 d_0 t4 Q w) (Eq.mp (by kernel_rfl) h) ?_
   intro ρ w h
   obtain ⟨d_0,e0,h⟩:=qr h
   obtain ⟨t4,e4,h⟩:=qd h
   refine qb e0 (qb (qa e4 rfl) ?_)
   refine qfb qpb (fun ρ w=>asP (ρ 0) fun d_0=>asI .i64 (ρ 4) fun t4=>asI .i64 (ρ 5) fun t5=>qe.j3 d_0 t4 t5 Q w) (Eq.mp (by kernel_rfl) h) ?_
   intro ρ w h
   obtain ⟨d_0,e0,h⟩:=qr h
   obtain ⟨t4,e4,h⟩:=qd h
   obtain ⟨t5,e5,h⟩:=qd h
   refine qb e0 (qb (qa e4 rfl) (qb (qa (qa e5 rfl) rfl) ?_))
   refine qu (fun ρ w=>asP (ρ 0) fun d_0=>asI .i64 (ρ 4) fun t4=>asI .i64 (ρ 5) fun t5=>asI .i64 (ρ 6) fun t6=>qe.j4 d_0 t4 t5 t6 Q w) ?_ ?_
   · skip
     exact qg qpb _ (Eq.mp (by kernel_rfl) h)
   · intro ρ w h
     obtain ⟨d_0,e0,h⟩:=qr h
     obtain ⟨t4,e4,h⟩:=qd h
     obtain ⟨t5,e5,h⟩:=qd h
     obtain ⟨t6,e6,h⟩:=qd h
     refine qb e0 (qb (qa e4 rfl) (qb (qa (qa e5 rfl) rfl) (qb (qa (qa (qa e6 rfl) rfl) rfl) ?_)))
     refine qfb qpb (fun ρ w=>asP (ρ 0) fun d_0=>asI .i64 (ρ 4) fun t4=>asI .i64 (ρ 5) fun t5=>asI .i64 (ρ 6) fun t6=>asL (ρ 7) fun t7=>asL (ρ 8) fun t8=>qe.j5 d_0 t4 t5 t6 t7 t8 Q w) (Eq.mp (by kernel_rfl) h) ?_
     intro ρ w h
     obtain ⟨d_0,e0,h⟩:=qr h
     obtain ⟨t4,e4,h⟩:=qd h
     obtain ⟨t5,e5,h⟩:=qd h
     obtain ⟨t6,e6,h⟩:=qd h
     obtain ⟨t7,e7,h⟩:=ql h
     obtain ⟨t8,e8,h⟩:=ql h
     refine qb e0 (qb (qa e4 rfl) (qb (qa (qa e5 rfl) rfl) (qb (qa (qa (qa e6 rfl) rfl) rfl) (qb (qa (qa (qa (qa e7 rfl) rfl) rfl) rfl) (qb (qa (qa (qa (qa (qa e8 rfl) rfl) rfl) rfl) rfl) ?_)))))
     refine qu (fun ρ w=>asP (ρ 0) fun d_0=>asI .i64 (ρ 4) fun t4=>asI .i64 (ρ 5) fun t5=>asL (ρ 8) fun t8=>qe.j6 d_0 t4 t5 t8 Q w) ?_ ?_
     · skip
       refine qu (fun ρ w=>asP (ρ 0) fun d_0=>asI .i64 (ρ 4) fun t4=>asI .i64 (ρ 5) fun t5=>asI .i64 (ρ 6) fun t6=>asL (ρ 7) fun t7=>asL (ρ 8) fun t8=>asI .i64 (ρ 9) fun t9=>qe.j15 d_0 t4 t5 t6 t7 t8 t9 Q w) ?_ ?_
       · skip
         exact qg qpb _ (Eq.mp (by kernel_rfl) h)
       · intro ρ w h
         obtain ⟨d_0,e0,h⟩:=qr h
         obtain ⟨t4,e4,h⟩:=qd h
         obtain ⟨t5,e5,h⟩:=qd h
         obtain ⟨t6,e6,h⟩:=qd h
         obtain ⟨t7,e7,h⟩:=ql h
         obtain ⟨t8,e8,h⟩:=ql h
         obtain ⟨t9,e9,h⟩:=qd h
         refine qb e0 (qb (qa e4 rfl) (qb (qa (qa e5 rfl) rfl) (qb (qa (qa (qa e6 rfl) rfl) rfl) (qb (qa (qa (qa (qa e7 rfl) rfl) rfl) rfl) (qb (qa (qa (qa (qa (qa e8 rfl) rfl) rfl) rfl) rfl) (qb (qa (qa (qa (qa (qa (qa e9 rfl) rfl) rfl) rfl) rfl) rfl) ?_))))))
         refine qcb ?_
         obtain ⟨I,μ,hI,hr⟩:=h
         refine qlb (α:=Int) (fun s ρ=>ρ 9=.int .i64 s∧ρ 0=.pointer d_0∧ρ 4=.int .i64 t4∧ρ 5=.int .i64 t5∧ρ 6=.int .i64 t6∧ρ 7=.slice t7.a t7.len t7.cap∧ρ 8=.slice t8.a t8.len t8.cap) (fun s w=>I s w) (fun s w=>μ s w) t9 ⟨rfl,rfl,rfl,rfl,rfl,rfl,rfl⟩ hI ?_
         rintro t9 ρ w ⟨e9,e0,e4,e5,e6,e7,e8⟩ hI
         have h:=hr t9 w hI
         clear hr
         obtain ⟨nx3,hnx⟩:∃ nx:OAd→Int→Int→Int→Sl→Sl→Int→World→Prop,nx=(fun d_0' t4' t5' t6' t7' t8' t9' w'=>(d_0'=d_0∧t4'=t4∧t5'=t5∧t6'=t6∧t7'=t7∧t8'=t8)∧I t9' w'∧μ t9' w' < μ t9 w):=⟨_,rfl⟩
         rw [← hnx] at h
         refine qsb (M:=fun ρ w=>asP (ρ 0) fun d_0=>asI .i64 (ρ 4) fun t4=>asI .i64 (ρ 5) fun t5=>asI .i64 (ρ 6) fun t6=>asL (ρ 7) fun t7=>asL (ρ 8) fun t8=>asI .i64 (ρ 9) fun t9=>nx3 d_0 t4 t5 t6 t7 t8 t9 w) ?_ (fun ρ w h=>?_)
         · skip
           refine qb e0 (qb (qa e4 rfl) (qb (qa (qa e5 rfl) rfl) (qb (qa (qa (qa e6 rfl) rfl) rfl) (qb (qa (qa (qa (qa e7 rfl) rfl) rfl) rfl) (qb (qa (qa (qa (qa (qa e8 rfl) rfl) rfl) rfl) rfl) (qb (qa (qa (qa (qa (qa (qa e9 rfl) rfl) rfl) rfl) rfl) rfl) ?_))))))
           exact qg qpb _ (Eq.mp (by kernel_rfl) h)
         · skip
           obtain ⟨d_0',e0',h⟩:=qr h
           obtain ⟨t4',e4',h⟩:=qd h
           obtain ⟨t5',e5',h⟩:=qd h
           obtain ⟨t6',e6',h⟩:=qd h
           obtain ⟨t7',e7',h⟩:=ql h
           obtain ⟨t8',e8',h⟩:=ql h
           obtain ⟨t9',e9',h⟩:=qd h
           rw [hnx] at h
           obtain ⟨hu,hI2,hμ⟩:=h
           obtain ⟨rfl,rfl,rfl,rfl,rfl,rfl⟩:=hu
           exact ⟨t9',⟨e9',e0',e4',e5',e6',e7',e8'⟩,hI2,hμ⟩
     · intro ρ w h
       obtain ⟨d_0,e0,h⟩:=qr h
       obtain ⟨t4,e4,h⟩:=qd h
       obtain ⟨t5,e5,h⟩:=qd h
       obtain ⟨t8,e8,h⟩:=ql h
       refine qb e0 (qb (qa e4 rfl) (qb (qa (qa e5 rfl) rfl) (qb (qa (qa (qa e8 rfl) rfl) rfl) ?_)))
       refine qfb qpb (fun ρ w=>asP (ρ 0) fun d_0=>asI .i64 (ρ 4) fun t4=>asI .i64 (ρ 5) fun t5=>asP (ρ 10) fun t10=>asI .i64 (ρ 11) fun t11=>qe.j7 d_0 t4 t5 t10 t11 Q w) (Eq.mp (by kernel_rfl) h) ?_
       intro ρ w h
       obtain ⟨d_0,e0,h⟩:=qr h
       obtain ⟨t4,e4,h⟩:=qd h
       obtain ⟨t5,e5,h⟩:=qd h
       obtain ⟨t10,e10,h⟩:=qr h
       obtain ⟨t11,e11,h⟩:=qd h
       refine qb e0 (qb (qa e4 rfl) (qb (qa (qa e5 rfl) rfl) (qb (qa (qa (qa e10 rfl) rfl) rfl) (qb (qa (qa (qa (qa e11 rfl) rfl) rfl) rfl) ?_))))
       refine qfb qpb (fun ρ w=>asP (ρ 0) fun d_0=>asI .i64 (ρ 4) fun t4=>asI .i64 (ρ 5) fun t5=>asP (ρ 10) fun t10=>asL (ρ 12) fun t12=>qe.j8 d_0 t4 t5 t10 t12 Q w) (Eq.mp (by kernel_rfl) h) ?_
       intro ρ w h
       obtain ⟨d_0,e0,h⟩:=qr h
       obtain ⟨t4,e4,h⟩:=qd h
       obtain ⟨t5,e5,h⟩:=qd h
       obtain ⟨t10,e10,h⟩:=qr h
       obtain ⟨t12,e12,h⟩:=ql h
       refine qb e0 (qb (qa e4 rfl) (qb (qa (qa e5 rfl) rfl) (qb (qa (qa (qa e10 rfl) rfl) rfl) (qb (qa (qa (qa (qa e12 rfl) rfl) rfl) rfl) ?_))))
       refine qu (fun ρ w=>asP (ρ 0) fun d_0=>asI .i64 (ρ 4) fun t4=>asL (ρ 12) fun t12=>qe.j9 d_0 t4 t12 Q w) ?_ ?_
       · skip
         refine qcb ?_
         obtain ⟨I,μ,hI,hr⟩:=h
         refine qlb (α:=Sl) (fun s ρ=>ρ 12=.slice s.a s.len s.cap∧ρ 0=.pointer d_0∧ρ 4=.int .i64 t4∧ρ 5=.int .i64 t5∧ρ 10=.pointer t10) (fun s w=>I s w) (fun s w=>μ s w) t12 ⟨rfl,rfl,rfl,rfl,rfl⟩ hI ?_
         rintro t12 ρ w ⟨e12,e0,e4,e5,e10⟩ hI
         have h:=hr t12 w hI
         clear hr
         obtain ⟨nx1,hnx⟩:∃ nx:OAd→Int→Int→OAd→Sl→World→Prop,nx=(fun d_0' t4' t5' t10' t12' w'=>(d_0'=d_0∧t4'=t4∧t5'=t5∧t10'=t10)∧I t12' w'∧μ t12' w' < μ t12 w):=⟨_,rfl⟩
         rw [← hnx] at h
         refine qsb (M:=fun ρ w=>asP (ρ 0) fun d_0=>asI .i64 (ρ 4) fun t4=>asI .i64 (ρ 5) fun t5=>asP (ρ 10) fun t10=>asL (ρ 12) fun t12=>nx1 d_0 t4 t5 t10 t12 w) ?_ (fun ρ w h=>?_)
         · skip
           refine qb e0 (qb (qa e4 rfl) (qb (qa (qa e5 rfl) rfl) (qb (qa (qa (qa e10 rfl) rfl) rfl) (qb (qa (qa (qa (qa e12 rfl) rfl) rfl) rfl) ?_))))
           refine qu (fun ρ w=>asP (ρ 0) fun d_0=>asI .i64 (ρ 4) fun t4=>asI .i64 (ρ 5) fun t5=>asP (ρ 10) fun t10=>asL (ρ 12) fun t12=>qe.j10 d_0 t4 t5 t10 t12 Q nx1 w) ?_ ?_
           · skip
             exact qg qpb _ (Eq.mp (by kernel_rfl) h)
           · intro ρ w h
             obtain ⟨d_0,e0,h⟩:=qr h
             obtain ⟨t4,e4,h⟩:=qd h
             obtain ⟨t5,e5,h⟩:=qd h
             obtain ⟨t10,e10,h⟩:=qr h
             obtain ⟨t12,e12,h⟩:=ql h
             refine qb e0 (qb (qa e4 rfl) (qb (qa (qa e5 rfl) rfl) (qb (qa (qa (qa e10 rfl) rfl) rfl) (qb (qa (qa (qa (qa e12 rfl) rfl) rfl) rfl) ?_))))
             refine qcb ?_
             refine qfb qpb (fun ρ w=>asP (ρ 0) fun d_0=>asI .i64 (ρ 4) fun t4=>asI .i64 (ρ 5) fun t5=>asP (ρ 10) fun t10=>asL (ρ 12) fun t12=>asI .i64 (ρ 13) fun t13=>asI .i64 (ρ 14) fun t14=>qe.j11 d_0 t4 t5 t10 t12 t13 t14 Q nx1 w) (Eq.mp (by kernel_rfl) h) ?_
             intro ρ w h
             obtain ⟨d_0,e0,h⟩:=qr h
             obtain ⟨t4,e4,h⟩:=qd h
             obtain ⟨t5,e5,h⟩:=qd h
             obtain ⟨t10,e10,h⟩:=qr h
             obtain ⟨t12,e12,h⟩:=ql h
             obtain ⟨t13,e13,h⟩:=qd h
             obtain ⟨t14,e14,h⟩:=qd h
             refine qb e0 (qb (qa e4 rfl) (qb (qa (qa e5 rfl) rfl) (qb (qa (qa (qa e10 rfl) rfl) rfl) (qb (qa (qa (qa (qa e12 rfl) rfl) rfl) rfl) (qb (qa (qa (qa (qa (qa e13 rfl) rfl) rfl) rfl) rfl) (qb (qa (qa (qa (qa (qa (qa e14 rfl) rfl) rfl) rfl) rfl) rfl) ?_))))))
             refine qfb qpb (fun ρ w=>asP (ρ 0) fun d_0=>asI .i64 (ρ 4) fun t4=>asI .i64 (ρ 5) fun t5=>asP (ρ 10) fun t10=>asL (ρ 12) fun t12=>asI .i64 (ρ 14) fun t14=>asI .i64 (ρ 15) fun t15=>qe.j12 d_0 t4 t5 t10 t12 t14 t15 Q nx1 w) (Eq.mp (by kernel_rfl) h) ?_
             intro ρ w h
             obtain ⟨d_0,e0,h⟩:=qr h
             obtain ⟨t4,e4,h⟩:=qd h
             obtain ⟨t5,e5,h⟩:=qd h
             obtain ⟨t10,e10,h⟩:=qr h
             obtain ⟨t12,e12,h⟩:=ql h
             obtain ⟨t14,e14,h⟩:=qd h
             obtain ⟨t15,e15,h⟩:=qd h
             refine qb e0 (qb (qa e4 rfl) (qb (qa (qa e5 rfl) rfl) (qb (qa (qa (qa e10 rfl) rfl) rfl) (qb (qa (qa (qa (qa e12 rfl) rfl) rfl) rfl) (qb (qa (qa (qa (qa (qa e14 rfl) rfl) rfl) rfl) rfl) (qb (qa (qa (qa (qa (qa (qa e15 rfl) rfl) rfl) rfl) rfl) rfl) ?_))))))
             refine qu (fun ρ w=>asP (ρ 0) fun d_0=>asI .i64 (ρ 4) fun t4=>asI .i64 (ρ 5) fun t5=>asP (ρ 10) fun t10=>asL (ρ 12) fun t12=>asI .i64 (ρ 14) fun t14=>asI .i64 (ρ 15) fun t15=>qe.j13 d_0 t4 t5 t10 t12 t14 t15 Q nx1 w) ?_ ?_
             · skip
               exact qg qpb _ (Eq.mp (by kernel_rfl) h)
             · intro ρ w h
               obtain ⟨d_0,e0,h⟩:=qr h
               obtain ⟨t4,e4,h⟩:=qd h
               obtain ⟨t5,e5,h⟩:=qd h
               obtain ⟨t10,e10,h⟩:=qr h
               obtain ⟨t12,e12,h⟩:=ql h
               obtain ⟨t14,e14,h⟩:=qd h
               obtain ⟨t15,e15,h⟩:=qd h
               refine qb e0 (qb (qa e4 rfl) (qb (qa (qa e5 rfl) rfl) (qb (qa (qa (qa e10 rfl) rfl) rfl) (qb (qa (qa (qa (qa e12 rfl) rfl) rfl) rfl) (qb (qa (qa (qa (qa (qa e14 rfl) rfl) rfl) rfl) rfl) (qb (qa (qa (qa (qa (qa (qa e15 rfl) rfl) rfl) rfl) rfl) rfl) ?_))))))
               refine qfb qpb (fun ρ w=>asP (ρ 0) fun d_0=>asI .i64 (ρ 4) fun t4=>asI .i64 (ρ 5) fun t5=>asP (ρ 10) fun t10=>asL (ρ 12) fun t12=>asI .i64 (ρ 14) fun t14=>asI .i64 (ρ 15) fun t15=>asI .i64 (ρ 16) fun t16=>qe.j14 d_0 t4 t5 t10 t12 t14 t15 t16 Q nx1 w) (Eq.mp (by kernel_rfl) h) ?_
               intro ρ w h
               obtain ⟨d_0,e0,h⟩:=qr h
               obtain ⟨t4,e4,h⟩:=qd h
               obtain ⟨t5,e5,h⟩:=qd h
               obtain ⟨t10,e10,h⟩:=qr h
               obtain ⟨t12,e12,h⟩:=ql h
               obtain ⟨t14,e14,h⟩:=qd h
               obtain ⟨t15,e15,h⟩:=qd h
               obtain ⟨t16,e16,h⟩:=qd h
               refine qb e0 (qb (qa e4 rfl) (qb (qa (qa e5 rfl) rfl) (qb (qa (qa (qa e10 rfl) rfl) rfl) (qb (qa (qa (qa (qa e12 rfl) rfl) rfl) rfl) (qb (qa (qa (qa (qa (qa e14 rfl) rfl) rfl) rfl) rfl) (qb (qa (qa (qa (qa (qa (qa e15 rfl) rfl) rfl) rfl) rfl) rfl) (qb (qa (qa (qa (qa (qa (qa (qa e16 rfl) rfl) rfl) rfl) rfl) rfl) rfl) ?_)))))))
               refine qcb ?_
               obtain ⟨I,μ,hI,hr⟩:=h
               refine qlb (α:=Sl × Int) (fun s ρ=>ρ 12=.slice s.1.a s.1.len s.1.cap∧ρ 16=.int .i64 s.2∧ρ 0=.pointer d_0∧ρ 4=.int .i64 t4∧ρ 5=.int .i64 t5∧ρ 10=.pointer t10∧ρ 14=.int .i64 t14∧ρ 15=.int .i64 t15) (fun s w=>I s.1 s.2 w) (fun s w=>μ s.1 s.2 w) (t12,t16) ⟨rfl,rfl,rfl,rfl,rfl,rfl,rfl,rfl⟩ hI ?_
               rintro ⟨t12,t16⟩ ρ w ⟨e12,e16,e0,e4,e5,e10,e14,e15⟩ hI
               have h:=hr t12 t16 w hI
               clear hr
               obtain ⟨nx2,hnx⟩:∃ nx:OAd→Int→Int→OAd→Int→Int→Sl→Int→World→Prop,nx=(fun d_0' t4' t5' t10' t14' t15' t12' t16' w'=>(d_0'=d_0∧t4'=t4∧t5'=t5∧t10'=t10∧t14'=t14∧t15'=t15)∧I t12' t16' w'∧μ t12' t16' w' < μ t12 t16 w):=⟨_,rfl⟩
               rw [← hnx] at h
               refine qsb (M:=fun ρ w=>asP (ρ 0) fun d_0=>asI .i64 (ρ 4) fun t4=>asI .i64 (ρ 5) fun t5=>asP (ρ 10) fun t10=>asI .i64 (ρ 14) fun t14=>asI .i64 (ρ 15) fun t15=>asL (ρ 12) fun t12=>asI .i64 (ρ 16) fun t16=>nx2 d_0 t4 t5 t10 t14 t15 t12 t16 w) ?_ (fun ρ w h=>?_)
               · skip
                 refine qb e0 (qb (qa e4 rfl) (qb (qa (qa e5 rfl) rfl) (qb (qa (qa (qa e10 rfl) rfl) rfl) (qb (qa (qa (qa (qa e12 rfl) rfl) rfl) rfl) (qb (qa (qa (qa (qa (qa e14 rfl) rfl) rfl) rfl) rfl) (qb (qa (qa (qa (qa (qa (qa e15 rfl) rfl) rfl) rfl) rfl) rfl) (qb (qa (qa (qa (qa (qa (qa (qa e16 rfl) rfl) rfl) rfl) rfl) rfl) rfl) ?_)))))))
                 exact qg qpb _ (Eq.mp (by kernel_rfl) h)
               · skip
                 obtain ⟨d_0',e0',h⟩:=qr h
                 obtain ⟨t4',e4',h⟩:=qd h
                 obtain ⟨t5',e5',h⟩:=qd h
                 obtain ⟨t10',e10',h⟩:=qr h
                 obtain ⟨t14',e14',h⟩:=qd h
                 obtain ⟨t15',e15',h⟩:=qd h
                 obtain ⟨t12',e12',h⟩:=ql h
                 obtain ⟨t16',e16',h⟩:=qd h
                 rw [hnx] at h
                 obtain ⟨hu,hI2,hμ⟩:=h
                 obtain ⟨rfl,rfl,rfl,rfl,rfl,rfl⟩:=hu
                 exact ⟨(t12',t16'),⟨e12',e16',e0',e4',e5',e10',e14',e15'⟩,hI2,hμ⟩
         · skip
           obtain ⟨d_0',e0',h⟩:=qr h
           obtain ⟨t4',e4',h⟩:=qd h
           obtain ⟨t5',e5',h⟩:=qd h
           obtain ⟨t10',e10',h⟩:=qr h
           obtain ⟨t12',e12',h⟩:=ql h
           rw [hnx] at h
           obtain ⟨hu,hI2,hμ⟩:=h
           obtain ⟨rfl,rfl,rfl,rfl⟩:=hu
           exact ⟨t12',⟨e12',e0',e4',e5',e10'⟩,hI2,hμ⟩
       · intro ρ w h
         obtain ⟨d_0,e0,h⟩:=qr h
         obtain ⟨t4,e4,h⟩:=qd h
         obtain ⟨t12,e12,h⟩:=ql h
         refine qb e0 (qb (qa e4 rfl) (qb (qa (qa e12 rfl) rfl) ?_))
         exact qg qpb _ (Eq.mp (by kernel_rfl) h)
def qh.b2 (d_0 t6 t8:OAd) (t11:Int) (t14 t17:Int) (Q:VWP) (nx1:OAd→OAd→OAd→World→Prop) (nx2:OAd→OAd→OAd→Int→Int→Int→World→Prop) (w:World):Prop :=
 br (decide ((t17:Int) < t11)) (
 nz d_0 fun a1 =>
 ldI .i64 w (Addr.add a1 3) fun x2 =>
 br ((x2:Int) == 0) (
 lt (World.drew w) fun w3 =>
 nz d_0 fun a4 =>
 ldL w3 (Addr.add a4 1) fun x5 =>
 nz d_0 fun a6 =>
 ldL w3 (Addr.add a6 1) fun x7 =>
 lt (IntKind.i64.wrap (((x7.len:Nat):Int) - t14)) fun x8 =>
 ixS x5.a x5.len x8 1 fun a9 =>
 ldI .u8 w3 a9 fun x10 =>
 Calls Tryz.prog 291 ⟨[.pointer d_0,.int .u8 x10]⟩ w3 fun e11 w12 =>
 e11=.returned (.tuple ⟨[]⟩) ∧
 lt (IntKind.i64.wrap (t17+1)) fun x13 =>
 nx2 d_0 t6 t8 t11 t14 x13 w12) (
 nx1 d_0 t6 t8 w)) (
 nx1 d_0 t6 t8 w)
def qh.l2 (d_0 t6 t8:OAd) (t11:Int) (t14 t17:Int) (Q:VWP) (nx1:OAd→OAd→OAd→World→Prop) (w:World):Prop :=
 ∃ (I:Int→World→Prop) (μ:Int→World→Nat),I t17 w∧∀ t17:Int,∀ w:World,I t17 w→qh.b2 d_0 t6 t8 t11 t14 t17 Q nx1 (fun d_0' t6' t8' t11' t14' t17' w'=>(d_0'=d_0∧t6'=t6∧t8'=t8∧t11'=t11∧t14'=t14)∧I t17' w'∧μ t17' w' < μ t17 w) w
def qh.j12 (d_0 t6 t8:OAd) (t11:Int) (t14 t17:Int) (Q:VWP) (nx1:OAd→OAd→OAd→World→Prop) (w:World):Prop :=
 qh.l2 d_0 t6 t8 t11 t14 t17 Q nx1 w
def qh.j11 (d_0 t6 t8:OAd) (t11:Int) (t14:Int) (Q:VWP) (nx1:OAd→OAd→OAd→World→Prop) (w:World):Prop :=
 qh.j12 d_0 t6 t8 t11 t14 0 Q nx1 w
def qh.j10 (d_0 t6 t8:OAd) (t11:Int) (t14 t15:Int) (Q:VWP) (nx1:OAd→OAd→OAd→World→Prop) (w:World):Prop :=
 Calls Tryz.prog 216 ⟨[.pointer d_0,.int .i64 t15]⟩ w fun e14 w15 =>
 ∃ r16:Int,e14=.returned (.int .i64 r16) ∧
 lt (IntKind.i64.wrap (t14+r16)) fun x17 =>
 nz d_0 fun a18 =>
 ldI .i64 w15 (Addr.add a18 3) fun x19 =>
 br ((x19:Int) == 0) (
 nz d_0 fun a20 =>
 ldL w15 (Addr.add a20 1) fun x21 =>
 br (decide ((x17:Int) > ((x21.len:Nat):Int))) (
 Calls Tryz.prog 221 ⟨[.pointer d_0,.int .i64 2]⟩ w15 fun e22 w23 =>
 e22=.returned (.tuple ⟨[]⟩) ∧
 qh.j11 d_0 t6 t8 t11 x17 Q nx1 w23) (
 qh.j11 d_0 t6 t8 t11 x17 Q nx1 w15)) (
 qh.j11 d_0 t6 t8 t11 x17 Q nx1 w15)
def qh.j9 (d_0 t6 t8:OAd) (t11:Int) (t14 t15:Int) (Q:VWP) (nx1:OAd→OAd→OAd→World→Prop) (w:World):Prop :=
 nz d_0 fun a24 =>
 ldI .i64 w (Addr.add a24 3) fun x25 =>
 br ((x25:Int) != 0) (
 Q (.tuple ⟨[]⟩) w) (
 qh.j10 d_0 t6 t8 t11 t14 t15 Q nx1 w)
def qh.j8 (d_0 t6 t8:OAd) (t11:Int) (Q:VWP) (nx1:OAd→OAd→OAd→World→Prop) (w:World):Prop :=
 Calls Tryz.prog 293 ⟨[.pointer d_0,.pointer t8]⟩ w fun e26 w27 =>
 ∃ r28:Int,e26=.returned (.int .i64 r28) ∧
 Calls Tryz.prog 295 ⟨[.int .i64 r28]⟩ w27 fun e29 w30 =>
 ∃ r31:Int,∃ r32:Int,∃ r33:Bool,e29=.returned (.tuple ⟨[.int .i64 r31,.int .i64 r32,.bool r33]⟩) ∧
 nz d_0 fun a34 =>
 ldI .i64 w30 (Addr.add a34 3) fun x35 =>
 br ((x35:Int) == 0) (
 br (!r33) (
 Calls Tryz.prog 221 ⟨[.pointer d_0,.int .i64 2]⟩ w30 fun e36 w37 =>
 e36=.returned (.tuple ⟨[]⟩) ∧
 qh.j9 d_0 t6 t8 t11 r31 r32 Q nx1 w37) (
 qh.j9 d_0 t6 t8 t11 r31 r32 Q nx1 w30)) (
 qh.j9 d_0 t6 t8 t11 r31 r32 Q nx1 w30)
def qh.j7 (d_0 t6 t8:OAd) (t11:Int) (t12:Int) (t13:Bool) (Q:VWP) (nx1:OAd→OAd→OAd→World→Prop) (w:World):Prop :=
 br (!t13) (
 Calls Tryz.prog 221 ⟨[.pointer d_0,.int .i64 2]⟩ w fun e38 w39 =>
 e38=.returned (.tuple ⟨[]⟩) ∧
 Q (.tuple ⟨[]⟩) w39) (
 Calls Tryz.prog 216 ⟨[.pointer d_0,.int .i64 t12]⟩ w fun e40 w41 =>
 ∃ r42:Int,e40=.returned (.int .i64 r42) ∧
 lt (IntKind.i64.wrap (t11+r42)) fun x43 =>
 qh.j8 d_0 t6 t8 x43 Q nx1 w41)
def qh.j6 (d_0 t6 t8:OAd) (t10:Int) (Q:VWP) (nx1:OAd→OAd→OAd→World→Prop) (w:World):Prop :=
 br (decide ((t10:Int) < 256)) (
 lt (IntKind.u8.wrap t10) fun x44 =>
 Calls Tryz.prog 291 ⟨[.pointer d_0,.int .u8 x44]⟩ w fun e45 w46 =>
 e45=.returned (.tuple ⟨[]⟩) ∧
 nx1 d_0 t6 t8 w46) (
 Calls Tryz.prog 294 ⟨[.int .i64 t10]⟩ w fun e47 w48 =>
 ∃ r49:Int,∃ r50:Int,∃ r51:Bool,e47=.returned (.tuple ⟨[.int .i64 r49,.int .i64 r50,.bool r51]⟩) ∧
 qh.j7 d_0 t6 t8 r49 r50 r51 Q nx1 w48)
def qh.j5 (d_0 t6 t8:OAd) (t10:Int) (Q:VWP) (nx1:OAd→OAd→OAd→World→Prop) (w:World):Prop :=
 nz d_0 fun a52 =>
 ldI .i64 w (Addr.add a52 3) fun x53 =>
 br ((x53:Int) != 0) (
 Q (.tuple ⟨[]⟩) w) (
 br ((t10:Int) == 256) (
 Q (.tuple ⟨[]⟩) w) (
 qh.j6 d_0 t6 t8 t10 Q nx1 w))
def qh.j4 (d_0 t6 t8:OAd) (Q:VWP) (nx1:OAd→OAd→OAd→World→Prop) (w:World):Prop :=
 Calls Tryz.prog 293 ⟨[.pointer d_0,.pointer t6]⟩ w fun e54 w55 =>
 ∃ r56:Int,e54=.returned (.int .i64 r56) ∧
 qh.j5 d_0 t6 t8 r56 Q nx1 w55
def qh.b1 (d_0 t6 t8:OAd) (Q:VWP) (nx1:OAd→OAd→OAd→World→Prop) (w:World):Prop :=
 nz d_0 fun a57 =>
 ldI .i64 w (Addr.add a57 3) fun x58 =>
 br ((x58:Int) == 0) (
 qh.j4 d_0 t6 t8 Q nx1 w) (
 Q (.tuple ⟨[]⟩) w)
def qh.l1 (d_0 t6 t8:OAd) (Q:VWP) (w:World):Prop :=
 ∃ (I:World→Prop) (μ:World→Nat),I  w∧∀ w:World,I  w→qh.b1 d_0 t6 t8 Q (fun d_0' t6' t8' w'=>(d_0'=d_0∧t6'=t6∧t8'=t8)∧I  w'∧μ  w' < μ  w) w
def qh.j3 (d_0 t6 t8:OAd) (Q:VWP) (w:World):Prop :=
 qh.l1 d_0 t6 t8 Q w
def qh.j2 (d_0:OAd) (t2:Sl) (t6:OAd) (t7:Int) (Q:VWP) (w:World):Prop :=
 Calls Tryz.prog 292 ⟨[.slice t2.a t2.len t2.cap,.bool true]⟩ w fun e59 w60 =>
 ∃ r61:OAd,∃ r62:Int,e59=.returned (.tuple ⟨[.pointer r61,.int .i64 r62]⟩) ∧
 br ((t7:Int) != 0) (
 Calls Tryz.prog 221 ⟨[.pointer d_0,.int .i64 2]⟩ w60 fun e63 w64 =>
 e63=.returned (.tuple ⟨[]⟩) ∧
 Q (.tuple ⟨[]⟩) w64) (
 br ((r62:Int) != 0) (
 Calls Tryz.prog 221 ⟨[.pointer d_0,.int .i64 2]⟩ w60 fun e65 w66 =>
 e65=.returned (.tuple ⟨[]⟩) ∧
 Q (.tuple ⟨[]⟩) w66) (
 qh.j3 d_0 t6 r61 Q w60))
def qh.j1 (d_0:OAd) (i_1:Sl) (t2:Sl) (Q:VWP) (w:World):Prop :=
 ixS i_1.a i_1.len 256 1 fun a67 =>
 ldI .i64 w a67 fun x68 =>
 br ((x68:Int) == 0) (
 Calls Tryz.prog 221 ⟨[.pointer d_0,.int .i64 2]⟩ w fun e69 w70 =>
 e69=.returned (.tuple ⟨[]⟩) ∧
 Q (.tuple ⟨[]⟩) w70) (
 Calls Tryz.prog 292 ⟨[.slice i_1.a i_1.len i_1.cap,.bool true]⟩ w fun e71 w72 =>
 ∃ r73:OAd,∃ r74:Int,e71=.returned (.tuple ⟨[.pointer r73,.int .i64 r74]⟩) ∧
 qh.j2 d_0 t2 r73 r74 Q w72)
def qh (d_0:OAd) (i_1:Sl) (t2:Sl) (Q:VWP) (w:World):Prop :=
 nz d_0 fun a75 =>
 ldI .i64 w (Addr.add a75 3) fun x76 =>
 br ((x76:Int) != 0) (
 Q (.tuple ⟨[]⟩) w) (
 qh.j1 d_0 i_1 t2 Q w)
theorem qh.ok (d_0:OAd) (i_1:Sl) (t2:Sl) (Q:VWP) (w:World) (h:qh d_0 i_1 t2 Q w):Calls Tryz.prog 219 ⟨[.pointer d_0,.slice i_1.a i_1.len i_1.cap,.slice t2.a t2.len t2.cap]⟩ w (Ret Q):=by
 refine qp [] Tryz.func219 rfl rfl rfl rfl ?_
 refine qu (fun ρ w=>asP (ρ 0) fun d_0=>asL (ρ 1) fun i_1=>asL (ρ 2) fun t2=>qh.j1 d_0 i_1 t2 Q w) ?_ ?_
 · skip
   exact qg qpb _ (Eq.mp (by kernel_rfl) h)
 · intro ρ w h
   obtain ⟨d_0,e0,h⟩:=qr h
   obtain ⟨i_1,e1,h⟩:=ql h
   obtain ⟨t2,e2,h⟩:=ql h
   refine qb e0 (qb (qa e1 rfl) (qb (qa (qa e2 rfl) rfl) ?_))
   refine qfb qpb (fun ρ w=>asP (ρ 0) fun d_0=>asL (ρ 2) fun t2=>asP (ρ 6) fun t6=>asI .i64 (ρ 7) fun t7=>qh.j2 d_0 t2 t6 t7 Q w) (Eq.mp (by kernel_rfl) h) ?_
   intro ρ w h
   obtain ⟨d_0,e0,h⟩:=qr h
   obtain ⟨t2,e2,h⟩:=ql h
   obtain ⟨t6,e6,h⟩:=qr h
   obtain ⟨t7,e7,h⟩:=qd h
   refine qb e0 (qb (qa e2 rfl) (qb (qa (qa e6 rfl) rfl) (qb (qa (qa (qa e7 rfl) rfl) rfl) ?_)))
   refine qfb qpb (fun ρ w=>asP (ρ 0) fun d_0=>asP (ρ 6) fun t6=>asP (ρ 8) fun t8=>qh.j3 d_0 t6 t8 Q w) (Eq.mp (by kernel_rfl) h) ?_
   intro ρ w h
   obtain ⟨d_0,e0,h⟩:=qr h
   obtain ⟨t6,e6,h⟩:=qr h
   obtain ⟨t8,e8,h⟩:=qr h
   refine qb e0 (qb (qa e6 rfl) (qb (qa (qa e8 rfl) rfl) ?_))
   refine qcb ?_
   obtain ⟨I,μ,hI,hr⟩:=h
   refine qlb (α:=Unit) (fun s ρ=>ρ 0=.pointer d_0∧ρ 6=.pointer t6∧ρ 8=.pointer t8) (fun s w=>I  w) (fun s w=>μ  w) () ⟨rfl,rfl,rfl⟩ hI ?_
   rintro ⟨⟩ ρ w ⟨e0,e6,e8⟩ hI
   have h:=hr  w hI
   clear hr
   obtain ⟨nx1,hnx⟩:∃ nx:OAd→OAd→OAd→World→Prop,nx=(fun d_0' t6' t8' w'=>(d_0'=d_0∧t6'=t6∧t8'=t8)∧I  w'∧μ  w' < μ  w):=⟨_,rfl⟩
   rw [← hnx] at h
   refine qsb (M:=fun ρ w=>asP (ρ 0) fun d_0=>asP (ρ 6) fun t6=>asP (ρ 8) fun t8=>nx1 d_0 t6 t8 w) ?_ (fun ρ w h=>?_)
   · skip
     refine qb e0 (qb (qa e6 rfl) (qb (qa (qa e8 rfl) rfl) ?_))
     refine qu (fun ρ w=>asP (ρ 0) fun d_0=>asP (ρ 6) fun t6=>asP (ρ 8) fun t8=>qh.j4 d_0 t6 t8 Q nx1 w) ?_ ?_
     · skip
       exact qg qpb _ (Eq.mp (by kernel_rfl) h)
     · intro ρ w h
       obtain ⟨d_0,e0,h⟩:=qr h
       obtain ⟨t6,e6,h⟩:=qr h
       obtain ⟨t8,e8,h⟩:=qr h
       refine qb e0 (qb (qa e6 rfl) (qb (qa (qa e8 rfl) rfl) ?_))
       refine qcb ?_
       refine qu (fun ρ w=>asP (ρ 0) fun d_0=>asP (ρ 6) fun t6=>asP (ρ 8) fun t8=>asI .i64 (ρ 10) fun t10=>qh.j5 d_0 t6 t8 t10 Q nx1 w) ?_ ?_
       · skip
         exact qg qpb _ (Eq.mp (by kernel_rfl) h)
       · intro ρ w h
         obtain ⟨d_0,e0,h⟩:=qr h
         obtain ⟨t6,e6,h⟩:=qr h
         obtain ⟨t8,e8,h⟩:=qr h
         obtain ⟨t10,e10,h⟩:=qd h
         refine qb e0 (qb (qa e6 rfl) (qb (qa (qa e8 rfl) rfl) (qb (qa (qa (qa e10 rfl) rfl) rfl) ?_)))
         refine qfb qpb (fun ρ w=>asP (ρ 0) fun d_0=>asP (ρ 6) fun t6=>asP (ρ 8) fun t8=>asI .i64 (ρ 10) fun t10=>qh.j6 d_0 t6 t8 t10 Q nx1 w) (Eq.mp (by kernel_rfl) h) ?_
         intro ρ w h
         obtain ⟨d_0,e0,h⟩:=qr h
         obtain ⟨t6,e6,h⟩:=qr h
         obtain ⟨t8,e8,h⟩:=qr h
         obtain ⟨t10,e10,h⟩:=qd h
         refine qb e0 (qb (qa e6 rfl) (qb (qa (qa e8 rfl) rfl) (qb (qa (qa (qa e10 rfl) rfl) rfl) ?_)))
         refine qfb qpb (fun ρ w=>asP (ρ 0) fun d_0=>asP (ρ 6) fun t6=>asP (ρ 8) fun t8=>asI .i64 (ρ 11) fun t11=>asI .i64 (ρ 12) fun t12=>asB (ρ 13) fun t13=>qh.j7 d_0 t6 t8 t11 t12 t13 Q nx1 w) (Eq.mp (by kernel_rfl) h) ?_
         intro ρ w h
         obtain ⟨d_0,e0,h⟩:=qr h
         obtain ⟨t6,e6,h⟩:=qr h
         obtain ⟨t8,e8,h⟩:=qr h
         obtain ⟨t11,e11,h⟩:=qd h
         obtain ⟨t12,e12,h⟩:=qd h
         obtain ⟨t13,e13,h⟩:=qcd h
         refine qb e0 (qb (qa e6 rfl) (qb (qa (qa e8 rfl) rfl) (qb (qa (qa (qa e11 rfl) rfl) rfl) (qb (qa (qa (qa (qa e12 rfl) rfl) rfl) rfl) (qb (qa (qa (qa (qa (qa e13 rfl) rfl) rfl) rfl) rfl) ?_)))))
         refine qfb qpb (fun ρ w=>asP (ρ 0) fun d_0=>asP (ρ 6) fun t6=>asP (ρ 8) fun t8=>asI .i64 (ρ 11) fun t11=>qh.j8 d_0 t6 t8 t11 Q nx1 w) (Eq.mp (by kernel_rfl) h) ?_
         intro ρ w h
         obtain ⟨d_0,e0,h⟩:=qr h
         obtain ⟨t6,e6,h⟩:=qr h
         obtain ⟨t8,e8,h⟩:=qr h
         obtain ⟨t11,e11,h⟩:=qd h
         refine qb e0 (qb (qa e6 rfl) (qb (qa (qa e8 rfl) rfl) (qb (qa (qa (qa e11 rfl) rfl) rfl) ?_)))
         refine qfb qpb (fun ρ w=>asP (ρ 0) fun d_0=>asP (ρ 6) fun t6=>asP (ρ 8) fun t8=>asI .i64 (ρ 11) fun t11=>asI .i64 (ρ 14) fun t14=>asI .i64 (ρ 15) fun t15=>qh.j9 d_0 t6 t8 t11 t14 t15 Q nx1 w) (Eq.mp (by kernel_rfl) h) ?_
         intro ρ w h
         obtain ⟨d_0,e0,h⟩:=qr h
         obtain ⟨t6,e6,h⟩:=qr h
         obtain ⟨t8,e8,h⟩:=qr h
         obtain ⟨t11,e11,h⟩:=qd h
         obtain ⟨t14,e14,h⟩:=qd h
         obtain ⟨t15,e15,h⟩:=qd h
         refine qb e0 (qb (qa e6 rfl) (qb (qa (qa e8 rfl) rfl) (qb (qa (qa (qa e11 rfl) rfl) rfl) (qb (qa (qa (qa (qa e14 rfl) rfl) rfl) rfl) (qb (qa (qa (qa (qa (qa e15 rfl) rfl) rfl) rfl) rfl) ?_)))))
         refine qu (fun ρ w=>asP (ρ 0) fun d_0=>asP (ρ 6) fun t6=>asP (ρ 8) fun t8=>asI .i64 (ρ 11) fun t11=>asI .i64 (ρ 14) fun t14=>asI .i64 (ρ 15) fun t15=>qh.j10 d_0 t6 t8 t11 t14 t15 Q nx1 w) ?_ ?_
         · skip
           exact qg qpb _ (Eq.mp (by kernel_rfl) h)
         · intro ρ w h
           obtain ⟨d_0,e0,h⟩:=qr h
           obtain ⟨t6,e6,h⟩:=qr h
           obtain ⟨t8,e8,h⟩:=qr h
           obtain ⟨t11,e11,h⟩:=qd h
           obtain ⟨t14,e14,h⟩:=qd h
           obtain ⟨t15,e15,h⟩:=qd h
           refine qb e0 (qb (qa e6 rfl) (qb (qa (qa e8 rfl) rfl) (qb (qa (qa (qa e11 rfl) rfl) rfl) (qb (qa (qa (qa (qa e14 rfl) rfl) rfl) rfl) (qb (qa (qa (qa (qa (qa e15 rfl) rfl) rfl) rfl) rfl) ?_)))))
           refine qfb qpb (fun ρ w=>asP (ρ 0) fun d_0=>asP (ρ 6) fun t6=>asP (ρ 8) fun t8=>asI .i64 (ρ 11) fun t11=>asI .i64 (ρ 14) fun t14=>qh.j11 d_0 t6 t8 t11 t14 Q nx1 w) (Eq.mp (by kernel_rfl) h) ?_
           intro ρ w h
           obtain ⟨d_0,e0,h⟩:=qr h
           obtain ⟨t6,e6,h⟩:=qr h
           obtain ⟨t8,e8,h⟩:=qr h
           obtain ⟨t11,e11,h⟩:=qd h
           obtain ⟨t14,e14,h⟩:=qd h
           refine qb e0 (qb (qa e6 rfl) (qb (qa (qa e8 rfl) rfl) (qb (qa (qa (qa e11 rfl) rfl) rfl) (qb (qa (qa (qa (qa e14 rfl) rfl) rfl) rfl) ?_))))
           refine qu (fun ρ w=>asP (ρ 0) fun d_0=>asP (ρ 6) fun t6=>asP (ρ 8) fun t8=>asI .i64 (ρ 11) fun t11=>asI .i64 (ρ 14) fun t14=>asI .i64 (ρ 17) fun t17=>qh.j12 d_0 t6 t8 t11 t14 t17 Q nx1 w) ?_ ?_
           · skip
             exact qg qpb _ (Eq.mp (by kernel_rfl) h)
           · intro ρ w h
             obtain ⟨d_0,e0,h⟩:=qr h
             obtain ⟨t6,e6,h⟩:=qr h
             obtain ⟨t8,e8,h⟩:=qr h
             obtain ⟨t11,e11,h⟩:=qd h
             obtain ⟨t14,e14,h⟩:=qd h
             obtain ⟨t17,e17,h⟩:=qd h
             refine qb e0 (qb (qa e6 rfl) (qb (qa (qa e8 rfl) rfl) (qb (qa (qa (qa e11 rfl) rfl) rfl) (qb (qa (qa (qa (qa e14 rfl) rfl) rfl) rfl) (qb (qa (qa (qa (qa (qa e17 rfl) rfl) rfl) rfl) rfl) ?_)))))
             refine qcb ?_
             obtain ⟨I,μ,hI,hr⟩:=h
             refine qlb (α:=Int) (fun s ρ=>ρ 17=.int .i64 s∧ρ 0=.pointer d_0∧ρ 6=.pointer t6∧ρ 8=.pointer t8∧ρ 11=.int .i64 t11∧ρ 14=.int .i64 t14) (fun s w=>I s w) (fun s w=>μ s w) t17 ⟨rfl,rfl,rfl,rfl,rfl,rfl⟩ hI ?_
             rintro t17 ρ w ⟨e17,e0,e6,e8,e11,e14⟩ hI
             have h:=hr t17 w hI
             clear hr
             obtain ⟨nx2,hnx⟩:∃ nx:OAd→OAd→OAd→Int→Int→Int→World→Prop,nx=(fun d_0' t6' t8' t11' t14' t17' w'=>(d_0'=d_0∧t6'=t6∧t8'=t8∧t11'=t11∧t14'=t14)∧I t17' w'∧μ t17' w' < μ t17 w):=⟨_,rfl⟩
             rw [← hnx] at h
             refine qsb (M:=fun ρ w=>asP (ρ 0) fun d_0=>asP (ρ 6) fun t6=>asP (ρ 8) fun t8=>asI .i64 (ρ 11) fun t11=>asI .i64 (ρ 14) fun t14=>asI .i64 (ρ 17) fun t17=>nx2 d_0 t6 t8 t11 t14 t17 w) ?_ (fun ρ w h=>?_)
             · skip
               refine qb e0 (qb (qa e6 rfl) (qb (qa (qa e8 rfl) rfl) (qb (qa (qa (qa e11 rfl) rfl) rfl) (qb (qa (qa (qa (qa e14 rfl) rfl) rfl) rfl) (qb (qa (qa (qa (qa (qa e17 rfl) rfl) rfl) rfl) rfl) ?_)))))
               exact qg qpb _ (Eq.mp (by kernel_rfl) h)
             · skip
               obtain ⟨d_0',e0',h⟩:=qr h
               obtain ⟨t6',e6',h⟩:=qr h
               obtain ⟨t8',e8',h⟩:=qr h
               obtain ⟨t11',e11',h⟩:=qd h
               obtain ⟨t14',e14',h⟩:=qd h
               obtain ⟨t17',e17',h⟩:=qd h
               rw [hnx] at h
               obtain ⟨hu,hI2,hμ⟩:=h
               obtain ⟨rfl,rfl,rfl,rfl,rfl⟩:=hu
               exact ⟨t17',⟨e17',e0',e6',e8',e11',e14'⟩,hI2,hμ⟩
   · skip
     obtain ⟨d_0',e0',h⟩:=qr h
     obtain ⟨t6',e6',h⟩:=qr h
     obtain ⟨t8',e8',h⟩:=qr h
     rw [hnx] at h
     obtain ⟨hu,hI2,hμ⟩:=h
     obtain ⟨rfl,rfl,rfl⟩:=hu
     exact ⟨(),⟨e0',e6',e8'⟩,hI2,hμ⟩
def qvb.j3 (s_0:OAd) (last_3:Bool) (Q:VWP) (w:World):Prop :=
 br last_3 (
 nz s_0 fun a1 =>
 ldI .i64 w (Addr.add a1 3) fun x2 =>
 Q (.bool ((x2:Int) == 0)) w) (
 Q (.bool false) w)
def qvb.j2 (s_0:OAd) (last_3:Bool) (k_4:Int) (Q:VWP) (w:World):Prop :=
 nz s_0 fun a3 =>
 ldI .i64 w (Addr.add a3 3) fun x4 =>
 br ((x4:Int) != 0) (
 Q (.bool false) w) (
 br ((k_4:Int) == 0) (
 Calls Tryz.prog 217 ⟨[.pointer s_0]⟩ w fun e5 w6 =>
 e5=.returned (.tuple ⟨[]⟩) ∧
 qvb.j3 s_0 last_3 Q w6) (
 br ((k_4:Int) == 1) (
 Calls Tryz.prog 218 ⟨[]⟩ w fun e7 w8 =>
 ∃ r9:Sl,∃ r10:Sl,e7=.returned (.tuple ⟨[.slice r9.a r9.len r9.cap,.slice r10.a r10.len r10.cap]⟩) ∧
 Calls Tryz.prog 219 ⟨[.pointer s_0,.slice r9.a r9.len r9.cap,.slice r10.a r10.len r10.cap]⟩ w8 fun e11 w12 =>
 e11=.returned (.tuple ⟨[]⟩) ∧
 qvb.j3 s_0 last_3 Q w12) (
 br ((k_4:Int) == 2) (
 Calls Tryz.prog 220 ⟨[.pointer s_0]⟩ w fun e13 w14 =>
 ∃ r15:Sl,∃ r16:Sl,e13=.returned (.tuple ⟨[.slice r15.a r15.len r15.cap,.slice r16.a r16.len r16.cap]⟩) ∧
 Calls Tryz.prog 219 ⟨[.pointer s_0,.slice r15.a r15.len r15.cap,.slice r16.a r16.len r16.cap]⟩ w14 fun e17 w18 =>
 e17=.returned (.tuple ⟨[]⟩) ∧
 qvb.j3 s_0 last_3 Q w18) (
 Calls Tryz.prog 221 ⟨[.pointer s_0,.int .i64 2]⟩ w fun e19 w20 =>
 e19=.returned (.tuple ⟨[]⟩) ∧
 qvb.j3 s_0 last_3 Q w20))))
def qvb.j1 (s_0:OAd) (Q:VWP) (w:World):Prop :=
 Calls Tryz.prog 216 ⟨[.pointer s_0,.int .i64 1]⟩ w fun e21 w22 =>
 ∃ r23:Int,e21=.returned (.int .i64 r23) ∧
 Calls Tryz.prog 216 ⟨[.pointer s_0,.int .i64 2]⟩ w22 fun e24 w25 =>
 ∃ r26:Int,e24=.returned (.int .i64 r26) ∧
 qvb.j2 s_0 ((r23:Int) == 1) r26 Q w25
def qvb (s_0:OAd) (Q:VWP) (w:World):Prop :=
 qvb.j1 s_0 Q w
theorem qvb.ok (s_0:OAd) (Q:VWP) (w:World) (h:qvb s_0 Q w):Calls Tryz.prog 134 ⟨[.pointer s_0]⟩ w (Ret Q):=by
 refine qp [.tmp 2] Tryz.func134 rfl rfl rfl rfl ?_
 refine qu (fun ρ w=>asP (ρ 0) fun s_0=>qvb.j1 s_0 Q w) ?_ ?_
 · skip
   exact qg qpb _ (Eq.mp (by kernel_rfl) h)
 · intro ρ w h
   obtain ⟨s_0,e0,h⟩:=qr h
   refine qb e0 ?_
   refine qfb qpb (fun ρ w=>asP (ρ 0) fun s_0=>asB (ρ 3) fun last_3=>asI .i64 (ρ 4) fun k_4=>qvb.j2 s_0 last_3 k_4 Q w) (Eq.mp (by kernel_rfl) h) ?_
   intro ρ w h
   obtain ⟨s_0,e0,h⟩:=qr h
   obtain ⟨last_3,e3,h⟩:=qcd h
   obtain ⟨k_4,e4,h⟩:=qd h
   refine qb e0 (qb (qa e3 rfl) (qb (qa (qa e4 rfl) rfl) ?_))
   refine qfb qpb (fun ρ w=>asP (ρ 0) fun s_0=>asB (ρ 3) fun last_3=>qvb.j3 s_0 last_3 Q w) (Eq.mp (by kernel_rfl) h) ?_
   intro ρ w h
   obtain ⟨s_0,e0,h⟩:=qr h
   obtain ⟨last_3,e3,h⟩:=qcd h
   refine qb e0 (qb (qa e3 rfl) ?_)
   exact qg qpb _ (Eq.mp (by kernel_rfl) h)
def qtb.j3 (s_7:OAd) (Q:VWP) (w:World):Prop :=
 lt (World.drew w) fun w1 =>
 nz s_7 fun a2 =>
 nz s_7 fun a3 =>
 ldP w1 (Addr.add a3 0) fun x4 =>
 (ldL w1 (Addr.add a2 1) fun x5 =>
 Calls Tryz.prog 135 ⟨[.pointer x4]⟩ w1 fun e6 w7 =>
 ∃ r8:Int,e6=.returned (.int .i64 r8) ∧
 Q (.tuple ⟨[.slice x5.a x5.len x5.cap,.int .i64 r8,.int .i64 0]⟩) w7)∧(
 Calls Tryz.prog 135 ⟨[.pointer x4]⟩ w1 fun e9 w10 =>
 ∃ r11:Int,e9=.returned (.int .i64 r11) ∧
 ldL w10 (Addr.add a2 1) fun x12 =>
 Q (.tuple ⟨[.slice x12.a x12.len x12.cap,.int .i64 r11,.int .i64 0]⟩) w10)
def qtb.b1 (s_7:OAd) (Q:VWP) (nx1:OAd→World→Prop) (w:World):Prop :=
 Calls Tryz.prog 134 ⟨[.pointer s_7]⟩ w fun e13 w14 =>
 ∃ r15:Bool,e13=.returned (.bool r15) ∧
 br (!r15) (
 nz s_7 fun a16 =>
 ldI .i64 w14 (Addr.add a16 3) fun x17 =>
 br ((x17:Int) != 0) (
 lt (World.drew w14) fun w18 =>
 nz s_7 fun a19 =>
 ldI .i64 w18 (Addr.add a19 3) fun x20 =>
 Q (.tuple ⟨[.slice none 0 0,.int .i64 0,.int .i64 x20]⟩) w18) (
 nx1 s_7 w14)) (
 qtb.j3 s_7 Q w14)
def qtb.l1 (s_7:OAd) (Q:VWP) (w:World):Prop :=
 ∃ (I:World→Prop) (μ:World→Nat),I  w∧∀ w:World,I  w→qtb.b1 s_7 Q (fun s_7' w'=>(s_7'=s_7)∧I  w'∧μ  w' < μ  w) w
def qtb.j2 (s_7:OAd) (Q:VWP) (w:World):Prop :=
 qtb.l1 s_7 Q w
def qtb.j1 (b_0:Sl) (most_1:Int) (Q:VWP) (w:World):Prop :=
 br (decide ((most_1:Int) < 0)) (
 Q (.tuple ⟨[.slice none 0 0,.int .i64 0,.int .i64 1]⟩) w) (
 br (decide ((most_1:Int) > 262144)) (
 Q (.tuple ⟨[.slice none 0 0,.int .i64 0,.int .i64 1]⟩) w) (
 lt (⟨World.heapSize w,0,none⟩:Addr) fun a21 =>
 lt (World.alloc w (.cells (⟨[.slice b_0.a b_0.len b_0.cap,.int .i64 0]⟩:Array Value) 225)) fun w22 =>
 lt (⟨World.heapSize w22,0,none⟩:Addr) fun a23 =>
 lt (World.alloc w22 (.cells (⟨[.pointer (some a21),.slice none 0 0,.int .i64 most_1,.int .i64 0]⟩:Array Value) 227)) fun w24 =>
 qtb.j2 (some a23) Q w24))
def qtb (b_0:Sl) (most_1:Int) (Q:VWP) (w:World):Prop :=
 qtb.j1 b_0 most_1 Q w
theorem qtb.ok (b_0:Sl) (most_1:Int) (Q:VWP) (w:World) (h:qtb b_0 most_1 Q w):Calls Tryz.prog 47 ⟨[.slice b_0.a b_0.len b_0.cap,.int .i64 most_1]⟩ w (Ret Q):=by
 refine qp [.tmp 4,.tmp 5,.tmp 6] Tryz.func47 rfl rfl rfl rfl ?_
 refine qu (fun ρ w=>asL (ρ 0) fun b_0=>asI .i64 (ρ 1) fun most_1=>qtb.j1 b_0 most_1 Q w) ?_ ?_
 · skip
   exact qg qpb _ (Eq.mp (by kernel_rfl) h)
 · intro ρ w h
   obtain ⟨b_0,e0,h⟩:=ql h
   obtain ⟨most_1,e1,h⟩:=qd h
   refine qb e0 (qb (qa e1 rfl) ?_)
   refine qfb qpb (fun ρ w=>asP (ρ 7) fun s_7=>qtb.j2 s_7 Q w) (Eq.mp (by kernel_rfl) h) ?_
   intro ρ w h
   obtain ⟨s_7,e7,h⟩:=qr h
   refine qb e7 ?_
   refine qu (fun ρ w=>asP (ρ 7) fun s_7=>qtb.j3 s_7 Q w) ?_ ?_
   · skip
     refine qcb ?_
     obtain ⟨I,μ,hI,hr⟩:=h
     refine qlb (α:=Unit) (fun s ρ=>ρ 7=.pointer s_7) (fun s w=>I  w) (fun s w=>μ  w) () rfl hI ?_
     rintro ⟨⟩ ρ w e7 hI
     have h:=hr  w hI
     clear hr
     obtain ⟨nx1,hnx⟩:∃ nx:OAd→World→Prop,nx=(fun s_7' w'=>(s_7'=s_7)∧I  w'∧μ  w' < μ  w):=⟨_,rfl⟩
     rw [← hnx] at h
     refine qsb (M:=fun ρ w=>asP (ρ 7) fun s_7=>nx1 s_7 w) ?_ (fun ρ w h=>?_)
     · skip
       refine qb e7 ?_
       exact qg qpb _ (Eq.mp (by kernel_rfl) h)
     · skip
       obtain ⟨s_7',e7',h⟩:=qr h
       rw [hnx] at h
       obtain ⟨hu,hI2,hμ⟩:=h
       obtain rfl:=hu
       exact ⟨(),e7',hI2,hμ⟩
   · intro ρ w h
     obtain ⟨s_7,e7,h⟩:=qr h
     refine qb e7 ?_
     exact qg qpb _ (Eq.mp (by kernel_rfl) h)
end Go.Proofs.YthdmmmfgjmmelaaGreat
namespace Go.Proofs.YthdmmmfgjmmelaaGreat
open Go Go.Proofs
set_option linter.unusedVariables false
set_option linter.unusedSimpArgs false
attribute [local irreducible] apK cpK mkK br
def dtA (sb rb:Nat) (q:Sl) (most:Int) (z:Z):As:=exA fun o:Sl=>andA (qjd sb [.pointer (some ⟨rb,0,none⟩),.slice o.a o.len o.cap,.int .i64 most,.int .i64 z.2.2]) (andA (bitR rb (q,z.1)) (qmc 1 o (u8s z.2.1)))
section
variable {F0:List Nat} {w0 w:World} {ps rest rest2:List As} {sb rb V N:Nat} {q:Sl} {most:Int} {z:Z}
theorem qxq (h:St F0 w0 w (dtA sb rb q most z :: ps)):∃ o:Sl,St F0 w0 w (qjd sb [.pointer (some ⟨rb,0,none⟩),.slice o.a o.len o.cap,.int .i64 most,.int .i64 z.2.2] :: bitR rb (q,z.1) :: qmc 1 o (u8s z.2.1) :: ps):=by
 unfold dtA at h
 obtain ⟨o,h⟩:=h.exE
 exact ⟨o,h.split.tail fun _ _ _ h=>h.split⟩
theorem dt_c {o:Sl} {p:Nat} {out:List Int} {err:Int} (h:St F0 w0 w (qjd sb [.pointer (some ⟨rb,0,none⟩),.slice o.a o.len o.cap,.int .i64 most,.int .i64 err] :: bitR rb (q,p) :: qmc 1 o (u8s out) :: ps)):St F0 w0 w (dtA sb rb q most (p,out,err) :: ps):=by
 unfold dtA
 exact St.exI o (St.join (h.tail fun _ _ _ h=>h.join))
theorem qpe.c {e:Int} {K:Ending→World→Prop} (h:St F0 w0 w (dtA sb rb q most z :: ps))
 (hk:∀ w',St F0 w0 w' (dtA sb rb q most (qdd e z) :: ps)→K (.returned (.tuple ⟨[]⟩)) w'):Calls Tryz.prog 221 ⟨[.pointer (some ⟨sb,0,none⟩),.int .i64 e]⟩ w K:=by
 obtain ⟨p,out,err⟩:=z
 refine qnc (qyf.ok _ _ _ _ ?_)
 unfold qyf
 unfold qdd at hk
 obtain ⟨o,h⟩:=qxq h
 simp only at h hk
 refine qod (h.fI ?_)
 refine qqe (fun g=>?_) (fun g=>?_)
 · rw [if_pos (by simpa using g)] at hk
   refine qod (h.fst trivial fun w h=>?_)
   exact hk w (dt_c h)
 · rw [if_neg (by simpa using g)] at hk
   exact hk w (dt_c h)
theorem qng.c {n:Int} {K:Ending→World→Prop} (h:St F0 w0 w (dtA sb rb q most z :: ps)) [Rdb F0 w0 q ps 1 (u8s (byt V N))] (hN:N≤137438953472) (hp:z.1≤8 * N)
 (hk:∀ w',(qie (qm V (8 * N)) n z).2.1≤8 * N→St F0 w0 w' (dtA sb rb q most (qie (qm V (8 * N)) n z).2 :: ps)→K (.returned (.int .i64 (qie (qm V (8 * N)) n z).1)) w'):Calls Tryz.prog 216 ⟨[.pointer (some ⟨sb,0,none⟩),.int .i64 n]⟩ w K:=by
 have hf:=(qym (B:=qm V (8 * N)) n (z:=z) (by rw [qq]; exact hp)).2
 rw [qq] at hf
 have hk:=fun w'=>hk w' hf
 clear hf
 obtain ⟨p,out,err⟩:=z
 simp only at hp
 refine qnc (qmg.ok _ _ _ _ ?_)
 unfold qmg
 unfold qie at hk
 have h0:=h
 obtain ⟨o,h⟩:=qxq h
 simp only at h hk
 refine qod (h.fI ?_)
 refine qqe (fun g=>?_) (fun g=>?_)
 · rw [if_pos (by simpa using g)] at hk
   exact hk w h0
 · have g:err=0:=by simpa using g
   subst g
   rw [if_neg (by simp),qq] at hk
   refine qod (h.fP ?_)
   have h:St F0 w0 w (rfA rb q p :: qjd sb [.pointer (some ⟨rb,0,none⟩),.slice o.a o.len o.cap,.int .i64 most,.int .i64 0] :: qmc 1 o (u8s out) :: ps):=h.at1
   refine qeb.c (V:=V) (N:=N) (at':=p) (s:=q) h (fun w h=>h.rdb q) hN (by omega) (fun g w h=>⟨_,_,rfl,?_⟩) (fun g w h=>⟨_,_,rfl,?_⟩)
   · have g:=of_decide_eq_true g
     rw [if_pos ⟨g.1,g.2.1,by omega⟩] at hk
     simp only at hk
     rw [zget_val (by omega)] at hk
     refine qik ?_
     exact hk w (dt_c (q:=q) (p:=p+n.toNat) h.at1)
   · have g:=of_decide_eq_false g
     rw [if_neg (fun e=>g ⟨e.1,e.2.1,by have:=e.2.2; omega⟩)] at hk
     refine qum ?_
     have h:=dt_c (q:=q) (p:=p) (out:=out) (err:=0) h.at1
     refine qpe.c h fun w h=>⟨rfl,?_⟩
     exact hk w h
theorem ref7_put.c {b:Int} {K:Ending→World→Prop} (h:St F0 w0 w (dtA sb rb q most z :: ps)) (hL:z.2.1.length≤1000000000)
 (hk:∀ w',St F0 w0 w' (dtA sb rb q most (qlm most b z) :: ps)→K (.returned (.tuple ⟨[]⟩)) w'):Calls Tryz.prog 291 ⟨[.pointer (some ⟨sb,0,none⟩),.int .u8 b]⟩ w K:=by
 obtain ⟨p,out,err⟩:=z
 simp only at hL
 refine qnc (qlg.ok _ _ _ _ ?_)
 unfold qlg
 unfold qlm at hk
 have h0:=h
 obtain ⟨o,h⟩:=qxq h
 simp only at h hk
 have hol:=h.at2.len
 rw [qx] at hol
 refine qod (h.fI ?_)
 refine qqe (fun g=>?_) (fun g=>?_)
 · rw [if_pos (by simpa using g)] at hk
   exact hk w h0
 have g:err=0:=by simpa using g
 subst g
 rw [if_neg (by simp)] at hk
 refine h.drewK fun w h=>?_
 refine qod (h.fL (qod (h.fI ?_)))
 refine qxc (fun g2=>?_) (fun g2=>?_)
 · have g2:((o.len:Nat):Int) ≥ most:=g2
   rw [if_pos (by omega)] at hk
   exact qpe.c (dt_c h) fun w h=>⟨rfl,hk w h⟩
 · have g2:¬ ((o.len:Nat):Int) ≥ most:=g2
   rw [if_neg (by omega)] at hk
   refine qod (h.fL ?_)
   refine h.pushI (s:=o) (by omega) fun o2 w h=>?_
   refine qod (h.fst trivial fun w h=>?_)
   exact hk w (dt_c (o:=o2) h.sub)
theorem ref7_sym.c {cb:Nat} {ls:List Int} {K:Ending→World→Prop} (h:St F0 w0 w (dtA sb rb q most z :: ps)) [Rdb F0 w0 q ps 1 (u8s (byt V N))] [PkF hrA cb ps ls rest] [Rdb F0 w0 q rest 1 (u8s (byt V N))] (hN:N≤137438953472) (hp:z.1≤8 * N)
 (hk:∀ w',(qxi ls (qm V (8 * N)) z).2.1≤8 * N→St F0 w0 w' (dtA sb rb q most (qxi ls (qm V (8 * N)) z).2 :: ps)→K (.returned (.int .i64 (qxi ls (qm V (8 * N)) z).1)) w') :
 Calls Tryz.prog 293 ⟨[.pointer (some ⟨sb,0,none⟩),.pointer (some ⟨cb,0,none⟩)]⟩ w K:=by
 obtain ⟨p,out,err⟩:=z
 simp only at hp
 refine qnc (qkg.ok _ _ _ _ ?_)
 unfold qkg
 unfold qxi at hk
 have h0:=h
 obtain ⟨o,h⟩:=qxq h
 simp only at h hk
 refine qod (h.fI ?_)
 refine qqe (fun g=>?_) (fun g=>?_)
 · rw [if_pos (by simpa using g)] at hk
   exact hk w hp h0
 have g:err=0:=by simpa using g
 subst g
 rw [if_neg (by simp)] at hk
 refine qod (h.fP ?_)
 refine qo.c (ls:=ls) (cb:=cb) (rb:=rb) (V:=V) (N:=N) (p:=p) (s:=q) h.at1 hN hp fun w hle h=>⟨_,_,rfl,?_⟩
 refine qqe (fun g=>?_) (fun g=>?_)
 · refine qpe.c (dt_c h.at1) fun w h=>⟨rfl,?_⟩
   refine hk w hle ?_
   unfold qdd at h
   simp only at h
   rw [if_pos trivial] at h
   exact h
 · refine hk w hle ?_
   have g:(hnext ls (qm V (8 * N)) p).2.1=0:=by simpa using g
   rw [g]
   exact dt_c h.at1
theorem ref7_stored.c {K:Ending→World→Prop} (h:St F0 w0 w (dtA sb rb q most z :: ps)) [Rdb F0 w0 q ps 1 (u8s (byt V N))] (hN:N≤137438953472) (hp:z.1≤8 * N) (hm:most≤1000000) (hm0:0≤most) (hL:z.2.1.length≤1000000)
 (hk:∀ w',St F0 w0 w' (dtA sb rb q most (zstored (qm V (8 * N)) most z) :: ps)→K (.returned (.tuple ⟨[]⟩)) w') :
 Calls Tryz.prog 217 ⟨[.pointer (some ⟨sb,0,none⟩)]⟩ w K:=by
 refine qnc (qjb.ok _ _ _ ?_)
 unfold qjb
 unfold zstored at hk
 simp only at hk
 obtain ⟨o,h⟩:=qxq h
 refine qod (h.fP ?_)
 have h:St F0 w0 w (rfA rb q z.1 :: qjd sb [.pointer (some ⟨rb,0,none⟩),.slice o.a o.len o.cap,.int .i64 most,.int .i64 z.2.2] :: qmc 1 o (u8s z.2.1) :: ps):=h.at1
 refine qbe.c h (by omega) fun w h=>⟨rfl,?_⟩
 have h:=dt_c (q:=q) (p:=8 * ((z.1+7) / 8)) (out:=z.2.1) h.at1
 have hz0:(8 * ((z.1+7) / 8),z.2.1,z.2.2).1≤8 * N:=by simp only; omega
 have hz0L:((8 * ((z.1+7) / 8),z.2.1,z.2.2):Z).2.1.length≤1000000:=hL
 generalize ((8 * ((z.1+7) / 8),z.2.1,z.2.2):Z)=z0 at h hk hz0 hz0L
 unfold qjb.j1
 refine qng.c h hN hz0 fun w hg h=>⟨_,rfl,?_⟩
 have gl:=qqi (B:=qm V (8 * N)) (z:=z0) 16
 have go:=qgd (B:=qm V (8 * N)) (z:=z0) 16
 generalize qie (qm V (8 * N)) 16 z0=g at h hk hg gl go ⊢
 refine qng.c h hN hg fun w hg2 h=>⟨_,rfl,?_⟩
 have go2:=qgd (B:=qm V (8 * N)) (z:=g.2) 16
 generalize qie (qm V (8 * N)) 16 g.2=g2 at h hk hg2 go2 ⊢
 have hgL:g2.2.2.1.length≤1000000:=by rw [go2,go]; exact hz0L
 unfold qjb.j2
 have h0:=h
 obtain ⟨o,h⟩:=qxq h
 refine qod (h.fI ?_)
 refine qqe (fun g3=>?_) (fun g3=>?_)
 · have g3:g2.2.2.2 ≠ 0:=by simpa using g3
   rw [if_pos g3] at hk
   exact hk w h0
 have g3:g2.2.2.2=0:=by simpa using g3
 rw [if_neg (by simpa using g3)] at hk
 refine qwh ?_
 refine qqe (fun g4=>?_) (fun g4=>?_)
 · rw [if_pos (by simpa using g4)] at hk
   exact qpe.c h0 fun w h=>⟨rfl,hk w h⟩
 rw [if_neg (by simpa using g4)] at hk
 have hol:=h.at2.len
 rw [qx] at hol
 have pl:(2:Int) ^ (16:Int).toNat=65536:=by decide
 rw [pl] at gl
 unfold qjb.j3
 refine h.drewK fun w h=>?_
 have h0:=dt_c (q:=q) (p:=g2.2.1) h
 refine qod (h.fI (qod (h.fL ?_)))
 refine qw (qi (by simp only; omega) (by simp only; omega)) ?_
 refine qxc (fun g5=>?_) (fun g5=>?_)
 · have g5:g.1 > most - ((o.len:Nat):Int):=g5
   rw [if_pos (by omega)] at hk
   exact qpe.c h0 fun w h=>⟨rfl,hk w h⟩
 have g5:¬ g.1 > most - ((o.len:Nat):Int):=g5
 rw [if_neg (by omega)] at hk
 have h0:St F0 w0 w (dtA sb rb q most g2.2 :: ps):=h0
 clear h hol g4 g5
 obtain ⟨n,hn⟩:∃ k:Nat,g.1=k:=⟨g.1.toNat,by omega⟩
 rw [hn] at hk gl ⊢
 rw [Int.toNat_natCast] at hk
 generalize g2.2=z2 at hk h0 hg2 hgL
 unfold qjb.j4
 refine qpg (fun (a:Nat × Z) (i':Int) w'=>i'=a.1∧a.1≤n∧a.2.1≤8 * N∧a.2.2.1.length≤1000000∧zst (qm V (8 * N)) most (n - a.1) a.2=zst (qm V (8 * N)) most n z2∧St F0 w0 w' (dtA sb rb q most a.2 :: ps)) (fun a=>n - a.1) (0,z2) ⟨rfl,by simp,hg2,hgL,rfl,h0⟩ ?_
 clear h0 hg2 hgL
 rintro ⟨i,z3⟩ i' wL I μ ⟨rfl,hi,hp3,hL3,hz,h⟩ hin
 simp only at hi hp3 hL3 hz h hin ⊢
 unfold qjb.b1
 refine qxc (fun g1=>?_) (fun g1=>?_)
 · obtain ⟨f,hf⟩:∃ f,n - i=f+1:=⟨n - i - 1,by omega⟩
   rw [hf,zst] at hz
   refine qng.c h hN hp3 fun w hg h=>⟨_,rfl,?_⟩
   have gl:=qqi (B:=qm V (8 * N)) (z:=z3) 8
   have go:=qgd (B:=qm V (8 * N)) (z:=z3) 8
   generalize qie (qm V (8 * N)) 8 z3=g at h hz hg gl go ⊢
   have pl:(2:Int) ^ (8:Int).toNat=256:=by decide
   rw [pl] at gl
   refine qwh ?_
   rw [qkk,show g.1 % 256=g.1 by omega]
   refine ref7_put.c h (by rw [go]; omega) fun w h=>⟨rfl,?_⟩
   refine qw (qi (by omega) (by omega)) ?_
   refine ⟨⟨rfl,rfl⟩,hin (i+1,qlm most g.1 g.2) _ _ ⟨by simp,by simp only; omega,by simp only; rw [qdl]; exact hg,qti _ hm (by rw [go]; exact hL3),?_,h⟩ (by simp only; omega)⟩
   simp only
   rw [show n - (i+1)=f by omega]
   exact hz
 · have:i=n:=by omega
   subst this
   rw [Nat.sub_self,zst] at hz
   rw [← hz] at hk
   exact hk wL h
end
end Go.Proofs.YthdmmmfgjmmelaaGreat
namespace Go.Proofs.YthdmmmfgjmmelaaGreat
open Go Go.Proofs
set_option linter.unusedVariables false
set_option linter.unusedSimpArgs false
attribute [local irreducible] apK cpK mkK br
section
variable {F0:List Nat} {w0 w:World} {ps rest rest2:List As} {sb rb V N:Nat} {q:Sl} {most:Int} {z:Z}
theorem qzm {e:Int} (h:z.2.2 ≠ 0):qdd e z=z:=by
 unfold qdd
 rw [if_neg h]
theorem zok_id (ok:Bool) (h:z.2.2 ≠ 0):zok ok z=z:=by
 unfold zok
 split
 · rfl
 · exact qzm h
theorem qyi.copy {ca cb:Nat} {n d:Int} {nx:Option Addr→Option Addr→Option Addr→World→Prop} (h:St F0 w0 w (dtA sb rb q most z :: ps)) (hm:most≤1000000) (hL:z.2.1.length≤1000000) (hn:0≤n∧n≤2000) (hd:0≤d∧d≤200000) (hok:z.2.2=0→1≤d∧d≤(z.2.1.length:Int))
 {K:VWP}
 (hk:∀ w',St F0 w0 w' (dtA sb rb q most (zcp most d n.toNat z) :: ps)→nx (some ⟨sb,0,none⟩) (some ⟨ca,0,none⟩) (some ⟨cb,0,none⟩) w') :
 qh.j11 (some ⟨sb,0,none⟩) (some ⟨ca,0,none⟩) (some ⟨cb,0,none⟩) n d K nx w:=by
 unfold qh.j11 qh.j12
 obtain ⟨n,rfl⟩:∃ k:Nat,n=k:=⟨n.toNat,by omega⟩
 rw [Int.toNat_natCast] at hk
 refine qpg (fun (a:Nat × Z) (i':Int) w'=>i'=a.1∧a.1≤n∧zcp most d (n - a.1) a.2=zcp most d n z∧a.2.2.1.length≤1000000∧(a.2.2.2=0→1≤d∧d≤(a.2.2.1.length:Int))∧St F0 w0 w' (dtA sb rb q most a.2 :: ps)) (fun a=>n - a.1) (0,z) ⟨rfl,by simp,rfl,hL,hok,h⟩ ?_
 clear h hL hok
 rintro ⟨i,p,out,err⟩ i' wL I μ ⟨rfl,hi,hz,hl5,hd5,h⟩ hin
 simp only at hi hz hl5 hd5 h hin ⊢
 unfold qh.b2
 have h0:=h
 obtain ⟨o,h⟩:=qxq h
 simp only at h
 have hol:=h.at2.len
 rw [qx] at hol
 refine qxc (fun g1=>?_) (fun g1=>?_)
 · obtain ⟨f,hf⟩:∃ f,n - i=f+1:=⟨n - i - 1,by omega⟩
   rw [hf,zcp] at hz
   refine qod (h.fI ?_)
   refine qqe (fun g3=>?_) (fun g3=>?_)
   · have g3:err=0:=by simpa using g3
     subst g3
     have hd5:=hd5 rfl
     rw [if_neg (by simp)] at hz
     simp only at hz
     refine h.drewK fun w h=>?_
     refine qod (h.fL (qod (h.fL ?_)))
     refine qw (show IntKind.i64.wrap (((o.len:Nat):Int) - d)=((out.length - d.toNat:Nat):Int) by rw [qi (by omega) (by omega)]; omega) ?_
     refine h.lx (s:=o) (out.length - d.toNat) rfl (by omega) ?_
     refine ref7_put.c (dt_c h) (by simp only; omega) fun w h=>⟨rfl,?_⟩
     refine qw (qi (by omega) (by omega)) ?_
     refine ⟨⟨rfl,rfl,rfl,rfl,rfl⟩,hin (i+1,qlm most (out.getD (out.length - d.toNat) 0) (p,out,0)) _ _ ⟨by simp,by simp only; omega,?_,qti _ hm hl5,?_,h⟩ (by simp only; omega)⟩
     · simp only
       rw [show n - (i+1)=f by omega]
       exact hz
     · intro e
       refine ⟨hd5.1,?_⟩
       simp only at e ⊢
       unfold qlm at e ⊢
       rw [if_neg (by simp)] at e ⊢
       split
       · rename_i hc
         rw [if_pos hc] at e
         simp at e
       · simp only [List.length_append,List.length_singleton]; omega
   · have g3:err ≠ 0:=by simpa using g3
     rw [if_pos g3] at hz
     rw [← hz] at hk
     exact hk wL h0
 · have:i=n:=by omega
   subst this
   rw [Nat.sub_self,zcp] at hz
   rw [← hz] at hk
   exact hk wL h0
theorem qyi.loop {ca cb:Nat} {ll dl:List Int} {K:Ending→World→Prop} (h:St F0 w0 w (dtA sb rb q most z :: ps)) [Rdb F0 w0 q ps 1 (u8s (byt V N))] [PkF hrA ca ps ll rest] [Rdb F0 w0 q rest 1 (u8s (byt V N))] [PkF hrA cb ps dl rest2] [Rdb F0 w0 q rest2 1 (u8s (byt V N))] (hN:N≤137438953472) (hp:z.1≤8 * N) (hm:most≤1000000) (hL:z.2.1.length≤1000000)
 (hk:∀ w',St F0 w0 w' (dtA sb rb q most (qzd ll dl (qm V (8 * N)) most (8 * N+1) z) :: ps)→K (.returned (.tuple ⟨[]⟩)) w') :
 qh.j3 (some ⟨sb,0,none⟩) (some ⟨ca,0,none⟩) (some ⟨cb,0,none⟩) (fun v w'=>K (.returned v) w') w:=by
 unfold qh.j3
 have hBl:(qm (V:Int) (8 * N)).length=8 * N:=qq _ _
 refine loop0 (fun (a:Nat × Z) w'=>8 * N - a.2.1 < a.1∧a.2.1≤8 * N∧a.2.2.1.length≤1000000∧qzd ll dl (qm V (8 * N)) most a.1 a.2=qzd ll dl (qm V (8 * N)) most (8 * N+1) z∧St F0 w0 w' (dtA sb rb q most a.2 :: ps)) (fun a=>a.1) (8 * N+1,z) ⟨by simp only; omega,hp,hL,rfl,h⟩ ?_
 clear h hp hL
 rintro ⟨f,z1⟩ wL I μ ⟨hf,hp,hL,hz,h⟩ hin
 simp only at hf hp hL hz h hin ⊢
 unfold qh.b1
 obtain ⟨f,rfl⟩:∃ g,f=g+1:=⟨f - 1,by omega⟩
 rw [qzd] at hz
 have h0:=h
 obtain ⟨o,h⟩:=qxq h
 refine qod (h.fI ?_)
 refine qqe (fun g1=>?_) (fun g1=>?_)
 · have g1:z1.2.2=0:=by simpa using g1
   rw [if_neg (by simpa using g1)] at hz
   simp only at hz
   unfold qh.j4
   refine ref7_sym.c (ls:=ll) (cb:=ca) h0 hN hp fun w hs h=>⟨_,rfl,?_⟩
   have so:=qeh (B:=qm V (8 * N)) (z:=z1) ll
   have sp:(qxi ll (qm V (8 * N)) z1).2.2.2=0→z1.1 < (qxi ll (qm V (8 * N)) z1).2.1:=by
    unfold qxi
    rw [if_neg (by simpa using g1)]
    exact (hdec_le ll (qm V (8 * N)) (qhh ll 15) 1 0 z1.1 (by rw [hBl]; exact hp)).2.2
   have sn:=zsym_nn (B:=qm V (8 * N)) (z:=z1) ll
   generalize qxi ll (qm V (8 * N)) z1=s at h hz hs so sp sn ⊢
   obtain ⟨v,z2⟩:=s
   simp only at h hz hs so sp sn ⊢
   unfold qh.j5
   have h1:=h
   obtain ⟨o,h⟩:=qxq h
   refine qod (h.fI ?_)
   refine qqe (fun g2=>?_) (fun g2=>?_)
   · have g2:z2.2.2 ≠ 0:=by simpa using g2
     rw [if_pos (Or.inl g2)] at hz
     rw [← hz] at hk
     exact hk w h1
   have g2:z2.2.2=0:=by simpa using g2
   have sp:=sp g2
   refine qqe (fun g3=>?_) (fun g3=>?_)
   · rw [if_pos (Or.inr (by simpa using g3))] at hz
     rw [← hz] at hk
     exact hk w h1
   have g3:v ≠ 256:=by simpa using g3
   rw [if_neg (by rintro (e | e); exact e g2; exact g3 e)] at hz
   unfold qh.j6
   refine qxc (fun g4=>?_) (fun g4=>?_)
   · rw [if_pos g4] at hz
     refine qwh ?_
     rw [qkk,show v % 256=v by omega]
     refine ref7_put.c h1 (by rw [so]; omega) fun w h=>⟨rfl,?_⟩
     refine ⟨⟨rfl,rfl,rfl⟩,hin (f,qlm most v z2) _ ⟨?_,?_,qti _ hm (by rw [so]; exact hL),?_,h⟩ (by simp only; omega)⟩
     · simp only; rw [qdl]; omega
     · simp only; rw [qdl]; exact hs
     · exact hz
   · rw [if_neg g4] at hz
     have hfw:=qpm (most:=most) (B:=qm V (8 * N)) dl v (z:=z2) (by rw [hBl]; exact hs)
     rw [zfwd,hBl] at hfw
     have hbl:=qom (B:=qm V (8 * N)) dl v hm (z:=z2) (by rw [so]; exact hL)
     have stop:∀ y w,zbehind dl (qm V (8 * N)) most v z2=y→y.2.2 ≠ 0→St F0 w0 w (dtA sb rb q most y :: ps)→K (.returned (.tuple ⟨[]⟩)) w:=by
      intro y w e hy h
      rw [e] at hz
      have:qzd ll dl (qm V (8 * N)) most f y=y:=by
       cases f with
       | zero=>rfl
       | succ f=>rw [qzd,if_pos hy]
      rw [this] at hz
      rw [← hz] at hk
      exact hk w h
     have next:∀ w,St F0 w0 w (dtA sb rb q most (zbehind dl (qm V (8 * N)) most v z2) :: ps)→(some (⟨sb,0,none⟩:Addr)=some ⟨sb,0,none⟩∧some (⟨ca,0,none⟩:Addr)=some ⟨ca,0,none⟩∧some (⟨cb,0,none⟩:Addr)=some ⟨cb,0,none⟩)∧I w∧μ w < μ wL:=by
      intro w h
      refine ⟨⟨rfl,rfl,rfl⟩,hin (f,zbehind dl (qm V (8 * N)) most v z2) _ ⟨?_,hfw.2,hbl,hz,h⟩ (by simp only; omega)⟩
      simp only; omega
     clear hin hk hz
     have b1:=zlen_b v
     have hL2:z2.2.1.length≤1000000:=by rw [so]; exact hL
     unfold zbehind at stop next
     simp only at stop next
     refine qpf.c h1 fun w h1=>⟨_,_,_,rfl,?_⟩
     unfold qh.j7
     generalize (qri v).1=l1 at stop next b1 ⊢
     generalize (qri v).2.1=l2 at stop next b1 ⊢
     cases hk2:(qri v).2.2 with
     | false =>
       rw [hk2] at stop
       refine qum ?_
       refine qpe.c h1 fun w h=>⟨rfl,?_⟩
       refine stop (qdd 2 z2) w ?_ (qig (by decide)) h
       have hne:(qdd 2 z2).2.2 ≠ 0:=qig (by decide)
       have e1:zok false z2=qdd 2 z2:=rfl
       rw [e1,qlo hne]
       have e2:∀ y:Z,y.2.2 ≠ 0→qxi dl (qm V (8 * N)) y=(0,y):=fun y hy=>by unfold qxi; rw [if_pos hy]
       simp only
       rw [e2 _ hne]
       have e3:∀ ok (y:Z),y.2.2 ≠ 0→zok ok y=y:=fun ok y hy=>zok_id ok hy
       simp only
       rw [e3 _ _ hne,qlo hne]
       have e4:∀ y:Z,y.2.2 ≠ 0→qdd 2 y=y:=fun y hy=>qzm hy
       simp only
       have e5:∀ (c:Prop) [Decidable c],(if c then qdd 2 (qdd 2 z2) else qdd 2 z2)=qdd 2 z2:=by
        intro c _
        split
        · exact e4 _ hne
        · rfl
       rw [e5]
       exact zcp_bad _ _ hne
     | true =>
       rw [hk2] at stop next
       refine qik ?_
       have ez:zok true z2=z2:=rfl
       rw [ez] at stop next
       refine qng.c h1 hN hs fun w hg h=>⟨_,rfl,?_⟩
       have gl:=qqi (B:=qm V (8 * N)) (z:=z2) l2
       have go:=qgd (B:=qm V (8 * N)) (z:=z2) l2
       generalize qie (qm V (8 * N)) l2 z2=g at h stop next hg gl go ⊢
       have pl:(2:Int) ^ l2.toNat≤64:=qvp (c:=64) b1.2.2 rfl
       refine qw (qi (by omega) (by omega)) ?_
       unfold qh.j8
       refine ref7_sym.c (ls:=dl) (cb:=cb) h hN hg fun w hs2 h=>⟨_,rfl,?_⟩
       have so2:=qeh (B:=qm V (8 * N)) (z:=g.2) dl
       generalize qxi dl (qm V (8 * N)) g.2=s at h stop next hs2 so2 ⊢
       have b2:=zdis_b s.1
       refine qze.c h fun w h=>⟨_,_,_,rfl,?_⟩
       have j9:∀ (z4:Z) w,z4=zok (qei s.1).2.2 s.2→St F0 w0 w (dtA sb rb q most z4 :: ps)→qh.j9 (some ⟨sb,0,none⟩) (some ⟨ca,0,none⟩) (some ⟨cb,0,none⟩) (l1+g.1) (qei s.1).1 (qei s.1).2.1 (fun v w'=>K (.returned v) w') (fun d_0' t6' t8' w'=>(d_0'=some ⟨sb,0,none⟩∧t6'=some ⟨ca,0,none⟩∧t8'=some ⟨cb,0,none⟩)∧I w'∧μ w' < μ wL) w:=by
        intro z4 w e4 h
        have hzp2:z4.1≤8 * N:=by rw [e4,zok_p]; exact hs2
        have ho2:z4.2.1.length≤1000000:=by rw [e4,qjk,so2,go]; exact hL2
        have he2:=zok_err (ok:=(qei s.1).2.2) (z:=s.2)
        rw [← e4] at stop next he2
        clear e4
        have b2':z4.2.2=0→1≤(qei s.1).1:=fun e=>b2.2.2.2 (he2 e).1
        generalize (qei s.1).1=d1 at stop next b2 b2' ⊢
        generalize (qei s.1).2.1=d2 at stop next b2 ⊢
        unfold qh.j9
        have h0:=h
        obtain ⟨o,h⟩:=qxq h
        refine qod (h.fI ?_)
        refine qqe (fun g5=>?_) (fun g5=>?_)
        · have g5:z4.2.2 ≠ 0:=by simpa using g5
          refine stop z4 w ?_ g5 h0
          rw [qlo g5]
          simp only
          have e5:(if (z4.2.1.length:Int) < d1+0 then qdd 2 z4 else z4)=z4:=by
           split
           · exact qzm g5
           · rfl
          rw [e5]
          exact zcp_bad _ _ g5
        have g5:z4.2.2=0:=by simpa using g5
        have b2':=b2' g5
        unfold qh.j10
        refine qng.c h0 hN hzp2 fun w hg2 h=>⟨_,rfl,?_⟩
        have gl2:=qqi (B:=qm V (8 * N)) (z:=z4) d2
        have go2:=qgd (B:=qm V (8 * N)) (z:=z4) d2
        generalize qie (qm V (8 * N)) d2 z4=g2 at h stop next hg2 gl2 go2 ⊢
        have pl2:(2:Int) ^ d2.toNat≤16384:=qvp (c:=16384) b2.2.2.1 rfl
        refine qw (qi (by omega) (by omega)) ?_
        have fin:∀ (z5:Z) w,z5=(if (g2.2.2.1.length:Int) < d1+g2.1 then qdd 2 g2.2 else g2.2)→z5.2.1.length≤1000000→(z5.2.2=0→1≤d1+g2.1∧d1+g2.1≤(z5.2.1.length:Int))→St F0 w0 w (dtA sb rb q most z5 :: ps)→qh.j11 (some ⟨sb,0,none⟩) (some ⟨ca,0,none⟩) (some ⟨cb,0,none⟩) (l1+g.1) (d1+g2.1) (fun v w'=>K (.returned v) w') (fun d_0' t6' t8' w'=>(d_0'=some ⟨sb,0,none⟩∧t6'=some ⟨ca,0,none⟩∧t8'=some ⟨cb,0,none⟩)∧I w'∧μ w' < μ wL) w:=by
         intro z5 w e hl5 hd5 h
         rw [← e] at next
         exact qyi.copy (n:=l1+g.1) (d:=d1+g2.1) h hm hl5 (by omega) (by omega) hd5 fun w h=>⟨⟨rfl,rfl,rfl⟩,(next w h).2⟩
        have h0:=h
        obtain ⟨o,h⟩:=qxq h
        refine qod (h.fI ?_)
        refine qqe (fun g6=>?_) (fun g6=>?_)
        · have g6:g2.2.2.2=0:=by simpa using g6
          have hol:=h.at2.len
          rw [qx] at hol
          refine qod (h.fL ?_)
          refine qxc (fun g7=>?_) (fun g7=>?_)
          · have g7:d1+g2.1 > ((o.len:Nat):Int):=g7
            refine qpe.c h0 fun w h=>⟨rfl,?_⟩
            exact fin (qdd 2 g2.2) w (by rw [if_pos (by omega)]) (by show g2.2.2.1.length≤_; rw [go2]; exact ho2) (fun e=>absurd e (qig (by decide))) h
          · have g7:¬ d1+g2.1 > ((o.len:Nat):Int):=g7
            exact fin g2.2 w (by rw [if_neg (by omega)]) (by rw [go2]; exact ho2) (fun _=>by omega) h0
        · have g6:g2.2.2.2 ≠ 0:=by simpa using g6
          refine fin g2.2 w ?_ (by rw [go2]; exact ho2) (fun e=>absurd e g6) h0
          split
          · exact (qzm g6).symm
          · rfl
       have h0:=h
       obtain ⟨o,h⟩:=qxq h
       refine qod (h.fI ?_)
       refine qqe (fun g6=>?_) (fun g6=>?_)
       · refine qqe (fun g7=>?_) (fun g7=>?_)
         · have g7:(qei s.1).2.2=false:=by simpa using g7
           refine qpe.c h0 fun w h=>⟨rfl,?_⟩
           exact j9 _ w (by rw [g7]; rfl) h
         · have g7:(qei s.1).2.2=true:=by simpa using g7
           exact j9 _ w (by rw [g7]; rfl) h0
       · have g6:s.2.2.2 ≠ 0:=by simpa using g6
         exact j9 _ w (zok_id _ g6).symm h0
 · have g1:z1.2.2 ≠ 0:=by simpa using g1
   rw [if_pos g1] at hz
   rw [← hz] at hk
   exact hk wL h0
end
end Go.Proofs.YthdmmmfgjmmelaaGreat
namespace Go.Proofs.YthdmmmfgjmmelaaGreat
open Go Go.Proofs
set_option linter.unusedVariables false
set_option linter.unusedSimpArgs false
attribute [local irreducible] apK cpK mkK br
section
variable {F0:List Nat} {w0 w:World} {ps rest rest2:List As} {sb rb V N:Nat} {q:Sl} {most:Int} {z:Z}
theorem qyi.c {s t:Sl} {ll dl:List Int} {K:Ending→World→Prop} (h:St F0 w0 w (dtA sb rb q most z :: ps)) [Rdb F0 w0 q ps 1 (u8s (byt V N))] [Rdb F0 w0 s ps 1 (ivs .i64 ll)] [Rdb F0 w0 t ps 1 (ivs .i64 dl)] (hll:256 < ll.length) (hN:N≤137438953472) (hp:z.1≤8 * N) (hm:most≤1000000) (hL:z.2.1.length≤1000000)
 (hk:∀ w',St F0 w0 w' (dtA sb rb q most (zblk ll dl (qm V (8 * N)) most z) :: ps)→K (.returned (.tuple ⟨[]⟩)) w') :
 Calls Tryz.prog 219 ⟨[.pointer (some ⟨sb,0,none⟩),.slice s.a s.len s.cap,.slice t.a t.len t.cap]⟩ w K:=by
 refine qnc (qh.ok _ _ _ _ _ ?_)
 unfold qh
 unfold zblk at hk
 simp only [qq] at hk
 have h0:=h
 obtain ⟨o,h⟩:=qxq h
 refine qod (h.fI ?_)
 refine qqe (fun g=>?_) (fun g=>?_)
 · have g:z.2.2 ≠ 0:=by simpa using g
   rw [show (if z.2.2=0∧ll.getD 256 0=0 then qdd 2 z else z)=z from if_neg (fun e=>g e.1),qij ll g,qij dl g,if_pos g] at hk
   exact hk w h0
 have g:z.2.2=0:=by simpa using g
 unfold qh.j1
 refine h.lx (s:=s) 256 rfl hll ?_
 have hne:(qdd 2 z).2.2 ≠ 0:=qig (by decide)
 refine qqe (fun g2=>?_) (fun g2=>?_)
 · rw [show (if z.2.2=0∧ll.getD 256 0=0 then qdd 2 z else z)=qdd 2 z from if_pos ⟨g,by simpa using g2⟩,qij ll hne,qij dl hne,if_pos hne] at hk
   exact qpe.c h0 fun w h=>⟨rfl,hk w h⟩
 have g2:ll.getD 256 0 ≠ 0:=by intro e; rw [e] at g2; simp at g2
 rw [show (if z.2.2=0∧ll.getD 256 0=0 then qdd 2 z else z)=z from if_neg (fun e=>g2 e.2)] at hk
 refine qmb.c (s:=s) (half:=true) h0 (fun ca w e1 h=>⟨_,_,rfl,?_⟩) (fun w e1 h=>⟨_,_,rfl,?_⟩)
 · have ec:qjg ll z=z:=by unfold qjg; rw [if_neg (fun e=>e.2 e1)]
   rw [ec] at hk
   unfold qh.j2
   refine qmb.c (s:=t) (half:=true) h (fun cb w e2 h=>⟨_,_,rfl,?_⟩) (fun w e2 h=>⟨_,_,rfl,?_⟩)
   · have ec2:qjg dl z=z:=by unfold qjg; rw [if_neg (fun e=>e.2 e2)]
     rw [ec2,if_neg (fun e=>e g)] at hk
     refine qbi rfl (qbi rfl ?_)
     have h:St F0 w0 w (dtA sb rb q most z :: hrA cb dl :: hrA ca ll :: ps):=h.at2
     exact qyi.loop (ca:=ca) (cb:=cb) (ll:=ll) (dl:=dl) h hN hp hm hL fun w h=>hk w (h.tail fun _ _ _ h=>h.drop.drop)
   · have ec2:qjg dl z=qdd 2 z:=by unfold qjg; rw [if_pos ⟨g,e2⟩]
     rw [ec2,if_pos hne] at hk
     refine qbi rfl (qci (by simpa using e2) ?_)
     have h:St F0 w0 w (dtA sb rb q most z :: ps):=h.drop
     exact qpe.c h fun w h=>⟨rfl,hk w h⟩
 · have ec:qjg ll z=qdd 2 z:=by unfold qjg; rw [if_pos ⟨g,e1⟩]
   rw [ec,qij dl hne,if_pos hne] at hk
   unfold qh.j2
   refine qmb.c (s:=t) (half:=true) h (fun cb w e2 h=>⟨_,_,rfl,?_⟩) (fun w e2 h=>⟨_,_,rfl,?_⟩)
   · refine qci (by simpa using e1) ?_
     exact qpe.c h.drop fun w h=>⟨rfl,hk w h⟩
   · refine qci (by simpa using e1) ?_
     exact qpe.c h fun w h=>⟨rfl,hk w h⟩
theorem qkl.loop {cb:Nat} {cl:List Int} {nl nd:Nat} {K:Ending→World→Prop} (h:St F0 w0 w (dtA sb rb q most z :: ps)) [Rdb F0 w0 q ps 1 (u8s (byt V N))] [PkF hrA cb ps cl rest] [Rdb F0 w0 q rest 1 (u8s (byt V N))] (hN:N≤137438953472) (hp:z.1≤8 * N) (hn:nl+nd≤200000) (hz0:z.2.2=0)
 (hk0:∀ (t11:Sl) w',(zll cl (qm V (8 * N)) (nl+nd) (nl+nd+1) [] z).2.2.2=0→t11.len=nl+nd→t11.len≤t11.cap→St F0 w0 w' (dtA sb rb q most (zll cl (qm V (8 * N)) (nl+nd) (nl+nd+1) [] z).2 :: rdA 1 t11 (ivs .i64 (zll cl (qm V (8 * N)) (nl+nd) (nl+nd+1) [] z).1) :: ps)→K (.returned (.tuple ⟨[.slice (qwf t11.a t11.cap 0 1) (nl - 0) (t11.cap - 0),.slice (qwf t11.a t11.cap nl 1) (t11.len - nl) (t11.cap - nl)]⟩)) w')
 (hk1:∀ w',(zll cl (qm V (8 * N)) (nl+nd) (nl+nd+1) [] z).2.2.2 ≠ 0→St F0 w0 w' (dtA sb rb q most (zll cl (qm V (8 * N)) (nl+nd) (nl+nd+1) [] z).2 :: ps)→K (.returned (.tuple ⟨[.slice none 0 0,.slice none 0 0]⟩)) w') :
 qe.j8 (some ⟨sb,0,none⟩) (nl:Int) (nd:Int) (some ⟨cb,0,none⟩) ⟨none,0,0⟩ (fun v w'=>K (.returned v) w') w:=by
 have hBl:(qm (V:Int) (8 * N)).length=8 * N:=qq _ _
 generalize hR:zll cl (qm V (8 * N)) (nl+nd) (nl+nd+1) [] z=R at hk0 hk1
 have hRl:=qcp (cl:=cl) (B:=qm V (8 * N)) (N:=nl+nd) (nl+nd+1) [] z (by simp) (by simp)
 rw [hR] at hRl
 unfold qe.j8
 refine qpg (fun (a:Nat × List Int × Z) (t11:Sl) w'=>zll cl (qm V (8 * N)) (nl+nd) a.1 a.2.1 a.2.2=R∧a.2.2.1≤8 * N∧a.2.1.length≤nl+nd∧a.2.2.2.2=0∧nl+nd < a.1+a.2.1.length∧St F0 w0 w' (dtA sb rb q most a.2.2 :: qmc 1 t11 (ivs .i64 a.2.1) :: ps)) (fun a=>a.1) (nl+nd+1,[],z) ⟨hR,hp,by simp,hz0,by simp,(h.nil 1).at1⟩ ?_
 clear h hp hR hz0
 rintro ⟨f,l,y⟩ t11 wL I μ ⟨hR,hp,hl,hy,hf,h⟩ hin
 simp only at hR hp hl hy hf h hin ⊢
 have hol:=h.drop.len
 rw [qx] at hol
 have h0:=h
 obtain ⟨f,rfl⟩:∃ f',f=f'+1:=⟨f - 1,by omega⟩
 unfold qe.b1
 obtain ⟨o,h⟩:=qxq h
 refine qw (qi (by omega) (by omega)) ?_
 refine qxc (fun g1=>?_) (fun g1=>?_)
 rotate_left
 · have e:R=(l,y):=by rw [← hR,zll,if_pos (Or.inr (by omega))]
   rw [e] at hk0 hk1 hRl
   simp only at hk0 hk1 hRl
   unfold qe.j9
   refine qod (h.fI ?_)
   refine qbi (by simpa using hy) ?_
   have hll:=hRl hy
   have hcap:=h0.drop.cap (by decide)
   refine h0.drewK fun w h0=>?_
   refine qzo (n:=nl) rfl (by omega) (qwh ?_)
   refine qzo (n:=nl) rfl (by omega) (qwh ?_)
   exact hk0 t11 w hy (by omega) hcap (h0.tail fun _ _ _ h=>h.ro)
 refine qod (h.fI ?_)
 refine qci (by simpa using hy) ?_
 rw [zll,if_neg (fun e=>by rcases e with e | e; exact e hy; omega)] at hR
 have bad:∀ z3 w,z3.2.2 ≠ 0→(zllS cl (qm V (8 * N)) (nl+nd) l y).2=z3→St F0 w0 w (dtA sb rb q most z3 :: ps)→K (.returned (.tuple ⟨[.slice none 0 0,.slice none 0 0]⟩)) w:=by
  intro z3 w hz3 e h
  have:R.2=z3:=by
   rw [← hR,e]
   cases f with
   | zero=>rfl
   | succ f=>rw [zll,if_pos (Or.inl hz3)]
  rw [this] at hk1
  exact hk1 w hz3 h
 unfold zllS at hR bad
 simp only at hR bad
 unfold qe.j10
 refine ref7_sym.c (cb:=cb) (ls:=cl) h0 hN hp fun w hle h=>⟨_,rfl,?_⟩
 generalize qxi cl (qm V (8 * N)) y=s at h hR bad hle ⊢
 have j12:∀ (a:(Int × Int) × Z) w,qye (qm V (8 * N)) s.1 l s.2=a→St F0 w0 w (dtA sb rb q most a.2 :: qmc 1 t11 (ivs .i64 l) :: ps) →
  qe.j12 (some ⟨sb,0,none⟩) (nl:Int) (nd:Int) (some ⟨cb,0,none⟩) t11 a.1.2 a.1.1 (fun v w'=>K (.returned v) w') (fun d_0' t4' t5' t10' t12' w'=>(d_0'=some ⟨sb,0,none⟩∧t4'=(nl:Int)∧t5'=(nd:Int)∧t10'=some ⟨cb,0,none⟩)∧I t12' w'∧μ t12' w' < μ t11 wL) w:=by
  intro a w e h
  have hna:=zagain_n (B:=qm V (8 * N)) (z:=s.2) s.1 l
  have hpa:=(zagain_p (B:=qm V (8 * N)) (z:=s.2) s.1 l (by rw [hBl]; exact hle)).2
  rw [hBl] at hpa
  rw [e] at hR bad hna hpa
  unfold qe.j12
  have h0:=h
  obtain ⟨o,h⟩:=qxq h
  refine qod (h.fI ?_)
  refine qqe (fun g2=>?_) (fun g2=>?_)
  · have g2:a.2.2.2 ≠ 0:=by simpa using g2
    refine bad a.2 w g2 ?_ (h0.tail fun _ _ _ h=>h.drop)
    split
    · exact qzm g2
    · rfl
  have g2:a.2.2.2=0:=by simpa using g2
  unfold qe.j13
  refine qw (qi (by omega) (by omega)) ?_
  refine qw (qi (by omega) (by omega)) ?_
  refine qxc (fun g3=>?_) (fun g3=>?_)
  · refine qpe.c h0 fun w h=>⟨rfl,?_⟩
    exact bad (qdd 2 a.2) w (qig (by decide)) (by rw [if_pos (by omega)]) (h.tail fun _ _ _ h=>h.drop)
  rw [show (if ((nl+nd:Nat):Int) - l.length < a.1.2 then qdd 2 a.2 else a.2)=a.2 from if_neg (by omega),if_pos g2] at hR
  obtain ⟨n,hn2⟩:∃ n:Nat,a.1.2=n:=⟨a.1.2.toNat,by omega⟩
  rw [hn2,Int.toNat_natCast] at hR
  rw [hn2]
  have hn1:=hna.2.2 g2
  unfold qe.j14
  refine qkh (fun (k:Nat) (t:Sl) (k':Int) w'=>k'=k∧k≤n∧St F0 w0 w' (dtA sb rb q most a.2 :: qmc 1 t (ivs .i64 (l ++ List.replicate k a.1.1)) :: ps)) (fun k=>n - k) 0 ⟨rfl,by omega,by simpa using h0⟩ ?_
  clear h h0
  rintro k t k' wM I2 μ2 ⟨rfl,hkn,h⟩ hin2
  unfold qe.b2
  refine qxc (fun g4=>?_) (fun g4=>?_)
  · refine h.pushI (s:=t) (by rw [List.length_append,List.length_replicate]; omega) fun t2 w h=>?_
    refine qw (qi (by omega) (by omega)) ?_
    refine ⟨⟨rfl,rfl,rfl,rfl,rfl,rfl⟩,hin2 (k+1) _ _ _ ⟨by omega,by omega,?_⟩ (by omega)⟩
    rw [List.append_assoc,← List.replicate_succ'] at h
    exact h.at1
  · have:k=n:=by omega
    subst this
    refine ⟨⟨rfl,rfl,rfl,rfl⟩,hin (f,l ++ List.replicate k a.1.1,a.2) _ _ ⟨hR,hpa,by simp only [List.length_append,List.length_replicate]; omega,g2,by simp only [List.length_append,List.length_replicate]; omega,h⟩ (by simp only; omega)⟩
 have b2:=qre (B:=qm V (8 * N)) (z:=s.2) 2 (by decide)
 have b3:=qre (B:=qm V (8 * N)) (z:=s.2) 3 (by decide)
 have b7:=qre (B:=qm V (8 * N)) (z:=s.2) 7 (by decide)
 unfold qe.j11
 refine qqe (fun g=>?_) (fun g=>?_)
 · have g:s.1=16:=by simpa using g
   refine qqe (fun g2=>?_) (fun g2=>?_)
   · have g2:(t11.len:Int)=0:=by simpa using g2
     refine qpe.c h fun w h=>⟨rfl,?_⟩
     have e:qye (qm V (8 * N)) s.1 l s.2=((0,0),qdd 2 s.2):=by
      unfold qye
      rw [if_pos g,if_pos (by omega)]
     rw [e] at bad
     have hne:(qdd 2 s.2).2.2 ≠ 0:=qig (by decide)
     refine bad (qdd 2 s.2) w hne ?_ (h.tail fun _ _ _ h=>h.drop)
     simp only
     rw [if_neg (by omega)]
   · have g2:(t11.len:Int) ≠ 0:=by simpa using g2
     have e:qye (qm V (8 * N)) s.1 l s.2=((l.getD (l.length - 1) 0,3+(qie (qm V (8 * N)) 2 s.2).1),(qie (qm V (8 * N)) 2 s.2).2):=by
      unfold qye
      rw [if_pos g,if_neg (by omega)]
     refine qw (qi (by omega) (by omega)) ?_
     refine h.lx (s:=t11) (l.length - 1) (by omega) (by omega) ?_
     refine qng.c h hN hle fun w _ h=>⟨_,rfl,?_⟩
     exact qw (qi (by omega) (by omega)) (j12 _ w e h)
 have g:s.1 ≠ 16:=by simpa using g
 refine qqe (fun g3=>?_) (fun g3=>?_)
 · have g3:s.1=17:=by simpa using g3
   have e:qye (qm V (8 * N)) s.1 l s.2=((0,3+(qie (qm V (8 * N)) 3 s.2).1),(qie (qm V (8 * N)) 3 s.2).2):=by
    unfold qye
    rw [if_neg g,if_pos g3]
   refine qng.c h hN hle fun w _ h=>⟨_,rfl,?_⟩
   exact qw (qi (by omega) (by omega)) (j12 _ w e h)
 have g3:s.1 ≠ 17:=by simpa using g3
 refine qqe (fun g4=>?_) (fun g4=>?_)
 · have g4:s.1=18:=by simpa using g4
   have e:qye (qm V (8 * N)) s.1 l s.2=((0,11+(qie (qm V (8 * N)) 7 s.2).1),(qie (qm V (8 * N)) 7 s.2).2):=by
    unfold qye
    rw [if_neg g,if_neg g3,if_pos g4]
   refine qng.c h hN hle fun w _ h=>⟨_,rfl,?_⟩
   exact qw (qi (by omega) (by omega)) (j12 _ w e h)
 have g4:s.1 ≠ 18:=by simpa using g4
 have e:qye (qm V (8 * N)) s.1 l s.2=((s.1,1),s.2):=by
  unfold qye
  rw [if_neg g,if_neg g3,if_neg g4]
 exact j12 _ w e h
theorem zclr_stop {B:List Bool} {z:Z} {k:Nat} (h:(qsi B z k).2.2.2 ≠ 0):∀ d,(qsi B z (k+d)).2=(qsi B z k).2:=by
 intro d
 induction d with
 | zero=>rfl
 | succ d ih =>
   rw [← Nat.add_assoc,qsi]
   simp only
   rw [ih,qlo h]
theorem qkl.c {K:Ending→World→Prop} (h:St F0 w0 w (dtA sb rb q most z :: ps)) [Rdb F0 w0 q ps 1 (u8s (byt V N))] (hN:N≤137438953472) (hp:z.1≤8 * N)
 (hk0:∀ (t11:Sl) (l:List Int) (nl:Nat) w',(qoh (qm V (8 * N)) z).2.2.2=0→t11.len=l.length→nl≤t11.len→t11.len≤t11.cap→(qoh (qm V (8 * N)) z).1=(l.take nl,l.drop nl)→St F0 w0 w' (dtA sb rb q most (qoh (qm V (8 * N)) z).2 :: rdA 1 t11 (ivs .i64 l) :: ps)→K (.returned (.tuple ⟨[.slice (qwf t11.a t11.cap 0 1) (nl - 0) (t11.cap - 0),.slice (qwf t11.a t11.cap nl 1) (t11.len - nl) (t11.cap - nl)]⟩)) w')
 (hk1:∀ w',(qoh (qm V (8 * N)) z).2.2.2 ≠ 0→St F0 w0 w' (dtA sb rb q most (qoh (qm V (8 * N)) z).2 :: ps)→K (.returned (.tuple ⟨[.slice none 0 0,.slice none 0 0]⟩)) w') :
 Calls Tryz.prog 220 ⟨[.pointer (some ⟨sb,0,none⟩)]⟩ w K:=by
 have hBl:(qm (V:Int) (8 * N)).length=8 * N:=qq _ _
 refine qnc (qe.ok _ _ _ ?_)
 unfold qe qe.j1
 generalize hZ:qoh (qm V (8 * N)) z=Zr at hk0 hk1
 unfold qoh at hZ
 simp only at hZ
 refine qng.c h hN hp fun w hp1 h=>⟨_,rfl,?_⟩
 have hg1:=qre (B:=qm V (8 * N)) (z:=z) 5 (by decide)
 generalize qie (qm V (8 * N)) 5 z=g1 at h hZ hp1 hg1 ⊢
 refine qw (qi (by omega) (by omega)) ?_
 have j2:∀ (y1:Z) w,y1=(if 286 < g1.1+257 then qdd 2 g1.2 else g1.2)→y1.1≤8 * N→St F0 w0 w (dtA sb rb q most y1 :: ps)→qe.j2 (some ⟨sb,0,none⟩) (g1.1+257) (fun v w'=>K (.returned v) w') w:=by
  intro y1 w e hp1 h
  rw [← e] at hZ
  unfold qe.j2
  refine qng.c h hN hp1 fun w hp2 h=>⟨_,rfl,?_⟩
  have hg2:=qre (B:=qm V (8 * N)) (z:=y1) 5 (by decide)
  generalize qie (qm V (8 * N)) 5 y1=g2 at h hZ hp2 hg2 ⊢
  refine qw (qi (by omega) (by omega)) ?_
  have j3:∀ (y2:Z) w,y2=(if 30 < g2.1+1 then qdd 2 g2.2 else g2.2)→y2.1≤8 * N→St F0 w0 w (dtA sb rb q most y2 :: ps)→qe.j3 (some ⟨sb,0,none⟩) (g1.1+257) (g2.1+1) (fun v w'=>K (.returned v) w') w:=by
   intro y2 w e hp2 h
   rw [← e] at hZ
   unfold qe.j3
   refine qng.c h hN hp2 fun w hp3 h=>⟨_,rfl,?_⟩
   have hg3:=qqi (B:=qm V (8 * N)) (z:=y2) 4
   rw [show ((2:Int) ^ (4:Int).toNat)=16 by decide] at hg3
   generalize qie (qm V (8 * N)) 4 y2=g3 at h hZ hp3 hg3 ⊢
   refine qw (qi (by omega) (by omega)) ?_
   obtain ⟨nc,hnc⟩:∃ nc:Nat,g3.1+4=nc:=⟨(g3.1+4).toNat,by omega⟩
   rw [hnc] at hZ ⊢
   rw [Int.toNat_natCast] at hZ
   unfold qe.j4
   refine h.new fun ob w h=>?_
   have h:St F0 w0 w (qjd ob (ivs .i64 qxg) :: dtA sb rb q most g3.2 :: ps):=h
   have h:=(h.ownB (n:=19) rfl).ro
   refine h.makeI (n:=19) rfl rfl (by decide) fun cs w hcs hcc h=>?_
   have h:St F0 w0 w (dtA sb rb q most g3.2 :: qmc 1 cs (ivs .i64 (List.replicate 19 0)) :: rdA 1 ⟨some ⟨ob,0,none⟩,19,19⟩ (ivs .i64 qxg) :: ps):=h.sub
   unfold qe.j5 qe.j15
   refine qpg (fun (k:Nat) (k':Int) w'=>k'=k∧k≤nc∧(qsi (qm V (8 * N)) g3.2 k).2.1≤8 * N∧St F0 w0 w' (dtA sb rb q most (qsi (qm V (8 * N)) g3.2 k).2 :: qmc 1 cs (ivs .i64 (qsi (qm V (8 * N)) g3.2 k).1) :: rdA 1 ⟨some ⟨ob,0,none⟩,19,19⟩ (ivs .i64 qxg) :: ps)) (fun k=>nc - k) 0 ⟨rfl,by omega,hp3,h⟩ ?_
   clear h
   rintro k k' wL I μ ⟨rfl,hkn,hpk,h⟩ hin
   unfold qe.b3
   have hcl:=zclr_len (B:=qm V (8 * N)) (z:=g3.2) k
   have j6:(k=nc ∨ (qsi (qm V (8 * N)) g3.2 k).2.2.2 ≠ 0)→qe.j6 (some ⟨sb,0,none⟩) (g1.1+257) (g2.1+1) cs (fun v w'=>K (.returned v) w') wL:=by
    intro hc
    clear hin
    unfold qe.j6
    have h0:=h
    obtain ⟨o,h⟩:=qxq h
    refine qod (h.fI ?_)
    refine qqe (fun g=>?_) (fun g=>?_)
    · have g:(qsi (qm V (8 * N)) g3.2 k).2.2.2 ≠ 0:=by simpa using g
      have e1:(qsi (qm V (8 * N)) g3.2 nc).2=(qsi (qm V (8 * N)) g3.2 k).2:=by
       have:=zclr_stop g (nc - k)
       rwa [show k+(nc - k)=nc by omega] at this
      have e2:∀ cl,zcodeH cl false (qsi (qm V (8 * N)) g3.2 k).2=(qsi (qm V (8 * N)) g3.2 k).2:=fun cl=>by unfold zcodeH; rw [if_neg (fun e=>g e.1)]
      have e3:∀ cl M f,zll cl (qm V (8 * N)) M (f+1) [] (qsi (qm V (8 * N)) g3.2 k).2=([],(qsi (qm V (8 * N)) g3.2 k).2):=fun cl M f=>by rw [zll,if_pos (Or.inl g)]
      rw [e1,e2,e3,if_pos g] at hZ
      subst hZ
      exact hk1 wL g (h0.tail fun _ _ _ h=>h.drop.drop)
    have g:(qsi (qm V (8 * N)) g3.2 k).2.2.2=0:=by simpa using g
    have hkc:k=nc:=hc.resolve_right (fun e=>e g)
    subst hkc
    generalize qsi (qm V (8 * N)) g3.2 k=c at h0 hZ hpk hcl g
    refine qmb.c (s:=cs) (half:=false) h0 (fun hb w e1 h=>⟨_,_,rfl,?_⟩) (fun w e1 h=>⟨_,_,rfl,?_⟩)
    · have ec:zcodeH c.1 false c.2=c.2:=by unfold zcodeH; rw [if_neg (fun e=>e.2 e1)]
      rw [ec] at hZ
      unfold qe.j7
      refine qbi rfl ?_
      obtain ⟨n1,hn1⟩:∃ n1:Nat,g1.1+257=n1:=⟨(g1.1+257).toNat,by omega⟩
      obtain ⟨n2,hn2⟩:∃ n2:Nat,g2.1+1=n2:=⟨(g2.1+1).toNat,by omega⟩
      rw [hn1,hn2] at hZ
      rw [hn1,hn2]
      have e12:((n1:Int)+(n2:Int)).toNat=n1+n2:=by omega
      rw [e12,Int.toNat_natCast] at hZ
      have h:St F0 w0 w (dtA sb rb q most c.2 :: hrA hb c.1 :: ps):=h.sub
      refine qkl.loop (nl:=n1) (nd:=n2) (cl:=c.1) (cb:=hb) h hN hpk (by omega) g (fun t11 w g ht hc h=>?_) (fun w g h=>?_)
      · rw [if_neg (fun e=>e g)] at hZ
        subst hZ
        have hzl:=qcp (cl:=c.1) (B:=qm V (8 * N)) (N:=n1+n2) (n1+n2+1) [] c.2 (by simp) (by simp) g
        exact hk0 t11 _ n1 w g (by omega) (by omega) hc rfl (h.tail fun _ _ _ h=>h.tail fun _ _ _ h=>h.drop)
      · rw [if_pos g] at hZ
        subst hZ
        exact hk1 w g (h.tail fun _ _ _ h=>h.drop)
    · have ec:zcodeH c.1 false c.2=qdd 2 c.2:=by unfold zcodeH; rw [if_pos ⟨g,e1⟩]
      have hne:(qdd 2 c.2).2.2 ≠ 0:=qig (by decide)
      have e3:∀ M f,zll c.1 (qm V (8 * N)) M (f+1) [] (qdd 2 c.2)=([],qdd 2 c.2):=fun M f=>by rw [zll,if_pos (Or.inl hne)]
      rw [ec,e3,if_pos hne] at hZ
      subst hZ
      unfold qe.j7
      refine qci (by simpa using e1) ?_
      refine qpe.c h fun w h=>⟨rfl,?_⟩
      exact hk1 w hne (h.tail fun _ _ _ h=>h.drop.drop)
   refine qxc (fun g=>?_) (fun g=>j6 (Or.inl (by omega)))
   have h0:=h
   obtain ⟨o,h⟩:=qxq h
   refine qod (h.fI ?_)
   refine qqe (fun g0=>?_) (fun g0=>j6 (Or.inr (by simpa using g0)))
   clear h
   have hk19:k < 19:=by omega
   have hz:=zord_lt k hk19
   refine h0.drewK fun w h=>?_
   have hr:=h.rdb (⟨some ⟨ob,0,none⟩,19,19⟩:Sl)
   refine hr.ix (by decide) (by omega) (by show (k:Int) < 19; omega) fun a ha=>?_
   have hv:(ivs .i64 qxg)[((k:Int)).toNat * 1]?=some (.int .i64 (qxg.getD k 0)):=by
    rw [show ((k:Int)).toNat * 1=k by omega]
    exact qsm hk19
   have fin:∀ w,(qie (qm V (8 * N)) 3 (qsi (qm V (8 * N)) g3.2 k).2).2.1≤8 * N→St F0 w0 w (dtA sb rb q most (qie (qm V (8 * N)) 3 (qsi (qm V (8 * N)) g3.2 k).2).2 :: qmc 1 cs (ivs .i64 (qsi (qm V (8 * N)) g3.2 k).1) :: rdA 1 ⟨some ⟨ob,0,none⟩,19,19⟩ (ivs .i64 qxg) :: ps) →
    ixS cs.a cs.len (qxg.getD k 0) 1 fun a59=>Go.Proofs.YthdmmmfgjmmelaaGreat.st w a59 (.int .i64 (qie (qm V (8 * N)) 3 (qsi (qm V (8 * N)) g3.2 k).2).1) fun w60=>lt (IntKind.i64.wrap ((k:Int)+1)) fun x61=>((some (⟨sb,0,none⟩:Addr)=some ⟨sb,0,none⟩∧g1.1+257=g1.1+257∧g2.1+1=g2.1+1∧(nc:Int)=nc∧(⟨some ⟨ob,0,none⟩,19,19⟩:Sl)=⟨some ⟨ob,0,none⟩,19,19⟩∧cs=cs)∧I x61 w60∧μ x61 w60 < μ (k:Int) wL):=by
    intro w hpk2 h
    refine h.sx (s:=cs) (qxg.getD k 0).toNat (by omega) (by omega) fun w h=>?_
    refine qw (qi (by omega) (by omega)) ?_
    refine ⟨⟨rfl,rfl,rfl,rfl,rfl,rfl⟩,hin (k+1) _ _ ⟨by omega,by omega,?_,?_⟩ (by omega)⟩
    · rw [qsi]; exact hpk2
    · rw [qsi]
      exact h.sub
   refine ⟨?_,?_⟩
   · refine hr.ldI ha hv ?_
     refine qng.c h hN hpk fun w hpk2 h=>⟨_,rfl,?_⟩
     exact fin w hpk2 h
   · refine qng.c h hN hpk fun w hpk2 h=>⟨_,rfl,?_⟩
     refine (h.rdb (⟨some ⟨ob,0,none⟩,19,19⟩:Sl)).ldI ha hv ?_
     exact fin w hpk2 h
  refine qxc (fun g=>?_) (fun g=>?_)
  · refine qpe.c h fun w h=>⟨rfl,?_⟩
    exact j3 (qdd 2 g2.2) w (by rw [if_pos (by omega)]) hp2 h
  · exact j3 g2.2 w (by rw [if_neg (by omega)]) hp2 h
 refine qxc (fun g=>?_) (fun g=>?_)
 · refine qpe.c h fun w h=>⟨rfl,?_⟩
   exact j2 (qdd 2 g1.2) w (by rw [if_pos (by omega)]) hp1 h
 · exact j2 g1.2 w (by rw [if_neg (by omega)]) hp1 h
theorem ref7_Block.c {K:Ending→World→Prop} (h:St F0 w0 w (dtA sb rb q most z :: ps)) [Rdb F0 w0 q ps 1 (u8s (byt V N))] (hN:N≤137438953472) (hp:z.1≤8 * N) (hm:most≤1000000) (hm0:0≤most) (hL:z.2.1.length≤1000000)
 (hk:∀ w',St F0 w0 w' (dtA sb rb q most (qyc (qm V (8 * N)) most z).2 :: ps)→K (.returned (.bool ((qyc (qm V (8 * N)) most z).1 && (qyc (qm V (8 * N)) most z).2.2.2 == 0))) w') :
 Calls Tryz.prog 134 ⟨[.pointer (some ⟨sb,0,none⟩)]⟩ w K:=by
 have hBl:(qm (V:Int) (8 * N)).length=8 * N:=qq _ _
 refine qnc (qvb.ok _ _ _ ?_)
 unfold qvb qvb.j1
 generalize hZ:qyc (qm V (8 * N)) most z=Zr at hk
 unfold qyc at hZ
 simp only at hZ
 refine qng.c h hN hp fun w hg h=>⟨_,rfl,?_⟩
 have go:=qgd (B:=qm V (8 * N)) (z:=z) 1
 generalize qie (qm V (8 * N)) 1 z=a at h hZ hg go ⊢
 refine qng.c h hN hg fun w hg2 h=>⟨_,rfl,?_⟩
 have go2:=qgd (B:=qm V (8 * N)) (z:=a.2) 2
 generalize qie (qm V (8 * N)) 2 a.2=k at h hZ hg2 go2 ⊢
 have hkL:k.2.2.1.length≤1000000:=by rw [go2,go]; exact hL
 unfold qvb.j2
 have h0:=h
 obtain ⟨o,h⟩:=qxq h
 refine qod (h.fI ?_)
 refine qqe (fun g=>?_) (fun g=>?_)
 · have g:k.2.2.2 ≠ 0:=by simpa using g
   rw [if_pos g] at hZ
   subst hZ
   exact hk w h0
 have g:k.2.2.2=0:=by simpa using g
 rw [if_neg (fun e=>e g)] at hZ
 have j3:∀ (y:Z) w,Zr=(a.1 == 1,y)→St F0 w0 w (dtA sb rb q most y :: ps)→qvb.j3 (some ⟨sb,0,none⟩) (a.1 == 1) (fun v w'=>K (.returned v) w') w:=by
  intro y w e h
  subst e
  simp only at hk
  unfold qvb.j3
  have h0:=h
  obtain ⟨o,h⟩:=qxq h
  refine qqe (fun g=>?_) (fun g=>?_)
  · rw [g] at hk
    exact qod (h.fI (hk w h0))
  · rw [g] at hk
    exact hk w h0
 refine qqe (fun g1=>?_) (fun g1=>?_)
 · have g1:k.1=0:=by simpa using g1
   rw [if_pos g1] at hZ
   exact ref7_stored.c h0 hN hg2 hm hm0 hkL fun w h=>⟨rfl,j3 _ w hZ.symm h⟩
 have g1:¬ k.1=0:=by simpa using g1
 rw [if_neg g1] at hZ
 refine qqe (fun g3=>?_) (fun g3=>?_)
 · have g3:k.1=1:=by simpa using g3
   rw [if_pos g3] at hZ
   refine qkb.c h0 fun s t w hs ht h=>⟨s,t,rfl,?_⟩
   have h:St F0 w0 w (dtA sb rb q most k.2 :: qmc 1 t (ivs .i64 qme) :: qmc 1 s (ivs .i64 qih) :: ps):=h.at2
   refine qyi.c (s:=s) (t:=t) (ll:=qih) (dl:=qme) h (by rw [qqg]; decide) hN hg2 hm hkL fun w h=>⟨rfl,?_⟩
   exact j3 _ w hZ.symm (h.tail fun _ _ _ h=>h.drop.drop)
 have g3:¬ k.1=1:=by simpa using g3
 rw [if_neg g3] at hZ
 refine qqe (fun g4=>?_) (fun g4=>?_)
 · have g4:k.1=2:=by simpa using g4
   rw [if_pos g4] at hZ
   have hlp:=zlens_p (B:=qm V (8 * N)) (z:=k.2) (by rw [hBl]; exact hg2)
   have hlo:=qxm (B:=qm V (8 * N)) (z:=k.2)
   have hll:=zlens_len (B:=qm V (8 * N)) (z:=k.2)
   rw [hBl] at hlp
   refine qkl.c h0 hN hg2 (fun t11 l nl w e0 ht hnl hcap el h=>⟨⟨qwf t11.a t11.cap 0 1,nl - 0,t11.cap - 0⟩,⟨qwf t11.a t11.cap nl 1,t11.len - nl,t11.cap - nl⟩,rfl,?_⟩) (fun w e0 h=>⟨⟨none,0,0⟩,⟨none,0,0⟩,rfl,?_⟩)
   · have hll:=hll e0
     rw [if_neg (fun e=>e e0)] at hZ
     rw [el] at hZ hll
     simp only at hZ hll
     haveI:=h.drop.cutR t11 0 nl (t11.cap - 0) (ys:=l.take nl) hnl (by omega) hcap (by rw [List.drop_zero,Nat.sub_zero])
     haveI:=h.drop.cutR t11 nl t11.len (t11.cap - nl) (ys:=l.drop nl) (by omega) hnl hcap (by rw [List.take_of_length_le (by rw [List.length_drop]; omega)])
     refine qyi.c (s:=⟨qwf t11.a t11.cap 0 1,nl - 0,t11.cap - 0⟩) (t:=⟨qwf t11.a t11.cap nl 1,t11.len - nl,t11.cap - nl⟩) (ll:=l.take nl) (dl:=l.drop nl) h (by omega) hN hlp.2 hm (by rw [hlo]; exact hkL) fun w h=>⟨rfl,?_⟩
     exact j3 _ w hZ.symm (h.tail fun _ _ _ h=>h.drop)
   · rw [if_pos e0] at hZ
     refine qnc (qh.ok _ ⟨none,0,0⟩ ⟨none,0,0⟩ _ _ ?_)
     unfold qh
     have h0:=h
     obtain ⟨o,h⟩:=qxq h
     refine qod (h.fI (qci (by simpa using e0) ⟨rfl,?_⟩))
     exact j3 _ w hZ.symm h0
 have g4:¬ k.1=2:=by simpa using g4
 rw [if_neg g4] at hZ
 exact qpe.c h0 fun w h=>⟨rfl,j3 _ w hZ.symm h⟩
theorem qtb.c {s:Sl} {K:Ending→World→Prop} {z':Z} (h:St F0 w0 w ps) [Rdb F0 w0 s ps 1 (u8s (byt V N))] (hN:N≤137438953472) (hm:most≤262144) (hm0:0≤most) (hr:zinf V N most z')
 (hk:∀ t w',z'.2.2=0→t.len=z'.2.1.length→t.len≤t.cap→St F0 w0 w' (rdA 1 t (u8s z'.2.1) :: ps)→K (.returned (.tuple ⟨[.slice t.a t.len t.cap,.int .i64 (((z'.1+7) / 8:Nat):Int),.int .i64 0]⟩)) w')
 (hk2:∀ w',z'.2.2 ≠ 0→St F0 w0 w' ps→K (.returned (.tuple ⟨[.slice none 0 0,.int .i64 0,.int .i64 z'.2.2]⟩)) w') :
 Calls Tryz.prog 47 ⟨[.slice s.a s.len s.cap,.int .i64 most]⟩ w K:=by
 have hBl:(qm (V:Int) (8 * N)).length=8 * N:=qq _ _
 obtain ⟨n,hr⟩:=hr
 refine qnc (qtb.ok _ _ _ _ ?_)
 unfold qtb qtb.j1
 refine qxc (fun g=>by omega) fun _=>?_
 refine qxc (fun g=>by omega) fun _=>?_
 refine h.new fun rb w h=>?_
 refine h.new fun sb w h=>?_
 have h:=(h.nil 1).at2.at2
 have h:St F0 w0 w (qjd sb [.pointer (some ⟨rb,0,none⟩),.slice none 0 0,.int .i64 most,.int .i64 0] :: bitR rb (s,0) :: qmc 1 ⟨none,0,0⟩ (u8s []) :: ps):=h
 have h:St F0 w0 w (dtA sb rb s most (0,[],0) :: ps):=dt_c (o:=⟨none,0,0⟩) (p:=0) (out:=[]) (err:=0) h
 unfold qtb.j2
 refine loop0 (fun (a:Nat × Z) w'=>a.2.1≤8 * N∧a.2.2.1.length≤1000000∧ZAll (qm V (8 * N)) most a.1 a.2 z'∧St F0 w0 w' (dtA sb rb s most a.2 :: ps)) (fun a=>a.1) (n,(0,[],0)) ⟨Nat.zero_le _,by simp,hr,h⟩ ?_
 clear h hr
 rintro ⟨m,z⟩ wL I μ ⟨hp,hL,hr,h⟩ hin
 simp only at hp hL hr h hin ⊢
 unfold qtb.b1
 refine ref7_Block.c h hN hp (by omega) hm0 hL fun w h=>⟨_,rfl,?_⟩
 have hL2:=qdj (B:=qm V (8 * N)) (most:=most) (by omega) hL
 have hle:=(qcj (most:=most) hBl (by rw [hBl]; exact hp)).2.1
 rw [hBl] at hle
 have h0:=h
 obtain ⟨o,h⟩:=qxq h
 cases hr with
 | bad he =>
   refine qci (by simp [he]) ?_
   refine qod (h.fI (qci (by simpa using he) ?_))
   refine h.drewK fun w h=>?_
   exact qod (h.fI (hk2 w he h.drop.drop.drop))
 | last he hl =>
   refine qbi (by simp [he,hl]) ?_
   unfold qtb.j3
   refine h.drewK fun w h=>?_
   have hcap:=h.at2.cap (by decide)
   have hol:=h.at2.len
   rw [qx] at hol
   refine qod (qod (h.fP ?_))
   have h2:St F0 w0 w (rfA rb s (qyc (qm V (8 * N)) most z).2.1 :: qjd sb [.pointer (some ⟨rb,0,none⟩),.slice o.a o.len o.cap,.int .i64 most,.int .i64 (qyc (qm V (8 * N)) most z).2.2.2] :: qmc 1 o (u8s (qyc (qm V (8 * N)) most z).2.2.1) :: ps):=h.at1
   have fin:=hk o w he (by omega) hcap (h.at2.ro.tail fun _ _ _ h=>h.drop.drop)
   refine ⟨?_,?_⟩
   · refine h.fL ?_
     exact qud.c (at':=(qyc (qm V (8 * N)) most z).2.1) h2 (by omega) ⟨_,rfl,fin⟩
   · refine qud.c (at':=(qyc (qm V (8 * N)) most z).2.1) h2 (by omega) ⟨_,rfl,?_⟩
     exact h.fL fin
 | next he hl hr =>
   rename_i n2
   refine qci (by simp [hl]) ?_
   refine qod (h.fI (qbi (by simpa using he) ?_))
   exact ⟨rfl,hin (n2,(qyc (qm V (8 * N)) most z).2) _ ⟨hle,hL2,hr,h0⟩ (by simp only; omega)⟩
end
end Go.Proofs.YthdmmmfgjmmelaaGreat
namespace Go.Proofs.YthdmmmfgjmmelaaGreat
open Go Go.Proofs
set_option linter.unusedVariables false
set_option linter.unusedSimpArgs false
attribute [local irreducible] apK cpK mkK
def lf (x n:Int):Int:=orV .u32 (qpi .u32 x n) (shrV .u32 x (32 - n))
def no32 (b:Int):Int:=xorV .u32 4294967295 b
def mixF (t:Nat) (b c d:Int):Int × Int :=
 if t < 20 then (orV .u32 (andV .u32 b c) (andV .u32 (no32 b) d),1518500249)
 else if t < 40 then (xorV .u32 (xorV .u32 b c) d,1859775393)
 else if t < 60 then (orV .u32 (orV .u32 (andV .u32 b c) (andV .u32 b d)) (andV .u32 c d),2400959708)
 else (xorV .u32 (xorV .u32 b c) d,3395469782)
structure W5 where
 a:Int
 b:Int
 c:Int
 d:Int
 e:Int
def stepF (t:Nat) (x:Int) (s:W5):W5 :=
 ⟨IntKind.u32.wrap (IntKind.u32.wrap (IntKind.u32.wrap (IntKind.u32.wrap (lf s.a 5+(mixF t s.b s.c s.d).1)+s.e)+(mixF t s.b s.c s.d).2)+x),s.a,lf s.b 30,s.c,s.d⟩
def rounds (l:List Int):Nat→W5→W5
 | 0,s=>s
 | n+1,s=>stepF n (l.getD n 0) (rounds l n s)
def nextW (l:List Int):Int:=lf (xorV .u32 (xorV .u32 (xorV .u32 (l.getD (l.length - 3) 0) (l.getD (l.length - 8) 0)) (l.getD (l.length - 14) 0)) (l.getD (l.length - 16) 0)) 1
def growW:Nat→List Int→List Int
 | 0,l=>l
 | n+1,l=>growW n (l ++ [nextW l])
def be (l:List Int):Int:=l.foldl (fun a x=>a * 256+x) 0
theorem be_snoc (l:List Int) (x:Int):be (l ++ [x])=be l * 256+x:=by simp [be]
def base16 (p:List Int):List Int:=(List.range 16).map fun t=>be ((p.drop (4 * t)).take 4)
def addW (s x:W5):W5:=⟨IntKind.u32.wrap (s.a+x.a),IntKind.u32.wrap (s.b+x.b),IntKind.u32.wrap (s.c+x.c),IntKind.u32.wrap (s.d+x.d),IntKind.u32.wrap (s.e+x.e)⟩
def blkF (s:W5) (p:List Int):W5:=addW s (rounds (growW 64 (base16 p)) 80 s)
def W5.l (s:W5):List Int:=[s.a,s.b,s.c,s.d,s.e]
def init5:W5:=⟨1732584193,4023233417,2562383102,271733878,3285377520⟩
def hs (xs:List Int):Nat→W5
 | 0=>init5
 | n+1=>blkF (hs xs n) ((xs.drop (64 * n)).take 64)
def be8 (n:Int):List Int:=(List.range 8).map fun i=>n / 2 ^ (8 * (7 - i)) % 256
def zeros (n:Nat):List Int:=List.replicate ((119 - n % 64) % 64) 0
def padded (xs:List Int):List Int:=xs ++ [128] ++ zeros xs.length ++ be8 (8 * xs.length)
def sumW (xs:List Int):W5:=hs (padded xs) ((padded xs).length / 64)
def word4 (x:Int):List Int:=[x / 2 ^ 24 % 256,x / 2 ^ 16 % 256,x / 2 ^ 8 % 256,x % 256]
def sumB (xs:List Int):List Int:=(sumW xs).l.flatMap word4
section
variable {F0:List Nat} {w0 w:World} {ps:List As}
end
end Go.Proofs.YthdmmmfgjmmelaaGreat
namespace Go.Proofs.YthdmmmfgjmmelaaGreat
open Go Go.Proofs
set_option linter.unusedVariables false
set_option linter.unusedSimpArgs false
attribute [local irreducible] apK cpK mkK
attribute [local irreducible] rounds growW
def allB (l:List Int):Prop:=∀ x ∈ l,0≤x∧x < 256
theorem be_lt:∀ (l:List Int),allB l→0≤be l∧be l < 256 ^ l.length:=by
 intro l
 have key:∀ (l:List Int) (a:Int) (k:Nat),allB l→0≤a→a < 256 ^ k→0≤l.foldl (fun a x=>a * 256+x) a∧l.foldl (fun a x=>a * 256+x) a < 256 ^ (k+l.length):=by
  intro l
  induction l with
  | nil=>intro a k _ h0 h1; exact ⟨h0,h1⟩
  | cons x l ih =>
    intro a k hb h0 h1
    have hx:=hb x (by simp)
    have:=ih (a * 256+x) (k+1) (fun y hy=>hb y (by simp [hy])) (by omega) (by rw [Int.pow_succ]; omega)
    rw [List.foldl_cons,List.length_cons,show k+(l.length+1)=k+1+l.length by omega]
    exact this
 intro hb
 have:=key l 0 0 hb (by omega) (by decide)
 rwa [Nat.zero_add] at this
section
variable {F0:List Nat} {w0 w:World} {ps:List As}
end
end Go.Proofs.YthdmmmfgjmmelaaGreat
namespace Go.Proofs.YthdmmmfgjmmelaaGreat
open Go Go.Proofs
set_option linter.unusedVariables false
set_option maxRecDepth 100000
def qve.j2 (out_7:Sl) (Q:VWP) (w:World):Prop :=
 Calls Tryz.prog 79 ⟨[.slice out_7.a out_7.len out_7.cap]⟩ w fun e1 w2 =>
 ∃ r3:Sl,e1=.returned (.slice r3.a r3.len r3.cap) ∧
 Q (.slice r3.a r3.len r3.cap) w2
def qve.b1 (v_1 bits_2:Int) (out_7:Sl) (Q:VWP) (nx1:Int→Int→Sl→World→Prop) (w:World):Prop :=
 br (decide ((bits_2:Int) > 0)) (
 lt (IntKind.i64.wrap (bits_2 - 8)) fun x4 =>
 (0:Int)≤x4 ∧
 lt (shrV .i64 v_1 x4) fun x5 =>
 lt (IntKind.u8.wrap x5) fun x6 =>
 lt (⟨World.heapSize w,0,none⟩:Addr) fun a7 =>
 lt (World.alloc w (.cells ⟨[.int .u8 x6]⟩ 5)) fun w8 =>
 rdO w8 (some a7) (1 * 1) fun c9 =>
 apK Tryz.prog 5 w8 out_7.a out_7.len out_7.cap 1 c9 fun s10 w11 =>
 nx1 v_1 x4 s10 w11) (
 qve.j2 out_7 Q w)
def qve.l1 (v_1 bits_2:Int) (out_7:Sl) (Q:VWP) (w:World):Prop :=
 ∃ (I:Int→Sl→World→Prop) (μ:Int→Sl→World→Nat),I bits_2 out_7 w∧∀ bits_2:Int,∀ out_7:Sl,∀ w:World,I bits_2 out_7 w→qve.b1 v_1 bits_2 out_7 Q (fun v_1' bits_2' out_7' w'=>(v_1'=v_1)∧I bits_2' out_7' w'∧μ bits_2' out_7' w' < μ bits_2 out_7 w) w
def qve.j1 (v_1 bits_2:Int) (out_7:Sl) (Q:VWP) (w:World):Prop :=
 qve.l1 v_1 bits_2 out_7 Q w
def qve (b_0:Sl) (v_1:Int) (bits_2:Int) (Q:VWP) (w:World):Prop :=
 Calls Tryz.prog 136 ⟨[.slice b_0.a b_0.len b_0.cap]⟩ w fun e12 w13 =>
 ∃ r14:Sl,e12=.returned (.slice r14.a r14.len r14.cap) ∧
 qve.j1 v_1 bits_2 r14 Q w13
theorem qve.ok (b_0:Sl) (v_1:Int) (bits_2:Int) (Q:VWP) (w:World) (h:qve b_0 v_1 bits_2 Q w):Calls Tryz.prog 166 ⟨[.slice b_0.a b_0.len b_0.cap,.int .i64 v_1,.int .i64 bits_2]⟩ w (Ret Q):=by
 refine qp [.tmp 6] Tryz.func166 rfl rfl rfl rfl ?_
 refine qfb qpb (fun ρ w=>asI .i64 (ρ 1) fun v_1=>asI .i64 (ρ 2) fun bits_2=>asL (ρ 7) fun out_7=>qve.j1 v_1 bits_2 out_7 Q w) (Eq.mp (by kernel_rfl) h) ?_
 intro ρ w h
 obtain ⟨v_1,e1,h⟩:=qd h
 obtain ⟨bits_2,e2,h⟩:=qd h
 obtain ⟨out_7,e7,h⟩:=ql h
 refine qb e1 (qb (qa e2 rfl) (qb (qa (qa e7 rfl) rfl) ?_))
 refine qu (fun ρ w=>asL (ρ 7) fun out_7=>qve.j2 out_7 Q w) ?_ ?_
 · skip
   refine qcb ?_
   obtain ⟨I,μ,hI,hr⟩:=h
   refine qlb (α:=Int × Sl) (fun s ρ=>ρ 2=.int .i64 s.1∧ρ 7=.slice s.2.a s.2.len s.2.cap∧ρ 1=.int .i64 v_1) (fun s w=>I s.1 s.2 w) (fun s w=>μ s.1 s.2 w) (bits_2,out_7) ⟨rfl,rfl,rfl⟩ hI ?_
   rintro ⟨bits_2,out_7⟩ ρ w ⟨e2,e7,e1⟩ hI
   have h:=hr bits_2 out_7 w hI
   clear hr
   obtain ⟨nx1,hnx⟩:∃ nx:Int→Int→Sl→World→Prop,nx=(fun v_1' bits_2' out_7' w'=>(v_1'=v_1)∧I bits_2' out_7' w'∧μ bits_2' out_7' w' < μ bits_2 out_7 w):=⟨_,rfl⟩
   rw [← hnx] at h
   refine qsb (M:=fun ρ w=>asI .i64 (ρ 1) fun v_1=>asI .i64 (ρ 2) fun bits_2=>asL (ρ 7) fun out_7=>nx1 v_1 bits_2 out_7 w) ?_ (fun ρ w h=>?_)
   · skip
     refine qb e1 (qb (qa e2 rfl) (qb (qa (qa e7 rfl) rfl) ?_))
     exact qg qpb _ (Eq.mp (by kernel_rfl) h)
   · skip
     obtain ⟨v_1',e1',h⟩:=qd h
     obtain ⟨bits_2',e2',h⟩:=qd h
     obtain ⟨out_7',e7',h⟩:=ql h
     rw [hnx] at h
     obtain ⟨hu,hI2,hμ⟩:=h
     obtain rfl:=hu
     exact ⟨(bits_2',out_7'),⟨e2',e7',e1'⟩,hI2,hμ⟩
 · intro ρ w h
   obtain ⟨out_7,e7,h⟩:=ql h
   refine qb e7 ?_
   exact qg qpb _ (Eq.mp (by kernel_rfl) h)
def qoi (b_0:Sl) (v_1:Int) (Q:VWP) (w:World):Prop :=
 Calls Tryz.prog 166 ⟨[.slice b_0.a b_0.len b_0.cap,.int .i64 v_1,.int .i64 32]⟩ w fun e1 w2 =>
 ∃ r3:Sl,e1=.returned (.slice r3.a r3.len r3.cap) ∧
 Q (.slice r3.a r3.len r3.cap) w2
theorem qoi.ok (b_0:Sl) (v_1:Int) (Q:VWP) (w:World) (h:qoi b_0 v_1 Q w):Calls Tryz.prog 74 ⟨[.slice b_0.a b_0.len b_0.cap,.int .i64 v_1]⟩ w (Ret Q):=by
 refine qp [.tmp 4] Tryz.func74 rfl rfl rfl rfl ?_
 exact qg qpb _ (Eq.mp (by kernel_rfl) h)
end Go.Proofs.YthdmmmfgjmmelaaGreat
namespace Go.Proofs.YthdmmmfgjmmelaaGreat
open Go Go.Proofs
set_option linter.unusedVariables false
set_option linter.unusedSimpArgs false
attribute [local irreducible] apK cpK mkK hs
def beJ (n j:Nat) (v:Int):List Int:=(List.range j).map fun i=>v / 2 ^ (8 * (n - 1 - i)) % 256
theorem qjm (n j:Nat) (v:Int):(beJ n j v).length=j:=by simp [beJ]
theorem beJ_succ (n j:Nat) (v:Int):beJ n (j+1) v=beJ n j v ++ [v / 2 ^ (8 * (n - 1 - j)) % 256]:=by simp [beJ,List.range_succ]
theorem beJ_ok (n j:Nat) (v:Int):allB (beJ n j v):=by
 intro x hx
 obtain ⟨i,_,rfl⟩:=List.mem_map.1 hx
 omega
section
variable {F0:List Nat} {w0 w:World} {ps:List As}
theorem St.blkrd {b n:Nat} {l:List Value} (h:St F0 w0 w (qjd b l :: ps)) (hn:l.length=n):St F0 w0 w (rdA 1 ⟨some ⟨b,0,none⟩,n,n⟩ l :: ps):=by
 refine h.mp ?_
 rintro F ⟨hb,rfl⟩
 exact ⟨by simp [hn],Or.inr ⟨b,0,l,rfl,hb.rb,rfl,fun i hi=>by rw [Nat.zero_add]⟩⟩
theorem qve.c {s:Sl} {xs:List Int} {v:Int} {n:Nat} {K:Ending→World→Prop} (h:St F0 w0 w ps) (hr:Rd w 1 s (u8s xs)) (hL:xs.length≤1099511627776) (hn:n≤8)
 (hk:∀ s' w',s'.len=xs.length+n→s'.cap=s'.len→St F0 w0 w' (rdA 1 s' (u8s (xs ++ beJ n n v)) :: ps)→K (.returned (.slice s'.a s'.len s'.cap)) w'):Calls Tryz.prog 166 ⟨[.slice s.a s.len s.cap,.int .i64 v,.int .i64 ((8 * n:Nat):Int)]⟩ w K:=by
 refine qnc (qve.ok _ _ _ _ _ ?_)
 unfold qve
 refine qsd.c h hr (by omega) fun s1 w h=>⟨s1,rfl,?_⟩
 unfold qve.j1
 refine qkh (fun (j:Nat) (b':Int) (o':Sl) w=>b'=((8 * (n - j):Nat):Int)∧j≤n∧St F0 w0 w (qmc 1 o' (u8s (xs ++ beJ n j v)) :: ps)) (fun j=>n - j) 0 ⟨rfl,by omega,by simpa [beJ] using h⟩ ?_
 clear h
 rintro j b' o w I μ ⟨rfl,hj,h⟩ hin
 unfold qve.b1
 refine qxc (fun h1=>?_) (fun h1=>?_)
 · refine qw (qi (by omega) (by omega)) ?_
   have e:((8 * (n - j):Nat):Int) - 8=((8 * (n - 1 - j):Nat):Int):=by omega
   rw [e]
   refine ⟨by omega,?_⟩
   refine qw (qnk .i64 _ (show 8 * (n - 1 - j)≤64 by omega)) ?_
   refine qw (qkk _) ?_
   refine h.new fun nb w h=>?_
   refine h.rdB rfl ?_
   refine h.drop.append_u8 (by rw [List.length_append,qjm]; omega) rfl fun s2 w h=>?_
   refine ⟨rfl,hin (j+1) _ _ _ ⟨?_,by omega,?_⟩ (by omega)⟩
   · rw [show n - 1 - j=n - (j+1) by omega]
   · rw [beJ_succ,← List.append_assoc]
     exact h
 · have:j=n:=by omega
   subst this
   have hcap:=h.cap (by decide)
   have hlen:=h.len
   rw [qdg,List.length_append,qjm] at hlen
   unfold qve.j2
   refine qad.c h.ro hcap fun s3 hs1 hs2 h=>⟨s3,rfl,hk s3 w (by omega) (by omega) h⟩
end
end Go.Proofs.YthdmmmfgjmmelaaGreat
namespace Go.Proofs.YthdmmmfgjmmelaaGreat
open Go Go.Proofs
set_option linter.unusedVariables false
set_option maxRecDepth 100000
def qao (b_0:Sl) (Q:VWP) (w:World):Prop :=
 Calls Tryz.prog 136 ⟨[.slice b_0.a b_0.len b_0.cap]⟩ w fun e1 w2 =>
 ∃ r3:Sl,e1=.returned (.slice r3.a r3.len r3.cap) ∧
 lt (⟨World.heapSize w2,0,none⟩:Addr) fun a4 =>
 lt (World.alloc w2 (.cells (⟨[.slice r3.a r3.len r3.cap,.int .i64 0,.int .i64 0]⟩:Array Value) 300)) fun w5 =>
 Q (.pointer (some a4)) w5
theorem qao.ok (b_0:Sl) (Q:VWP) (w:World) (h:qao b_0 Q w):Calls Tryz.prog 124 ⟨[.slice b_0.a b_0.len b_0.cap]⟩ w (Ret Q):=by
 refine qp [.tmp 2] Tryz.func124 rfl rfl rfl rfl ?_
 exact qg qpb _ (Eq.mp (by kernel_rfl) h)
def qwg (r_0:OAd) (Q:VWP) (w:World):Prop :=
 nz r_0 fun a1 =>
 ldI .i64 w (Addr.add a1 2) fun x2 =>
 Q (.int .i64 x2) w
theorem qwg.ok (r_0:OAd) (Q:VWP) (w:World) (h:qwg r_0 Q w):Calls Tryz.prog 126 ⟨[.pointer r_0]⟩ w (Ret Q):=by
 refine qp [.tmp 2] Tryz.func126 rfl rfl rfl rfl ?_
 exact qg qpb _ (Eq.mp (by kernel_rfl) h)
def qhg (r_0:OAd) (Q:VWP) (w:World):Prop :=
 nz r_0 fun a1 =>
 ldI .i64 w (Addr.add a1 2) fun x2 =>
 br ((x2:Int) != 0) (
 Q (.int .i64 0) w) (
 lt (World.drew w) fun w3 =>
 nz r_0 fun a4 =>
 ldL w3 (Addr.add a4 0) fun x5 =>
 nz r_0 fun a6 =>
 ldI .i64 w3 (Addr.add a6 1) fun x7 =>
 lt (IntKind.i64.wrap (((x5.len:Nat):Int) - x7)) fun x8 =>
 Q (.int .i64 x8) w3)
theorem qhg.ok (r_0:OAd) (Q:VWP) (w:World) (h:qhg r_0 Q w):Calls Tryz.prog 172 ⟨[.pointer r_0]⟩ w (Ret Q):=by
 refine qp [.tmp 2] Tryz.func172 rfl rfl rfl rfl ?_
 exact qg qpb _ (Eq.mp (by kernel_rfl) h)
def qfd.j1 (r_0:OAd) (n_1:Int) (Q:VWP) (w:World):Prop :=
 nz r_0 fun a1 =>
 ldI .i64 w (Addr.add a1 2) fun x2 =>
 br ((x2:Int) != 0) (
 Q (.slice none 0 0) w) (
 nz r_0 fun a3 =>
 ldI .i64 w (Addr.add a3 1) fun x4 =>
 lt (IntKind.i64.wrap (x4+n_1)) fun x5 =>
 nz r_0 fun a6 =>
 st w (Addr.add a6 1) (.int .i64 x5) fun w7 =>
 lt (World.drew w7) fun w8 =>
 nz r_0 fun a9 =>
 ldL w8 (Addr.add a9 0) fun x10 =>
 nz r_0 fun a11 =>
 ldI .i64 w8 (Addr.add a11 1) fun x12 =>
 lt (IntKind.i64.wrap (x12 - n_1)) fun x13 =>
 nz r_0 fun a14 =>
 ldI .i64 w8 (Addr.add a14 1) fun x15 =>
 bd x15 x10.cap fun n16 =>
 bd x13 n16 fun n17 =>
 lt (⟨qwf x10.a x10.cap n17 1,n16 - n17,x10.cap - n17⟩:Sl) fun s18 =>
 Q (.slice s18.a s18.len s18.cap) w8)
def qfd (r_0:OAd) (n_1:Int) (Q:VWP) (w:World):Prop :=
 nz r_0 fun a19 =>
 ldI .i64 w (Addr.add a19 2) fun x20 =>
 br ((x20:Int) == 0) (
 br (decide ((n_1:Int) < 0)) (
 nz r_0 fun a21 =>
 st w (Addr.add a21 2) (.int .i64 3) fun w22 =>
 qfd.j1 r_0 n_1 Q w22) (
 Calls Tryz.prog 172 ⟨[.pointer r_0]⟩ w fun e23 w24 =>
 ∃ r25:Int,e23=.returned (.int .i64 r25) ∧
 br (decide ((n_1:Int) > r25)) (
 nz r_0 fun a26 =>
 st w24 (Addr.add a26 2) (.int .i64 3) fun w27 =>
 qfd.j1 r_0 n_1 Q w27) (
 qfd.j1 r_0 n_1 Q w24))) (
 qfd.j1 r_0 n_1 Q w)
theorem qfd.ok (r_0:OAd) (n_1:Int) (Q:VWP) (w:World) (h:qfd r_0 n_1 Q w):Calls Tryz.prog 250 ⟨[.pointer r_0,.int .i64 n_1]⟩ w (Ret Q):=by
 refine qp [.tmp 4] Tryz.func250 rfl rfl rfl rfl ?_
 refine qfb qpb (fun ρ w=>asP (ρ 0) fun r_0=>asI .i64 (ρ 1) fun n_1=>qfd.j1 r_0 n_1 Q w) (Eq.mp (by kernel_rfl) h) ?_
 intro ρ w h
 obtain ⟨r_0,e0,h⟩:=qr h
 obtain ⟨n_1,e1,h⟩:=qd h
 refine qb e0 (qb (qa e1 rfl) ?_)
 exact qg qpb _ (Eq.mp (by kernel_rfl) h)
def qwb.j2 (v_5:Int) (Q:VWP) (w:World):Prop :=
 Q (.int .i64 v_5) w
def qwb.b1 (t10:Sl) (t11:Int) (v_5 t12:Int) (Q:VWP) (nx1:Sl→Int→Int→Int→World→Prop) (w:World):Prop :=
 br (decide ((t12:Int) < t11)) (
 ixS t10.a t10.len t12 1 fun a1 =>
 ldI .u8 w a1 fun x2 =>
 (0:Int)≤8 ∧
 lt (qpi .i64 v_5 8) fun x3 =>
 lt (IntKind.i64.wrap x2) fun x4 =>
 lt (orV .i64 x3 x4) fun x5 =>
 lt (IntKind.i64.wrap (t12+1)) fun x6 =>
 nx1 t10 t11 x5 x6 w) (
 qwb.j2 v_5 Q w)
def qwb.l1 (t10:Sl) (t11:Int) (v_5 t12:Int) (Q:VWP) (w:World):Prop :=
 ∃ (I:Int→Int→World→Prop) (μ:Int→Int→World→Nat),I v_5 t12 w∧∀ v_5:Int,∀ t12:Int,∀ w:World,I v_5 t12 w→qwb.b1 t10 t11 v_5 t12 Q (fun t10' t11' v_5' t12' w'=>(t10'=t10∧t11'=t11)∧I v_5' t12' w'∧μ v_5' t12' w' < μ v_5 t12 w) w
def qwb.j3 (v_5:Int) (t10:Sl) (t11 t12:Int) (Q:VWP) (w:World):Prop :=
 qwb.l1 t10 t11 v_5 t12 Q w
def qwb.j1 (r_0:OAd) (n_1:Int) (v_5:Int) (Q:VWP) (w:World):Prop :=
 Calls Tryz.prog 250 ⟨[.pointer r_0,.int .i64 n_1]⟩ w fun e7 w8 =>
 ∃ r9:Sl,e7=.returned (.slice r9.a r9.len r9.cap) ∧
 qwb.j3 v_5 r9 ((r9.len:Nat):Int) 0 Q w8
def qwb (r_0:OAd) (n_1:Int) (Q:VWP) (w:World):Prop :=
 qwb.j1 r_0 n_1 0 Q w
theorem qwb.ok (r_0:OAd) (n_1:Int) (Q:VWP) (w:World) (h:qwb r_0 n_1 Q w):Calls Tryz.prog 195 ⟨[.pointer r_0,.int .i64 n_1]⟩ w (Ret Q):=by
 refine qp [.tmp 4] Tryz.func195 rfl rfl rfl rfl ?_
 refine qfb qpb (fun ρ w=>asP (ρ 0) fun r_0=>asI .i64 (ρ 1) fun n_1=>asI .i64 (ρ 5) fun v_5=>qwb.j1 r_0 n_1 v_5 Q w) (Eq.mp (by kernel_rfl) h) ?_
 intro ρ w h
 obtain ⟨r_0,e0,h⟩:=qr h
 obtain ⟨n_1,e1,h⟩:=qd h
 obtain ⟨v_5,e5,h⟩:=qd h
 refine qb e0 (qb (qa e1 rfl) (qb (qa (qa e5 rfl) rfl) ?_))
 refine qu (fun ρ w=>asI .i64 (ρ 5) fun v_5=>qwb.j2 v_5 Q w) ?_ ?_
 · skip
   refine qu (fun ρ w=>asI .i64 (ρ 5) fun v_5=>asL (ρ 10) fun t10=>asI .i64 (ρ 11) fun t11=>asI .i64 (ρ 12) fun t12=>qwb.j3 v_5 t10 t11 t12 Q w) ?_ ?_
   · skip
     exact qg qpb _ (Eq.mp (by kernel_rfl) h)
   · intro ρ w h
     obtain ⟨v_5,e5,h⟩:=qd h
     obtain ⟨t10,e10,h⟩:=ql h
     obtain ⟨t11,e11,h⟩:=qd h
     obtain ⟨t12,e12,h⟩:=qd h
     refine qb e5 (qb (qa e10 rfl) (qb (qa (qa e11 rfl) rfl) (qb (qa (qa (qa e12 rfl) rfl) rfl) ?_)))
     refine qcb ?_
     obtain ⟨I,μ,hI,hr⟩:=h
     refine qlb (α:=Int × Int) (fun s ρ=>ρ 5=.int .i64 s.1∧ρ 12=.int .i64 s.2∧ρ 10=.slice t10.a t10.len t10.cap∧ρ 11=.int .i64 t11) (fun s w=>I s.1 s.2 w) (fun s w=>μ s.1 s.2 w) (v_5,t12) ⟨rfl,rfl,rfl,rfl⟩ hI ?_
     rintro ⟨v_5,t12⟩ ρ w ⟨e5,e12,e10,e11⟩ hI
     have h:=hr v_5 t12 w hI
     clear hr
     obtain ⟨nx1,hnx⟩:∃ nx:Sl→Int→Int→Int→World→Prop,nx=(fun t10' t11' v_5' t12' w'=>(t10'=t10∧t11'=t11)∧I v_5' t12' w'∧μ v_5' t12' w' < μ v_5 t12 w):=⟨_,rfl⟩
     rw [← hnx] at h
     refine qsb (M:=fun ρ w=>asL (ρ 10) fun t10=>asI .i64 (ρ 11) fun t11=>asI .i64 (ρ 5) fun v_5=>asI .i64 (ρ 12) fun t12=>nx1 t10 t11 v_5 t12 w) ?_ (fun ρ w h=>?_)
     · skip
       refine qb e5 (qb (qa e10 rfl) (qb (qa (qa e11 rfl) rfl) (qb (qa (qa (qa e12 rfl) rfl) rfl) ?_)))
       exact qg qpb _ (Eq.mp (by kernel_rfl) h)
     · skip
       obtain ⟨t10',e10',h⟩:=ql h
       obtain ⟨t11',e11',h⟩:=qd h
       obtain ⟨v_5',e5',h⟩:=qd h
       obtain ⟨t12',e12',h⟩:=qd h
       rw [hnx] at h
       obtain ⟨hu,hI2,hμ⟩:=h
       obtain ⟨rfl,rfl⟩:=hu
       exact ⟨(v_5',t12'),⟨e5',e12',e10',e11'⟩,hI2,hμ⟩
 · intro ρ w h
   obtain ⟨v_5,e5,h⟩:=qd h
   refine qb e5 ?_
   exact qg qpb _ (Eq.mp (by kernel_rfl) h)
def qvg (r_0:OAd) (Q:VWP) (w:World):Prop :=
 Calls Tryz.prog 195 ⟨[.pointer r_0,.int .i64 4]⟩ w fun e1 w2 =>
 ∃ r3:Int,e1=.returned (.int .i64 r3) ∧
 Q (.int .i64 r3) w2
theorem qvg.ok (r_0:OAd) (Q:VWP) (w:World) (h:qvg r_0 Q w):Calls Tryz.prog 125 ⟨[.pointer r_0]⟩ w (Ret Q):=by
 refine qp [.tmp 2] Tryz.func125 rfl rfl rfl rfl ?_
 exact qg qpb _ (Eq.mp (by kernel_rfl) h)
end Go.Proofs.YthdmmmfgjmmelaaGreat
namespace Go.Proofs.YthdmmmfgjmmelaaGreat
open Go Go.Proofs
set_option linter.unusedVariables false
set_option linter.unusedSimpArgs false
attribute [local irreducible] apK cpK mkK
theorem qfr (k:IntKind) {x y:Int} (h:x % 2 ^ k.bits=y % 2 ^ k.bits):k.wrap x=k.wrap y:=by simp only [IntKind.wrap,h]
theorem wrap_mod (k:IntKind) (x:Int):k.wrap x % 2 ^ k.bits=x % 2 ^ k.bits:=by
 simp only [IntKind.wrap]
 split
 · rw [Int.sub_emod_right,Int.emod_emod]
 · rw [Int.emod_emod]
theorem or_byte64 {k:IntKind} (hb:k.bits=64) {v c:Int} (hc:0≤c∧c < 256):orV k (qpi k v 8) c=k.wrap (v * 256+c):=by
 obtain ⟨n,rfl⟩:∃ n:Nat,c=n:=⟨c.toNat,by omega⟩
 unfold orV qpi
 have h8:min (8:Int).toNat k.bits=8:=by rw [hb]; rfl
 rw [h8]
 have e1:=qrm k.bits (k.wrap (v * 2 ^ 8))
 rw [wrap_mod] at e1
 have e2:(BitVec.ofInt k.bits (n:Int)).toNat=n:=quh _ _ (by rw [hb]; omega)
 rw [BitVec.toNat_or,e2]
 generalize (BitVec.ofInt k.bits (k.wrap (v * 2 ^ 8))).toNat=A at e1
 have h28:(2:Int) ^ 8=256:=by decide
 have h64:(2:Int) ^ k.bits=18446744073709551616:=by rw [hb]; decide
 rw [h28,h64] at e1
 obtain ⟨q,rfl⟩:∃ q,A=2 ^ 8 * q:=⟨A / 256,by omega⟩
 have:=Nat.two_pow_add_eq_or_of_lt (i:=8) (b:=n) (by omega) q
 rw [← this]
 apply qfr
 rw [h64]
 have h28n:(2:Nat) ^ 8=256:=by decide
 rw [h28n] at e1 ⊢
 omega
theorem be_fold (k:IntKind) (hb:k.bits=64) (a:Int) (l:List Int) (c:Int) (hc:0≤c∧c < 256):orV k (qpi k (k.wrap (be l)) 8) c=k.wrap (be (l ++ [c])):=by
 rw [or_byte64 hb hc,be_snoc]
 apply qfr
 have h64:(2:Int) ^ k.bits=18446744073709551616:=by rw [hb]; decide
 have:=wrap_mod k (be l)
 rw [h64] at this ⊢
 omega
theorem be_beJ (n:Nat) (v:Int):∀ j,j≤n→be (beJ n j v)=v / 2 ^ (8 * (n - j)) % 2 ^ (8 * j):=by
 intro j
 induction j with
 | zero=>intro _; simp [beJ,be,Int.emod_one]
 | succ j ih =>
   intro hj
   rw [beJ_succ,be_snoc,ih (by omega),show n - 1 - j=n - (j+1) by omega]
   have e1:v / 2 ^ (8 * (n - j))=v / 2 ^ (8 * (n - (j+1))) / 256:=by
    rw [show 8 * (n - j)=8 * (n - (j+1))+8 by omega,Int.pow_add,show (2:Int) ^ 8=256 by decide,Int.ediv_ediv_of_nonneg (Int.le_of_lt (Int.pow_pos (by decide)))]
   have e2:(2:Int) ^ (8 * (j+1))=256 * 2 ^ (8 * j):=by rw [show 8 * (j+1)=8+8 * j by omega,Int.pow_add]; rfl
   rw [e1,e2]
   generalize v / 2 ^ (8 * (n - (j+1)))=x
   have hp:(0:Int) < 2 ^ (8 * j):=Int.pow_pos (by decide)
   generalize (2:Int) ^ (8 * j)=m at hp
   have h1:=Int.mul_ediv_add_emod (x / 256) m
   have h2:=Int.mul_ediv_add_emod x 256
   have h3:=Int.emod_lt_of_pos (x / 256) hp
   have h4:=Int.emod_nonneg (x / 256) (show m ≠ 0 by omega)
   have h5:x=(x / 256 % m * 256+x % 256)+(x / 256 / m) * (256 * m):=by
    have e:(x / 256 / m) * (256 * m)=256 * (m * (x / 256 / m)):=by rw [← Int.mul_assoc,Int.mul_comm (x / 256 / m) 256,Int.mul_assoc,Int.mul_comm (x / 256 / m) m]
    rw [e]; omega
   have h6:=Int.add_mul_emod_self_right (x / 256 % m * 256+x % 256) (x / 256 / m) (256 * m)
   rw [← h5] at h6
   have h7:(x / 256 % m * 256+x % 256) % (256 * m)=x / 256 % m * 256+x % 256:=Int.emod_eq_of_lt (by omega) (by omega)
   rw [h6,h7]
theorem be_beJ' (n:Nat) (v:Int):be (beJ n n v)=v % 2 ^ (8 * n):=by
 rw [be_beJ n v n (Nat.le_refl _),Nat.sub_self,Nat.mul_zero,Int.pow_zero,Int.ediv_one]
theorem be_lt8 {l:List Int} (h:allB l) {n:Nat} (hn:l.length≤n):0≤be l∧be l < 2 ^ (8 * n):=by
 have:=be_lt l h
 refine ⟨this.1,Int.lt_of_lt_of_le this.2 ?_⟩
 have e:(256:Int) ^ l.length=2 ^ (8 * l.length):=by rw [show (256:Int)=2 ^ 8 by decide,← Int.pow_mul]
 rw [e]
 exact_mod_cast Nat.pow_le_pow_right (by decide) (show 8 * l.length≤8 * n by omega)
def tkS (xs:List Int) (at':Nat) (err n:Int):List Int × Nat × Int :=
 if err=0∧0≤n∧n≤xs.length - at' then ((xs.drop at').take n.toNat,at'+n.toNat,0) else ([],at',if err=0 then 3 else err)
def nuS (xs:List Int) (at':Nat) (err:Int) (n:Nat):Int × Nat × Int :=
 if 9223372036854775807 < be (tkS xs at' err n).1 then (0,at',5) else (be (tkS xs at' err n).1,(tkS xs at' err n).2)
def brA (rb:Nat) (x:List Int × Nat × Int):As:=exA fun s:Sl=>ifA (x.2.1≤x.1.length∧s.len≤s.cap∧allB x.1∧x.1.length≤1099511627776) <| andA (qjd rb [.slice s.a s.len s.cap,.int .i64 (x.2.1:Int),.int .i64 x.2.2]) (qmc 1 s (u8s x.1))
section
variable {F0:List Nat} {w0 w:World} {ps rest:List As} {rb at':Nat} {xs:List Int} {err:Int}
theorem brA_o (h:St F0 w0 w ps) [PkF brA rb ps (xs,at',err) rest]:∃ s:Sl,at'≤xs.length∧s.len≤s.cap∧s.len=xs.length∧allB xs∧xs.length≤1099511627776∧St F0 w0 w (qjd rb [.slice s.a s.len s.cap,.int .i64 (at':Int),.int .i64 err] :: qmc 1 s (u8s xs) :: rest):=by
 obtain ⟨s,h⟩:=(h.toF brA rb).exE
 obtain ⟨⟨h1,h2,h3,h4⟩,h⟩:=h.ifE
 have h:=h.split
 have hl:=h.at1.len
 rw [qx] at hl
 exact ⟨s,h1,h2,by simp only at hl; omega,h3,h4,h⟩
theorem brA_i {s:Sl} (h1:at'≤xs.length) (h2:s.len≤s.cap) (h3:allB xs) (h4:xs.length≤1099511627776) (h:St F0 w0 w (qjd rb [.slice s.a s.len s.cap,.int .i64 (at':Int),.int .i64 err] :: qmc 1 s (u8s xs) :: rest)):St F0 w0 w (brA rb (xs,at',err) :: rest) :=
 (h.join.ifI (c:=at'≤xs.length∧s.len≤s.cap∧allB xs∧xs.length≤1099511627776) ⟨h1,h2,h3,h4⟩).exI (p:=fun s:Sl=>ifA (at'≤xs.length∧s.len≤s.cap∧allB xs∧xs.length≤1099511627776) <| andA (qjd rb [.slice s.a s.len s.cap,.int .i64 (at':Int),.int .i64 err]) (qmc 1 s (u8s xs))) s
theorem qao.c {s:Sl} {K:Ending→World→Prop} (h:St F0 w0 w ps) [Rdb F0 w0 s ps 1 (u8s xs)] (hx:allB xs) (hL:xs.length≤1099511627776)
 (hk:∀ nb w',St F0 w0 w' (brA nb (xs,0,0) :: ps)→K (.returned (.pointer (some ⟨nb,0,none⟩))) w'):Calls Tryz.prog 124 ⟨[.slice s.a s.len s.cap]⟩ w K:=by
 refine qnc (qao.ok _ _ _ ?_)
 unfold qao
 refine qsd.c h (h.rdb s) (by omega) fun s1 w h=>⟨s1,rfl,?_⟩
 have hc:=h.cap (by decide)
 refine h.new fun nb w h=>?_
 exact hk nb w (brA_i (Nat.zero_le _) hc hx hL h)
theorem qwg.c {K:Ending→World→Prop} (h:St F0 w0 w ps) [PkF brA rb ps (xs,at',err) rest] (hk:K (.returned (.int .i64 err)) w):Calls Tryz.prog 126 ⟨[.pointer (some ⟨rb,0,none⟩)]⟩ w K:=by
 refine qnc (qwg.ok _ _ _ ?_)
 unfold qwg
 obtain ⟨s,h1,h2,h3,h4,h5,h⟩:=brA_o (rb:=rb) h
 exact qod (h.fI hk)
theorem qhg.r {s:Sl} {K:Ending→World→Prop} (h:St F0 w0 w (qjd rb [.slice s.a s.len s.cap,.int .i64 (at':Int),.int .i64 err] :: rest)) (hl:at'≤s.len) (hL:s.len≤1099511627776)
 (hk:∀ w',St F0 w0 w' (qjd rb [.slice s.a s.len s.cap,.int .i64 (at':Int),.int .i64 err] :: rest)→K (.returned (.int .i64 (if err=0 then (s.len:Int) - at' else 0))) w'):Calls Tryz.prog 172 ⟨[.pointer (some ⟨rb,0,none⟩)]⟩ w K:=by
 refine qnc (qhg.ok _ _ _ ?_)
 unfold qhg
 refine qod (h.fI (qqe (fun g=>?_) (fun g=>?_)))
 · rw [if_neg (by simpa using g)] at hk
   exact hk w h
 · rw [if_pos (by simpa using g)] at hk
   refine h.drewK fun w h=>?_
   refine qod (h.fL (qod (h.fI ?_)))
   refine qw (qi (by simp only; omega) (by simp only; omega)) ?_
   exact hk w h
theorem qfd.r {s:Sl} {n:Int} {K:Ending→World→Prop} (h:St F0 w0 w (qjd rb [.slice s.a s.len s.cap,.int .i64 (at':Int),.int .i64 err] :: rest)) (hl:at'≤s.len) (hc:s.len≤s.cap) (hL:s.len≤1099511627776)
 (hk:∀ (m:Nat) w',err=0→n=m→m≤s.len - at'→St F0 w0 w' (qjd rb [.slice s.a s.len s.cap,.int .i64 ((at'+m:Nat):Int),.int .i64 0] :: rest)→K (.returned (.slice (qwf s.a s.cap at' 1) (at'+m - at') (s.cap - at'))) w')
 (hk2:∀ w',¬(err=0∧0≤n∧n≤(s.len:Int) - at')→St F0 w0 w' (qjd rb [.slice s.a s.len s.cap,.int .i64 (at':Int),.int .i64 (if err=0 then 3 else err)] :: rest)→K (.returned (.slice none 0 0)) w') :
 Calls Tryz.prog 250 ⟨[.pointer (some ⟨rb,0,none⟩),.int .i64 n]⟩ w K:=by
 refine qnc (qfd.ok _ _ _ _ ?_)
 unfold qfd
 have bad:∀ (e:Int) w',e ≠ 0→e=(if err=0 then 3 else err)→¬(err=0∧0≤n∧n≤(s.len:Int) - at')→St F0 w0 w' (qjd rb [.slice s.a s.len s.cap,.int .i64 (at':Int),.int .i64 e] :: rest)→qfd.j1 (some ⟨rb,0,none⟩) n (fun v w'=>K (.returned v) w') w':=by
  intro e w he e1 hn h
  unfold qfd.j1
  refine qod (h.fI (qci (by simpa using he) ?_))
  subst e1
  exact hk2 w hn h
 refine qod (h.fI (qqe (fun g=>?_) (fun g=>?_)))
 · have g:err=0:=by simpa using g
   subst g
   refine qxc (fun g=>?_) (fun g=>?_)
   · refine qod (h.fst trivial fun w h=>?_)
     exact bad 3 w (by decide) rfl (by omega) h
   · refine qhg.r h hl hL fun w h=>⟨_,rfl,?_⟩
     rw [if_pos rfl]
     refine qxc (fun g2=>?_) (fun g2=>?_)
     · refine qod (h.fst trivial fun w h=>?_)
       exact bad 3 w (by decide) rfl (by omega) h
     · obtain ⟨m,rfl⟩:∃ m:Nat,n=m:=⟨n.toNat,by omega⟩
       unfold qfd.j1
       refine qod (h.fI (qbi (by simp) ?_))
       refine qod (h.fI ?_)
       refine qw (qi (by omega) (by omega)) ?_
       refine qod (h.fst trivial fun w h=>?_)
       refine h.drewK fun w h=>?_
       refine qod (h.fL (qod (h.fI ?_)))
       refine qw (qi (by omega) (by omega)) ?_
       refine qod (h.fI ?_)
       refine qzo (n:=at'+m) (by omega) (by simp only; omega) ?_
       refine qzo (n:=at') (by omega) (by omega) (qwh ?_)
       exact hk m w rfl rfl (by omega) (by rw [Int.natCast_add]; exact h)
 · have g:err ≠ 0:=by simpa using g
   exact bad err w g (by rw [if_neg g]) (fun e=>g e.1) h
end
end Go.Proofs.YthdmmmfgjmmelaaGreat
namespace Go.Proofs.YthdmmmfgjmmelaaGreat
open Go Go.Proofs
set_option linter.unusedVariables false
set_option linter.unusedSimpArgs false
attribute [local irreducible] apK cpK mkK
theorem tkS_ok {xs:List Int} (hx:allB xs) (at':Nat) (err n:Int):allB (tkS xs at' err n).1∧(tkS xs at' err n).1.length≤n.toNat∧(tkS xs at' err n).1.length≤xs.length∧(at'≤xs.length→(tkS xs at' err n).2.1≤xs.length):=by
 unfold tkS
 split
 · refine ⟨fun x h=>hx x (List.mem_of_mem_drop (List.mem_of_mem_take h)),by simp; omega,by simp; omega,fun _=>by simp only; omega⟩
 · exact ⟨fun x h=>by simp at h,by simp,by simp,fun h=>h⟩
theorem take_snoc {xs:List Int} {i:Nat} (h:i < xs.length):xs.take (i+1)=xs.take i ++ [xs.getD i 0]:=by
 rw [List.take_succ_eq_append_getElem h]
 simp [List.getD,List.getElem?_eq_getElem h]
theorem allB_getD {xs:List Int} (hx:allB xs) {i:Nat} (h:i < xs.length):0≤xs.getD i 0∧xs.getD i 0 < 256:=by
 have:xs.getD i 0=xs[i]:=by simp [List.getD,List.getElem?_eq_getElem h]
 rw [this]; exact hx _ (List.getElem_mem h)
section
variable {F0:List Nat} {w0 w:World} {ps rest:List As} {rb at':Nat} {xs:List Int} {err:Int}
theorem qwb.loop {t:Sl} {ys:List Int} {Q:VWP} (h:St F0 w0 w ps) [Rdb F0 w0 t ps 1 (u8s ys)] (hy:allB ys) (hL:ys.length≤1099511627776)
 (hk:∀ w',St F0 w0 w' ps→Q (.int .i64 (IntKind.i64.wrap (be ys))) w'):qwb.j3 0 t ((t.len:Nat):Int) 0 Q w:=by
 unfold qwb.j3
 have hl:=(h.rdb t).1
 rw [qx] at hl
 refine qkh (fun (i:Nat) (v i':Int) w'=>i'=i∧i≤ys.length∧v=IntKind.i64.wrap (be (ys.take i))∧St F0 w0 w' ps) (fun i=>ys.length - i) 0 ⟨rfl,by omega,rfl,h⟩ ?_
 clear h
 rintro i v i' w I μ ⟨rfl,hi,rfl,h⟩ hin
 unfold qwb.b1
 refine qxc (fun g=>?_) (fun g=>?_)
 · have hiy:i < ys.length:=by omega
   have hc:=allB_getD hy hiy
   refine h.lx i rfl hiy ⟨by decide,qwh ?_⟩
   refine qw (qi (by omega) (by omega)) ?_
   refine qw (be_fold .i64 rfl 0 _ _ hc) ?_
   rw [← take_snoc hiy]
   refine qw (qi (by omega) (by omega)) ?_
   exact ⟨⟨rfl,rfl⟩,hin (i+1) _ _ _ ⟨by omega,by omega,rfl,h⟩ (by omega)⟩
 · have:i=ys.length:=by omega
   subst this
   rw [List.take_length]
   exact hk w h
theorem qwb.c {n:Nat} {K:Ending→World→Prop} (h:St F0 w0 w ps) [PkF brA rb ps (xs,at',err) rest]
 (hk:∀ w',St F0 w0 w' (brA rb (xs,(tkS xs at' err n).2) :: rest)→K (.returned (.int .i64 (IntKind.i64.wrap (be (tkS xs at' err n).1)))) w'):Calls Tryz.prog 195 ⟨[.pointer (some ⟨rb,0,none⟩),.int .i64 (n:Int)]⟩ w K:=by
 refine qnc (qwb.ok _ _ _ _ ?_)
 unfold qwb qwb.j1
 obtain ⟨s,h1,h2,h3,h4,h5,h⟩:=brA_o (rb:=rb) h
 refine qfd.r h (by omega) h2 (by omega) (fun m w e1 e2 e3 g=>⟨⟨_,_,_⟩,rfl,?_⟩) (fun w hn h=>⟨⟨none,0,0⟩,rfl,?_⟩)
 · have e2:n=m:=by omega
   subst e2 e1
   have h:=g
   have et:tkS xs at' 0 n=((xs.drop at').take n,at'+n,0):=by unfold tkS; rw [if_pos ⟨rfl,by omega,by omega⟩,Int.toNat_natCast]
   rw [et] at hk
   haveI:=h.cutR s at' (at'+n) (s.cap - at') (ys:=(xs.drop at').take n) (by omega) (by omega) h2 (by rw [show at'+n - at'=n by omega])
   refine qwb.loop (t:=⟨qwf s.a s.cap at' 1,at'+n - at',s.cap - at'⟩) (ys:=(xs.drop at').take n) h (fun x hx=>h4 x (List.mem_of_mem_drop (List.mem_of_mem_take hx))) (by simp; omega) fun w h=>?_
   exact hk w (brA_i (by omega) h2 h4 h5 h)
 · have et:tkS xs at' err n=([],at',if err=0 then 3 else err):=by unfold tkS; rw [if_neg (by omega)]
   rw [et] at hk
   haveI:=Rdb.nil (F0:=F0) (w0:=w0) (ps:=qjd rb [.slice s.a s.len s.cap,.int .i64 (at':Int),.int .i64 (if err=0 then 3 else err)] :: qmc 1 s (u8s xs) :: rest) 0
   refine qwb.loop (t:=⟨none,0,0⟩) (ys:=[]) h (fun x hx=>by cases hx) (by simp) fun w h=>?_
   exact hk w (brA_i h1 h2 h4 h5 h)
theorem nuS_small {n:Nat} (hx:allB xs) (hn:n≤4):IntKind.i64.wrap (be (tkS xs at' err n).1)=(nuS xs at' err n).1∧(nuS xs at' err n).2=(tkS xs at' err n).2:=by
 have h:=tkS_ok hx at' err n
 have h2:=be_lt8 h.1 (n:=4) (by omega)
 have h3:(2:Int) ^ (8 * 4)=4294967296:=by decide
 rw [h3] at h2
 unfold nuS
 rw [if_neg (by omega),qi (by omega) (by omega)]
 exact ⟨rfl,rfl⟩
theorem qvg.c {K:Ending→World→Prop} (h:St F0 w0 w ps) [PkF brA rb ps (xs,at',err) rest] (hx:allB xs)
 (hk:∀ w',St F0 w0 w' (brA rb (xs,(nuS xs at' err 4).2) :: rest)→K (.returned (.int .i64 (nuS xs at' err 4).1)) w'):Calls Tryz.prog 125 ⟨[.pointer (some ⟨rb,0,none⟩)]⟩ w K:=by
 refine qnc (qvg.ok _ _ _ ?_)
 unfold qvg
 obtain ⟨e1,e2⟩:=nuS_small (at':=at') (err:=err) hx (show 4≤4 by decide)
 refine qwb.c (n:=4) h fun w h=>⟨_,rfl,?_⟩
 rw [← e2] at h
 rw [e1]
 exact hk w h
end
end Go.Proofs.YthdmmmfgjmmelaaGreat
namespace Go.Proofs.YthdmmmfgjmmelaaGreat
open Go Go.Proofs
set_option linter.unusedVariables false
set_option linter.unusedSimpArgs false
attribute [local irreducible] apK cpK mkK
section
variable {F0:List Nat} {w0 w:World} {ps rest:List As} {xs:List Int}
theorem qoi.d {s:Sl} {v:Int} {K:Ending→World→Prop} (h:St F0 w0 w ps) [Rdb F0 w0 s ps 1 (u8s xs)] (hL:xs.length≤1099511627776)
 (hk:∀ s' w',s'.len=xs.length+4→s'.cap=s'.len→St F0 w0 w' (rdA 1 s' (u8s (xs ++ beJ 4 4 v)) :: ps)→K (.returned (.slice s'.a s'.len s'.cap)) w'):Calls Tryz.prog 74 ⟨[.slice s.a s.len s.cap,.int .i64 v]⟩ w K:=by
 refine qnc (qoi.ok _ _ _ _ ?_)
 unfold qoi
 exact qve.c (n:=4) h (h.rdb s) hL (by decide) fun s' w h1 h2 h=>⟨s',rfl,hk s' w h1 h2 h⟩
end
end Go.Proofs.YthdmmmfgjmmelaaGreat
namespace Go.Proofs.YthdmmmfgjmmelaaGreat
open Go Go.Proofs
set_option linter.unusedVariables false
set_option linter.unusedSimpArgs false
attribute [local irreducible] apK cpK mkK hs sumB rounds growW
theorem or32 {a b t m:Nat} (hm:m=2 ^ t) (ha:a < m) (hs:a+b * m < 4294967296):orV .u32 ((b * m:Nat):Int) (a:Int)=((a+b * m:Nat):Int):=by
 subst hm
 have h:=orV_uadd (k:=.u32) (a:=a) (b:=b) (t:=t) rfl ha hs
 rw [orV_comm]
 have e:((b * 2 ^ t:Nat):Int)=(b:Int) * 2 ^ t:=by simp
 rw [e,h,Int.natCast_add,e]
theorem shl32 {a t m:Nat} (hm:m=2 ^ t) (ht:t≤32) (hs:a * m < 4294967296):qpi .u32 (a:Int) (t:Int)=((a * m:Nat):Int):=by
 subst hm
 rw [shlV_u (k:=.u32) rfl ht hs]
 simp
theorem word_of {a b c d:Int} (ha:0≤a∧a < 256) (hb:0≤b∧b < 256) (hc:0≤c∧c < 256) (hd:0≤d∧d < 256) :
 orV .u32 (orV .u32 (orV .u32 (qpi .u32 a 24) (qpi .u32 b 16)) (qpi .u32 c 8)) d=be [a,b,c,d]:=by
 obtain ⟨a,rfl⟩:∃ n:Nat,a=n:=⟨a.toNat,by omega⟩
 obtain ⟨b,rfl⟩:∃ n:Nat,b=n:=⟨b.toNat,by omega⟩
 obtain ⟨c,rfl⟩:∃ n:Nat,c=n:=⟨c.toNat,by omega⟩
 obtain ⟨d,rfl⟩:∃ n:Nat,d=n:=⟨d.toNat,by omega⟩
 have h1:qpi .u32 (a:Int) 24=((a * 16777216:Nat):Int):=shl32 (t:=24) (by decide) (by decide) (by omega)
 have h2:qpi .u32 (b:Int) 16=((b * 65536:Nat):Int):=shl32 (t:=16) (by decide) (by decide) (by omega)
 have h3:qpi .u32 (c:Int) 8=((c * 256:Nat):Int):=shl32 (t:=8) (by decide) (by decide) (by omega)
 have u1:=or32 (a:=b * 65536) (b:=a) (t:=24) (m:=16777216) (by decide) (by omega) (by omega)
 have u2:=or32 (a:=c * 256) (b:=b+a * 256) (t:=16) (m:=65536) (by decide) (by omega) (by omega)
 have u3:=or32 (a:=d) (b:=c+(b+a * 256) * 256) (t:=8) (m:=256) (by decide) (by omega) (by omega)
 rw [show (b+a * 256) * 65536=b * 65536+a * 16777216 by omega] at u2
 rw [show (c+(b+a * 256) * 256) * 256=c * 256+(b * 65536+a * 16777216) by omega] at u3
 rw [h1,h2,h3,u1,u2,u3]
 simp only [be,List.foldl_cons,List.foldl_nil]
 omega
section
variable {F0:List Nat} {w0 w:World} {ps:List As}
end
end Go.Proofs.YthdmmmfgjmmelaaGreat
namespace Go.Proofs.YthdmmmfgjmmelaaGreat
open Go Go.Proofs
set_option linter.unusedVariables false
set_option maxRecDepth 100000
def qsc.j2 (x_5 y_6:Int) (Q:VWP) (w:World):Prop :=
 (0:Int)≤16 ∧
 lt (qpi .u32 y_6 16) fun x1 =>
 lt (orV .u32 x1 x_5) fun x2 =>
 Q (.int .u32 x2) w
def qsc.b1 (t13:Sl) (t14:Int) (x_5 y_6 t15:Int) (Q:VWP) (nx1:Sl→Int→Int→Int→Int→World→Prop) (w:World):Prop :=
 br (decide ((t15:Int) < t14)) (
 ixS t13.a t13.len t15 1 fun a3 =>
 ldI .u8 w a3 fun x4 =>
 lt (IntKind.u32.wrap x4) fun x5 =>
 lt (IntKind.u32.wrap (x_5+x5)) fun x6 =>
 (65521:Int) ≠ 0 ∧
 lt (Int.tmod x6 65521) fun x7 =>
 lt (IntKind.u32.wrap (y_6+x7)) fun x8 =>
 (65521:Int) ≠ 0 ∧
 lt (Int.tmod x8 65521) fun x9 =>
 lt (IntKind.i64.wrap (t15+1)) fun x10 =>
 nx1 t13 t14 x7 x9 x10 w) (
 qsc.j2 x_5 y_6 Q w)
def qsc.l1 (t13:Sl) (t14:Int) (x_5 y_6 t15:Int) (Q:VWP) (w:World):Prop :=
 ∃ (I:Int→Int→Int→World→Prop) (μ:Int→Int→Int→World→Nat),I x_5 y_6 t15 w∧∀ x_5:Int,∀ y_6:Int,∀ t15:Int,∀ w:World,I x_5 y_6 t15 w→qsc.b1 t13 t14 x_5 y_6 t15 Q (fun t13' t14' x_5' y_6' t15' w'=>(t13'=t13∧t14'=t14)∧I x_5' y_6' t15' w'∧μ x_5' y_6' t15' w' < μ x_5 y_6 t15 w) w
def qsc.j3 (x_5 y_6:Int) (t13:Sl) (t14 t15:Int) (Q:VWP) (w:World):Prop :=
 qsc.l1 t13 t14 x_5 y_6 t15 Q w
def qsc.j1 (b_1:Sl) (x_5:Int) (y_6:Int) (Q:VWP) (w:World):Prop :=
 qsc.j3 x_5 y_6 b_1 ((b_1.len:Nat):Int) 0 Q w
def qsc (adler_0:Int) (b_1:Sl) (Q:VWP) (w:World):Prop :=
 lt (andV .u32 adler_0 65535) fun x11 =>
 (0:Int)≤16 ∧
 lt (shrV .u32 adler_0 16) fun x12 =>
 qsc.j1 b_1 x11 x12 Q w
theorem qsc.ok (adler_0:Int) (b_1:Sl) (Q:VWP) (w:World) (h:qsc adler_0 b_1 Q w):Calls Tryz.prog 196 ⟨[.int .u32 adler_0,.slice b_1.a b_1.len b_1.cap]⟩ w (Ret Q):=by
 refine qp [.tmp 4] Tryz.func196 rfl rfl rfl rfl ?_
 refine qfb qpb (fun ρ w=>asL (ρ 1) fun b_1=>asI .u32 (ρ 5) fun x_5=>asI .u32 (ρ 6) fun y_6=>qsc.j1 b_1 x_5 y_6 Q w) (Eq.mp (by kernel_rfl) h) ?_
 intro ρ w h
 obtain ⟨b_1,e1,h⟩:=ql h
 obtain ⟨x_5,e5,h⟩:=qd h
 obtain ⟨y_6,e6,h⟩:=qd h
 refine qb e1 (qb (qa e5 rfl) (qb (qa (qa e6 rfl) rfl) ?_))
 refine qu (fun ρ w=>asI .u32 (ρ 5) fun x_5=>asI .u32 (ρ 6) fun y_6=>qsc.j2 x_5 y_6 Q w) ?_ ?_
 · skip
   refine qu (fun ρ w=>asI .u32 (ρ 5) fun x_5=>asI .u32 (ρ 6) fun y_6=>asL (ρ 13) fun t13=>asI .i64 (ρ 14) fun t14=>asI .i64 (ρ 15) fun t15=>qsc.j3 x_5 y_6 t13 t14 t15 Q w) ?_ ?_
   · skip
     exact qg qpb _ (Eq.mp (by kernel_rfl) h)
   · intro ρ w h
     obtain ⟨x_5,e5,h⟩:=qd h
     obtain ⟨y_6,e6,h⟩:=qd h
     obtain ⟨t13,e13,h⟩:=ql h
     obtain ⟨t14,e14,h⟩:=qd h
     obtain ⟨t15,e15,h⟩:=qd h
     refine qb e5 (qb (qa e6 rfl) (qb (qa (qa e13 rfl) rfl) (qb (qa (qa (qa e14 rfl) rfl) rfl) (qb (qa (qa (qa (qa e15 rfl) rfl) rfl) rfl) ?_))))
     refine qcb ?_
     obtain ⟨I,μ,hI,hr⟩:=h
     refine qlb (α:=Int × Int × Int) (fun s ρ=>ρ 5=.int .u32 s.1∧ρ 6=.int .u32 s.2.1∧ρ 15=.int .i64 s.2.2∧ρ 13=.slice t13.a t13.len t13.cap∧ρ 14=.int .i64 t14) (fun s w=>I s.1 s.2.1 s.2.2 w) (fun s w=>μ s.1 s.2.1 s.2.2 w) (x_5,y_6,t15) ⟨rfl,rfl,rfl,rfl,rfl⟩ hI ?_
     rintro ⟨x_5,y_6,t15⟩ ρ w ⟨e5,e6,e15,e13,e14⟩ hI
     have h:=hr x_5 y_6 t15 w hI
     clear hr
     obtain ⟨nx1,hnx⟩:∃ nx:Sl→Int→Int→Int→Int→World→Prop,nx=(fun t13' t14' x_5' y_6' t15' w'=>(t13'=t13∧t14'=t14)∧I x_5' y_6' t15' w'∧μ x_5' y_6' t15' w' < μ x_5 y_6 t15 w):=⟨_,rfl⟩
     rw [← hnx] at h
     refine qsb (M:=fun ρ w=>asL (ρ 13) fun t13=>asI .i64 (ρ 14) fun t14=>asI .u32 (ρ 5) fun x_5=>asI .u32 (ρ 6) fun y_6=>asI .i64 (ρ 15) fun t15=>nx1 t13 t14 x_5 y_6 t15 w) ?_ (fun ρ w h=>?_)
     · skip
       refine qb e5 (qb (qa e6 rfl) (qb (qa (qa e13 rfl) rfl) (qb (qa (qa (qa e14 rfl) rfl) rfl) (qb (qa (qa (qa (qa e15 rfl) rfl) rfl) rfl) ?_))))
       exact qg qpb _ (Eq.mp (by kernel_rfl) h)
     · skip
       obtain ⟨t13',e13',h⟩:=ql h
       obtain ⟨t14',e14',h⟩:=qd h
       obtain ⟨x_5',e5',h⟩:=qd h
       obtain ⟨y_6',e6',h⟩:=qd h
       obtain ⟨t15',e15',h⟩:=qd h
       rw [hnx] at h
       obtain ⟨hu,hI2,hμ⟩:=h
       obtain ⟨rfl,rfl⟩:=hu
       exact ⟨(x_5',y_6',t15'),⟨e5',e6',e15',e13',e14'⟩,hI2,hμ⟩
 · intro ρ w h
   obtain ⟨x_5,e5,h⟩:=qd h
   obtain ⟨y_6,e6,h⟩:=qd h
   refine qb e5 (qb (qa e6 rfl) ?_)
   exact qg qpb _ (Eq.mp (by kernel_rfl) h)
def qli (b_0:Sl) (Q:VWP) (w:World):Prop :=
 Calls Tryz.prog 196 ⟨[.int .u32 1,.slice b_0.a b_0.len b_0.cap]⟩ w fun e1 w2 =>
 ∃ r3:Int,e1=.returned (.int .u32 r3) ∧
 Q (.int .u32 r3) w2
theorem qli.ok (b_0:Sl) (Q:VWP) (w:World) (h:qli b_0 Q w):Calls Tryz.prog 127 ⟨[.slice b_0.a b_0.len b_0.cap]⟩ w (Ret Q):=by
 refine qp [.tmp 2] Tryz.func127 rfl rfl rfl rfl ?_
 exact qg qpb _ (Eq.mp (by kernel_rfl) h)
def qrb.j3 (s1_5 s2_6:Int) (Q:VWP) (w:World):Prop :=
 (0:Int)≤16 ∧
 lt (qpi .u32 s2_6 16) fun x1 =>
 lt (orV .u32 x1 s1_5) fun x2 =>
 Q (.int .u32 x2) w
def qrb.b1 (b_1:Sl) (s1_5:Int) (s2_6 i_7:Int) (Q:VWP) (nx1:Sl→Int→Int→Int→World→Prop) (w:World):Prop :=
 br (decide ((i_7:Int) < ((b_1.len:Nat):Int))) (
 ixS b_1.a b_1.len i_7 1 fun a3 =>
 ldI .u8 w a3 fun x4 =>
 lt (IntKind.u32.wrap x4) fun x5 =>
 lt (IntKind.u32.wrap (s1_5+x5)) fun x6 =>
 (65521:Int) ≠ 0 ∧
 lt (Int.tmod x6 65521) fun x7 =>
 lt (IntKind.u32.wrap (s2_6+x7)) fun x8 =>
 (65521:Int) ≠ 0 ∧
 lt (Int.tmod x8 65521) fun x9 =>
 lt (IntKind.i64.wrap (i_7+1)) fun x10 =>
 nx1 b_1 x7 x9 x10 w) (
 qrb.j3 s1_5 s2_6 Q w)
def qrb.l1 (b_1:Sl) (s1_5:Int) (s2_6 i_7:Int) (Q:VWP) (w:World):Prop :=
 ∃ (I:Int→Int→Int→World→Prop) (μ:Int→Int→Int→World→Nat),I s1_5 s2_6 i_7 w∧∀ s1_5:Int,∀ s2_6:Int,∀ i_7:Int,∀ w:World,I s1_5 s2_6 i_7 w→qrb.b1 b_1 s1_5 s2_6 i_7 Q (fun b_1' s1_5' s2_6' i_7' w'=>(b_1'=b_1)∧I s1_5' s2_6' i_7' w'∧μ s1_5' s2_6' i_7' w' < μ s1_5 s2_6 i_7 w) w
def qrb.j4 (b_1:Sl) (s1_5:Int) (s2_6 i_7:Int) (Q:VWP) (w:World):Prop :=
 qrb.l1 b_1 s1_5 s2_6 i_7 Q w
def qrb.j2 (b_1:Sl) (s1_5:Int) (s2_6:Int) (Q:VWP) (w:World):Prop :=
 qrb.j4 b_1 s1_5 s2_6 0 Q w
def qrb.j1 (a_0:Int) (b_1:Sl) (Q:VWP) (w:World):Prop :=
 lt (andV .u32 a_0 65535) fun x11 =>
 (0:Int)≤16 ∧
 lt (shrV .u32 a_0 16) fun x12 =>
 qrb.j2 b_1 x11 x12 Q w
def qrb (a_0:Int) (b_1:Sl) (Q:VWP) (w:World):Prop :=
 qrb.j1 a_0 b_1 Q w
theorem qrb.ok (a_0:Int) (b_1:Sl) (Q:VWP) (w:World) (h:qrb a_0 b_1 Q w):Calls Tryz.prog 197 ⟨[.int .u32 a_0,.slice b_1.a b_1.len b_1.cap]⟩ w (Ret Q):=by
 refine qp [.tmp 4] Tryz.func197 rfl rfl rfl rfl ?_
 refine qu (fun ρ w=>asI .u32 (ρ 0) fun a_0=>asL (ρ 1) fun b_1=>qrb.j1 a_0 b_1 Q w) ?_ ?_
 · skip
   exact qg qpb _ (Eq.mp (by kernel_rfl) h)
 · intro ρ w h
   obtain ⟨a_0,e0,h⟩:=qd h
   obtain ⟨b_1,e1,h⟩:=ql h
   refine qb e0 (qb (qa e1 rfl) ?_)
   refine qfb qpb (fun ρ w=>asL (ρ 1) fun b_1=>asI .u32 (ρ 5) fun s1_5=>asI .u32 (ρ 6) fun s2_6=>qrb.j2 b_1 s1_5 s2_6 Q w) (Eq.mp (by kernel_rfl) h) ?_
   intro ρ w h
   obtain ⟨b_1,e1,h⟩:=ql h
   obtain ⟨s1_5,e5,h⟩:=qd h
   obtain ⟨s2_6,e6,h⟩:=qd h
   refine qb e1 (qb (qa e5 rfl) (qb (qa (qa e6 rfl) rfl) ?_))
   refine qu (fun ρ w=>asI .u32 (ρ 5) fun s1_5=>asI .u32 (ρ 6) fun s2_6=>qrb.j3 s1_5 s2_6 Q w) ?_ ?_
   · skip
     refine qu (fun ρ w=>asL (ρ 1) fun b_1=>asI .u32 (ρ 5) fun s1_5=>asI .u32 (ρ 6) fun s2_6=>asI .i64 (ρ 7) fun i_7=>qrb.j4 b_1 s1_5 s2_6 i_7 Q w) ?_ ?_
     · skip
       exact qg qpb _ (Eq.mp (by kernel_rfl) h)
     · intro ρ w h
       obtain ⟨b_1,e1,h⟩:=ql h
       obtain ⟨s1_5,e5,h⟩:=qd h
       obtain ⟨s2_6,e6,h⟩:=qd h
       obtain ⟨i_7,e7,h⟩:=qd h
       refine qb e1 (qb (qa e5 rfl) (qb (qa (qa e6 rfl) rfl) (qb (qa (qa (qa e7 rfl) rfl) rfl) ?_)))
       refine qcb ?_
       obtain ⟨I,μ,hI,hr⟩:=h
       refine qlb (α:=Int × Int × Int) (fun s ρ=>ρ 5=.int .u32 s.1∧ρ 6=.int .u32 s.2.1∧ρ 7=.int .i64 s.2.2∧ρ 1=.slice b_1.a b_1.len b_1.cap) (fun s w=>I s.1 s.2.1 s.2.2 w) (fun s w=>μ s.1 s.2.1 s.2.2 w) (s1_5,s2_6,i_7) ⟨rfl,rfl,rfl,rfl⟩ hI ?_
       rintro ⟨s1_5,s2_6,i_7⟩ ρ w ⟨e5,e6,e7,e1⟩ hI
       have h:=hr s1_5 s2_6 i_7 w hI
       clear hr
       obtain ⟨nx1,hnx⟩:∃ nx:Sl→Int→Int→Int→World→Prop,nx=(fun b_1' s1_5' s2_6' i_7' w'=>(b_1'=b_1)∧I s1_5' s2_6' i_7' w'∧μ s1_5' s2_6' i_7' w' < μ s1_5 s2_6 i_7 w):=⟨_,rfl⟩
       rw [← hnx] at h
       refine qsb (M:=fun ρ w=>asL (ρ 1) fun b_1=>asI .u32 (ρ 5) fun s1_5=>asI .u32 (ρ 6) fun s2_6=>asI .i64 (ρ 7) fun i_7=>nx1 b_1 s1_5 s2_6 i_7 w) ?_ (fun ρ w h=>?_)
       · skip
         refine qb e1 (qb (qa e5 rfl) (qb (qa (qa e6 rfl) rfl) (qb (qa (qa (qa e7 rfl) rfl) rfl) ?_)))
         exact qg qpb _ (Eq.mp (by kernel_rfl) h)
       · skip
         obtain ⟨b_1',e1',h⟩:=ql h
         obtain ⟨s1_5',e5',h⟩:=qd h
         obtain ⟨s2_6',e6',h⟩:=qd h
         obtain ⟨i_7',e7',h⟩:=qd h
         rw [hnx] at h
         obtain ⟨hu,hI2,hμ⟩:=h
         obtain rfl:=hu
         exact ⟨(s1_5',s2_6',i_7'),⟨e5',e6',e7',e1'⟩,hI2,hμ⟩
   · intro ρ w h
     obtain ⟨s1_5,e5,h⟩:=qd h
     obtain ⟨s2_6,e6,h⟩:=qd h
     refine qb e5 (qb (qa e6 rfl) ?_)
     exact qg qpb _ (Eq.mp (by kernel_rfl) h)
def qeg (b_0:Sl) (Q:VWP) (w:World):Prop :=
 Calls Tryz.prog 197 ⟨[.int .u32 1,.slice b_0.a b_0.len b_0.cap]⟩ w fun e1 w2 =>
 ∃ r3:Int,e1=.returned (.int .u32 r3) ∧
 Q (.int .u32 r3) w2
theorem qeg.ok (b_0:Sl) (Q:VWP) (w:World) (h:qeg b_0 Q w):Calls Tryz.prog 128 ⟨[.slice b_0.a b_0.len b_0.cap]⟩ w (Ret Q):=by
 refine qp [.tmp 2] Tryz.func128 rfl rfl rfl rfl ?_
 exact qg qpb _ (Eq.mp (by kernel_rfl) h)
end Go.Proofs.YthdmmmfgjmmelaaGreat
namespace Go.Proofs.YthdmmmfgjmmelaaGreat
open Go Go.Proofs
def asFn (v:Value) (F:FuncId→Array Value→Array Value→Prop):Prop:=match v with
 | .func (.func f) first cap=>F f first cap
 | _=>False
def whenB (b:Bool) (X:Prop):Prop:=match b with
 | true=>X
 | false=>False
theorem whenB_i {b:Bool} {X:Prop} (hb:b=true) (h:X):whenB b X:=by subst hb; exact h
theorem asFn_i {f:FuncId} {first cap:Array Value} {F:FuncId→Array Value→Array Value→Prop} (h:F f first cap):asFn (.func (.func f) first cap) F:=h
end Go.Proofs.YthdmmmfgjmmelaaGreat
