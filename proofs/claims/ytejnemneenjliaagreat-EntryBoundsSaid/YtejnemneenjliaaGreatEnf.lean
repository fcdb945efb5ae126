/- Own texts as one, only what is reached (shake.py). -/
import Derived.Test.YtejnemneenjliaaGreatEne
import Derived.Test.YtejnemneenjliaaGreatProg
namespace Go.Proofs.YtejnemneenjliaaGreat
open Go Go.Proofs
set_option linter.unusedVariables false
set_option linter.unusedSimpArgs false
section
variable {B:List Bool} {most:Int} {cl a b:List Int} {out:List Int}
theorem flat3 {S:List Int} {f:Int→List Bool} (hf:∀ s,(f s).length=3):∀ {p:Nat} {r:List Bool},B.drop p=S.flatMap f ++ r→∀ k,k < S.length→∃ r',B.drop (p+3 * k)=f (S.getD k 0) ++ r':=by
 induction S with
 | nil=>intro p r _ k hk; simp at hk
 | cons s S ih =>
   intro p r hd k hk
   rw [List.flatMap_cons,List.append_assoc] at hd
   cases k with
   | zero=>exact ⟨_,hd⟩
   | succ k =>
     simp only [List.length_cons] at hk
     obtain ⟨r',h⟩:=ih (quc hd) k (by omega)
     rw [hf] at h
     exact ⟨r',by rw [show p+3 * (k+1)=p+3+3 * k by omega,h]; rfl⟩
theorem qyr {S:List Int} {f:Int→List Bool} (hf:∀ s,(f s).length=3):(S.flatMap f).length=3 * S.length:=by
 induction S with
 | nil=>rfl
 | cons s S ih=>rw [List.flatMap_cons,List.length_append,ih,hf,List.length_cons]; omega
def clS (cl:List Int) (k:Nat):List Int:=qfj 19 fun s=>if s ∈ (qmh.take k).map Int.toNat then cl.getD s 0 else 0
theorem zord_take {k:Nat} (h:k < 19):qmh.take (k+1)=qmh.take k ++ [qmh.getD k 0]:=qfh h
theorem zord_lt2 {k:Nat} (h:k < 19):(qmh.getD k 0).toNat < 19:=by
 have:∀ k:Nat,k < 19→(qmh.getD k 0).toNat < 19:=by decide
 exact this k h
theorem clS_succ (cl:List Int) {k:Nat} (h:k < 19):(clS cl k).set (qmh.getD k 0).toNat (cl.getD (qmh.getD k 0).toNat 0)=clS cl (k+1):=by
 have h1:=zord_lt2 h
 refine lext (by rw [List.length_set]; exact (qad _ _).trans (qad _ _).symm) fun j hj=>?_
 rw [List.length_set,clS,qad] at hj
 have e2:(clS cl (k+1)).getD j 0=_:=qbf hj
 have e1:(clS cl k).getD j 0=_:=qbf hj
 have hmem:j ∈ (qmh.take (k+1)).map Int.toNat ↔ j ∈ (qmh.take k).map Int.toNat ∨ j=(qmh.getD k 0).toNat:=by
  rw [zord_take h,List.map_append,List.mem_append]
  simp
 rw [e2]
 by_cases hjk:j=(qmh.getD k 0).toNat
 · subst hjk
   rw [List.getD_eq_getElem?_getD,List.getElem?_set_self (by rw [clS,qad]; exact h1),if_pos (hmem.2 (Or.inr rfl))]
   rfl
 · rw [List.getD_eq_getElem?_getD,List.getElem?_set_ne (by omega),← List.getD_eq_getElem?_getD,e1]
   by_cases hm:j ∈ (qmh.take k).map Int.toNat
   · rw [if_pos hm,if_pos (hmem.2 (Or.inl hm))]
   · rw [if_neg hm,if_neg fun e=>(hmem.1 e).elim hm hjk]
theorem clS_all {n:Nat} (hcl:cl.length=19) (hz:∀ j,n≤j→j < 19→cl.getD (qmh.getD j 0).toNat 0=0):clS cl n=cl:=by
 refine lext (by rw [clS,qad,hcl]) fun s hs=>?_
 rw [clS,qad] at hs
 have e1:(clS cl n).getD s 0=_:=qbf hs
 rw [e1]
 split
 · rfl
 · rename_i hm
   have key:∀ s:Nat,s < 19→∃ j:Nat,j < 19∧(qmh.getD j 0).toNat=s:=by decide
   obtain ⟨j,hj,rfl⟩:=key s hs
   rcases Nat.lt_or_ge j n with h | h
   · exact absurd (List.mem_map.2 ⟨qmh.getD j 0,List.mem_iff_getElem?.2 ⟨j,by
      have hjl:j < qmh.length:=hj
      rw [List.getElem?_take,if_pos h]
      simp [List.getD,hjl]⟩,rfl⟩) hm
   · exact (hz j h hj).symm
theorem zclr_at {n p:Nat} {r:List Bool} (hb:∀ j:Nat,0≤cl.getD j 0∧cl.getD j 0 < 8) (hn:n≤19) (hp:p≤B.length)
 (hd:B.drop p=(qmh.take n).flatMap (fun s=>qi (cl.getD s.toNat 0) 3) ++ r):∀ k,k≤n→qmj B (p,out,0) k=(clS cl k,(p+3 * k,out,0)):=by
 have hfl:=qyr (S:=qmh.take n) (f:=fun s=>qi (cl.getD s.toNat 0) 3) (fun s=>qk _ _)
 have hll:(qmh.take n).length=n:=by rw [List.length_take]; exact Nat.min_eq_left hn
 have hdl:=qed hd
 rw [hfl,hll] at hdl
 intro k
 induction k with
 | zero=>intro _; rw [qmj]; exact Prod.ext (by show _=clS cl 0; unfold clS; rfl) rfl
 | succ k ih =>
   intro hk
   obtain ⟨r',hr'⟩:=flat3 (S:=qmh.take n) (f:=fun s=>qi (cl.getD s.toNat 0) 3) (fun s=>qk _ _) hd k (by omega)
   rw [qbr (show k < n by omega)] at hr'
   have hx:=hb (qmh.getD k 0).toNat
   have hg:=qqg (out:=out) (n:=3) hr' (by rw [qk]; rfl) (by rw [qk]; decide) (by omega)
   have vs:=qof (e:=cl.getD (qmh.getD k 0).toNat 0) (x:=3) hx.1 hx.2
   rw [show (3:Int).toNat=3 from rfl] at vs
   rw [vs,qk] at hg
   rw [qmj,ih (by omega)]
   simp only
   rw [hg]
   simp only
   rw [clS_succ _ (by omega)]
   rfl
def hdB (a b cl:List Int) (n:Nat) (ps:List Pc):List Bool :=
 qi ((a.length:Int) - 257) 5 ++ (qi ((b.length:Int) - 1) 5 ++ (qi ((n:Int) - 4) 4 ++ ((qmh.take n).flatMap (fun s=>qi (cl.getD s.toNat 0) 3) ++ pcsB cl ps)))
theorem zlens_at {n p:Nat} {ps:List Pc} {r:List Bool} (ha1:257≤a.length) (ha2:a.length≤286) (hb1:1≤b.length) (hb2:b.length≤30) (hcl:cl.length=19) (hcb:∀ j:Nat,0≤cl.getD j 0∧cl.getD j 0 < 8) (hn1:4≤n) (hn2:n≤19)
 (hz:∀ j,n≤j→j < 19→cl.getD (qmh.getD j 0).toNat 0=0) (hc:okC cl) (hnew0:qcj cl false=0) (hr:Runs (a ++ b) 0 ps) (hin:∀ q ∈ ps,inC cl q.1.toNat) (hp:p≤B.length)
 (hd:B.drop p=hdB a b cl n ps ++ r):qii B (p,out,0)=((a,b),(p+(hdB a b cl n ps).length,out,0)):=by
 unfold hdB at hd
 simp only [List.append_assoc] at hd
 have hd1:=quc hd
 have hd2:=quc hd1
 have hd3:=quc hd2
 have hd4:=quc hd3
 have l0:=qed hd
 have l1:=qed hd1
 have l2:=qed hd2
 have l3:=qed hd3
 have hfl:=qyr (S:=qmh.take n) (f:=fun s=>qi (cl.getD s.toNat 0) 3) (fun s=>qk _ _)
 have hll:(qmh.take n).length=n:=by rw [List.length_take]; exact Nat.min_eq_left hn2
 rw [hll] at hfl
 simp only [qk] at hd1 hd2 hd3 hd4 l0 l1 l2 l3
 have g1:=qqg (out:=out) (n:=5) hd (by rw [qk]; rfl) (by rw [qk]; decide) hp
 have g2:=qqg (out:=out) (n:=5) hd1 (by rw [qk]; rfl) (by rw [qk]; decide) (by omega)
 have g3:=qqg (out:=out) (n:=4) hd2 (by rw [qk]; rfl) (by rw [qk]; decide) (by omega)
 have v1:=qof (e:=(a.length:Int) - 257) (x:=5) (by omega) (by show (a.length:Int) - 257 < 32; omega)
 have v2:=qof (e:=(b.length:Int) - 1) (x:=5) (by omega) (by show (b.length:Int) - 1 < 32; omega)
 have v3:=qof (e:=(n:Int) - 4) (x:=4) (by omega) (by show (n:Int) - 4 < 16; omega)
 rw [show (5:Int).toNat=5 from rfl] at v1 v2
 rw [show (4:Int).toNat=4 from rfl] at v3
 rw [v1,qk] at g1
 rw [v2,qk] at g2
 rw [v3,qk] at g3
 have hclr:=zclr_at (out:=out) hcb hn2 (by omega) hd3 n (Nat.le_refl _)
 rw [clS_all hcl hz] at hclr
 rw [hfl] at hd4 l3
 have hzl:=zll_runs (out:=out) hc hr hin (by omega) hd4 (a.length+b.length+1) (by have:=hr.le; rw [List.length_append] at this; omega)
 unfold qii
 simp only
 have c1:(if (286:Int) < (a.length:Int) - 257+257 then qkd 2 (p+5,out,0) else (p+5,out,0))=((p+5,out,0):Z):=if_neg (by omega)
 have c2:(if (30:Int) < (b.length:Int) - 1+1 then qkd 2 (p+5+5,out,0) else (p+5+5,out,0))=((p+5+5,out,0):Z):=if_neg (by omega)
 simp only [g1,c1,g2,c2,g3]
 rw [show (((n:Int) - 4)+4).toNat=n by omega,hclr]
 simp only
 have e5:zcodeH cl false (p+5+5+4+3 * n,out,0)=(p+5+5+4+3 * n,out,0):=by unfold zcodeH; rw [if_neg (fun e=>e.2 hnew0)]
 rw [e5,show (((a.length:Int) - 257+257)+((b.length:Int) - 1+1)).toNat=a.length+b.length by omega]
 rw [List.take_zero,List.length_append] at hzl
 rw [hzl]
 simp only
 rw [if_neg (fun e=>e rfl),show ((a.length:Int) - 257+257).toNat=a.length by omega,List.take_left' rfl,List.drop_left' rfl]
 unfold hdB
 simp only [List.length_append,qk]
 rw [hfl]
 refine Prod.ext rfl (Prod.ext ?_ rfl)
 show _=p+_
 simp only
 omega
end
def Dfl (xs:List Int) (D:List Bool):Prop :=
 ∀ (B r:List Bool) (most:Int),B=D ++ r→0≤most→((xs.length:Int)≤most→ZAll B most 0 (0,[],0) (D.length,xs,0))∧(most < xs.length→∃ z',ZAll B most 0 (0,[],0) z'∧z'.2.2=5)
section
variable {B:List Bool} {most:Int} {xs:List Int}
theorem Dfl.of {D:List Bool} (h:∀ (B r:List Bool) (most:Int),B=D ++ r→0≤most→((xs.length:Int)≤most→qsd B most (0,[],0)=(true,(D.length,xs,0)))∧(most < xs.length→(qsd B most (0,[],0)).2.2.2=5)):Dfl xs D:=by
 intro B r most e h0
 obtain ⟨h1,h2⟩:=h B r most e h0
 refine ⟨fun hm=>?_,fun hm=>?_⟩
 · have e:=h1 hm
   have:=ZAll.last (B:=B) (most:=most) (z:=(0,[],0)) (by rw [e]) (by rw [e])
   rwa [e] at this
 · have e:=h2 hm
   exact ⟨_,ZAll.bad (by rw [e]; decide),e⟩
theorem qjp {k:List Bool} {p:Nat} {r:List Bool} (hk:k.length=2) (h:B.drop 0=([true] ++ k) ++ r):qse B 1 (0,[],0)=(1,(1,[],0))∧qse B 2 (1,[],0)=((val k:Int),(3,[],0))∧B.drop 3=r∧3≤B.length:=by
 rw [List.append_assoc] at h
 have l:=qed h
 have g1:=qqg (out:=[]) (n:=1) h rfl (by decide) (by omega)
 have h2:=quc h
 have l2:=qed h2
 have g2:=qqg (out:=[]) (n:=2) h2 (by rw [hk]; rfl) (by omega) (by simp only [List.length_singleton] at l ⊢; omega)
 have h3:=quc h2
 rw [hk] at g2 h3 l2
 simp only [List.length_singleton] at l l2
 exact ⟨g1,g2,h3,by omega⟩
theorem zblockA_fix {r:List Bool} (h:B.drop 0=([true] ++ [true,false]) ++ r):qsd B most (0,[],0)=(true,zblk qzh qve B most (3,[],0)):=by
 obtain ⟨g1,g2,_,_⟩:=qjp (p:=0) rfl h
 unfold qsd
 simp only
 rw [g1]
 simp only
 rw [g2]
 simp only
 rw [if_neg (by simp),if_neg (by decide),if_pos (by decide)]
 rfl
theorem zblockA_dyn {r:List Bool} (h:B.drop 0=([true] ++ [false,true]) ++ r):qsd B most (0,[],0)=(true,let q:=qii B (3,[],0); if q.2.2.2 ≠ 0 then q.2 else zblk q.1.1 q.1.2 B most q.2):=by
 obtain ⟨g1,g2,_,_⟩:=qjp (p:=0) rfl h
 unfold qsd
 simp only
 rw [g1]
 simp only
 rw [g2]
 simp only
 rw [if_neg (by simp),if_neg (by decide),if_neg (by decide),if_pos (by decide)]
 rfl
theorem zblockA_sto {r:List Bool} (h:B.drop 0=([true] ++ [false,false]) ++ r):qsd B most (0,[],0)=(true,zstored B most (3,[],0)):=by
 obtain ⟨g1,g2,_,_⟩:=qjp (p:=0) rfl h
 unfold qsd
 simp only
 rw [g1]
 simp only
 rw [g2]
 simp only
 rw [if_neg (by simp),if_pos (by decide)]
 rfl
theorem qqo:okC qzh:=⟨by unfold okL; decide +kernel,by decide +kernel⟩
theorem qro:okC qve:=⟨by unfold okL; decide +kernel,by decide +kernel⟩
theorem flit_new:qcj qzh true=0:=by decide +kernel
theorem qbs:qcj qve true=0:=by decide +kernel
theorem qvr {s:Nat} (h:s < 288):inC qzh s:=by
 have:∀ s:Nat,s < 288→s < qzh.length∧0 < qzh.getD s 0:=by decide +kernel
 exact this s h
theorem fdist_in {s:Nat} (h:s < 32):inC qve s:=by
 have:∀ s:Nat,s < 32→s < qve.length∧0 < qve.getD s 0:=by decide +kernel
 exact this s h
def fxB (L:List Tk):List Bool:=[true,true,false] ++ (tksB qzh qve L ++ qcd qzh 256)
theorem Dfl.fixed {L:List Tk} (hb:∀ x ∈ xs,0≤x∧x < 256) (hL:qng xs 0 L xs.length) (hin:∀ t ∈ L,tkIn qzh qve t):Dfl xs (fxB L):=by
 refine Dfl.of fun B r most e h0=>?_
 have g:=tks_gx hb hL (Nat.zero_le _) Gx.nil hin
 rw [List.nil_append,List.take_length] at g
 have hd:B.drop 0=([true] ++ [true,false]) ++ ((tksB qzh qve L ++ qcd qzh 256) ++ r):=by
  rw [e]; rfl
 obtain ⟨_,_,hd3,h3⟩:=qjp (p:=0) rfl hd
 rw [zblockA_fix hd]
 refine ⟨fun hm=>?_,fun hm=>?_⟩
 · rw [zblk_good qqo qro flit_new qbs g (qvr (by decide)) h3 hd3 hm]
   refine Prod.ext rfl (Prod.ext ?_ rfl)
   unfold fxB
   simp only [List.length_append,List.length_cons,List.length_nil]
 · have hh:=qvs qqo qro flit_new qbs g (qvr (by decide)) h3 hd3 h0 hm
   revert hh
   generalize zblk qzh qve B most (3,[],0)=z
   exact id
def dyB (a b cl:List Int) (n:Nat) (ps:List Pc) (L:List Tk):List Bool:=[true,false,true] ++ (hdB a b cl n ps ++ (tksB a b L ++ qcd a 256))
theorem Dfl.dynamic {L:List Tk} {a b cl:List Int} {n:Nat} {ps:List Pc} (hb:∀ x ∈ xs,0≤x∧x < 256) (hL:qng xs 0 L xs.length) (hin:∀ t ∈ L,tkIn a b t)
 (ha1:257≤a.length) (ha2:a.length≤286) (hb1:1≤b.length) (hb2:b.length≤30) (hcl:cl.length=19) (hcb:∀ j:Nat,0≤cl.getD j 0∧cl.getD j 0 < 8) (hn1:4≤n) (hn2:n≤19)
 (hz:∀ j,n≤j→j < 19→cl.getD (qmh.getD j 0).toNat 0=0) (hc:okC cl) (hnew0:qcj cl false=0) (hr:Runs (a ++ b) 0 ps) (hpi:∀ q ∈ ps,inC cl q.1.toNat)
 (hca:okC a) (hcb2:okC b) (hna:qcj a true=0) (hnb:qcj b true=0) (hi:inC a 256):Dfl xs (dyB a b cl n ps L):=by
 refine Dfl.of fun B r most e h0=>?_
 have g:=tks_gx hb hL (Nat.zero_le _) Gx.nil hin
 rw [List.nil_append,List.take_length] at g
 have hd:B.drop 0=([true] ++ [false,true]) ++ (hdB a b cl n ps ++ ((tksB a b L ++ qcd a 256) ++ r)):=by
  rw [e]
  unfold dyB
  simp only [List.append_assoc]
  rfl
 obtain ⟨_,_,hd3,h3⟩:=qjp (p:=0) rfl hd
 rw [zblockA_dyn hd]
 have hz:=zlens_at (out:=[]) ha1 ha2 hb1 hb2 hcl hcb hn1 hn2 hz hc hnew0 hr hpi h3 hd3
 have hd4:=quc hd3
 have l3:=qed hd3
 simp only
 rw [hz]
 simp only
 rw [if_neg (fun e=>e rfl)]
 refine ⟨fun hm=>?_,fun hm=>?_⟩
 · rw [zblk_good hca hcb2 hna hnb g hi (by omega) hd4 hm]
   refine Prod.ext rfl (Prod.ext ?_ rfl)
   unfold dyB
   simp only [List.length_append,List.length_cons,List.length_nil]
   omega
 · exact qvs hca hcb2 hna hnb g hi (by omega) hd4 h0 hm
def sdB (xs:List Int):List Bool:=[true,false,false] ++ (List.replicate 5 false ++ (qi (xs.length:Int) 16 ++ (qi ((65535 ^^^ xs.length:Nat):Int) 16 ++ bb xs)))
theorem Dfl.stored (hb:∀ x ∈ xs,0≤x∧x < 256) (hl:xs.length < 65536):Dfl xs (sdB xs):=by
 refine Dfl.of fun B r most e h0=>?_
 obtain ⟨x1,x2⟩:=xor_good hl
 generalize hcx:65535 ^^^ xs.length=c at x1 x2
 have hd:B.drop 0=([true] ++ [false,false]) ++ (List.replicate 5 false ++ (qi (xs.length:Int) 16 ++ (qi (c:Int) 16 ++ (bb xs ++ r)))):=by
  rw [e]
  unfold sdB
  rw [hcx]
  simp only [List.append_assoc]
  rfl
 obtain ⟨_,_,hd3,h3⟩:=qjp (p:=0) rfl hd
 rw [zblockA_sto hd]
 have l3:=qed hd3
 have hd4:=quc hd3
 rw [List.length_replicate] at hd4 l3
 have l4:=qed hd4
 have hd5:=quc hd4
 rw [qk] at hd5 l4
 have l5:=qed hd5
 have hd6:=quc hd5
 rw [qk] at hd6 l5
 have e16:(2:Int) ^ (16:Int).toNat=65536:=by decide
 have g3:=qqg (B:=B) (out:=[]) (n:=16) hd4 (by rw [qk]; rfl) (by rw [qk]; decide) (by omega)
 have g4:=qqg (B:=B) (out:=[]) (n:=16) hd5 (by rw [qk]; rfl) (by rw [qk]; decide) (by omega)
 have v1:=qof (e:=(xs.length:Int)) (x:=16) (by omega) (by rw [e16]; omega)
 have v2:=qof (e:=(c:Int)) (x:=16) (by omega) (by rw [e16]; omega)
 rw [show (16:Int).toNat=16 from rfl] at v1 v2
 rw [v1,qk] at g3
 rw [v2,qk] at g4
 have st:zstored B most (3,[],0)=if most - ([]:List Int).length < (xs.length:Int) then qkd 5 (40,[],0) else zst B most xs.length (40,[],0):=by
  unfold zstored
  simp only
  rw [show 8 * ((3+7) / 8)=3+5 from rfl,g3]
  simp only
  rw [g4]
  simp only
  rw [if_neg (by simp),xorV_nat (by omega) (by omega),x2,if_neg (by decide),Int.toNat_natCast]
 rw [st]
 refine ⟨fun hm=>?_,fun hm=>?_⟩
 · rw [if_neg (by simp; omega),zst_full xs 40 [] r hb (by omega) hd6 (by simpa using hm)]
   refine Prod.ext rfl (Prod.ext ?_ rfl)
   unfold sdB
   simp only [List.length_append,List.length_cons,List.length_nil,List.length_replicate,qk,qxo]
   omega
 · rw [if_pos (by simp; omega)]
   rfl
end
end Go.Proofs.YtejnemneenjliaaGreat
namespace Go.Proofs.YtejnemneenjliaaGreat
open Go Go.Proofs
set_option linter.unusedVariables false
set_option linter.unusedSimpArgs false
theorem qjs (V:Nat) (m k:Nat):qi (V:Int) (m+k)=qi (V:Int) m ++ qi ((V / 2 ^ m:Nat):Int) k:=by
 unfold qi
 rw [List.range_add,List.map_append,List.map_map]
 congr 1
 refine List.map_congr_left fun i hi=>?_
 show bt (V:Int) (m+i)=_
 rw [bt_nat,bt_nat,Nat.testBit_div_two_pow,Nat.add_comm]
theorem bitsOf_mod (V:Nat) (k:Nat):qi ((V % 2 ^ k:Nat):Int) k=qi (V:Int) k:=by
 unfold qi
 refine List.map_congr_left fun i hi=>?_
 rw [bt_nat,bt_nat,Nat.testBit_mod_two_pow]
 have:=List.mem_range.1 hi
 simp [this]
theorem bb_byt (V:Nat):∀ N,bb (byt V N)=qi (V:Int) (8 * N):=by
 intro N
 induction N with
 | zero=>rfl
 | succ N ih =>
   rw [qnq,bb_snoc,ih,show 8 * (N+1)=8 * N+8 by omega,qjs]
   congr 1
   exact bitsOf_mod _ 8
theorem bb_append (a b:List Int):bb (a ++ b)=bb a ++ bb b:=by simp [bb]
theorem qjj (D:List Bool):(bytes D).length=(D.length+7) / 8:=qug _ _
theorem bytes_ok (D:List Bool):∀ x ∈ bytes D,0≤x∧x < 256:=byt_ok _ _
theorem bits_front {V N:Nat} {D:List Bool} {t:List Int} (h:byt V N=bytes D ++ t):∃ r,qi (V:Int) (8 * N)=D ++ r:=by
 have e:=bb_byt V N
 rw [h,bb_append] at e
 have e2:bb (bytes D)=qi (val D:Int) (8 * ((D.length+7) / 8)):=bb_byt _ _
 rw [show 8 * ((D.length+7) / 8)=D.length+(8 * ((D.length+7) / 8) - D.length) by omega,qjs,qnn] at e2
 rw [e2,List.append_assoc] at e
 exact ⟨_,e.symm⟩
def frm (xs:List Int) (D:List Bool):List Int:=[120,156] ++ bytes D ++ beJ 4 4 (adV xs)
theorem beJ4_len (v:Int):(beJ 4 4 v).length=4:=by simp [beJ]
theorem qyj (xs:List Int) (D:List Bool):(frm xs D).length=2+(D.length+7) / 8+4:=by
 unfold frm
 rw [List.length_append,List.length_append,qjj,beJ4_len]; rfl
theorem frm_ok (xs:List Int) (D:List Bool):∀ x ∈ frm xs D,0≤x∧x < 256:=by
 intro x hx
 unfold frm at hx
 rcases List.mem_append.1 hx with hx | hx
 · rcases List.mem_append.1 hx with hx | hx
   · have:∀ x ∈ ([120,156]:List Int),0≤x∧x < 256:=by decide
     exact this x hx
   · exact bytes_ok D x hx
 · exact beJ_ok 4 4 _ x hx
theorem unp_gen {xs t:List Int} {D:List Bool} {most:Int} (hD:Dfl xs D) (ht:∀ x ∈ t,0≤x∧x < 256) (h0:0≤most) (h1:most≤262144) :
 ((xs.length:Int)≤most→Unp ([120,156] ++ bytes D ++ t) most (unpR ([120,156] ++ bytes D ++ t) (D.length,xs,0)))∧(most < xs.length→Unp ([120,156] ++ bytes D ++ t) most ([],0,5)):=by
 generalize hy:[120,156] ++ bytes D ++ t=ys
 have hyl:ys.length=2+(bytes D ++ t).length:=by rw [← hy]; simp; omega
 have hyd:ys.drop 2=bytes D ++ t:=by rw [← hy]; rfl
 have e0:ys.getD 0 0=120:=by rw [← hy]; rfl
 have e1:ys.getD 1 0=156:=by rw [← hy]; rfl
 obtain ⟨V,hV⟩:=byt_ex (bytes D ++ t) (fun x hx=>by
  rcases List.mem_append.1 hx with hx | hx
  · exact bytes_ok D x hx
  · exact ht x hx)
 obtain ⟨r,hr⟩:=bits_front hV.symm
 obtain ⟨g1,g2⟩:=hD _ r most hr h0
 have hbad:¬ hdBad 120 156:=by decide +kernel
 have hl2:ys.length - 2=(bytes D ++ t).length:=by omega
 have mk:∀ z' q,ZAll (qi (V:Int) (8 * (bytes D ++ t).length)) most 0 (0,[],0) z'→q=unpR ys z'→Unp ys most q:=by
  intro z' q hz hq
  unfold Unp
  rw [if_neg (by omega),e0,e1,if_neg hbad,if_neg (by omega),hl2]
  exact ⟨V,z',by rw [hyd]; exact hV,⟨0,hz⟩,hq⟩
 refine ⟨fun hm=>mk _ _ (g1 hm) rfl,fun hm=>?_⟩
 obtain ⟨z',hz,h5⟩:=g2 hm
 refine mk z' _ hz ?_
 unfold unpR
 rw [if_pos (by rw [h5]; decide),h5]
theorem unp_frm {xs t:List Int} {D:List Bool} {most:Int} (hD:Dfl xs D) (ht:∀ x ∈ t,0≤x∧x < 256) (hm:(xs.length:Int)≤most) (h1:most≤262144):Unp (frm xs D ++ t) most (xs,((frm xs D).length:Int),0):=by
 have h:=(unp_gen (t:=beJ 4 4 (adV xs) ++ t) hD (fun x hx=>by
  rcases List.mem_append.1 hx with hx | hx
  · exact beJ_ok 4 4 _ x hx
  · exact ht x hx) (by omega) h1).1 hm
 rw [← List.append_assoc,show [120,156] ++ bytes D ++ beJ 4 4 (adV xs)=frm xs D from rfl] at h
 have hl:=qyj xs D
 have e:unpR (frm xs D ++ t) (D.length,xs,0)=(xs,((frm xs D).length:Int),0):=by
  unfold unpR
  simp only
  rw [if_neg (fun e=>e rfl),if_neg (by rw [List.length_append]; omega),if_neg,hl]
  have ed:((frm xs D ++ t).drop (2+(D.length+7) / 8)).take 4=beJ 4 4 (adV xs):=by
   unfold frm
   rw [List.append_assoc,List.drop_left' (by rw [List.length_append,qjj]; rfl),List.take_left' (beJ4_len _)]
  have hb:=adV_b xs
  rw [ed,be_beJ',show (2:Int) ^ (8 * 4)=4294967296 by decide,Int.emod_eq_of_lt hb.1 hb.2]
  exact fun e=>e rfl
 rwa [e] at h
theorem unp_cut {xs:List Int} {D:List Bool} {most:Int} (hD:Dfl xs D) (hm:(xs.length:Int)≤most) (h1:most≤262144):Unp ((frm xs D).take ((frm xs D).length - 1)) most ([],0,3):=by
 have hl:=qyj xs D
 have h:=(unp_gen (t:=(beJ 4 4 (adV xs)).take 3) hD (fun x hx=>beJ_ok 4 4 _ x (List.mem_of_mem_take hx)) (by omega) h1).1 hm
 have e:(frm xs D).take ((frm xs D).length - 1)=[120,156] ++ bytes D ++ (beJ 4 4 (adV xs)).take 3:=by
  have el:([120,156] ++ bytes D:List Int).length=2+(D.length+7) / 8:=by rw [List.length_append,qjj]; rfl
  rw [hl]
  unfold frm
  rw [List.take_append,List.take_of_length_le (by omega),el,show 2+(D.length+7) / 8+4 - 1 - (2+(D.length+7) / 8)=3 by omega]
 rw [e]
 have e2:unpR ([120,156] ++ bytes D ++ (beJ 4 4 (adV xs)).take 3) (D.length,xs,0)=([],0,3):=by
  unfold unpR
  simp only
  rw [if_neg (fun e=>e rfl),if_pos]
  rw [List.length_append,List.length_append,qjj,List.length_take,beJ4_len]
  simp only [List.length_cons,List.length_nil]
  omega
 rwa [e2] at h
end Go.Proofs.YtejnemneenjliaaGreat
namespace Go.Proofs.YtejnemneenjliaaGreat
set_option linter.unusedVariables false
set_option linter.unusedSimpArgs false
section
variable {α:Type} {k:α→Int}
def mrg (k:α→Int):List α→List α→List α
 | [],ys=>ys
 | x :: xs,[]=>x :: xs
 | x :: xs,y :: ys=>if k y < k x then y :: mrg k (x :: xs) ys else x :: mrg k xs (y :: ys)
termination_by xs ys=>xs.length+ys.length
theorem qsh (ys:List α):mrg k [] ys=ys:=by unfold mrg; rfl
theorem qnh (xs:List α):mrg k xs []=xs:=by
 cases xs with
 | nil=>exact qsh _
 | cons x xs=>unfold mrg; rfl
theorem qdh (x y:α) (xs ys:List α):mrg k (x :: xs) (y :: ys)=if k y < k x then y :: mrg k (x :: xs) ys else x :: mrg k xs (y :: ys):=by
 conv=>lhs; unfold mrg
theorem qft:∀ (n:Nat) (xs ys:List α),xs.length+ys.length=n→(mrg k xs ys).length=n:=by
 intro n
 induction n with
 | zero =>
   intro xs ys h
   have h1:xs=[]:=List.length_eq_zero_iff.1 (by omega)
   have h2:ys=[]:=List.length_eq_zero_iff.1 (by omega)
   subst h1; subst h2
   rw [qsh]; rfl
 | succ n ih =>
   intro xs ys h
   cases xs with
   | nil=>rw [qsh]; simpa using h
   | cons x xs =>
     cases ys with
     | nil=>rw [qnh]; simpa using h
     | cons y ys =>
       simp only [List.length_cons] at h
       rw [qdh]
       split
       · rw [List.length_cons,ih _ _ (by simp only [List.length_cons]; omega)]
       · rw [List.length_cons,ih _ _ (by simp only [List.length_cons]; omega)]
def srt (k:α→Int) (l:List α):Prop:=l.Pairwise fun a b=>k a≤k b
theorem mrg_cut:∀ (n:Nat) (A1 A2 B1 B2:List α),A1.length+B1.length=n→(∀ a ∈ A2,∀ b ∈ B1,k b < k a)→(∀ a ∈ A1,∀ b ∈ B2,k a≤k b)→mrg k (A1 ++ A2) (B1 ++ B2)=mrg k A1 B1 ++ mrg k A2 B2:=by
 intro n
 induction n with
 | zero =>
   intro A1 A2 B1 B2 h _ _
   have h1:A1=[]:=List.length_eq_zero_iff.1 (by omega)
   have h2:B1=[]:=List.length_eq_zero_iff.1 (by omega)
   subst h1; subst h2
   rw [qsh]; rfl
 | succ n ih =>
   intro A1 A2 B1 B2 h hA hB
   cases A1 with
   | nil =>
     rw [qsh,List.nil_append]
     cases B1 with
     | nil=>rfl
     | cons b B1 =>
       cases A2 with
       | nil=>rw [qsh,qsh]
       | cons a A2 =>
         rw [List.cons_append,qdh,if_pos (hA a (by simp) b (by simp))]
         have:=ih [] (a :: A2) B1 B2 (by simp only [List.length_cons,List.length_nil] at h ⊢; omega) (fun a ha b hb=>hA a ha b (by simp [hb])) (by simp)
         rw [List.nil_append,qsh] at this
         rw [this]; rfl
   | cons a A1 =>
     cases B1 with
     | nil =>
       rw [qnh,List.nil_append]
       cases B2 with
       | nil=>rw [qnh,qnh]
       | cons b B2 =>
         have hab:=hB a (by simp) b (by simp)
         rw [List.cons_append,qdh,if_neg (by omega)]
         have:=ih A1 A2 [] (b :: B2) (by simp only [List.length_cons,List.length_nil] at h ⊢; omega) (by simp) (fun a ha b hb=>hB a (by simp [ha]) b hb)
         rw [List.nil_append,qnh] at this
         rw [this]; rfl
     | cons b B1 =>
       rw [List.cons_append,List.cons_append,qdh,qdh]
       simp only [List.length_cons] at h
       split
       · have:=ih (a :: A1) A2 B1 B2 (by simp only [List.length_cons]; omega) (fun a ha b hb=>hA a ha b (by simp [hb])) hB
         rw [List.cons_append] at this
         rw [this]; rfl
       · have:=ih A1 A2 (b :: B1) B2 (by simp only [List.length_cons]; omega) hA (fun a ha b hb=>hB a (by simp [ha]) b hb)
         rw [List.cons_append] at this
         rw [this]; rfl
theorem mrg_left (A B:List α) (h:∀ a ∈ A,∀ b ∈ B,k a≤k b):mrg k A B=A ++ B:=by
 have:=mrg_cut (k:=k) _ A [] [] B rfl (by simp) h
 rw [List.append_nil,List.nil_append,qnh,qsh] at this
 exact this
def insR (k:α→Int) (x:α):List α→List α
 | []=>[x]
 | y :: l=>if k x < k y then x :: y :: l else y :: insR k x l
def qrd (k:α→Int) (l:List α):List α:=l.foldl (fun a x=>insR k x a) []
theorem qni (l:List α) (x:α):qrd k (l ++ [x])=insR k x (qrd k l):=by simp [qrd]
theorem insR_perm (x:α) (l:List α):(insR k x l).Perm (x :: l):=by
 induction l with
 | nil=>exact List.Perm.refl _
 | cons y l ih =>
   rw [insR]
   split
   · exact List.Perm.refl _
   · exact (List.Perm.cons y ih).trans (List.Perm.swap x y l)
theorem insR_srt {x:α} {l:List α} (h:srt k l):srt k (insR k x l):=by
 induction l with
 | nil=>exact List.pairwise_singleton _ _
 | cons y l ih =>
   rw [insR]
   have h':=List.pairwise_cons.1 h
   split
   · rename_i hlt
     refine List.pairwise_cons.2 ⟨fun z hz=>?_,h⟩
     rcases List.mem_cons.1 hz with rfl | hz
     · omega
     · have:=h'.1 z hz; omega
   · rename_i hlt
     refine List.pairwise_cons.2 ⟨fun z hz=>?_,ih h'.2⟩
     have:=(insR_perm (k:=k) x l).mem_iff.1 hz
     rcases List.mem_cons.1 this with rfl | hz
     · omega
     · exact h'.1 z hz
theorem qgo {Q:List α→Prop} (h0:Q []) (h1:∀ l x,Q l→Q (l ++ [x])) (l:List α):Q l:=by
 have:∀ n (l:List α),l.length=n→Q l:=by
  intro n
  induction n with
  | zero=>intro l h; rw [List.length_eq_zero_iff.1 h]; exact h0
  | succ n ih =>
    intro l h
    have hne:l ≠ []:=by intro e; subst e; simp at h
    rw [← List.dropLast_concat_getLast hne]
    exact h1 _ _ (ih _ (by rw [List.length_dropLast]; omega))
 exact this _ l rfl
theorem qri (l:List α):srt k (qrd k l):=qgo (Q:=fun l=>srt k (qrd k l)) List.Pairwise.nil (fun l x h=>by rw [qni]; exact insR_srt h) l
theorem qoi (l:List α):(qrd k l).Perm l:=qgo (Q:=fun l=>(qrd k l).Perm l) (List.Perm.refl _) (fun l x h=>by
 rw [qni]
 exact (insR_perm x _).trans ((List.Perm.cons x h).trans (List.perm_append_comm (l₁:=[x]) (l₂:=l)))) l
theorem qhd (l:List α):(qrd k l).length=l.length:=(qoi l).length_eq
theorem insR_mrg (x:α):∀ (n:Nat) (A B:List α),A.length+B.length=n→srt k A→srt k B→insR k x (mrg k A B)=mrg k A (insR k x B):=by
 intro n
 induction n with
 | zero =>
   intro A B h _ _
   have h1:A=[]:=List.length_eq_zero_iff.1 (by omega)
   subst h1
   rw [qsh,qsh]
 | succ n ih =>
   intro A B h hA hB
   cases A with
   | nil=>rw [qsh,qsh]
   | cons a A =>
     have hA':=List.pairwise_cons.1 hA
     cases B with
     | nil =>
       rw [qnh]
       show (if k x < k a then x :: a :: A else a :: insR k x A)=mrg k (a :: A) [x]
       rw [qdh]
       split
       · rw [qnh]
       · have:=ih A [] (by simp only [List.length_cons,List.length_nil] at h ⊢; omega) hA'.2 List.Pairwise.nil
         rw [qnh] at this
         rw [this]; rfl
     | cons b B =>
       have hB':=List.pairwise_cons.1 hB
       simp only [List.length_cons] at h
       rw [qdh]
       by_cases h1:k b < k a
       · rw [if_pos h1]
         show (if k x < k b then x :: b :: mrg k (a :: A) B else b :: insR k x (mrg k (a :: A) B))=_
         show _=mrg k (a :: A) (if k x < k b then x :: b :: B else b :: insR k x B)
         by_cases h2:k x < k b
         · rw [if_pos h2,if_pos h2,qdh,if_pos (by omega),qdh,if_pos h1]
         · rw [if_neg h2,if_neg h2,qdh,if_pos h1,ih (a :: A) B (by simp only [List.length_cons]; omega) hA hB'.2]
       · rw [if_neg h1]
         show (if k x < k a then x :: a :: mrg k A (b :: B) else a :: insR k x (mrg k A (b :: B)))=_
         by_cases h2:k x < k a
         · rw [if_pos h2]
           have h3:k x < k b:=by omega
           show _=mrg k (a :: A) (if k x < k b then x :: b :: B else b :: insR k x B)
           rw [if_pos h3,qdh,if_pos h2,qdh,if_neg h1]
         · rw [if_neg h2,ih A (b :: B) (by simp only [List.length_cons]; omega) hA'.2 hB]
           show a :: mrg k A (if k x < k b then x :: b :: B else b :: insR k x B)=mrg k (a :: A) (if k x < k b then x :: b :: B else b :: insR k x B)
           by_cases h3:k x < k b
           · rw [if_pos h3,qdh,if_neg h2]
           · rw [if_neg h3,qdh,if_neg h1]
theorem qhm (A B:List α):qrd k (A ++ B)=mrg k (qrd k A) (qrd k B):=qgo (Q:=fun B=>qrd k (A ++ B)=mrg k (qrd k A) (qrd k B)) (by rw [List.append_nil]; exact (qnh _).symm) (fun B x h=>by
 rw [← List.append_assoc,qni,qni,h,insR_mrg x _ _ _ rfl (qri A) (qri B)]) B
def bsort (k:α→Int) (c:Nat):Nat→List α→List α
 | 0,l=>qrd k l
 | f+1,l=>if l.length≤c then qrd k l else qrd k (l.take c) ++ bsort k c f (l.drop c)
end
end Go.Proofs.YtejnemneenjliaaGreat
namespace Go.Proofs.YtejnemneenjliaaGreat
open Go Go.Proofs
set_option linter.unusedVariables false
set_option maxRecDepth 100000
def qui (a_0:(Array Value)) (b_1:(Array Value)) (Q:VWP) (w:World):Prop :=
 nw w a_0 409 fun a1 w2 =>
 nw w2 b_1 409 fun a3 w4 =>
 ldI .i64 w4 (Addr.add a1 0) fun x5 =>
 ldI .i64 w4 (Addr.add a3 0) fun x6 =>
 qxi 299 [.int .i64 x5,.int .i64 x6] w4 fun r9 w8 =>
 Q (.int .i64 r9) w8
theorem qui.ok (a_0:(Array Value)) (b_1:(Array Value)) (Q:VWP) (w:World) (h:qui a_0 b_1 Q w):Calls Tryz.prog 298 ⟨[.agg a_0,.agg b_1]⟩ w (Ret Q) :=
 qqc [.tmp 4] qbe Tryz.func298 rfl rfl rfl rfl .lf (by kernel_rfl) h
def qrj (x_0:Int) (Q:VWP) (w:World):Prop :=
 Q (.bool (x_0 != x_0)) w
theorem qrj.ok (x_0:Int) (Q:VWP) (w:World) (h:qrj x_0 Q w):Calls Tryz.prog 319 ⟨[.int .i64 x_0]⟩ w (Ret Q) :=
 qqc [.tmp 2] qbe Tryz.func319 rfl rfl rfl rfl .lf (by kernel_rfl) h
def qvi (x_0 y_1:Int) (Q:VWP) (w:World):Prop :=
 cr_B 319 [.int .i64 x_0] w fun r3 w2 =>
 cr_B 319 [.int .i64 y_1] w2 fun r6 w5 =>
 br r3 (
 br r6 (
 Q (.int .i64 0) w5) (
 Q (.int .i64 (-1)) w5)) (
 br r6 (
 Q (.int .i64 1) w5) (
 br (decide (x_0 < y_1)) (
 Q (.int .i64 (-1)) w5) (
 br (decide (x_0 > y_1)) (
 Q (.int .i64 1) w5) (
 Q (.int .i64 0) w5))))
theorem qvi.ok (x_0:Int) (y_1:Int) (Q:VWP) (w:World) (h:qvi x_0 y_1 Q w):Calls Tryz.prog 299 ⟨[.int .i64 x_0,.int .i64 y_1]⟩ w (Ret Q) :=
 qqc [.tmp 4] qbe Tryz.func299 rfl rfl rfl rfl .lf (by kernel_rfl) h
def qh.j3 (data_0:Sl) (a_1:Int) (b_2 i_8:Int) (Q:VWP) (nx1:Sl→Int→Int→Int→WP) (w:World):Prop :=
 lt (IntKind.i64.wrap (i_8+1)) fun x1 =>
 nx1 data_0 a_1 b_2 x1 w
def qh.b2 (data_0:Sl) (a_1:Int) (b_2 i_8 j_9:Int) (Q:VWP) (nx1:Sl→Int→Int→Int→WP) (nx2:Sl→Int→Int→Int→Int→WP) (w:World):Prop :=
 lt (World.drew w) fun w2 =>
 br (decide (j_9 > a_1)) (
 ixS data_0.a data_0.len j_9 2 fun a3 =>
 ldA w2 a3 2 fun c4 =>
 lt (IntKind.i64.wrap (j_9 - 1)) fun x5 =>
 ixS data_0.a data_0.len x5 2 fun a6 =>
 ldA w2 a6 2 fun c7 =>
 qxi 298 [.agg c4,.agg c7] w2 fun r10 w9 =>
 br (decide (r10 < 0)) (
 lt (World.drew w9) fun w11 =>
 lt (IntKind.i64.wrap (j_9 - 1)) fun x12 =>
 lt (IntKind.i64.wrap (j_9 - 1)) fun x13 =>
 ixS data_0.a data_0.len x13 2 fun a14 =>
 ldA w11 a14 2 fun c15 =>
 ixS data_0.a data_0.len j_9 2 fun a16 =>
 ldA w11 a16 2 fun c17 =>
 ixS data_0.a data_0.len j_9 2 fun a18 =>
 (c15).size=2 ∧
 stA w11 a18 c15 fun w19 =>
 ixS data_0.a data_0.len x12 2 fun a20 =>
 (c17).size=2 ∧
 stA w19 a20 c17 fun w21 =>
 lt (IntKind.i64.wrap (j_9 - 1)) fun x22 =>
 nx2 data_0 a_1 b_2 i_8 x22 w21) (
 qh.j3 data_0 a_1 b_2 i_8 Q nx1 w9)) (
 qh.j3 data_0 a_1 b_2 i_8 Q nx1 w2)
def qh.l2 (data_0:Sl) (a_1:Int) (b_2 i_8 j_9:Int) (Q:VWP) (nx1:Sl→Int→Int→Int→WP) (w:World):Prop :=
 ∃ (I:Int→WP) (μ:Int→World→Nat),I j_9 w∧∀ j_9:Int,∀ w:World,I j_9 w→qh.b2 data_0 a_1 b_2 i_8 j_9 Q nx1 (fun data_0' a_1' b_2' i_8' j_9' w'=>(data_0'=data_0∧a_1'=a_1∧b_2'=b_2∧i_8'=i_8)∧I j_9' w'∧μ j_9' w' < μ j_9 w) w
def qh.j4 (data_0:Sl) (a_1:Int) (b_2 i_8 j_9:Int) (Q:VWP) (nx1:Sl→Int→Int→Int→WP) (w:World):Prop :=
 qh.l2 data_0 a_1 b_2 i_8 j_9 Q nx1 w
def qh.j2 (data_0:Sl) (a_1:Int) (b_2 i_8:Int) (Q:VWP) (nx1:Sl→Int→Int→Int→WP) (w:World):Prop :=
 qh.j4 data_0 a_1 b_2 i_8 i_8 Q nx1 w
def qh.b1 (data_0:Sl) (a_1:Int) (b_2 i_8:Int) (Q:VWP) (nx1:Sl→Int→Int→Int→WP) (w:World):Prop :=
 br (decide (i_8 < b_2)) (
 qh.j2 data_0 a_1 b_2 i_8 Q nx1 w) (
 Q (.tuple ⟨[]⟩) w)
def qh.l1 (data_0:Sl) (a_1:Int) (b_2 i_8:Int) (Q:VWP) (w:World):Prop :=
 ∃ (I:Int→WP) (μ:Int→World→Nat),I i_8 w∧∀ i_8:Int,∀ w:World,I i_8 w→qh.b1 data_0 a_1 b_2 i_8 Q (fun data_0' a_1' b_2' i_8' w'=>(data_0'=data_0∧a_1'=a_1∧b_2'=b_2)∧I i_8' w'∧μ i_8' w' < μ i_8 w) w
def qh.j1 (data_0:Sl) (a_1:Int) (b_2 i_8:Int) (Q:VWP) (w:World):Prop :=
 qh.l1 data_0 a_1 b_2 i_8 Q w
def qh (data_0:Sl) (a_1:Int) (b_2:Int) (Q:VWP) (w:World):Prop :=
 lt (IntKind.i64.wrap (a_1+1)) fun x23 =>
 qh.j1 data_0 a_1 b_2 x23 Q w
theorem qh.ok (data_0:Sl) (a_1:Int) (b_2:Int) (Q:VWP) (w:World) (h:qh data_0 a_1 b_2 Q w):Calls Tryz.prog 336 ⟨[sV data_0,.int .i64 a_1,.int .i64 b_2,.func (.func 298) ⟨[]⟩ ⟨[]⟩]⟩ w (Ret Q) :=
 qqc [] qbe Tryz.func336 rfl rfl rfl rfl (.sq [sL 0,sI 1,sI 2,(3,.c0 298),sI 8] (fun a b c _ d w=>qh.j1 a b c d Q w) .lf (.bk (.lo [sL 0,sI 1,sI 2,(3,.c0 298)] [sI 8] (fun a b c _ d w=>qh.l1 a b c d Q w) (fun nx1 a b c _ d w=>qh.b1 a b c d Q (fun x0 x1 x2 x8 w=>nx1 x0 x1 x2 () x8 w) w) fun nx1=>(.sq [sL 0,sI 1,sI 2,(3,.c0 298),sI 8] (fun a b c _ d w=>qh.j2 a b c d Q (fun x0 x1 x2 x8 w=>nx1 x0 x1 x2 () x8 w) w) .lf (.sq [sL 0,sI 1,sI 2,(3,.c0 298),sI 8] (fun a b c _ d w=>qh.j3 a b c d Q (fun x0 x1 x2 x8 w=>nx1 x0 x1 x2 () x8 w) w) (.bk (.sq [sL 0,sI 1,sI 2,(3,.c0 298),sI 8,sI 9] (fun a b c _ d e w=>qh.j4 a b c d e Q (fun x0 x1 x2 x8 w=>nx1 x0 x1 x2 () x8 w) w) .lf (.bk (.lo [sL 0,sI 1,sI 2,(3,.c0 298),sI 8] [sI 9] (fun a b c _ d e w=>qh.l2 a b c d e Q (fun x0 x1 x2 x8 w=>nx1 x0 x1 x2 () x8 w) w) (fun nx2 a b c _ d e w=>qh.b2 a b c d e Q (fun x0 x1 x2 x8 w=>nx1 x0 x1 x2 () x8 w) (fun x0 x1 x2 x8 x9 w=>nx2 x0 x1 x2 () x8 x9 w) w) fun nx2=>.lf)))) .lf))))) (by kernel_rfl) h
def qeb.b1 (data_0:Sl) (a_1:Int) (b_2 n_3 i_10:Int) (Q:VWP) (nx1:Sl→Int→Int→Int→Int→WP) (w:World):Prop :=
 br (decide (i_10 < n_3)) (
 lt (World.drew w) fun w1 =>
 lt (IntKind.i64.wrap (a_1+i_10)) fun x2 =>
 lt (IntKind.i64.wrap (b_2+i_10)) fun x3 =>
 lt (IntKind.i64.wrap (b_2+i_10)) fun x4 =>
 ixS data_0.a data_0.len x4 2 fun a5 =>
 ldA w1 a5 2 fun c6 =>
 lt (IntKind.i64.wrap (a_1+i_10)) fun x7 =>
 ixS data_0.a data_0.len x7 2 fun a8 =>
 ldA w1 a8 2 fun c9 =>
 ixS data_0.a data_0.len x2 2 fun a10 =>
 (c6).size=2 ∧
 stA w1 a10 c6 fun w11 =>
 ixS data_0.a data_0.len x3 2 fun a12 =>
 (c9).size=2 ∧
 stA w11 a12 c9 fun w13 =>
 lt (IntKind.i64.wrap (i_10+1)) fun x14 =>
 nx1 data_0 a_1 b_2 n_3 x14 w13) (
 Q (.tuple ⟨[]⟩) w)
def qeb.l1 (data_0:Sl) (a_1:Int) (b_2 n_3 i_10:Int) (Q:VWP) (w:World):Prop :=
 ∃ (I:Int→WP) (μ:Int→World→Nat),I i_10 w∧∀ i_10:Int,∀ w:World,I i_10 w→qeb.b1 data_0 a_1 b_2 n_3 i_10 Q (fun data_0' a_1' b_2' n_3' i_10' w'=>(data_0'=data_0∧a_1'=a_1∧b_2'=b_2∧n_3'=n_3)∧I i_10' w'∧μ i_10' w' < μ i_10 w) w
def qeb.j1 (data_0:Sl) (a_1:Int) (b_2 n_3 i_10:Int) (Q:VWP) (w:World):Prop :=
 qeb.l1 data_0 a_1 b_2 n_3 i_10 Q w
def qeb (data_0:Sl) (a_1:Int) (b_2 n_3:Int) (Q:VWP) (w:World):Prop :=
 qeb.j1 data_0 a_1 b_2 n_3 0 Q w
theorem qeb.ok (data_0:Sl) (a_1:Int) (b_2:Int) (n_3:Int) (Q:VWP) (w:World) (h:qeb data_0 a_1 b_2 n_3 Q w):Calls Tryz.prog 344 ⟨[sV data_0,.int .i64 a_1,.int .i64 b_2,.int .i64 n_3,.func (.func 298) ⟨[]⟩ ⟨[]⟩]⟩ w (Ret Q) :=
 qqc [] qbe Tryz.func344 rfl rfl rfl rfl (.sq [sL 0,sI 1,sI 2,sI 3,sI 10] (fun a b c d e w=>qeb.j1 a b c d e Q w) .lf (.bk (.lo [sL 0,sI 1,sI 2,sI 3] [sI 10] (fun a b c d e w=>qeb.l1 a b c d e Q w) (fun nx1 a b c d e w=>qeb.b1 a b c d e Q nx1 w) fun nx1=>.lf))) (by kernel_rfl) h
def qx.j2 (data_0:Sl) (m_2:Int) (i_10:Int) (Q:VWP) (w:World):Prop :=
 lt (IntKind.i64.wrap (m_2 - i_10)) fun x1 =>
 ct_ 344 [sV data_0,.int .i64 x1,.int .i64 m_2,.int .i64 i_10,.func (.func 298) ⟨[]⟩ ⟨[]⟩] w fun w3 =>
 Q (.tuple ⟨[]⟩) w3
def qx.b1 (data_0:Sl) (m_2:Int) (i_10 j_11:Int) (Q:VWP) (nx1:Sl→Int→Int→Int→WP) (w:World):Prop :=
 br (i_10 != j_11) (
 br (decide (i_10 > j_11)) (
 lt (IntKind.i64.wrap (m_2 - i_10)) fun x4 =>
 ct_ 344 [sV data_0,.int .i64 x4,.int .i64 m_2,.int .i64 j_11,.func (.func 298) ⟨[]⟩ ⟨[]⟩] w fun w6 =>
 lt (IntKind.i64.wrap (i_10 - j_11)) fun x7 =>
 nx1 data_0 m_2 x7 j_11 w6) (
 lt (IntKind.i64.wrap (m_2 - i_10)) fun x8 =>
 lt (IntKind.i64.wrap (m_2+j_11)) fun x9 =>
 lt (IntKind.i64.wrap (x9 - i_10)) fun x10 =>
 ct_ 344 [sV data_0,.int .i64 x8,.int .i64 x10,.int .i64 i_10,.func (.func 298) ⟨[]⟩ ⟨[]⟩] w fun w12 =>
 lt (IntKind.i64.wrap (j_11 - i_10)) fun x13 =>
 nx1 data_0 m_2 i_10 x13 w12)) (
 qx.j2 data_0 m_2 i_10 Q w)
def qx.l1 (data_0:Sl) (m_2:Int) (i_10 j_11:Int) (Q:VWP) (w:World):Prop :=
 ∃ (I:Int→Int→WP) (μ:Int→Int→World→Nat),I i_10 j_11 w∧∀ i_10:Int,∀ j_11:Int,∀ w:World,I i_10 j_11 w→qx.b1 data_0 m_2 i_10 j_11 Q (fun data_0' m_2' i_10' j_11' w'=>(data_0'=data_0∧m_2'=m_2)∧I i_10' j_11' w'∧μ i_10' j_11' w' < μ i_10 j_11 w) w
def qx.j1 (data_0:Sl) (m_2:Int) (i_10 j_11:Int) (Q:VWP) (w:World):Prop :=
 qx.l1 data_0 m_2 i_10 j_11 Q w
def qx (data_0:Sl) (a_1:Int) (m_2 b_3:Int) (Q:VWP) (w:World):Prop :=
 lt (IntKind.i64.wrap (m_2 - a_1)) fun x14 =>
 lt (IntKind.i64.wrap (b_3 - m_2)) fun x15 =>
 qx.j1 data_0 m_2 x14 x15 Q w
theorem qx.ok (data_0:Sl) (a_1:Int) (m_2:Int) (b_3:Int) (Q:VWP) (w:World) (h:qx data_0 a_1 m_2 b_3 Q w):Calls Tryz.prog 341 ⟨[sV data_0,.int .i64 a_1,.int .i64 m_2,.int .i64 b_3,.func (.func 298) ⟨[]⟩ ⟨[]⟩]⟩ w (Ret Q) :=
 qqc [] qbe Tryz.func341 rfl rfl rfl rfl (.pr 1 [sL 0,sI 2,(4,.c0 298),sI 10,sI 11] (fun a b _ c d w=>qx.j1 a b c d Q w) (.sq [sL 0,sI 2,(4,.c0 298),sI 10] (fun a b _ c w=>qx.j2 a b c Q w) (.bk (.lo [sL 0,sI 2,(4,.c0 298)] [sI 10,sI 11] (fun a b _ c d w=>qx.l1 a b c d Q w) (fun nx1 a b _ c d w=>qx.b1 a b c d Q (fun x0 x2 x10 x11 w=>nx1 x0 x2 () x10 x11 w) w) fun nx1=>.lf)) .lf)) (by kernel_rfl) h
def qa.j8 (d_0:Sl) (t3:Int) (t18 t24:Int) (Q:VWP) (w:World):Prop :=
 br (decide (t18 < t24)) (
 br (decide (t24 < t3)) (
 ct_ 337 [sV d_0,.int .i64 t18,.int .i64 t24,.int .i64 t3,.func (.func 298) ⟨[]⟩ ⟨[]⟩] w fun w2 =>
 Q (.tuple ⟨[]⟩) w2) (
 Q (.tuple ⟨[]⟩) w)) (
 Q (.tuple ⟨[]⟩) w)
def qa.j7 (d_0:Sl) (i_1:Int) (t3 t18 t20 t24:Int) (Q:VWP) (w:World):Prop :=
 br (decide (i_1 < t20)) (
 br (decide (t20 < t18)) (
 ct_ 337 [sV d_0,.int .i64 i_1,.int .i64 t20,.int .i64 t18,.func (.func 298) ⟨[]⟩ ⟨[]⟩] w fun w4 =>
 qa.j8 d_0 t3 t18 t24 Q w4) (
 qa.j8 d_0 t3 t18 t24 Q w)) (
 qa.j8 d_0 t3 t18 t24 Q w)
def qa.j6 (d_0:Sl) (i_1:Int) (t2 t3 t18 t19 t20:Int) (Q:VWP) (w:World):Prop :=
 lt (IntKind.i64.wrap (t19 - t20)) fun x5 =>
 br (decide (t20 < t2)) (
 br (decide (t2 < x5)) (
 ct_ 341 [sV d_0,.int .i64 t20,.int .i64 t2,.int .i64 x5,.func (.func 298) ⟨[]⟩ ⟨[]⟩] w fun w7 =>
 qa.j7 d_0 i_1 t3 t18 t20 x5 Q w7) (
 qa.j7 d_0 i_1 t3 t18 t20 x5 Q w)) (
 qa.j7 d_0 i_1 t3 t18 t20 x5 Q w)
def qa.b1 (d_0:Sl) (i_1:Int) (t2 t3 t18 t19 t22 t20 t21:Int) (Q:VWP) (nx1:Sl→Int→Int→Int→Int→Int→Int→Int→Int→WP) (w:World):Prop :=
 br (decide (t20 < t21)) (
 lt (IntKind.i64.wrap (t20+t21)) fun x8 =>
 lt (IntKind.u64.wrap x8) fun x9 =>
 (0:Int)≤1 ∧
 lt (qbj .u64 x9 1) fun x10 =>
 lt (IntKind.i64.wrap x10) fun x11 =>
 lt (World.drew w) fun w12 =>
 lt (IntKind.i64.wrap (t22 - x11)) fun x13 =>
 ixS d_0.a d_0.len x13 2 fun a14 =>
 ldA w12 a14 2 fun c15 =>
 ixS d_0.a d_0.len x11 2 fun a16 =>
 ldA w12 a16 2 fun c17 =>
 qxi 298 [.agg c15,.agg c17] w12 fun r20 w19 =>
 br (!(decide (r20 < 0))) (
 lt (IntKind.i64.wrap (x11+1)) fun x21 =>
 nx1 d_0 i_1 t2 t3 t18 t19 t22 x21 t21 w19) (
 nx1 d_0 i_1 t2 t3 t18 t19 t22 t20 x11 w19)) (
 qa.j6 d_0 i_1 t2 t3 t18 t19 t20 Q w)
def qa.l1 (d_0:Sl) (i_1:Int) (t2 t3 t18 t19 t22 t20 t21:Int) (Q:VWP) (w:World):Prop :=
 ∃ (I:Int→Int→WP) (μ:Int→Int→World→Nat),I t20 t21 w∧∀ t20:Int,∀ t21:Int,∀ w:World,I t20 t21 w→qa.b1 d_0 i_1 t2 t3 t18 t19 t22 t20 t21 Q (fun d_0' i_1' t2' t3' t18' t19' t22' t20' t21' w'=>(d_0'=d_0∧i_1'=i_1∧t2'=t2∧t3'=t3∧t18'=t18∧t19'=t19∧t22'=t22)∧I t20' t21' w'∧μ t20' t21' w' < μ t20 t21 w) w
def qa.j5 (d_0:Sl) (i_1:Int) (t2 t3 t18 t19 t20 t21 t22:Int) (Q:VWP) (w:World):Prop :=
 qa.l1 d_0 i_1 t2 t3 t18 t19 t22 t20 t21 Q w
def qa.j4 (d_0:Sl) (i_1:Int) (t2 t3 t18 t19 t20 t21:Int) (Q:VWP) (w:World):Prop :=
 lt (IntKind.i64.wrap (t19 - 1)) fun x22 =>
 qa.j5 d_0 i_1 t2 t3 t18 t19 t20 t21 x22 Q w
def qa.j3 (d_0:Sl) (i_1:Int) (t2 t3 t18 t19:Int) (Q:VWP) (w:World):Prop :=
 br (decide (t2 > t18)) (
 lt (IntKind.i64.wrap (t19 - t3)) fun x23 =>
 qa.j4 d_0 i_1 t2 t3 t18 t19 x23 t18 Q w) (
 qa.j4 d_0 i_1 t2 t3 t18 t19 i_1 t2 Q w)
def qa.j2 (d_0:Sl) (i_1:Int) (t2 t3:Int) (Q:VWP) (w:World):Prop :=
 lt (IntKind.i64.wrap (i_1+t3)) fun x24 =>
 lt (IntKind.u64.wrap x24) fun x25 =>
 (0:Int)≤1 ∧
 lt (qbj .u64 x25 1) fun x26 =>
 lt (IntKind.i64.wrap x26) fun x27 =>
 lt (IntKind.i64.wrap (x27+t2)) fun x28 =>
 qa.j3 d_0 i_1 t2 t3 x27 x28 Q w
def qa.j12  (Q:VWP) (w:World):Prop :=
 Q (.tuple ⟨[]⟩) w
def qa.b2 (d_0:Sl) (t14:Int) (t17:Int) (Q:VWP) (nx2:Sl→Int→Int→WP) (w:World):Prop :=
 br (decide (t17 > t14)) (
 lt (World.drew w) fun w29 =>
 lt (IntKind.i64.wrap (t17 - 1)) fun x30 =>
 lt (IntKind.i64.wrap (t17 - 1)) fun x31 =>
 ixS d_0.a d_0.len x31 2 fun a32 =>
 ldA w29 a32 2 fun c33 =>
 ixS d_0.a d_0.len t17 2 fun a34 =>
 ldA w29 a34 2 fun c35 =>
 ixS d_0.a d_0.len t17 2 fun a36 =>
 (c33).size=2 ∧
 stA w29 a36 c33 fun w37 =>
 ixS d_0.a d_0.len x30 2 fun a38 =>
 (c35).size=2 ∧
 stA w37 a38 c35 fun w39 =>
 lt (IntKind.i64.wrap (t17 - 1)) fun x40 =>
 nx2 d_0 t14 x40 w39) (
 qa.j12 Q w)
def qa.l2 (d_0:Sl) (t14:Int) (t17:Int) (Q:VWP) (w:World):Prop :=
 ∃ (I:Int→WP) (μ:Int→World→Nat),I t17 w∧∀ t17:Int,∀ w:World,I t17 w→qa.b2 d_0 t14 t17 Q (fun d_0' t14' t17' w'=>(d_0'=d_0∧t14'=t14)∧I t17' w'∧μ t17' w' < μ t17 w) w
def qa.j13 (d_0:Sl) (t14:Int) (t17:Int) (Q:VWP) (w:World):Prop :=
 qa.l2 d_0 t14 t17 Q w
def qa.j11 (d_0:Sl) (t2:Int) (t14:Int) (Q:VWP) (w:World):Prop :=
 qa.j13 d_0 t14 t2 Q w
def qa.b3 (d_0:Sl) (t2:Int) (t14 t15:Int) (Q:VWP) (nx3:Sl→Int→Int→Int→WP) (w:World):Prop :=
 br (decide (t14 < t15)) (
 lt (IntKind.i64.wrap (t14+t15)) fun x41 =>
 lt (IntKind.u64.wrap x41) fun x42 =>
 (0:Int)≤1 ∧
 lt (qbj .u64 x42 1) fun x43 =>
 lt (IntKind.i64.wrap x43) fun x44 =>
 lt (World.drew w) fun w45 =>
 ixS d_0.a d_0.len t2 2 fun a46 =>
 ldA w45 a46 2 fun c47 =>
 ixS d_0.a d_0.len x44 2 fun a48 =>
 ldA w45 a48 2 fun c49 =>
 qxi 298 [.agg c47,.agg c49] w45 fun r52 w51 =>
 br (!(decide (r52 < 0))) (
 lt (IntKind.i64.wrap (x44+1)) fun x53 =>
 nx3 d_0 t2 x53 t15 w51) (
 nx3 d_0 t2 t14 x44 w51)) (
 qa.j11 d_0 t2 t14 Q w)
def qa.l3 (d_0:Sl) (t2:Int) (t14 t15:Int) (Q:VWP) (w:World):Prop :=
 ∃ (I:Int→Int→WP) (μ:Int→Int→World→Nat),I t14 t15 w∧∀ t14:Int,∀ t15:Int,∀ w:World,I t14 t15 w→qa.b3 d_0 t2 t14 t15 Q (fun d_0' t2' t14' t15' w'=>(d_0'=d_0∧t2'=t2)∧I t14' t15' w'∧μ t14' t15' w' < μ t14 t15 w) w
def qa.j10 (d_0:Sl) (t2:Int) (t14 t15:Int) (Q:VWP) (w:World):Prop :=
 qa.l3 d_0 t2 t14 t15 Q w
def qa.j9 (d_0:Sl) (i_1:Int) (t2 t3:Int) (t80:Bool) (Q:VWP) (w:World):Prop :=
 br t80 (
 qa.j10 d_0 t2 i_1 t2 Q w) (
 qa.j2 d_0 i_1 t2 t3 Q w)
def qa.j1 (d_0:Sl) (i_1:Int) (t2 t3:Int) (Q:VWP) (w:World):Prop :=
 lt (IntKind.i64.wrap (t3 - t2)) fun x54 =>
 qa.j9 d_0 i_1 t2 t3 (x54 == 1) Q w
def qa.j17  (Q:VWP) (w:World):Prop :=
 Q (.tuple ⟨[]⟩) w
def qa.b4 (d_0:Sl) (t10:Int) (t13:Int) (Q:VWP) (nx4:Sl→Int→Int→WP) (w:World):Prop :=
 lt (IntKind.i64.wrap (t10 - 1)) fun x55 =>
 br (decide (t13 < x55)) (
 lt (World.drew w) fun w56 =>
 lt (IntKind.i64.wrap (t13+1)) fun x57 =>
 lt (IntKind.i64.wrap (t13+1)) fun x58 =>
 ixS d_0.a d_0.len x58 2 fun a59 =>
 ldA w56 a59 2 fun c60 =>
 ixS d_0.a d_0.len t13 2 fun a61 =>
 ldA w56 a61 2 fun c62 =>
 ixS d_0.a d_0.len t13 2 fun a63 =>
 (c60).size=2 ∧
 stA w56 a63 c60 fun w64 =>
 ixS d_0.a d_0.len x57 2 fun a65 =>
 (c62).size=2 ∧
 stA w64 a65 c62 fun w66 =>
 lt (IntKind.i64.wrap (t13+1)) fun x67 =>
 nx4 d_0 t10 x67 w66) (
 qa.j17 Q w)
def qa.l4 (d_0:Sl) (t10:Int) (t13:Int) (Q:VWP) (w:World):Prop :=
 ∃ (I:Int→WP) (μ:Int→World→Nat),I t13 w∧∀ t13:Int,∀ w:World,I t13 w→qa.b4 d_0 t10 t13 Q (fun d_0' t10' t13' w'=>(d_0'=d_0∧t10'=t10)∧I t13' w'∧μ t13' w' < μ t13 w) w
def qa.j18 (d_0:Sl) (t10:Int) (t13:Int) (Q:VWP) (w:World):Prop :=
 qa.l4 d_0 t10 t13 Q w
def qa.j16 (d_0:Sl) (i_1:Int) (t10:Int) (Q:VWP) (w:World):Prop :=
 qa.j18 d_0 t10 i_1 Q w
def qa.b5 (d_0:Sl) (i_1:Int) (t10 t11:Int) (Q:VWP) (nx5:Sl→Int→Int→Int→WP) (w:World):Prop :=
 br (decide (t10 < t11)) (
 lt (IntKind.i64.wrap (t10+t11)) fun x68 =>
 lt (IntKind.u64.wrap x68) fun x69 =>
 (0:Int)≤1 ∧
 lt (qbj .u64 x69 1) fun x70 =>
 lt (IntKind.i64.wrap x70) fun x71 =>
 lt (World.drew w) fun w72 =>
 ixS d_0.a d_0.len x71 2 fun a73 =>
 ldA w72 a73 2 fun c74 =>
 ixS d_0.a d_0.len i_1 2 fun a75 =>
 ldA w72 a75 2 fun c76 =>
 qxi 298 [.agg c74,.agg c76] w72 fun r79 w78 =>
 br (decide (r79 < 0)) (
 lt (IntKind.i64.wrap (x71+1)) fun x80 =>
 nx5 d_0 i_1 x80 t11 w78) (
 nx5 d_0 i_1 t10 x71 w78)) (
 qa.j16 d_0 i_1 t10 Q w)
def qa.l5 (d_0:Sl) (i_1:Int) (t10 t11:Int) (Q:VWP) (w:World):Prop :=
 ∃ (I:Int→Int→WP) (μ:Int→Int→World→Nat),I t10 t11 w∧∀ t10:Int,∀ t11:Int,∀ w:World,I t10 t11 w→qa.b5 d_0 i_1 t10 t11 Q (fun d_0' i_1' t10' t11' w'=>(d_0'=d_0∧i_1'=i_1)∧I t10' t11' w'∧μ t10' t11' w' < μ t10 t11 w) w
def qa.j15 (d_0:Sl) (i_1:Int) (t10 t11:Int) (Q:VWP) (w:World):Prop :=
 qa.l5 d_0 i_1 t10 t11 Q w
def qa.j14 (d_0:Sl) (i_1:Int) (t2 t3:Int) (t28:Bool) (Q:VWP) (w:World):Prop :=
 br t28 (
 qa.j15 d_0 i_1 t2 t3 Q w) (
 qa.j1 d_0 i_1 t2 t3 Q w)
def qa (d_0:Sl) (i_1:Int) (t2 t3:Int) (Q:VWP) (w:World):Prop :=
 lt (IntKind.i64.wrap (t2 - i_1)) fun x81 =>
 qa.j14 d_0 i_1 t2 t3 (x81 == 1) Q w
theorem qa.ok (d_0:Sl) (i_1:Int) (t2:Int) (t3:Int) (Q:VWP) (w:World) (h:qa d_0 i_1 t2 t3 Q w):Calls Tryz.prog 337 ⟨[sV d_0,.int .i64 i_1,.int .i64 t2,.int .i64 t3,.func (.func 298) ⟨[]⟩ ⟨[]⟩]⟩ w (Ret Q) :=
 qqc [] qbe Tryz.func337 rfl rfl rfl rfl (.sq [sL 0,sI 1,sI 2,sI 3,(4,.c0 298)] (fun a b c d _ w=>qa.j1 a b c d Q w) (.sq [sL 0,sI 1,sI 2,sI 3,(4,.c0 298),sB 28] (fun a b c d _ e w=>qa.j14 a b c d e Q w) .lf (.cd (.pr 1 [sL 0,sI 1,(4,.c0 298),sI 10,sI 11] (fun a b _ c d w=>qa.j15 a b c d Q w) (.sq [sL 0,sI 1,sI 10] (fun a b c w=>qa.j16 a b c Q w) (.bk (.lo [sL 0,sI 1,(4,.c0 298)] [sI 10,sI 11] (fun a b _ c d w=>qa.l5 a b c d Q w) (fun nx5 a b _ c d w=>qa.b5 a b c d Q (fun x0 x1 x10 x11 w=>nx5 x0 x1 () x10 x11 w) w) fun nx5=>.lf)) (.sq [] (fun  w=>qa.j17 Q w) (.sq [sL 0,sI 10,sI 13] (fun a b c w=>qa.j18 a b c Q w) .lf (.bk (.lo [sL 0,sI 10] [sI 13] (fun a b c w=>qa.l4 a b c Q w) (fun nx4 a b c w=>qa.b4 a b c Q nx4 w) fun nx4=>.lf))) .lf))) .lf)) (.sq [sL 0,sI 1,sI 2,sI 3,(4,.c0 298)] (fun a b c d _ w=>qa.j2 a b c d Q w) (.sq [sL 0,sI 1,sI 2,sI 3,(4,.c0 298),sB 80] (fun a b c d _ e w=>qa.j9 a b c d e Q w) .lf (.cd (.pr 1 [sL 0,sI 2,(4,.c0 298),sI 14,sI 15] (fun a b _ c d w=>qa.j10 a b c d Q w) (.sq [sL 0,sI 2,sI 14] (fun a b c w=>qa.j11 a b c Q w) (.bk (.lo [sL 0,sI 2,(4,.c0 298)] [sI 14,sI 15] (fun a b _ c d w=>qa.l3 a b c d Q w) (fun nx3 a b _ c d w=>qa.b3 a b c d Q (fun x0 x2 x14 x15 w=>nx3 x0 x2 () x14 x15 w) w) fun nx3=>.lf)) (.sq [] (fun  w=>qa.j12 Q w) (.sq [sL 0,sI 14,sI 17] (fun a b c w=>qa.j13 a b c Q w) .lf (.bk (.lo [sL 0,sI 14] [sI 17] (fun a b c w=>qa.l2 a b c Q w) (fun nx2 a b c w=>qa.b2 a b c Q nx2 w) fun nx2=>.lf))) .lf))) .lf)) (.pr 1 [sL 0,sI 1,sI 2,sI 3,(4,.c0 298),sI 18,sI 19] (fun a b c d _ e f w=>qa.j3 a b c d e f Q w) (.pr 1 [sL 0,sI 1,sI 2,sI 3,(4,.c0 298),sI 18,sI 19,sI 20,sI 21] (fun a b c d _ e f g h w=>qa.j4 a b c d e f g h Q w) (.sq [sL 0,sI 1,sI 2,sI 3,(4,.c0 298),sI 18,sI 19,sI 20,sI 21,sI 22] (fun a b c d _ e f g h i w=>qa.j5 a b c d e f g h i Q w) .lf (.sq [sL 0,sI 1,sI 2,sI 3,(4,.c0 298),sI 18,sI 19,sI 20] (fun a b c d _ e f g w=>qa.j6 a b c d e f g Q w) (.bk (.lo [sL 0,sI 1,sI 2,sI 3,(4,.c0 298),sI 18,sI 19,sI 22] [sI 20,sI 21] (fun a b c d _ e f g h i w=>qa.l1 a b c d e f g h i Q w) (fun nx1 a b c d _ e f g h i w=>qa.b1 a b c d e f g h i Q (fun x0 x1 x2 x3 x18 x19 x22 x20 x21 w=>nx1 x0 x1 x2 x3 () x18 x19 x22 x20 x21 w) w) fun nx1=>.lf)) (.pr 1 [sL 0,sI 1,sI 3,(4,.c0 298),sI 18,sI 20,sI 24] (fun a b c _ d e f w=>qa.j7 a b c d e f Q w) (.sq [sL 0,sI 3,(4,.c0 298),sI 18,sI 24] (fun a b _ c d w=>qa.j8 a b c d Q w) .lf .lf)))))))) (by kernel_rfl) h
def qe.j6 (data_0:Sl) (n_1:Int) (blockSize_6 a_7:Int) (Q:VWP) (nx1:Sl→Int→Int→WP) (w:World):Prop :=
 lt (IntKind.i64.wrap (a_7+blockSize_6)) fun x1 =>
 br (decide (x1 < n_1)) (
 ct_ 337 [sV data_0,.int .i64 a_7,.int .i64 x1,.int .i64 n_1,.func (.func 298) ⟨[]⟩ ⟨[]⟩] w fun w3 =>
 lt (IntKind.i64.wrap (blockSize_6 * 2)) fun x4 =>
 nx1 data_0 n_1 x4 w3) (
 lt (IntKind.i64.wrap (blockSize_6 * 2)) fun x5 =>
 nx1 data_0 n_1 x5 w)
def qe.b2 (data_0:Sl) (n_1:Int) (blockSize_6 a_7 b_8:Int) (Q:VWP) (nx1:Sl→Int→Int→WP) (nx2:Sl→Int→Int→Int→Int→WP) (w:World):Prop :=
 br (decide (b_8≤n_1)) (
 lt (IntKind.i64.wrap (a_7+blockSize_6)) fun x6 =>
 ct_ 337 [sV data_0,.int .i64 a_7,.int .i64 x6,.int .i64 b_8,.func (.func 298) ⟨[]⟩ ⟨[]⟩] w fun w8 =>
 lt (IntKind.i64.wrap (2 * blockSize_6)) fun x9 =>
 lt (IntKind.i64.wrap (b_8+x9)) fun x10 =>
 nx2 data_0 n_1 blockSize_6 b_8 x10 w8) (
 qe.j6 data_0 n_1 blockSize_6 a_7 Q nx1 w)
def qe.l2 (data_0:Sl) (n_1:Int) (blockSize_6 a_7 b_8:Int) (Q:VWP) (nx1:Sl→Int→Int→WP) (w:World):Prop :=
 ∃ (I:Int→Int→WP) (μ:Int→Int→World→Nat),I a_7 b_8 w∧∀ a_7:Int,∀ b_8:Int,∀ w:World,I a_7 b_8 w→qe.b2 data_0 n_1 blockSize_6 a_7 b_8 Q nx1 (fun data_0' n_1' blockSize_6' a_7' b_8' w'=>(data_0'=data_0∧n_1'=n_1∧blockSize_6'=blockSize_6)∧I a_7' b_8' w'∧μ a_7' b_8' w' < μ a_7 b_8 w) w
def qe.j5 (data_0:Sl) (n_1:Int) (blockSize_6 a_7 b_8:Int) (Q:VWP) (nx1:Sl→Int→Int→WP) (w:World):Prop :=
 qe.l2 data_0 n_1 blockSize_6 a_7 b_8 Q nx1 w
def qe.j4 (data_0:Sl) (n_1:Int) (blockSize_6:Int) (Q:VWP) (nx1:Sl→Int→Int→WP) (w:World):Prop :=
 lt (IntKind.i64.wrap (2 * blockSize_6)) fun x11 =>
 qe.j5 data_0 n_1 blockSize_6 0 x11 Q nx1 w
def qe.b1 (data_0:Sl) (n_1:Int) (blockSize_6:Int) (Q:VWP) (nx1:Sl→Int→Int→WP) (w:World):Prop :=
 br (decide (blockSize_6 < n_1)) (
 qe.j4 data_0 n_1 blockSize_6 Q nx1 w) (
 Q (.tuple ⟨[]⟩) w)
def qe.l1 (data_0:Sl) (n_1:Int) (blockSize_6:Int) (Q:VWP) (w:World):Prop :=
 ∃ (I:Int→WP) (μ:Int→World→Nat),I blockSize_6 w∧∀ blockSize_6:Int,∀ w:World,I blockSize_6 w→qe.b1 data_0 n_1 blockSize_6 Q (fun data_0' n_1' blockSize_6' w'=>(data_0'=data_0∧n_1'=n_1)∧I blockSize_6' w'∧μ blockSize_6' w' < μ blockSize_6 w) w
def qe.j3 (data_0:Sl) (n_1:Int) (blockSize_6:Int) (Q:VWP) (w:World):Prop :=
 qe.l1 data_0 n_1 blockSize_6 Q w
def qe.j2 (data_0:Sl) (n_1:Int) (blockSize_6 a_7:Int) (Q:VWP) (w:World):Prop :=
 ct_ 336 [sV data_0,.int .i64 a_7,.int .i64 n_1,.func (.func 298) ⟨[]⟩ ⟨[]⟩] w fun w13 =>
 qe.j3 data_0 n_1 blockSize_6 Q w13
def qe.b3 (data_0:Sl) (n_1:Int) (blockSize_6 a_7 b_8:Int) (Q:VWP) (nx3:Sl→Int→Int→Int→Int→WP) (w:World):Prop :=
 br (decide (b_8≤n_1)) (
 ct_ 336 [sV data_0,.int .i64 a_7,.int .i64 b_8,.func (.func 298) ⟨[]⟩ ⟨[]⟩] w fun w15 =>
 lt (IntKind.i64.wrap (b_8+blockSize_6)) fun x16 =>
 nx3 data_0 n_1 blockSize_6 b_8 x16 w15) (
 qe.j2 data_0 n_1 blockSize_6 a_7 Q w)
def qe.l3 (data_0:Sl) (n_1:Int) (blockSize_6 a_7 b_8:Int) (Q:VWP) (w:World):Prop :=
 ∃ (I:Int→Int→WP) (μ:Int→Int→World→Nat),I a_7 b_8 w∧∀ a_7:Int,∀ b_8:Int,∀ w:World,I a_7 b_8 w→qe.b3 data_0 n_1 blockSize_6 a_7 b_8 Q (fun data_0' n_1' blockSize_6' a_7' b_8' w'=>(data_0'=data_0∧n_1'=n_1∧blockSize_6'=blockSize_6)∧I a_7' b_8' w'∧μ a_7' b_8' w' < μ a_7 b_8 w) w
def qe.j1 (data_0:Sl) (n_1:Int) (blockSize_6 a_7 b_8:Int) (Q:VWP) (w:World):Prop :=
 qe.l3 data_0 n_1 blockSize_6 a_7 b_8 Q w
def qe (data_0:Sl) (n_1:Int) (Q:VWP) (w:World):Prop :=
 qe.j1 data_0 n_1 20 0 20 Q w
theorem qe.ok (data_0:Sl) (n_1:Int) (Q:VWP) (w:World) (h:qe data_0 n_1 Q w):Calls Tryz.prog 318 ⟨[sV data_0,.int .i64 n_1,.func (.func 298) ⟨[]⟩ ⟨[]⟩]⟩ w (Ret Q) :=
 qqc [] qbe Tryz.func318 rfl rfl rfl rfl (.pr 1 [sL 0,sI 1,(2,.c0 298),sI 6,sI 7,sI 8] (fun a b _ c d e w=>qe.j1 a b c d e Q w) (.sq [sL 0,sI 1,(2,.c0 298),sI 6,sI 7] (fun a b _ c d w=>qe.j2 a b c d Q w) (.bk (.lo [sL 0,sI 1,(2,.c0 298),sI 6] [sI 7,sI 8] (fun a b _ c d e w=>qe.l3 a b c d e Q w) (fun nx3 a b _ c d e w=>qe.b3 a b c d e Q (fun x0 x1 x6 x7 x8 w=>nx3 x0 x1 () x6 x7 x8 w) w) fun nx3=>.lf)) (.sq [sL 0,sI 1,(2,.c0 298),sI 6] (fun a b _ c w=>qe.j3 a b c Q w) .lf (.bk (.lo [sL 0,sI 1,(2,.c0 298)] [sI 6] (fun a b _ c w=>qe.l1 a b c Q w) (fun nx1 a b _ c w=>qe.b1 a b c Q (fun x0 x1 x6 w=>nx1 x0 x1 () x6 w) w) fun nx1=>(.sq [sL 0,sI 1,(2,.c0 298),sI 6] (fun a b _ c w=>qe.j4 a b c Q (fun x0 x1 x6 w=>nx1 x0 x1 () x6 w) w) .lf (.bk (.sq [sL 0,sI 1,(2,.c0 298),sI 6,sI 7,sI 8] (fun a b _ c d e w=>qe.j5 a b c d e Q (fun x0 x1 x6 w=>nx1 x0 x1 () x6 w) w) .lf (.sq [sL 0,sI 1,(2,.c0 298),sI 6,sI 7] (fun a b _ c d w=>qe.j6 a b c d Q (fun x0 x1 x6 w=>nx1 x0 x1 () x6 w) w) (.bk (.lo [sL 0,sI 1,(2,.c0 298),sI 6] [sI 7,sI 8] (fun a b _ c d e w=>qe.l2 a b c d e Q (fun x0 x1 x6 w=>nx1 x0 x1 () x6 w) w) (fun nx2 a b _ c d e w=>qe.b2 a b c d e Q (fun x0 x1 x6 w=>nx1 x0 x1 () x6 w) (fun x0 x1 x6 x7 x8 w=>nx2 x0 x1 () x6 x7 x8 w) w) fun nx2=>.lf)) .lf))))))))) (by kernel_rfl) h
def qzd (x_0:Sl) (Q:VWP) (w:World):Prop :=
 ct_ 318 [sV x_0,.int .i64 (x_0.len:Int),.func (.func 298) ⟨[]⟩ ⟨[]⟩] w fun w2 =>
 Q (.tuple ⟨[]⟩) w2
theorem qzd.ok (x_0:Sl) (Q:VWP) (w:World) (h:qzd x_0 Q w):Calls Tryz.prog 297 ⟨[sV x_0,.func (.func 298) ⟨[]⟩ ⟨[]⟩]⟩ w (Ret Q) :=
 qqc [] qbe Tryz.func297 rfl rfl rfl rfl .lf (by kernel_rfl) h
end Go.Proofs.YtejnemneenjliaaGreat
namespace Go.Proofs.YtejnemneenjliaaGreat
open Go Go.Proofs
set_option linter.unusedVariables false
set_option linter.unusedSimpArgs false
attribute [local irreducible] apK cpK mkK br
abbrev Pk:=Int × Sl
def pkC (x:Pk):List Value:=[.int .i64 x.1,.slice x.2.a x.2.len x.2.cap]
def pks (L:List Pk):List Value:=L.flatMap pkC
theorem qcq (x:Pk) (L:List Pk):pks (x :: L)=pkC x ++ pks L:=rfl
theorem qfp (A B:List Pk):pks (A ++ B)=pks A ++ pks B:=by simp [pks]
theorem qih (L:List Pk):(pks L).length=L.length * 2:=by
 induction L with
 | nil=>rfl
 | cons x L ih=>rw [qcq,List.length_append,ih,List.length_cons]; simp [pkC]; omega
theorem pkC_storable (x:Pk):∀ v ∈ (⟨pkC x⟩:Array Value),storable v:=by
 intro v hv
 have hv:v ∈ pkC x:=by simpa using hv
 simp [pkC] at hv
 rcases hv with rfl | rfl <;> trivial
section
variable {F0:List Nat} {w0 w:World} {ps rest:List As} {D A B:List Pk} {x y:Pk} {s:Sl}
theorem St.lpk {i:Int} {K:Array Value→Prop} (h:St F0 w0 w ps) [Rdb F0 w0 s ps 2 (pks D)] (A:List Pk) (x:Pk) (B:List Pk) (hD:D=A ++ x :: B) (hi:i=A.length) (hk:K ⟨pkC x⟩):ixS s.a s.len i 2 fun a=>ldA w a 2 K:=by
 have hr:=h.rdb s
 have hl:=hr.1
 rw [qih,hD,List.length_append,List.length_cons] at hl
 subst hi
 refine hr.ix (by decide) (by omega) (by omega) fun a ha=>?_
 refine ⟨⟨pkC x⟩,rfl,fun j hj=>?_,hk⟩
 rw [qzm,hr.cell ha (by rw [qih,hD,List.length_append,List.length_cons]; omega),hD,qfp,qcq,List.getElem?_append_right (by rw [qih]; omega),qih,List.getElem?_append_left (by simp [pkC]; omega)]
 rw [show ((A.length:Nat):Int).toNat * 2+j - A.length * 2=j by omega]
 simp
theorem St.spk {i:Int} {K:World→Prop} (h:St F0 w0 w (qcc 2 s (pks D) :: ps)) (A:List Pk) (x:Pk) (B:List Pk) (y:Pk) (hD:D=A ++ x :: B) (hi:i=A.length) (hk:∀ w',St F0 w0 w' (qcc 2 s (pks (A ++ y :: B)) :: ps)→K w') :
 ixS s.a s.len i 2 fun a=>(⟨pkC y⟩:Array Value).size=2∧Go.Proofs.YtejnemneenjliaaGreat.stA w a ⟨pkC y⟩ K:=by
 subst hi
 subst hD
 have hl:=h.len
 rw [qih,List.length_append,List.length_cons] at hl
 obtain ⟨f,ho,hst⟩:=h.step
 rcases ho with ⟨rfl,hnil,_⟩ | ⟨ob,rs,h1,hb,h2,h3,rfl⟩
 · simp only at hl; omega
 · unfold ixS
   rw [h1]
   refine ⟨⟨by omega,by omega⟩,rfl,?_⟩
   rw [qvf,Nat.zero_add,Int.toNat_natCast]
   have e:pks (A ++ x :: B) ++ rs=pks A ++ (pkC x ++ (pks B ++ rs)):=by rw [qfp,qcq]; simp
   rw [e] at hb
   refine qdr hb ?_ (pkC_storable y) fun w' hm hb'=>hk w' (hst w' [ob] _ hm (Gr.refl _ _) (Or.inr ⟨ob,rs,h1,?_,?_,?_,rfl⟩))
   · simp only [List.length_append,qih,pkC,List.length_cons,List.length_nil]
     show A.length * 2+2≤_
     omega
   · rw [show A.length * 2=(pks A).length from (qih A).symm,List.take_left' rfl,← List.drop_drop,List.drop_left' rfl] at hb'
     rw [show (⟨pkC y⟩:Array Value).size=(pkC x).length from rfl,List.drop_left' rfl] at hb'
     rw [qfp,qcq]
     simpa using hb'
   · rw [qih]; simp only [List.length_append,List.length_cons]; omega
   · rw [← h3]; simp only [List.length_append,qih,List.length_cons]
theorem cmp_isNaN.c {n:Int} {K:Ending→World→Prop} (hk:K (.returned (.bool false)) w):Calls Tryz.prog 319 ⟨[.int .i64 n]⟩ w K:=by
 refine qfc (qrj.ok _ _ _ ?_)
 unfold qrj
 rw [show (n != n)=false by simp]
 exact hk
theorem qfn.c {K:Ending→World→Prop} (h:St F0 w0 w ps) (hk:∀ (r:Int) w',(r < 0 ↔ x.1 < y.1)→St F0 w0 w' ps→K (.returned (.int .i64 r)) w'):Calls Tryz.prog 298 ⟨[.agg ⟨pkC x⟩,.agg ⟨pkC y⟩]⟩ w K:=by
 refine qfc (qui.ok _ _ _ _ ?_)
 unfold qui
 refine h.new fun na w h=>?_
 refine h.new fun nb w h=>?_
 have h:St F0 w0 w (qzc nb (pkC y) :: qzc na (pkC x) :: ps):=h
 refine (h.blk1).ldI (o:=0) rfl ?_
 refine (h.blk).ldI (o:=0) rfl ?_
 refine qfc (qvi.ok _ _ _ _ ?_)
 unfold qvi
 refine cmp_isNaN.c ⟨_,rfl,?_⟩
 refine cmp_isNaN.c ⟨_,rfl,?_⟩
 refine qsj (qsj ?_)
 refine qnc (fun g=>?_) (fun g=>?_)
 · exact ⟨_,rfl,hk _ w (by omega) h.drop.drop⟩
 · refine qnc (fun g2=>?_) (fun g2=>?_)
   · exact ⟨_,rfl,hk _ w (by omega) h.drop.drop⟩
   · exact ⟨_,rfl,hk _ w (by omega) h.drop.drop⟩
theorem swapRange.c {P X M Y S:List Pk} {n:Nat} {K:Ending→World→Prop} (h:St F0 w0 w (qcc 2 s (pks (P ++ X ++ M ++ Y ++ S)) :: ps)) (hX:X.length=n) (hY:Y.length=n) (hlen:(P ++ X ++ M ++ Y ++ S).length≤1000000)
 (hk:∀ w',St F0 w0 w' (qcc 2 s (pks (P ++ Y ++ M ++ X ++ S)) :: ps)→K (.returned (.tuple ⟨[]⟩)) w') :
 Calls Tryz.prog 344 ⟨[.slice s.a s.len s.cap,.int .i64 (P.length:Int),.int .i64 ((P.length+X.length+M.length:Nat):Int),.int .i64 (n:Int),.func (.func 298) ⟨[]⟩ ⟨[]⟩]⟩ w K:=by
 refine qfc (qeb.ok _ _ _ _ _ _ ?_)
 unfold qeb qeb.j1
 simp only [List.length_append] at hlen
 refine qmg (fun (i:Nat) (i':Int) w'=>i'=i∧i≤n∧St F0 w0 w' (qcc 2 s (pks (P ++ (Y.take i ++ X.drop i) ++ M ++ (X.take i ++ Y.drop i) ++ S)) :: ps)) (fun i=>n - i) 0 ⟨rfl,by omega,by simpa using h⟩ ?_
 clear h
 rintro i i' wL I μ ⟨rfl,hi,h⟩ hin
 unfold qeb.b1
 refine qnc (fun g=>?_) (fun g=>?_)
 · have hiX:i < X.length:=by omega
   have hiY:i < Y.length:=by omega
   have eX:X.drop i=X[i] :: X.drop (i+1):=List.drop_eq_getElem_cons hiX
   have eY:Y.drop i=Y[i] :: Y.drop (i+1):=List.drop_eq_getElem_cons hiY
   have l1:(Y.take i).length=i:=by rw [List.length_take]; omega
   have l2:(X.take i).length=i:=by rw [List.length_take]; omega
   have l3:(X.drop (i+1)).length=X.length - (i+1):=List.length_drop
   refine h.drewK fun w h=>?_
   refine qn (qd (by omega) (by omega)) (qn (qd (by omega) (by omega)) (qn (qd (by omega) (by omega)) ?_))
   refine h.lpk (s:=s) (P ++ (Y.take i ++ X.drop i) ++ M ++ X.take i) Y[i] (Y.drop (i+1) ++ S) (by rw [eY]; simp only [List.append_assoc,List.cons_append]) (by simp only [List.length_append,l1,l2,List.length_drop]; omega) ?_
   refine qn (qd (by omega) (by omega)) ?_
   refine h.lpk (s:=s) (P ++ Y.take i) X[i] (X.drop (i+1) ++ M ++ (X.take i ++ Y.drop i) ++ S) (by rw [eX]; simp only [List.append_assoc,List.cons_append]) (by simp only [List.length_append,l1]; omega) ?_
   refine h.spk (P ++ Y.take i) X[i] (X.drop (i+1) ++ M ++ (X.take i ++ Y.drop i) ++ S) Y[i] (by rw [eX]; simp only [List.append_assoc,List.cons_append]) (by simp only [List.length_append,l1]; omega) fun w h=>?_
   refine h.spk (P ++ Y.take i ++ Y[i] :: (X.drop (i+1) ++ M ++ X.take i)) Y[i] (Y.drop (i+1) ++ S) X[i] (by rw [eY]; simp only [List.append_assoc,List.cons_append]) (by simp only [List.length_append,List.length_cons,l1,l2,l3]; omega) fun w h=>?_
   refine qn (qd (by omega) (by omega)) ?_
   refine ⟨⟨rfl,rfl,rfl,rfl⟩,hin (i+1) _ _ ⟨by omega,by omega,?_⟩ (by omega)⟩
   rw [List.take_succ_eq_append_getElem hiY,List.take_succ_eq_append_getElem hiX]
   simp only [List.append_assoc,List.cons_append,List.nil_append] at h ⊢
   exact h
 · have:i=n:=by omega
   subst this
   rw [List.take_of_length_le (by omega),List.drop_of_length_le (by omega),List.take_of_length_le (by omega),List.drop_of_length_le (by omega),List.append_nil,List.append_nil] at h
   exact hk wL h
end
end Go.Proofs.YtejnemneenjliaaGreat
namespace Go.Proofs.YtejnemneenjliaaGreat
open Go Go.Proofs
set_option linter.unusedVariables false
set_option linter.unusedSimpArgs false
attribute [local irreducible] apK cpK mkK br
def wt (x:Pk):Int:=x.1
theorem insR_at {α:Type} {k:α→Int} {x:α}:∀ {T1 T2:List α},(∀ y ∈ T1,¬ k x < k y)→(∀ y ∈ T2,k x < k y)→insR k x (T1 ++ T2)=T1 ++ x :: T2:=by
 intro T1
 induction T1 with
 | nil =>
   intro T2 _ h2
   cases T2 with
   | nil=>rfl
   | cons y T2 =>
     show insR k x (y :: T2)=_
     rw [insR,if_pos (h2 y (by simp))]; rfl
 | cons y T1 ih =>
   intro T2 h1 h2
   rw [List.cons_append,insR,if_neg (h1 y (by simp)),ih (fun z hz=>h1 z (by simp [hz])) h2]; rfl
section
variable {F0:List Nat} {w0 w:World} {ps rest:List As} {s:Sl}
theorem rotate.c {P A B S:List Pk} {K:Ending→World→Prop} (h:St F0 w0 w (qcc 2 s (pks (P ++ A ++ B ++ S)) :: ps)) (hA:0 < A.length) (hB:0 < B.length) (hlen:(P ++ A ++ B ++ S).length≤1000000)
 (hk:∀ w',St F0 w0 w' (qcc 2 s (pks (P ++ B ++ A ++ S)) :: ps)→K (.returned (.tuple ⟨[]⟩)) w') :
 Calls Tryz.prog 341 ⟨[.slice s.a s.len s.cap,.int .i64 (P.length:Int),.int .i64 ((P.length+A.length:Nat):Int),.int .i64 ((P.length+A.length+B.length:Nat):Int),.func (.func 298) ⟨[]⟩ ⟨[]⟩]⟩ w K:=by
 simp only [List.length_append] at hlen
 refine qfc (qx.ok _ _ _ _ _ _ ?_)
 unfold qx qx.j1
 refine qn (show IntKind.i64.wrap (((P.length+A.length:Nat):Int) - (P.length:Int))=(A.length:Int) by rw [qd (by omega) (by omega)]; omega) ?_
 refine qn (show IntKind.i64.wrap (((P.length+A.length+B.length:Nat):Int) - ((P.length+A.length:Nat):Int))=(B.length:Int) by rw [qd (by omega) (by omega)]; omega) ?_
 generalize hT:P ++ B ++ A ++ S=T at hk
 generalize hM:P.length+A.length=M
 refine qkg (fun (a:List Pk × List Pk × List Pk × List Pk) (i j:Int) w'=>i=(a.2.1.length:Int)∧j=(a.2.2.1.length:Int)∧a.1.length+a.2.1.length=M∧0 < a.2.1.length∧0 < a.2.2.1.length∧a.1.length+a.2.1.length+a.2.2.1.length+a.2.2.2.length≤1000000 ∧
  a.1 ++ a.2.2.1 ++ a.2.1 ++ a.2.2.2=T∧St F0 w0 w' (qcc 2 s (pks (a.1 ++ a.2.1 ++ a.2.2.1 ++ a.2.2.2)) :: ps)) (fun a=>a.2.1.length+a.2.2.1.length) (P,A,B,S) ⟨rfl,rfl,hM,hA,hB,by simp only; omega,hT,h⟩ ?_
 clear h hA hB hT hM hlen
 rintro ⟨P,A,B,S⟩ i j wL I μ ⟨rfl,rfl,hM,hA,hB,hlen,hT,h⟩ hin
 simp only at hM hA hB hlen hT h hin ⊢
 unfold qx.b1
 refine qne (fun g=>?_) (fun g=>?_)
 · have g:¬ (A.length:Int)=(B.length:Int):=by simpa using g
   refine qnc (fun g2=>?_) (fun g2=>?_)
   · refine qn (show IntKind.i64.wrap ((M:Int) - (A.length:Int))=(P.length:Int) by rw [qd (by omega) (by omega)]; omega) ?_
     have l1:(A.take B.length).length=B.length:=by rw [List.length_take]; omega
     have l2:(A.drop B.length).length=A.length - B.length:=List.length_drop
     have h':St F0 w0 wL (qcc 2 s (pks (P ++ A.take B.length ++ A.drop B.length ++ B ++ S)) :: ps):=by rw [List.append_assoc P,List.take_append_drop]; exact h
     have hc:=swapRange.c (n:=B.length) (K:=fun e w'=>e=.returned (.tuple ⟨[]⟩)∧lt (IntKind.i64.wrap ((A.length:Int) - (B.length:Int))) fun x7=>((s=s∧(M:Int)=(M:Int))∧I x7 (B.length:Int) w'∧μ x7 (B.length:Int) w' < μ (A.length:Int) (B.length:Int) wL)) h' l1 rfl (by simp only [List.length_append,l1,l2]; omega) fun w h=>⟨rfl,?_⟩
     · rw [l1,l2,show P.length+B.length+(A.length - B.length)=M by omega] at hc
       exact hc
     · refine qn (show IntKind.i64.wrap ((A.length:Int) - (B.length:Int))=((A.drop B.length).length:Int) by rw [qd (by omega) (by omega),l2]; omega) ?_
       refine ⟨⟨rfl,rfl⟩,hin (P ++ B,A.drop B.length,A.take B.length,S) _ _ _ ⟨rfl,by rw [l1],by simp only [List.length_append]; omega,by simp only; omega,by simp only; omega,by simp only [List.length_append]; omega,?_,h⟩ (by simp only; omega)⟩
       simp only
       rw [← hT,List.append_assoc (P ++ B) (A.take _),List.take_append_drop]
   · refine qn (show IntKind.i64.wrap ((M:Int) - (A.length:Int))=(P.length:Int) by rw [qd (by omega) (by omega)]; omega) ?_
     refine qn (qd (by omega) (by omega)) ?_
     refine qn (show IntKind.i64.wrap ((M:Int)+(B.length:Int) - (A.length:Int))=((P.length+A.length+(B.length - A.length):Nat):Int) by rw [qd (by omega) (by omega)]; omega) ?_
     have l1:(B.take (B.length - A.length)).length=B.length - A.length:=by rw [List.length_take]; omega
     have l2:(B.drop (B.length - A.length)).length=A.length:=by rw [List.length_drop]; omega
     have h':St F0 w0 wL (qcc 2 s (pks (P ++ A ++ B.take (B.length - A.length) ++ B.drop (B.length - A.length) ++ S)) :: ps):=by rw [List.append_assoc (P ++ A),List.take_append_drop]; exact h
     have hc:=swapRange.c (n:=A.length) (K:=fun e w'=>e=.returned (.tuple ⟨[]⟩)∧lt (IntKind.i64.wrap ((B.length:Int) - (A.length:Int))) fun x7=>((s=s∧(M:Int)=(M:Int))∧I (A.length:Int) x7 w'∧μ (A.length:Int) x7 w' < μ (A.length:Int) (B.length:Int) wL)) h' rfl l2 (by simp only [List.length_append,l1,l2]; omega) fun w h=>⟨rfl,?_⟩
     · rw [l1] at hc
       exact hc
     · refine qn (show IntKind.i64.wrap ((B.length:Int) - (A.length:Int))=((B.take (B.length - A.length)).length:Int) by rw [qd (by omega) (by omega),l1]; omega) ?_
       refine ⟨⟨rfl,rfl⟩,hin (P,B.drop (B.length - A.length),B.take (B.length - A.length),A ++ S) _ _ _ ⟨by rw [l2],rfl,by simp only; omega,by simp only; omega,by simp only; omega,by simp only [List.length_append]; omega,?_,by simpa using h⟩ (by simp only; omega)⟩
       simp only
       rw [← hT,List.append_assoc P (B.take _),List.take_append_drop]
       simp only [List.append_assoc]
 · have g:(A.length:Int)=(B.length:Int):=by simpa using g
   unfold qx.j2
   refine qn (show IntKind.i64.wrap ((M:Int) - (A.length:Int))=(P.length:Int) by rw [qd (by omega) (by omega)]; omega) ?_
   have h':St F0 w0 wL (qcc 2 s (pks (P ++ A ++ [] ++ B ++ S)) :: ps):=by rw [List.append_nil]; exact h
   have hc:=swapRange.c (n:=A.length) (K:=fun e w'=>e=.returned (.tuple ⟨[]⟩)∧K (.returned (.tuple ⟨[]⟩)) w') h' rfl (by omega) (by simp only [List.length_append,List.length_nil]; omega) fun w h=>⟨rfl,hk w (by rw [← hT]; simpa using h)⟩
   rw [List.length_nil,Nat.add_zero,hM] at hc
   exact hc
theorem insertion.c {P X S:List Pk} {K:Ending→World→Prop} (h:St F0 w0 w (qcc 2 s (pks (P ++ X ++ S)) :: ps)) (hlen:(P ++ X ++ S).length≤1000000)
 (hk:∀ w',St F0 w0 w' (qcc 2 s (pks (P ++ qrd wt X ++ S)) :: ps)→K (.returned (.tuple ⟨[]⟩)) w') :
 Calls Tryz.prog 336 ⟨[.slice s.a s.len s.cap,.int .i64 (P.length:Int),.int .i64 ((P.length+X.length:Nat):Int),.func (.func 298) ⟨[]⟩ ⟨[]⟩]⟩ w K:=by
 simp only [List.length_append] at hlen
 refine qfc (qh.ok _ _ _ _ _ ?_)
 unfold qh qh.j1
 refine qn (show IntKind.i64.wrap ((P.length:Int)+1)=((P.length+1:Nat):Int) by rw [qd (by omega) (by omega)]; omega) ?_
 have e1:qrd wt (X.take 1) ++ X.drop 1=X:=by
  cases X with
  | nil=>rfl
  | cons x X=>rfl
 refine qmg (fun (c:Nat) (i':Int) w'=>i'=((P.length+c:Nat):Int)∧1≤c∧c≤X.length+1∧St F0 w0 w' (qcc 2 s (pks (P ++ (qrd wt (X.take c) ++ X.drop c) ++ S)) :: ps)) (fun c=>X.length+1 - c) 1 ⟨rfl,by omega,by omega,by rw [e1]; exact h⟩ ?_
 clear h e1
 rintro c i' wL I μ ⟨rfl,hc1,hc2,h⟩ hin
 unfold qh.b1
 refine qnc (fun g=>?_) (fun g=>?_)
 · have hcX:c < X.length:=by omega
   have eX:X.drop c=X[c] :: X.drop (c+1):=List.drop_eq_getElem_cons hcX
   have lS:(qrd wt (X.take c)).length=c:=by rw [qhd,List.length_take]; omega
   have hS:=qri (k:=wt) (X.take c)
   have hnx:qrd wt (X.take (c+1))=insR wt X[c] (qrd wt (X.take c)):=by rw [List.take_succ_eq_append_getElem hcX,qni]
   rw [eX] at h
   generalize X[c]=x at h hnx
   generalize qrd wt (X.take c)=T at h hnx lS hS
   unfold qh.j2 qh.j4
   have h0:St F0 w0 wL (qcc 2 s (pks (P ++ T ++ x :: ([] ++ (X.drop (c+1) ++ S)))) :: ps):=by
    simp only [List.append_assoc,List.cons_append,List.nil_append] at h ⊢
    exact h
   have done:∀ (T1 T2:List Pk) (w:World),T1 ++ T2=T→(∀ y ∈ T1,¬ wt x < wt y)→(∀ y ∈ T2,wt x < wt y)→St F0 w0 w (qcc 2 s (pks (P ++ T1 ++ x :: (T2 ++ (X.drop (c+1) ++ S)))) :: ps) →
    qh.j3 s (P.length:Int) ((P.length+X.length:Nat):Int) ((P.length+c:Nat):Int) (fun v w'=>K (.returned v) w') (fun d' a' b' i' w'=>(d'=s∧a'=(P.length:Int)∧b'=((P.length+X.length:Nat):Int))∧I i' w'∧μ i' w' < μ ((P.length+c:Nat):Int) wL) w:=by
    intro T1 T2 w hT h1 h2 h
    unfold qh.j3
    refine qn (show IntKind.i64.wrap (((P.length+c:Nat):Int)+1)=((P.length+(c+1):Nat):Int) by rw [qd (by omega) (by omega)]; omega) ?_
    refine ⟨⟨rfl,rfl,rfl⟩,hin (c+1) _ _ ⟨rfl,by omega,by omega,?_⟩ (by omega)⟩
    rw [hnx,← hT,insR_at h1 h2]
    simp only [List.append_assoc,List.cons_append] at h ⊢
    exact h
   refine qmg (fun (a:List Pk × List Pk) (j':Int) w'=>j'=((P.length+a.1.length:Nat):Int)∧a.1 ++ a.2=T∧(∀ y ∈ a.2,wt x < wt y)∧St F0 w0 w' (qcc 2 s (pks (P ++ a.1 ++ x :: (a.2 ++ (X.drop (c+1) ++ S)))) :: ps)) (fun a=>a.1.length) (T,[]) ⟨by rw [lS],List.append_nil _,by simp,h0⟩ ?_
   clear h h0
   rintro ⟨T1,T2⟩ j' w2 I2 μ2 ⟨rfl,hT,h2,h⟩ hin2
   simp only at hT h2 h hin2 ⊢
   have lT:T1.length+T2.length=c:=by rw [← lS,← hT,List.length_append]
   unfold qh.b2
   refine h.drewK fun w h=>?_
   refine qnc (fun g1=>?_) (fun g1=>?_)
   · have hne:T1 ≠ []:=by intro e; subst e; simp at g1
     obtain ⟨T0,y,rfl⟩:∃ T0 y,T1=T0 ++ [y]:=⟨T1.dropLast,T1.getLast hne,(List.dropLast_concat_getLast hne).symm⟩
     rw [List.length_append,List.length_singleton] at lT
     have eD:P ++ (T0 ++ [y]) ++ x :: (T2 ++ (X.drop (c+1) ++ S))=(P ++ T0) ++ y :: x :: (T2 ++ (X.drop (c+1) ++ S)):=by simp only [List.append_assoc,List.cons_append,List.nil_append]
     have ejy:IntKind.i64.wrap (((P.length+(T0 ++ [y]).length:Nat):Int) - 1)=((P ++ T0).length:Int):=by rw [List.length_append,List.length_append,List.length_singleton,qd (by omega) (by omega)]; omega
     have ejx:((P.length+(T0 ++ [y]).length:Nat):Int)=((P ++ (T0 ++ [y])).length:Int):=by rw [@List.length_append _ P]
     refine h.lpk (s:=s) (P ++ (T0 ++ [y])) x (T2 ++ (X.drop (c+1) ++ S)) rfl ejx ?_
     refine qn ejy ?_
     refine h.lpk (s:=s) (P ++ T0) y (x :: (T2 ++ (X.drop (c+1) ++ S))) eD rfl ?_
     refine qfn.c (x:=x) (y:=y) h fun r w hr h=>⟨_,rfl,?_⟩
     refine qnc (fun g2=>?_) (fun g2=>?_)
     · refine h.drewK fun w h=>?_
       refine qn ejy (qn ejy ?_)
       refine h.lpk (s:=s) (P ++ T0) y (x :: (T2 ++ (X.drop (c+1) ++ S))) eD rfl ?_
       refine h.lpk (s:=s) (P ++ (T0 ++ [y])) x (T2 ++ (X.drop (c+1) ++ S)) rfl ejx ?_
       refine h.spk (P ++ (T0 ++ [y])) x (T2 ++ (X.drop (c+1) ++ S)) y rfl ejx fun w h=>?_
       refine h.spk (P ++ T0) y (y :: (T2 ++ (X.drop (c+1) ++ S))) x (by simp only [List.append_assoc,List.cons_append,List.nil_append]) rfl fun w h=>?_
       refine qn (ejy.trans (show ((P ++ T0).length:Int)=((P.length+T0.length:Nat):Int) by rw [List.length_append])) ?_
       refine ⟨⟨rfl,rfl,rfl,rfl⟩,hin2 (T0,y :: T2) _ _ ⟨rfl,by rw [← hT]; simp,?_,?_⟩ (by simp)⟩
       · intro z hz
         rcases List.mem_cons.1 hz with rfl | hz
         · exact hr.1 g2
         · exact h2 z hz
       · simp only [List.append_assoc,List.cons_append] at h ⊢
         exact h
     · refine done (T0 ++ [y]) T2 w hT ?_ h2 h
       intro z hz
       have hxy:¬ wt x < wt y:=fun e=>g2 (hr.2 e)
       rw [← hT] at hS
       have hS:=(List.pairwise_append.1 (List.pairwise_append.1 hS).1).2.2
       rcases List.mem_append.1 hz with hz | hz
       · have:=hS z hz y (by simp)
         omega
       · rw [List.mem_singleton.1 hz]; exact hxy
   · have hne:T1=[]:=by
      cases T1 with
      | nil=>rfl
      | cons y T1=>exfalso; simp only [List.length_cons] at g1; omega
     subst hne
     exact done [] T2 w hT (by simp) h2 h
 · refine hk wL ?_
   rw [List.take_of_length_le (by omega),List.drop_of_length_le (by omega),List.append_nil] at h
   exact h
end
end Go.Proofs.YtejnemneenjliaaGreat
namespace Go.Proofs.YtejnemneenjliaaGreat
open Go Go.Proofs
set_option linter.unusedVariables false
set_option linter.unusedSimpArgs false
attribute [local irreducible] apK cpK mkK br
theorem srt_take {α:Type} {k:α→Int} {l:List α} (h:srt k l) (n:Nat):srt k (l.take n):=List.Pairwise.sublist (List.take_sublist n l) h
theorem srt_drop {α:Type} {k:α→Int} {l:List α} (h:srt k l) (n:Nat):srt k (l.drop n):=List.Pairwise.sublist (List.drop_sublist n l) h
theorem qsp {α:Type} {k:α→Int} {l:List α} (h:srt k l) {i j:Nat} (hij:i≤j) (hj:j < l.length):k (l[i]'(by omega))≤k l[j]:=by
 rcases Nat.eq_or_lt_of_le hij with e | e
 · subst e; exact Int.le_refl _
 · exact List.pairwise_iff_getElem.1 h i j (by omega) hj e
theorem qsl {α:Type} {l:List α} {n:Nat} {x:α} (h:x ∈ l.take n):∃ i,∃ (hi:i < l.length),i < n∧l[i]=x:=by
 obtain ⟨i,hi,e⟩:=List.mem_iff_getElem.1 h
 rw [List.length_take] at hi
 exact ⟨i,by omega,by omega,by rw [← e,List.getElem_take]⟩
theorem qtl {α:Type} {l:List α} {n:Nat} {x:α} (h:x ∈ l.drop n):∃ i,∃ (hi:i < l.length),n≤i∧l[i]=x:=by
 obtain ⟨i,hi,e⟩:=List.mem_iff_getElem.1 h
 rw [List.length_drop] at hi
 exact ⟨n+i,by omega,by omega,by rw [← e,List.getElem_drop]⟩
theorem half_i {lo hi:Nat} {K:Int→Prop} (h:lo+hi < 4611686018427387904) (hk:K (((lo+hi) / 2:Nat):Int)) :
 lt (IntKind.i64.wrap ((lo:Int)+(hi:Int))) fun x8=>lt (IntKind.u64.wrap x8) fun x9=>(0:Int)≤1∧lt (qbj .u64 x9 1) fun x10=>lt (IntKind.i64.wrap x10) fun x11=>K x11:=by
 refine qn (qd (by omega) (by omega)) ?_
 have e1:IntKind.u64.wrap ((lo:Int)+hi)=(lo:Int)+hi:=by
  have e:∀ x,IntKind.u64.wrap x=x % 18446744073709551616:=fun x=>by simp [IntKind.wrap,IntKind.bits,IntKind.signed]
  rw [e]; omega
 refine qn e1 ⟨by decide,?_⟩
 have e2:qbj .u64 ((lo:Int)+hi) 1=(((lo+hi) / 2:Nat):Int):=by
  unfold qbj
  have:((lo:Int)+(hi:Int))=((lo+hi:Nat):Int):=by omega
  rw [this]
  show Int.fdiv ((lo+hi:Nat):Int) 2=_
  rw [Int.fdiv_eq_ediv_of_nonneg _ (by decide)]
  omega
 refine qn e2 ?_
 exact qn (qd (by omega) (by omega)) hk
section
variable {F0:List Nat} {w0 w:World} {ps rest:List As} {s:Sl}
theorem ix_split {D:List Pk} {i:Nat} (h:i < D.length):D=D.take i ++ D[i] :: D.drop (i+1):=by
 rw [← List.drop_eq_getElem_cons h,List.take_append_drop]
theorem St.lpi {D:List Pk} {i:Int} {K:Array Value→Prop} (h:St F0 w0 w ps) [Rdb F0 w0 s ps 2 (pks D)] (j:Nat) (hi:i=j) (hj:j < D.length) (hk:K ⟨pkC D[j]⟩):ixS s.a s.len i 2 fun a=>ldA w a 2 K :=
 h.lpk (D.take j) D[j] (D.drop (j+1)) (ix_split hj) (by rw [List.length_take]; omega) hk
theorem getA {P A B S:List Pk} {i:Nat} (h:i < A.length) (h2:P.length+i < (P ++ A ++ B ++ S).length):(P ++ A ++ B ++ S)[P.length+i]=A[i]:=by
 simp only [List.append_assoc]
 rw [List.getElem_append_right (by omega)]
 simp [List.getElem_append_left,h]
theorem getB {P A B S:List Pk} {i:Nat} (h:i < B.length) (h2:P.length+A.length+i < (P ++ A ++ B ++ S).length):(P ++ A ++ B ++ S)[P.length+A.length+i]=B[i]:=by
 have e:P ++ A ++ B ++ S=(P ++ A) ++ B ++ [] ++ S:=by simp
 have h3:(P ++ A).length+i < ((P ++ A) ++ B ++ [] ++ S).length:=by simp only [List.length_append] at h2 ⊢; simp; omega
 have:=getA (P:=P ++ A) (A:=B) (B:=[]) (S:=S) h h3
 rw [← this]
 congr 1
 simp
theorem up.c {P B1 R:List Pk} {x:Pk} {K:Ending→World→Prop} (h:St F0 w0 w (qcc 2 s (pks (P ++ x :: (B1 ++ R))) :: ps)) (hlen:(P ++ x :: (B1 ++ R)).length≤1000000)
 (hk:∀ w',St F0 w0 w' (qcc 2 s (pks (P ++ B1 ++ x :: R)) :: ps)→K (.returned (.tuple ⟨[]⟩)) w') :
 qa.j16 s (P.length:Int) ((P.length+1+B1.length:Nat):Int) (fun v w'=>K (.returned v) w') w:=by
 simp only [List.length_append,List.length_cons] at hlen
 unfold qa.j16 qa.j18
 refine qmg (fun (c:Nat) (k':Int) w'=>k'=((P.length+c:Nat):Int)∧c≤B1.length∧St F0 w0 w' (qcc 2 s (pks (P ++ B1.take c ++ x :: (B1.drop c ++ R))) :: ps)) (fun c=>B1.length - c) 0 ⟨by simp,by omega,by simpa using h⟩ ?_
 clear h
 rintro c k' wL I μ ⟨rfl,hc,h⟩ hin
 unfold qa.b4
 refine qn (qd (by omega) (by omega)) ?_
 refine qnc (fun g=>?_) (fun g=>?_)
 · have hcB:c < B1.length:=by omega
   have eB:B1.drop c=B1[c] :: B1.drop (c+1):=List.drop_eq_getElem_cons hcB
   have lT:(B1.take c).length=c:=by rw [List.length_take]; omega
   rw [eB] at h
   refine h.drewK fun w h=>?_
   have e1:IntKind.i64.wrap (((P.length+c:Nat):Int)+1)=((P ++ B1.take c ++ [x]).length:Int):=by simp only [List.length_append,List.length_singleton,lT]; rw [qd (by omega) (by omega)]; omega
   have e2:((P.length+c:Nat):Int)=((P ++ B1.take c).length:Int):=by rw [@List.length_append _ P,lT]
   refine qn e1 (qn e1 ?_)
   refine h.lpk (s:=s) (P ++ B1.take c ++ [x]) B1[c] (B1.drop (c+1) ++ R) (by simp only [List.append_assoc,List.cons_append,List.nil_append]) rfl ?_
   refine h.lpk (s:=s) (P ++ B1.take c) x (B1[c] :: B1.drop (c+1) ++ R) rfl e2 ?_
   refine h.spk (P ++ B1.take c) x (B1[c] :: B1.drop (c+1) ++ R) B1[c] rfl e2 fun w h=>?_
   refine h.spk (P ++ B1.take c ++ [B1[c]]) B1[c] (B1.drop (c+1) ++ R) x (by simp only [List.append_assoc,List.cons_append,List.nil_append]) (by simp only [List.length_append,List.length_singleton]) fun w h=>?_
   refine qn (show IntKind.i64.wrap (((P.length+c:Nat):Int)+1)=((P.length+(c+1):Nat):Int) by rw [qd (by omega) (by omega)]; omega) ?_
   refine ⟨⟨rfl,rfl⟩,hin (c+1) _ _ ⟨rfl,by omega,?_⟩ (by omega)⟩
   rw [List.take_succ_eq_append_getElem hcB]
   simp only [List.append_assoc,List.cons_append,List.nil_append] at h ⊢
   exact h
 · have:c=B1.length:=by omega
   subst this
   rw [List.take_length,List.drop_length,List.nil_append] at h
   unfold qa.j17
   exact hk wL h
theorem down.c {P A2 R:List Pk} {y:Pk} {K:Ending→World→Prop} (h:St F0 w0 w (qcc 2 s (pks (P ++ A2 ++ y :: R)) :: ps)) (hlen:(P ++ A2 ++ y :: R).length≤1000000)
 (hk:∀ w',St F0 w0 w' (qcc 2 s (pks (P ++ y :: (A2 ++ R))) :: ps)→K (.returned (.tuple ⟨[]⟩)) w') :
 qa.j11 s ((P.length+A2.length:Nat):Int) (P.length:Int) (fun v w'=>K (.returned v) w') w:=by
 simp only [List.length_append,List.length_cons] at hlen
 unfold qa.j11 qa.j13
 refine qmg (fun (a:List Pk × List Pk) (k':Int) w'=>k'=((P.length+a.1.length:Nat):Int)∧a.1 ++ a.2=A2∧St F0 w0 w' (qcc 2 s (pks (P ++ a.1 ++ y :: (a.2 ++ R))) :: ps)) (fun a=>a.1.length) (A2,[]) ⟨rfl,by simp,by simpa using h⟩ ?_
 clear h
 rintro ⟨T1,T2⟩ k' wL I μ ⟨rfl,hT,h⟩ hin
 simp only at hT h hin ⊢
 have lT:T1.length+T2.length=A2.length:=by rw [← hT,List.length_append]
 unfold qa.b2
 refine qnc (fun g=>?_) (fun g=>?_)
 · have hne:T1 ≠ []:=by intro e; subst e; simp at g
   obtain ⟨T0,z,rfl⟩:∃ T0 z,T1=T0 ++ [z]:=⟨T1.dropLast,T1.getLast hne,(List.dropLast_concat_getLast hne).symm⟩
   rw [List.length_append,List.length_singleton] at lT
   refine h.drewK fun w h=>?_
   have e1:IntKind.i64.wrap (((P.length+(T0 ++ [z]).length:Nat):Int) - 1)=((P ++ T0).length:Int):=by rw [List.length_append,List.length_append,List.length_singleton,qd (by omega) (by omega)]; omega
   have e2:((P.length+(T0 ++ [z]).length:Nat):Int)=((P ++ (T0 ++ [z])).length:Int):=by rw [@List.length_append _ P]
   refine qn e1 (qn e1 ?_)
   refine h.lpk (s:=s) (P ++ T0) z (y :: (T2 ++ R)) (by simp only [List.append_assoc,List.cons_append,List.nil_append]) rfl ?_
   refine h.lpk (s:=s) (P ++ (T0 ++ [z])) y (T2 ++ R) rfl e2 ?_
   refine h.spk (P ++ (T0 ++ [z])) y (T2 ++ R) z rfl e2 fun w h=>?_
   refine h.spk (P ++ T0) z (z :: (T2 ++ R)) y (by simp only [List.append_assoc,List.cons_append,List.nil_append]) rfl fun w h=>?_
   refine qn (e1.trans (show ((P ++ T0).length:Int)=((P.length+T0.length:Nat):Int) by rw [List.length_append])) ?_
   refine ⟨⟨rfl,rfl⟩,hin (T0,z :: T2) _ _ ⟨rfl,by rw [← hT]; simp,?_⟩ (by simp)⟩
   simp only [List.append_assoc,List.cons_append] at h ⊢
   exact h
 · have hne:T1=[]:=by
    cases T1 with
    | nil=>rfl
    | cons z T1=>exfalso; simp only [List.length_cons] at g; omega
   subst hne
   rw [List.nil_append] at hT
   subst hT
   rw [List.append_nil] at h
   unfold qa.j12
   exact hk wL h
end
end Go.Proofs.YtejnemneenjliaaGreat
namespace Go.Proofs.YtejnemneenjliaaGreat
open Go Go.Proofs
set_option linter.unusedVariables false
set_option linter.unusedSimpArgs false
attribute [local irreducible] apK cpK mkK br
section
variable {F0:List Nat} {w0 w:World} {ps rest:List As} {s:Sl}
theorem symMerge.one {P B S:List Pk} {x:Pk} {K:Ending→World→Prop} (h:St F0 w0 w (qcc 2 s (pks (P ++ [x] ++ B ++ S)) :: ps)) (hB:srt wt B) (hlen:(P ++ [x] ++ B ++ S).length≤1000000)
 (hk:∀ w',St F0 w0 w' (qcc 2 s (pks (P ++ mrg wt [x] B ++ S)) :: ps)→K (.returned (.tuple ⟨[]⟩)) w') :
 qa.j15 s (P.length:Int) ((P.length+1:Nat):Int) ((P.length+1+B.length:Nat):Int) (fun v w'=>K (.returned v) w') w:=by
 have hlen2:=hlen
 simp only [List.length_append,List.length_singleton] at hlen
 unfold qa.j15
 refine qkg (fun (a:Nat × Nat) (i j:Int) w'=>i=((P.length+1+a.1:Nat):Int)∧j=((P.length+1+a.2:Nat):Int)∧a.1≤a.2∧a.2≤B.length∧(∀ y ∈ B.take a.1,wt y < wt x)∧(∀ y ∈ B.drop a.2,¬ wt y < wt x)∧St F0 w0 w' (qcc 2 s (pks (P ++ [x] ++ B ++ S)) :: ps)) (fun a=>a.2 - a.1) (0,B.length) ⟨rfl,rfl,by simp,by simp,by simp,by simp,h⟩ ?_
 clear h
 rintro ⟨lo,hi⟩ i j wL I μ ⟨rfl,rfl,hlh,hhB,h1,h2,h⟩ hin
 simp only at hlh hhB h1 h2 h hin ⊢
 unfold qa.b5
 refine qnc (fun g=>?_) (fun g=>?_)
 · refine half_i (by omega) ?_
   obtain ⟨q,hq⟩:∃ q,(P.length+1+lo+(P.length+1+hi)) / 2=P.length+1+q:=⟨(lo+hi) / 2,by omega⟩
   rw [hq]
   have hqB:q < B.length:=by omega
   refine h.drewK fun w h=>?_
   refine h.lpi (s:=s) (P.length+1+q) rfl (by simp only [List.length_append,List.length_singleton]; omega) ?_
   have eg:=getB (P:=P) (A:=[x]) (B:=B) (S:=S) hqB (by simp only [List.length_append,List.length_singleton]; omega)
   simp only [List.length_singleton] at eg
   rw [eg]
   refine h.lpi (s:=s) P.length rfl (by simp only [List.length_append,List.length_singleton]; omega) ?_
   have eg2:=getA (P:=P) (A:=[x]) (B:=B) (S:=S) (i:=0) (by simp) (by simp only [List.length_append,List.length_singleton]; omega)
   simp only [Nat.add_zero,List.getElem_cons_zero] at eg2
   rw [eg2]
   refine qfn.c (x:=B[q]) (y:=x) h fun r w hr h=>⟨_,rfl,?_⟩
   refine qnc (fun g2=>?_) (fun g2=>?_)
   · refine qn (show IntKind.i64.wrap (((P.length+1+q:Nat):Int)+1)=((P.length+1+(q+1):Nat):Int) by rw [qd (by omega) (by omega)]; omega) ?_
     refine ⟨⟨rfl,rfl⟩,hin (q+1,hi) _ _ _ ⟨rfl,rfl,by simp only; omega,hhB,?_,h2,h⟩ (by simp only; omega)⟩
     intro y hy
     obtain ⟨i,hi1,hi2,rfl⟩:=qsl hy
     have:=qsp hB (show i≤q by omega) hqB
     have h3:wt B[q] < wt x:=hr.1 g2
     omega
   · refine ⟨⟨rfl,rfl⟩,hin (lo,q) _ _ _ ⟨rfl,rfl,by simp only; omega,by simp only; omega,h1,?_,h⟩ (by simp only; omega)⟩
     intro y hy
     obtain ⟨i,hi1,hi2,rfl⟩:=qtl hy
     have:=qsp hB (show q≤i by omega) hi1
     have h3:¬ wt B[q] < wt x:=fun e=>g2 (hr.2 e)
     omega
 · have:lo=hi:=by omega
   subst this
   have lT:(B.take lo).length=lo:=by rw [List.length_take]; omega
   have hu:=up.c (P:=P) (B1:=B.take lo) (R:=B.drop lo ++ S) (x:=x) (K:=K) (s:=s) (F0:=F0) (w0:=w0) (ps:=ps) (w:=wL) (by
    rw [← List.append_assoc (B.take lo),List.take_append_drop]
    simpa using h) (by rw [← List.append_assoc (B.take lo),List.take_append_drop]; simpa using hlen2) fun w h=>hk w (by
     have e:=mrg_cut (k:=wt) _ [] [x] (B.take lo) (B.drop lo) rfl (by intro a ha b hb; rw [List.mem_singleton.1 ha]; exact h1 b hb) (by simp)
     rw [List.nil_append,List.take_append_drop,qsh,mrg_left [x] (B.drop lo) (by intro a ha b hb; rw [List.mem_singleton.1 ha]; have:=h2 b hb; omega)] at e
     rw [e]
     simpa using h)
   rw [lT] at hu
   exact hu
theorem symMerge.last {P A S:List Pk} {y:Pk} {K:Ending→World→Prop} (h:St F0 w0 w (qcc 2 s (pks (P ++ A ++ [y] ++ S)) :: ps)) (hA:srt wt A) (hlen:(P ++ A ++ [y] ++ S).length≤1000000)
 (hk:∀ w',St F0 w0 w' (qcc 2 s (pks (P ++ mrg wt A [y] ++ S)) :: ps)→K (.returned (.tuple ⟨[]⟩)) w') :
 qa.j10 s ((P.length+A.length:Nat):Int) (P.length:Int) ((P.length+A.length:Nat):Int) (fun v w'=>K (.returned v) w') w:=by
 have hlen2:=hlen
 simp only [List.length_append,List.length_singleton] at hlen
 unfold qa.j10
 refine qkg (fun (a:Nat × Nat) (i j:Int) w'=>i=((P.length+a.1:Nat):Int)∧j=((P.length+a.2:Nat):Int)∧a.1≤a.2∧a.2≤A.length∧(∀ z ∈ A.take a.1,¬ wt y < wt z)∧(∀ z ∈ A.drop a.2,wt y < wt z)∧St F0 w0 w' (qcc 2 s (pks (P ++ A ++ [y] ++ S)) :: ps)) (fun a=>a.2 - a.1) (0,A.length) ⟨by simp,rfl,by simp,by simp,by simp,by simp,h⟩ ?_
 clear h
 rintro ⟨lo,hi⟩ i j wL I μ ⟨rfl,rfl,hlh,hhA,h1,h2,h⟩ hin
 simp only at hlh hhA h1 h2 h hin ⊢
 unfold qa.b3
 refine qnc (fun g=>?_) (fun g=>?_)
 · refine half_i (by omega) ?_
   obtain ⟨q,hq⟩:∃ q,(P.length+lo+(P.length+hi)) / 2=P.length+q:=⟨(lo+hi) / 2,by omega⟩
   rw [hq]
   have hqA:q < A.length:=by omega
   refine h.drewK fun w h=>?_
   refine h.lpi (s:=s) (P.length+A.length) rfl (by simp only [List.length_append,List.length_singleton]; omega) ?_
   have eg:=getB (P:=P) (A:=A) (B:=[y]) (S:=S) (i:=0) (by simp) (by simp only [List.length_append,List.length_singleton]; omega)
   simp only [Nat.add_zero,List.getElem_cons_zero] at eg
   rw [eg]
   refine h.lpi (s:=s) (P.length+q) rfl (by simp only [List.length_append,List.length_singleton]; omega) ?_
   rw [getA (P:=P) (A:=A) (B:=[y]) (S:=S) hqA]
   refine qfn.c (x:=y) (y:=A[q]) h fun r w hr h=>⟨_,rfl,?_⟩
   refine qne (fun g2=>?_) (fun g2=>?_)
   · have g2:¬ r < 0:=by simpa using g2
     refine qn (show IntKind.i64.wrap (((P.length+q:Nat):Int)+1)=((P.length+(q+1):Nat):Int) by rw [qd (by omega) (by omega)]; omega) ?_
     refine ⟨⟨rfl,rfl⟩,hin (q+1,hi) _ _ _ ⟨rfl,rfl,by simp only; omega,hhA,?_,h2,h⟩ (by simp only; omega)⟩
     intro z hz
     obtain ⟨i,hi1,hi2,rfl⟩:=qsl hz
     have:=qsp hA (show i≤q by omega) hqA
     have h3:¬ wt y < wt A[q]:=fun e=>g2 (hr.2 e)
     omega
   · have g2:r < 0:=by simpa using g2
     refine ⟨⟨rfl,rfl⟩,hin (lo,q) _ _ _ ⟨rfl,rfl,by simp only; omega,by simp only; omega,h1,?_,h⟩ (by simp only; omega)⟩
     intro z hz
     obtain ⟨i,hi1,hi2,rfl⟩:=qtl hz
     have:=qsp hA (show q≤i by omega) hi1
     have h3:wt y < wt A[q]:=hr.1 g2
     omega
 · have:lo=hi:=by omega
   subst this
   have lT:(A.take lo).length=lo:=by rw [List.length_take]; omega
   have lD:(A.drop lo).length=A.length - lo:=List.length_drop
   have hu:=down.c (P:=P ++ A.take lo) (A2:=A.drop lo) (R:=S) (y:=y) (K:=K) (s:=s) (F0:=F0) (w0:=w0) (ps:=ps) (w:=wL) (by
    rw [List.append_assoc P,List.take_append_drop]
    simpa using h) (by rw [List.append_assoc P,List.take_append_drop]; simpa using hlen2) fun w h=>hk w (by
     have e:=mrg_cut (k:=wt) _ (A.take lo) (A.drop lo) [y] [] rfl (by intro a ha b hb; rw [List.mem_singleton.1 hb]; exact h2 a ha) (by simp)
     rw [List.append_nil,List.take_append_drop,qnh,mrg_left (A.take lo) [y] (by intro a ha b hb; rw [List.mem_singleton.1 hb]; have:=h1 a ha; omega)] at e
     rw [e]
     simpa using h)
   rw [List.length_append,lT,lD,show P.length+lo+(A.length - lo)=P.length+A.length by omega] at hu
   exact hu
end
end Go.Proofs.YtejnemneenjliaaGreat
namespace Go.Proofs.YtejnemneenjliaaGreat
open Go Go.Proofs
set_option linter.unusedVariables false
set_option linter.unusedSimpArgs false
attribute [local irreducible] apK cpK mkK br
theorem symMerge.c:∀ (n:Nat) {F0:List Nat} {w0 w:World} {ps:List As} {s:Sl} {P A B S:List Pk} {K:Ending→World→Prop},A.length+B.length≤n→St F0 w0 w (qcc 2 s (pks (P ++ A ++ B ++ S)) :: ps)→srt wt A→srt wt B→0 < A.length→0 < B.length→(P ++ A ++ B ++ S).length≤1000000 →
 (∀ w',St F0 w0 w' (qcc 2 s (pks (P ++ mrg wt A B ++ S)) :: ps)→K (.returned (.tuple ⟨[]⟩)) w') →
 Calls Tryz.prog 337 ⟨[.slice s.a s.len s.cap,.int .i64 (P.length:Int),.int .i64 ((P.length+A.length:Nat):Int),.int .i64 ((P.length+A.length+B.length:Nat):Int),.func (.func 298) ⟨[]⟩ ⟨[]⟩]⟩ w K:=by
 intro n
 induction n with
 | zero=>intro F0 w0 w ps s P A B S K hn _ _ _ hA0 _ _ _; omega
 | succ n ih =>
   intro F0 w0 w ps s P A B S K hn h hA hB hA0 hB0 hlen2 hk
   have hlen:=hlen2
   simp only [List.length_append] at hlen
   refine qfc (qa.ok _ _ _ _ _ _ ?_)
   unfold qa qa.j14
   refine qn (show IntKind.i64.wrap (((P.length+A.length:Nat):Int) - (P.length:Int))=(A.length:Int) by rw [qd (by omega) (by omega)]; omega) ?_
   refine qne (fun g=>?_) (fun g=>?_)
   · have g:(A.length:Int)=1:=by simpa using g
     obtain ⟨x,rfl⟩:∃ x,A=[x]:=List.length_eq_one_iff.1 (by omega)
     exact symMerge.one h hB hlen2 hk
   have gA:¬ (A.length:Int)=1:=by simpa using g
   unfold qa.j1 qa.j9
   refine qn (show IntKind.i64.wrap (((P.length+A.length+B.length:Nat):Int) - ((P.length+A.length:Nat):Int))=(B.length:Int) by rw [qd (by omega) (by omega)]; omega) ?_
   refine qne (fun g=>?_) (fun g=>?_)
   · have g:(B.length:Int)=1:=by simpa using g
     obtain ⟨y,rfl⟩:∃ y,B=[y]:=List.length_eq_one_iff.1 (by omega)
     exact symMerge.last h hA hlen2 hk
   have gB:¬ (B.length:Int)=1:=by simpa using g
   unfold qa.j2
   refine half_i (by omega) ?_
   obtain ⟨md,hmd⟩:∃ md,(A.length+B.length) / 2=md:=⟨_,rfl⟩
   rw [show (P.length+(P.length+A.length+B.length)) / 2=P.length+md by omega]
   refine qn (show IntKind.i64.wrap (((P.length+md:Nat):Int)+((P.length+A.length:Nat):Int))=((P.length+md+(P.length+A.length):Nat):Int) by rw [qd (by omega) (by omega)]; omega) ?_
   have j6:∀ (t:Nat) (w:World),t≤A.length→t≤md→md - t≤B.length→(∀ (h1:t < A.length) (h2:0 < md - t) (h3:md - t - 1 < B.length),wt B[md - t - 1] < wt A[t])→(∀ (h1:0 < t) (h2:md - t < B.length) (h3:t - 1 < A.length),¬ wt B[md - t] < wt A[t - 1])→St F0 w0 w (qcc 2 s (pks (P ++ A ++ B ++ S)) :: ps) →
    qa.j6 s (P.length:Int) ((P.length+A.length:Nat):Int) ((P.length+A.length+B.length:Nat):Int) ((P.length+md:Nat):Int) ((P.length+md+(P.length+A.length):Nat):Int) ((P.length+t:Nat):Int) (fun v w'=>K (.returned v) w') w:=by
    intro t w ht1 ht2 ht3 hlt hge h
    have lA1:(A.take t).length=t:=by rw [List.length_take]; omega
    have lA2:(A.drop t).length=A.length - t:=List.length_drop
    have lB1:(B.take (md - t)).length=md - t:=by rw [List.length_take]; omega
    have lB2:(B.drop (md - t)).length=B.length - (md - t):=List.length_drop
    have c1:∀ a ∈ A.drop t,∀ b ∈ B.take (md - t),wt b < wt a:=by
     intro a ha b hb
     obtain ⟨i,hi1,hi2,rfl⟩:=qtl ha
     obtain ⟨j,hj1,hj2,rfl⟩:=qsl hb
     have h1:=hlt (by omega) (by omega) (by omega)
     have h2:=qsp hA (show t≤i by omega) hi1
     have h3:=qsp hB (show j≤md - t - 1 by omega) (by omega)
     omega
    have c2:∀ a ∈ A.take t,∀ b ∈ B.drop (md - t),wt a≤wt b:=by
     intro a ha b hb
     obtain ⟨i,hi1,hi2,rfl⟩:=qsl ha
     obtain ⟨j,hj1,hj2,rfl⟩:=qtl hb
     have h1:=hge (by omega) (by omega) (by omega)
     have h2:=qsp hA (show i≤t - 1 by omega) (by omega)
     have h3:=qsp hB (show md - t≤j by omega) hj1
     omega
    have hm:=mrg_cut (k:=wt) _ (A.take t) (A.drop t) (B.take (md - t)) (B.drop (md - t)) rfl c1 c2
    rw [List.take_append_drop,List.take_append_drop] at hm
    rw [hm] at hk
    have hA1:=srt_take hA t
    have hA2:=srt_drop hA t
    have hB1:=srt_take hB (md - t)
    have hB2:=srt_drop hB (md - t)
    have hsA:A=A.take t ++ A.drop t:=(List.take_append_drop t A).symm
    have hsB:B=B.take (md - t) ++ B.drop (md - t):=(List.take_append_drop (md - t) B).symm
    have hAl:A.length=(A.take t).length+(A.drop t).length:=by rw [lA1,lA2]; omega
    have hBl:B.length=(B.take (md - t)).length+(B.drop (md - t)).length:=by rw [lB1,lB2]; omega
    have h:St F0 w0 w (qcc 2 s (pks (P ++ (A.take t ++ A.drop t) ++ (B.take (md - t) ++ B.drop (md - t)) ++ S)) :: ps):=by rw [List.take_append_drop,List.take_append_drop]; exact h
    clear hm c1 c2 hlt hge hsA hsB hA hB
    generalize A.take t=A1 at *
    generalize A.drop t=A2 at *
    generalize B.take (md - t)=B1 at *
    generalize B.drop (md - t)=B2 at *
    have j8:∀ (C:List Pk) (w:World),C.length=A1.length+B1.length→C=mrg wt A1 B1→St F0 w0 w (qcc 2 s (pks (P ++ C ++ A2 ++ B2 ++ S)) :: ps)→qa.j8 s ((P.length+A.length+B.length:Nat):Int) ((P.length+md:Nat):Int) ((P.length+A.length+(md - t):Nat):Int) (fun v w'=>K (.returned v) w') w:=by
     intro C w hC hCe h
     subst hCe
     have fin:(A2=[] ∨ B2=[])→K (.returned (.tuple ⟨[]⟩)) w:=by
      intro e
      refine hk w ?_
      have:mrg wt A2 B2=A2 ++ B2:=by
       rcases e with e | e
       · subst e; rw [qsh]; rfl
       · subst e; rw [qnh,List.append_nil]
      rw [this]
      simp only [List.append_assoc] at h ⊢
      exact h
     unfold qa.j8
     refine qnc (fun g1=>?_) (fun g1=>fin (Or.inl (List.length_eq_zero_iff.1 (by omega))))
     refine qnc (fun g2=>?_) (fun g2=>fin (Or.inr (List.length_eq_zero_iff.1 (by omega))))
     have hc:=ih (P:=P ++ mrg wt A1 B1) (A:=A2) (B:=B2) (S:=S) (K:=fun e w'=>e=.returned (.tuple ⟨[]⟩)∧K (.returned (.tuple ⟨[]⟩)) w') (by omega) h hA2 hB2 (by omega) (by omega) (by simp only [List.length_append,hC]; omega) fun w h=>⟨rfl,hk w (by simp only [List.append_assoc] at h ⊢; exact h)⟩
     rw [List.length_append,hC,show P.length+(A1.length+B1.length)=P.length+md by omega,show P.length+md+A2.length=P.length+A.length+(md - t) by omega,show P.length+A.length+(md - t)+B2.length=P.length+A.length+B.length by omega] at hc
     exact hc
    have j7:∀ (w:World),St F0 w0 w (qcc 2 s (pks (P ++ A1 ++ B1 ++ (A2 ++ B2 ++ S))) :: ps)→qa.j7 s (P.length:Int) ((P.length+A.length+B.length:Nat):Int) ((P.length+md:Nat):Int) ((P.length+t:Nat):Int) ((P.length+A.length+(md - t):Nat):Int) (fun v w'=>K (.returned v) w') w:=by
     intro w h
     have fin:(A1=[] ∨ B1=[])→qa.j8 s ((P.length+A.length+B.length:Nat):Int) ((P.length+md:Nat):Int) ((P.length+A.length+(md - t):Nat):Int) (fun v w'=>K (.returned v) w') w:=by
      intro e
      have:mrg wt A1 B1=A1 ++ B1:=by
       rcases e with e | e
       · subst e; rw [qsh]; rfl
       · subst e; rw [qnh,List.append_nil]
      refine j8 (A1 ++ B1) w (by rw [List.length_append]) this.symm ?_
      simp only [List.append_assoc] at h ⊢
      exact h
     unfold qa.j7
     refine qnc (fun g1=>?_) (fun g1=>fin (Or.inl (List.length_eq_zero_iff.1 (by omega))))
     refine qnc (fun g2=>?_) (fun g2=>fin (Or.inr (List.length_eq_zero_iff.1 (by omega))))
     have hc:=ih (P:=P) (A:=A1) (B:=B1) (S:=A2 ++ B2 ++ S) (K:=fun e w'=>e=.returned (.tuple ⟨[]⟩)∧qa.j8 s ((P.length+A.length+B.length:Nat):Int) ((P.length+md:Nat):Int) ((P.length+A.length+(md - t):Nat):Int) (fun v w'=>K (.returned v) w') w') (by omega) h hA1 hB1 (by omega) (by omega) (by simp only [List.length_append]; omega) fun w h=>⟨rfl,j8 _ w (qft _ _ _ rfl) rfl (by simp only [List.append_assoc] at h ⊢; exact h)⟩
     rw [show P.length+A1.length=P.length+t by omega,show P.length+t+B1.length=P.length+md by omega] at hc
     exact hc
    have same:(A2=[] ∨ B1=[])→St F0 w0 w (qcc 2 s (pks (P ++ A1 ++ B1 ++ (A2 ++ B2 ++ S))) :: ps):=by
     intro e
     rcases e with e | e
     · subst e
       simp only [List.append_assoc,List.append_nil,List.nil_append] at h ⊢
       exact h
     · subst e
       simp only [List.append_assoc,List.append_nil,List.nil_append] at h ⊢
       exact h
    unfold qa.j6
    refine qn (show IntKind.i64.wrap (((P.length+md+(P.length+A.length):Nat):Int) - ((P.length+t:Nat):Int))=((P.length+A.length+(md - t):Nat):Int) by rw [qd (by omega) (by omega)]; omega) ?_
    refine qnc (fun g1=>?_) (fun g1=>j7 w (same (Or.inl (List.length_eq_zero_iff.1 (by omega)))))
    refine qnc (fun g2=>?_) (fun g2=>j7 w (same (Or.inr (List.length_eq_zero_iff.1 (by omega)))))
    have hc:=rotate.c (P:=P ++ A1) (A:=A2) (B:=B1) (S:=B2 ++ S) (s:=s) (F0:=F0) (w0:=w0) (w:=w) (ps:=ps) (K:=fun e w'=>e=.returned (.tuple ⟨[]⟩)∧qa.j7 s (P.length:Int) ((P.length+A.length+B.length:Nat):Int) ((P.length+md:Nat):Int) ((P.length+t:Nat):Int) ((P.length+A.length+(md - t):Nat):Int) (fun v w'=>K (.returned v) w') w') (by simp only [List.append_assoc] at h ⊢; exact h) (by omega) (by omega) (by simp only [List.length_append]; omega) fun w h=>⟨rfl,j7 w (by simp only [List.append_assoc] at h ⊢; exact h)⟩
    rw [List.length_append,show P.length+A1.length=P.length+t by omega,show P.length+t+A2.length=P.length+A.length by omega,show P.length+A.length+B1.length=P.length+A.length+(md - t) by omega] at hc
    exact hc
   have j4:∀ (lo0 hi0:Nat),lo0≤hi0→hi0≤md→hi0≤A.length→md - lo0≤B.length→(hi0=md ∨ hi0=A.length)→(lo0=0 ∨ md - lo0=B.length) →
    qa.j4 s (P.length:Int) ((P.length+A.length:Nat):Int) ((P.length+A.length+B.length:Nat):Int) ((P.length+md:Nat):Int) ((P.length+md+(P.length+A.length):Nat):Int) ((P.length+lo0:Nat):Int) ((P.length+hi0:Nat):Int) (fun v w'=>K (.returned v) w') w:=by
    intro lo0 hi0 h1 h2 h3 h4 h5 h6
    unfold qa.j4 qa.j5
    refine qn (show IntKind.i64.wrap (((P.length+md+(P.length+A.length):Nat):Int) - 1)=((P.length+md+(P.length+A.length) - 1:Nat):Int) by rw [qd (by omega) (by omega)]; omega) ?_
    refine qkg (fun (a:Nat × Nat) (i j:Int) w'=>i=((P.length+a.1:Nat):Int)∧j=((P.length+a.2:Nat):Int)∧lo0≤a.1∧a.1≤a.2∧a.2≤hi0∧(a.1=lo0 ∨ ∀ (h2:md - a.1 < B.length) (h3:a.1 - 1 < A.length),¬ wt B[md - a.1] < wt A[a.1 - 1])∧(a.2=hi0 ∨ ∀ (h2:md - a.2 - 1 < B.length) (h3:a.2 < A.length),wt B[md - a.2 - 1] < wt A[a.2])∧St F0 w0 w' (qcc 2 s (pks (P ++ A ++ B ++ S)) :: ps)) (fun a=>a.2 - a.1) (lo0,hi0) ⟨rfl,rfl,Nat.le_refl _,h1,Nat.le_refl _,Or.inl rfl,Or.inl rfl,h⟩ ?_
    clear h
    rintro ⟨lo,hi⟩ i j wL I μ ⟨rfl,rfl,hl0,hlh,hh0,hq1,hq2,h⟩ hin
    simp only at hl0 hlh hh0 hq1 hq2 h hin ⊢
    unfold qa.b1
    refine qnc (fun g=>?_) (fun g=>?_)
    · refine half_i (by omega) ?_
      obtain ⟨q,hq⟩:∃ q,(P.length+lo+(P.length+hi)) / 2=P.length+q:=⟨(lo+hi) / 2,by omega⟩
      rw [hq]
      have hqA:q < A.length:=by omega
      have hqB:md - 1 - q < B.length:=by omega
      refine h.drewK fun w h=>?_
      refine qn (show IntKind.i64.wrap (((P.length+md+(P.length+A.length) - 1:Nat):Int) - ((P.length+q:Nat):Int))=((P.length+A.length+(md - 1 - q):Nat):Int) by rw [qd (by omega) (by omega)]; omega) ?_
      refine h.lpi (s:=s) (P.length+A.length+(md - 1 - q)) rfl (by simp only [List.length_append]; omega) ?_
      rw [getB (P:=P) (A:=A) (B:=B) (S:=S) hqB]
      refine h.lpi (s:=s) (P.length+q) rfl (by simp only [List.length_append]; omega) ?_
      rw [getA (P:=P) (A:=A) (B:=B) (S:=S) hqA]
      refine qfn.c (x:=B[md - 1 - q]) (y:=A[q]) h fun r w hr h=>⟨_,rfl,?_⟩
      refine qne (fun g2=>?_) (fun g2=>?_)
      · have g2:¬ r < 0:=by simpa using g2
        refine qn (show IntKind.i64.wrap (((P.length+q:Nat):Int)+1)=((P.length+(q+1):Nat):Int) by rw [qd (by omega) (by omega)]; omega) ?_
        refine ⟨⟨rfl,rfl,rfl,rfl,rfl,rfl,rfl⟩,hin (q+1,hi) _ _ _ ⟨rfl,rfl,by simp only; omega,by simp only; omega,hh0,Or.inr fun k1 k2 e=>g2 (hr.2 ?_),hq2,h⟩ (by simp only; omega)⟩
        simp only [Nat.add_sub_cancel,show md - (q+1)=md - 1 - q by omega] at e
        exact e
      · have g2:r < 0:=by simpa using g2
        refine ⟨⟨rfl,rfl,rfl,rfl,rfl,rfl,rfl⟩,hin (lo,q) _ _ _ ⟨rfl,rfl,hl0,by simp only; omega,by simp only; omega,hq1,Or.inr fun k1 k2=>?_,h⟩ (by simp only; omega)⟩
        have h3:wt B[md - 1 - q] < wt A[q]:=hr.1 g2
        simp only [show md - q - 1=md - 1 - q by omega]
        exact h3
    · have:lo=hi:=by omega
      subst this
      refine j6 lo wL (by omega) (by omega) (by omega) (fun k1 k2 k3=>?_) (fun k1 k2 k3=>?_) h
      · rcases hq2 with e | e
        · exfalso; omega
        · exact e k3 k1
      · rcases hq1 with e | e
        · exfalso; omega
        · exact e k2 k3
   unfold qa.j3
   refine qnc (fun g=>?_) (fun g=>?_)
   · refine qn (show IntKind.i64.wrap (((P.length+md+(P.length+A.length):Nat):Int) - ((P.length+A.length+B.length:Nat):Int))=((P.length+(md - B.length):Nat):Int) by rw [qd (by omega) (by omega)]; omega) ?_
     exact j4 (md - B.length) md (by omega) (by omega) (by omega) (by omega) (Or.inl rfl) (Or.inr (by omega))
   · have:=j4 0 A.length (by omega) (by omega) (by omega) (by omega) (Or.inr rfl) (Or.inl rfl)
     exact this
end Go.Proofs.YtejnemneenjliaaGreat
namespace Go.Proofs.YtejnemneenjliaaGreat
open Go Go.Proofs
set_option linter.unusedVariables false
set_option linter.unusedSimpArgs false
attribute [local irreducible] apK cpK mkK br
def sb (c:Nat) (l:List Pk):List Pk:=bsort wt c l.length l
theorem bsort_fuel {c:Nat} (hc:0 < c):∀ (f g:Nat) (l:List Pk),l.length≤f→l.length≤g→bsort wt c f l=bsort wt c g l:=by
 intro f
 induction f with
 | zero =>
   intro g l h1 h2
   cases g with
   | zero=>rfl
   | succ g=>rw [bsort,bsort,if_pos (by omega)]
 | succ f ih =>
   intro g l h1 h2
   cases g with
   | zero=>rw [bsort,bsort,if_pos (by omega)]
   | succ g =>
     rw [bsort,bsort]
     split
     · rfl
     · rw [ih g (l.drop c) (by rw [List.length_drop]; omega) (by rw [List.length_drop]; omega)]
theorem sb_le {c:Nat} {l:List Pk} (h:l.length≤c):sb c l=qrd wt l:=by
 unfold sb
 cases hl:l.length with
 | zero=>rfl
 | succ f=>rw [bsort,if_pos h]
theorem sb_cut {c:Nat} {l:List Pk} (hc:0 < c) (h:c≤l.length):sb c l=qrd wt (l.take c) ++ sb c (l.drop c):=by
 rcases Nat.eq_or_lt_of_le h with e | e
 · have h2:l.drop c=[]:=List.drop_of_length_le (by omega)
   rw [sb_le (by omega),h2,List.take_of_length_le (by omega),sb_le (by simp)]
   exact (List.append_nil _).symm
 · unfold sb
   cases hl:l.length with
   | zero=>omega
   | succ f =>
     rw [bsort,if_neg (by omega),bsort_fuel hc f (l.drop c).length _ (by rw [List.length_drop]; omega) (Nat.le_refl _)]
section
variable {F0:List Nat} {w0 w:World} {ps rest:List As} {s:Sl}
theorem stable.c {L:List Pk} {K:Ending→World→Prop} (h:St F0 w0 w (qcc 2 s (pks L) :: ps)) (hlen:L.length≤1000000)
 (hk:∀ w',St F0 w0 w' (qcc 2 s (pks (qrd wt L)) :: ps)→K (.returned (.tuple ⟨[]⟩)) w') :
 Calls Tryz.prog 318 ⟨[.slice s.a s.len s.cap,.int .i64 (L.length:Int),.func (.func 298) ⟨[]⟩ ⟨[]⟩]⟩ w K:=by
 refine qfc (qe.ok _ _ _ _ ?_)
 unfold qe qe.j1
 have j3:∀ w,St F0 w0 w (qcc 2 s (pks (sb 20 L)) :: ps)→qe.j3 s (L.length:Int) 20 (fun v w'=>K (.returned v) w') w:=by
  intro w h
  unfold qe.j3
  refine qmg (fun (c:Nat) (b:Int) w'=>b=(c:Int)∧0 < c∧c≤2000000∧St F0 w0 w' (qcc 2 s (pks (sb c L)) :: ps)) (fun c=>L.length - c) 20 ⟨rfl,by decide,by decide,h⟩ ?_
  clear h
  rintro c b wL I μ ⟨rfl,hc0,hc1,h⟩ hin
  unfold qe.b1
  refine qnc (fun g=>?_) (fun g=>?_)
  · unfold qe.j4 qe.j5
    refine qn (show IntKind.i64.wrap (2 * (c:Int))=((0+2 * c:Nat):Int) by rw [qd (by omega) (by omega)]; omega) ?_
    refine qkg (fun (a:List Pk × List Pk) (x y:Int) w'=>x=(a.1.length:Int)∧y=((a.1.length+2 * c:Nat):Int)∧a.1.length+a.2.length=L.length∧a.1 ++ sb (2 * c) a.2=sb (2 * c) L∧St F0 w0 w' (qcc 2 s (pks (a.1 ++ sb c a.2)) :: ps)) (fun a=>a.2.length) ([],L) ⟨rfl,by simp,by simp,rfl,h⟩ ?_
    clear h
    rintro ⟨R,Y⟩ x y w2 I2 μ2 ⟨rfl,rfl,hl,hT,h⟩ hin2
    simp only at hl hT h hin2 ⊢
    unfold qe.b2
    refine qnc (fun g2=>?_) (fun g2=>?_)
    · have hY:2 * c≤Y.length:=by omega
      have l1:(Y.take c).length=c:=by rw [List.length_take]; omega
      have l2:((Y.drop c).take c).length=c:=by rw [List.length_take,List.length_drop]; omega
      have e1:sb c Y=qrd wt (Y.take c) ++ (qrd wt ((Y.drop c).take c) ++ sb c (Y.drop (2 * c))):=by
       rw [sb_cut hc0 (by omega),sb_cut hc0 (l:=Y.drop c) (by rw [List.length_drop]; omega),List.drop_drop,show c+c=2 * c by omega]
      have e2:mrg wt (qrd wt (Y.take c)) (qrd wt ((Y.drop c).take c))=qrd wt (Y.take (2 * c)):=by
       rw [← qhm]
       congr 1
       rw [show 2 * c=c+c by omega,List.take_add]
      rw [e1] at h
      refine qn (show IntKind.i64.wrap ((R.length:Int)+(c:Int))=((R.length+c:Nat):Int) by rw [qd (by omega) (by omega)]; omega) ?_
      have hS:(sb c (Y.drop (2 * c))).length≤1000000→True:=fun _=>trivial
      have hlT:(R ++ qrd wt (Y.take c) ++ qrd wt ((Y.drop c).take c) ++ sb c (Y.drop (2 * c))).length=L.length:=by
       have hsl:∀ (f:Nat) (l:List Pk),(bsort wt c f l).length=l.length:=by
        intro f
        induction f with
        | zero=>intro l; exact qhd l
        | succ f ih =>
          intro l
          rw [bsort]
          split
          · exact qhd l
          · rw [List.length_append,qhd,ih,List.length_take,List.length_drop]; omega
       simp only [List.length_append,qhd,l1,l2]
       unfold sb
       rw [hsl,List.length_drop]; omega
      have hc:=symMerge.c _ (P:=R) (A:=qrd wt (Y.take c)) (B:=qrd wt ((Y.drop c).take c)) (S:=sb c (Y.drop (2 * c))) (s:=s) (F0:=F0) (w0:=w0) (w:=w2) (ps:=ps)
       (K:=fun e w'=>e=.returned (.tuple ⟨[]⟩)∧lt (IntKind.i64.wrap (2 * (c:Int))) fun x9=>lt (IntKind.i64.wrap (((R.length+2 * c:Nat):Int)+x9)) fun x10=>((s=s∧(L.length:Int)=(L.length:Int)∧(c:Int)=(c:Int))∧I2 ((R.length+2 * c:Nat):Int) x10 w'∧μ2 ((R.length+2 * c:Nat):Int) x10 w' < μ2 (R.length:Int) ((R.length+2 * c:Nat):Int) w2)) (Nat.le_refl _) (by simp only [List.append_assoc] at h ⊢; exact h) (qri _) (qri _) (by rw [qhd]; omega) (by rw [qhd]; omega) (by rw [hlT]; exact hlen) fun w h=>⟨rfl,?_⟩
      · rw [qhd,qhd,l1,l2,show R.length+c+c=R.length+2 * c by omega] at hc
        exact hc
      · have lR:(R ++ qrd wt (Y.take (2 * c))).length=R.length+2 * c:=by rw [List.length_append,qhd,List.length_take]; omega
        refine qn (qd (by omega) (by omega)) ?_
        refine qn (qd (by omega) (by omega)) ?_
        refine ⟨⟨rfl,rfl,rfl⟩,hin2 (R ++ qrd wt (Y.take (2 * c)),Y.drop (2 * c)) _ _ _ ⟨by rw [lR],by rw [lR]; omega,by rw [lR,List.length_drop]; omega,?_,by rw [← e2]; exact h⟩ (by rw [List.length_drop]; omega)⟩
        rw [← hT,sb_cut (by omega) hY,List.append_assoc]
    · have hY:Y.length < 2 * c:=by omega
      have nx:∀ w,St F0 w0 w (qcc 2 s (pks (R ++ qrd wt Y)) :: ps)→lt (IntKind.i64.wrap ((c:Int) * 2)) fun x4=>((s=s∧(L.length:Int)=(L.length:Int))∧I x4 w∧μ x4 w < μ (c:Int) wL):=by
       intro w h
       refine qn (show IntKind.i64.wrap ((c:Int) * 2)=((2 * c:Nat):Int) by rw [qd (by omega) (by omega)]; omega) ?_
       refine ⟨⟨rfl,rfl⟩,hin (2 * c) _ _ ⟨rfl,by omega,by omega,?_⟩ (by omega)⟩
       rw [← hT,sb_le (by omega)]
       exact h
      unfold qe.j6
      refine qn (show IntKind.i64.wrap ((R.length:Int)+(c:Int))=((R.length+c:Nat):Int) by rw [qd (by omega) (by omega)]; omega) ?_
      refine qnc (fun g3=>?_) (fun g3=>?_)
      · have l1:(Y.take c).length=c:=by rw [List.length_take]; omega
        have l2:(Y.drop c).length=Y.length - c:=List.length_drop
        rw [sb_cut hc0 (by omega),sb_le (l:=Y.drop c) (by omega)] at h
        have e2:mrg wt (qrd wt (Y.take c)) (qrd wt (Y.drop c))=qrd wt Y:=by rw [← qhm,List.take_append_drop]
        have hc:=symMerge.c _ (P:=R) (A:=qrd wt (Y.take c)) (B:=qrd wt (Y.drop c)) (S:=[]) (s:=s) (F0:=F0) (w0:=w0) (w:=w2) (ps:=ps)
         (K:=fun e w'=>e=.returned (.tuple ⟨[]⟩)∧lt (IntKind.i64.wrap ((c:Int) * 2)) fun x4=>((s=s∧(L.length:Int)=(L.length:Int))∧I x4 w'∧μ x4 w' < μ (c:Int) wL)) (Nat.le_refl _) (by simp only [List.append_assoc,List.append_nil] at h ⊢; exact h) (qri _) (qri _) (by rw [qhd]; omega) (by rw [qhd]; omega) (by simp only [List.length_append,qhd,List.length_nil]; omega) fun w h=>⟨rfl,nx w (by rw [e2,List.append_nil] at h; exact h)⟩
        rw [qhd,qhd,l1,l2,show R.length+c+(Y.length - c)=L.length by omega] at hc
        exact hc
      · rw [sb_le (by omega)] at h
        exact nx w2 h
  · refine hk wL ?_
    rw [sb_le (by omega)] at h
    exact h
 refine qkg (fun (a:List Pk × List Pk) (x y:Int) w'=>x=(a.1.length:Int)∧y=((a.1.length+20:Nat):Int)∧a.1.length+a.2.length=L.length∧a.1 ++ sb 20 a.2=sb 20 L∧St F0 w0 w' (qcc 2 s (pks (a.1 ++ a.2)) :: ps)) (fun a=>a.2.length) ([],L) ⟨rfl,rfl,by simp,rfl,h⟩ ?_
 clear h
 rintro ⟨R,Y⟩ x y w2 I2 μ2 ⟨rfl,rfl,hl,hT,h⟩ hin2
 simp only at hl hT h hin2 ⊢
 unfold qe.b3
 refine qnc (fun g2=>?_) (fun g2=>?_)
 · have hY:20≤Y.length:=by omega
   have l1:(Y.take 20).length=20:=by rw [List.length_take]; omega
   have l2:(Y.drop 20).length=Y.length - 20:=List.length_drop
   have hc:=insertion.c (P:=R) (X:=Y.take 20) (S:=Y.drop 20) (s:=s) (F0:=F0) (w0:=w0) (w:=w2) (ps:=ps)
    (K:=fun e w'=>e=.returned (.tuple ⟨[]⟩)∧lt (IntKind.i64.wrap (((R.length+20:Nat):Int)+20)) fun x16=>((s=s∧(L.length:Int)=(L.length:Int)∧(20:Int)=20)∧I2 ((R.length+20:Nat):Int) x16 w'∧μ2 ((R.length+20:Nat):Int) x16 w' < μ2 (R.length:Int) ((R.length+20:Nat):Int) w2)) (by rw [List.append_assoc,List.take_append_drop]; exact h) (by simp only [List.length_append,l1,l2]; omega) fun w h=>⟨rfl,?_⟩
   · rw [l1] at hc
     exact hc
   · have lR:(R ++ qrd wt (Y.take 20)).length=R.length+20:=by rw [List.length_append,qhd,l1]
     refine qn (qd (by omega) (by omega)) ?_
     refine ⟨⟨rfl,rfl,rfl⟩,hin2 (R ++ qrd wt (Y.take 20),Y.drop 20) _ _ _ ⟨by rw [lR],by rw [lR]; omega,by rw [lR,l2]; omega,?_,h⟩ (by rw [l2]; omega)⟩
     rw [← hT,sb_cut (by decide) hY,List.append_assoc]
 · unfold qe.j2
   have hc:=insertion.c (P:=R) (X:=Y) (S:=[]) (s:=s) (F0:=F0) (w0:=w0) (w:=w2) (ps:=ps)
    (K:=fun e w'=>e=.returned (.tuple ⟨[]⟩)∧qe.j3 s (L.length:Int) 20 (fun v w'=>K (.returned v) w') w') (by rw [List.append_nil]; exact h) (by simp only [List.length_append,List.length_nil]; omega) fun w h=>⟨rfl,j3 w (by rw [← hT,sb_le (by omega)]; rw [List.append_nil] at h; exact h)⟩
   rw [hl] at hc
   exact hc
theorem SortStable.c {L:List Pk} {K:Ending→World→Prop} (h:St F0 w0 w ps) [PkO s ps 2 (pks L) rest] (hlen:L.length≤1000000)
 (hk:∀ w',St F0 w0 w' (qcc 2 s (pks (qrd wt L)) :: rest)→K (.returned (.tuple ⟨[]⟩)) w') :
 Calls Tryz.prog 297 ⟨[.slice s.a s.len s.cap,.func (.func 298) ⟨[]⟩ ⟨[]⟩]⟩ w K:=by
 have h:=h.toO s
 have hl:=h.len
 rw [qih] at hl
 refine qfc (qzd.ok _ _ _ ?_)
 unfold qzd
 have hc:=stable.c (K:=fun e w'=>e=.returned (.tuple ⟨[]⟩)∧K (.returned (.tuple ⟨[]⟩)) w') h hlen fun w h=>⟨rfl,hk w h⟩
 rw [show L.length=s.len by omega] at hc
 exact hc
end
end Go.Proofs.YtejnemneenjliaaGreat
namespace Go.Proofs.YtejnemneenjliaaGreat
open Go Go.Proofs
set_option linter.unusedVariables false
set_option maxRecDepth 100000
def qvl (n_0:Int) (Q:VWP) (w:World):Prop :=
 br (decide (n_0 < 0)) (
 Q (.bool true) w) (
 Q (.bool (decide (n_0 > 16777216))) w)
theorem qvl.ok (n_0:Int) (Q:VWP) (w:World) (h:qvl n_0 Q w):Calls Tryz.prog 317 ⟨[.int .i64 n_0]⟩ w (Ret Q) :=
 qqc [.tmp 2] qbe Tryz.func317 rfl rfl rfl rfl .lf (by kernel_rfl) h
def qnb.j2  (Q:VWP) (w:World):Prop :=
 Q (.int .i64 (-1)) w
def qnb.b1 (s_0:Sl) (t7:Int) (t8:Int) (Q:VWP) (nx1:Sl→Int→Int→WP) (w:World):Prop :=
 br (decide (t8 < t7)) (
 ixS s_0.a s_0.len t8 1 fun a1 =>
 ldI .i64 w a1 fun x2 =>
 cr_B 317 [.int .i64 x2] w fun r5 w4 =>
 br r5 (
 Q (.int .i64 t8) w4) (
 lt (IntKind.i64.wrap (t8+1)) fun x6 =>
 nx1 s_0 t7 x6 w4)) (
 qnb.j2 Q w)
def qnb.l1 (s_0:Sl) (t7:Int) (t8:Int) (Q:VWP) (w:World):Prop :=
 ∃ (I:Int→WP) (μ:Int→World→Nat),I t8 w∧∀ t8:Int,∀ w:World,I t8 w→qnb.b1 s_0 t7 t8 Q (fun s_0' t7' t8' w'=>(s_0'=s_0∧t7'=t7)∧I t8' w'∧μ t8' w' < μ t8 w) w
def qnb.j3 (s_0:Sl) (t7:Int) (t8:Int) (Q:VWP) (w:World):Prop :=
 qnb.l1 s_0 t7 t8 Q w
def qnb.j1 (s_0:Sl) (Q:VWP) (w:World):Prop :=
 qnb.j3 s_0 (s_0.len:Int) 0 Q w
def qnb (s_0:Sl) (Q:VWP) (w:World):Prop :=
 qnb.j1 s_0 Q w
theorem qnb.ok (s_0:Sl) (Q:VWP) (w:World) (h:qnb s_0 Q w):Calls Tryz.prog 335 ⟨[sV s_0,.func (.func 317) ⟨[]⟩ ⟨[]⟩]⟩ w (Ret Q) :=
 qqc [.tmp 4] qbe Tryz.func335 rfl rfl rfl rfl (.sq [sL 0,(1,.c0 317)] (fun a _ w=>qnb.j1 a Q w) .lf (.sq [] (fun  w=>qnb.j2 Q w) (.sq [sL 0,(1,.c0 317),sI 7,sI 8] (fun a _ b c w=>qnb.j3 a b c Q w) .lf (.bk (.lo [sL 0,(1,.c0 317),sI 7] [sI 8] (fun a _ b c w=>qnb.l1 a b c Q w) (fun nx1 a _ b c w=>qnb.b1 a b c Q (fun x0 x7 x8 w=>nx1 x0 () x7 x8 w) w) fun nx1=>.lf))) .lf)) (by kernel_rfl) h
def qpf (s_0:Sl) (Q:VWP) (w:World):Prop :=
 qxi 335 [sV s_0,.func (.func 317) ⟨[]⟩ ⟨[]⟩] w fun r3 w2 =>
 Q (.bool (decide (r3 ≥ 0))) w2
theorem qpf.ok (s_0:Sl) (Q:VWP) (w:World) (h:qpf s_0 Q w):Calls Tryz.prog 316 ⟨[sV s_0,.func (.func 317) ⟨[]⟩ ⟨[]⟩]⟩ w (Ret Q) :=
 qqc [.tmp 4] qbe Tryz.func316 rfl rfl rfl rfl .lf (by kernel_rfl) h
def qfl (counts_0:Sl) (Q:VWP) (w:World):Prop :=
 br (decide ((counts_0.len:Int) > 288)) (
 Q (.bool true) w) (
 cr_B 316 [sV counts_0,.func (.func 317) ⟨[]⟩ ⟨[]⟩] w fun r3 w2 =>
 Q (.bool r3) w2)
theorem qfl.ok (counts_0:Sl) (Q:VWP) (w:World) (h:qfl counts_0 Q w):Calls Tryz.prog 293 ⟨[sV counts_0]⟩ w (Ret Q) :=
 qqc [.tmp 2] qbe Tryz.func293 rfl rfl rfl rfl .lf (by kernel_rfl) h
def qqd.j2 (out_3:Sl) (Q:VWP) (w:World):Prop :=
 Q (sV out_3) w
def qqd.b1 (t6:Sl) (t7:Int) (out_3:Sl) (t8:Int) (Q:VWP) (nx1:Sl→Int→Sl→Int→WP) (w:World):Prop :=
 br (decide (t8 < t7)) (
 ixS t6.a t6.len t8 1 fun a1 =>
 ldI .i64 w a1 fun x2 =>
 br (decide (x2 > 0)) (
 nw w ⟨[.int .i64 t8]⟩ 3 fun a3 w4 =>
 rdO w4 (some a3) (1 * 1) fun c5 =>
 apK Tryz.prog 3 w4 out_3.a out_3.len out_3.cap 1 c5 fun s6 w7 =>
 lt (IntKind.i64.wrap (t8+1)) fun x8 =>
 nx1 t6 t7 s6 x8 w7) (
 lt (IntKind.i64.wrap (t8+1)) fun x9 =>
 nx1 t6 t7 out_3 x9 w)) (
 qqd.j2 out_3 Q w)
def qqd.l1 (t6:Sl) (t7:Int) (out_3:Sl) (t8:Int) (Q:VWP) (w:World):Prop :=
 ∃ (I:Sl→Int→WP) (μ:Sl→Int→World→Nat),I out_3 t8 w∧∀ out_3:Sl,∀ t8:Int,∀ w:World,I out_3 t8 w→qqd.b1 t6 t7 out_3 t8 Q (fun t6' t7' out_3' t8' w'=>(t6'=t6∧t7'=t7)∧I out_3' t8' w'∧μ out_3' t8' w' < μ out_3 t8 w) w
def qqd.j3 (out_3 t6:Sl) (t7:Int) (t8:Int) (Q:VWP) (w:World):Prop :=
 qqd.l1 t6 t7 out_3 t8 Q w
def qqd.j1 (counts_0 out_3:Sl) (Q:VWP) (w:World):Prop :=
 qqd.j3 out_3 counts_0 (counts_0.len:Int) 0 Q w
def qqd (counts_0:Sl) (Q:VWP) (w:World):Prop :=
 qqd.j1 counts_0 ⟨none,0,0⟩ Q w
theorem qqd.ok (counts_0:Sl) (Q:VWP) (w:World) (h:qqd counts_0 Q w):Calls Tryz.prog 294 ⟨[sV counts_0]⟩ w (Ret Q) :=
 qqc [.tmp 2] qbe Tryz.func294 rfl rfl rfl rfl (.pr 1 [sL 0,sL 3] (fun a b w=>qqd.j1 a b Q w) (.sq [sL 3] (fun a w=>qqd.j2 a Q w) (.sq [sL 3,sL 6,sI 7,sI 8] (fun a b c d w=>qqd.j3 a b c d Q w) .lf (.bk (.lo [sL 6,sI 7] [sL 3,sI 8] (fun a b c d w=>qqd.l1 a b c d Q w) (fun nx1 a b c d w=>qqd.b1 a b c d Q nx1 w) fun nx1=>.lf))) .lf)) (by kernel_rfl) h
def qsg (s_0:Sl) (n_1:Int) (Q:VWP) (w:World):Prop :=
 br (decide (n_1 < 0)) (
 False) (
 lt (IntKind.i64.wrap ((s_0.cap:Int) - (s_0.len:Int))) fun x1 =>
 lt (IntKind.i64.wrap (n_1 - x1)) fun x2 =>
 br (decide (x2 > 0)) (
 bd (s_0.cap:Int) s_0.cap fun n3 =>
 lt (⟨qgf s_0.a s_0.cap 0 1,n3 - 0,s_0.cap - 0⟩:Sl) fun s4 =>
 zrK Tryz.prog 3 s4.len x2 fun c5 =>
 apK Tryz.prog 3 w s4.a s4.len s4.cap (Int.toNat x2) c5 fun s6 w7 =>
 bd (s_0.len:Int) s6.cap fun n8 =>
 lt (⟨qgf s6.a s6.cap 0 1,n8 - 0,s6.cap - 0⟩:Sl) fun s9 =>
 Q (sV s9) w7) (
 Q (sV s_0) w))
theorem qsg.ok (s_0:Sl) (n_1:Int) (Q:VWP) (w:World) (h:qsg s_0 n_1 Q w):Calls Tryz.prog 300 ⟨[sV s_0,.int .i64 n_1]⟩ w (Ret Q) :=
 qqc [.tmp 4] qbe Tryz.func300 rfl rfl rfl rfl .lf (by kernel_rfl) h
def qt.j4 (newslice_6:Sl) (Q:VWP) (w:World):Prop :=
 Q (sV newslice_6) w
def qt.b1 (t25:Sl) (t26:Int) (newslice_6:Sl) (t27:Int) (Q:VWP) (nx1:Sl→Int→Sl→Int→WP) (w:World):Prop :=
 br (decide (t27 < t26)) (
 ixS t25.a t25.len t27 1 fun a1 =>
 ldL w a1 fun x2 =>
 rdO w x2.a (x2.len * 1) fun c3 =>
 apK Tryz.prog 3 w newslice_6.a newslice_6.len newslice_6.cap x2.len c3 fun s4 w5 =>
 lt (IntKind.i64.wrap (t27+1)) fun x6 =>
 nx1 t25 t26 s4 x6 w5) (
 qt.j4 newslice_6 Q w)
def qt.l1 (t25:Sl) (t26:Int) (newslice_6:Sl) (t27:Int) (Q:VWP) (w:World):Prop :=
 ∃ (I:Sl→Int→WP) (μ:Sl→Int→World→Nat),I newslice_6 t27 w∧∀ newslice_6:Sl,∀ t27:Int,∀ w:World,I newslice_6 t27 w→qt.b1 t25 t26 newslice_6 t27 Q (fun t25' t26' newslice_6' t27' w'=>(t25'=t25∧t26'=t26)∧I newslice_6' t27' w'∧μ newslice_6' t27' w' < μ newslice_6 t27 w) w
def qt.j5 (newslice_6 t25:Sl) (t26:Int) (t27:Int) (Q:VWP) (w:World):Prop :=
 qt.l1 t25 t26 newslice_6 t27 Q w
def qt.j3 (slices_0 newslice_6:Sl) (Q:VWP) (w:World):Prop :=
 qt.j5 newslice_6 slices_0 (slices_0.len:Int) 0 Q w
def qt.j2 (slices_0:Sl) (size_3:Int) (Q:VWP) (w:World):Prop :=
 qij 300 [.slice none 0 0,.int .i64 size_3] w fun r9 w8 =>
 qt.j3 slices_0 r9 Q w8
def qt.b2 (slices_0 t9:Sl) (t10:Int) (size_3 t11:Int) (Q:VWP) (nx2:Sl→Sl→Int→Int→Int→WP) (w:World):Prop :=
 br (decide (t11 < t10)) (
 ixS t9.a t9.len t11 1 fun a10 =>
 ldL w a10 fun x11 =>
 lt (IntKind.i64.wrap (size_3+(x11.len:Int))) fun x12 =>
 br (decide (x12 < 0)) (
 False) (
 lt (IntKind.i64.wrap (t11+1)) fun x13 =>
 nx2 slices_0 t9 t10 x12 x13 w)) (
 qt.j2 slices_0 size_3 Q w)
def qt.l2 (slices_0 t9:Sl) (t10:Int) (size_3 t11:Int) (Q:VWP) (w:World):Prop :=
 ∃ (I:Int→Int→WP) (μ:Int→Int→World→Nat),I size_3 t11 w∧∀ size_3:Int,∀ t11:Int,∀ w:World,I size_3 t11 w→qt.b2 slices_0 t9 t10 size_3 t11 Q (fun slices_0' t9' t10' size_3' t11' w'=>(slices_0'=slices_0∧t9'=t9∧t10'=t10)∧I size_3' t11' w'∧μ size_3' t11' w' < μ size_3 t11 w) w
def qt.j6 (slices_0:Sl) (size_3:Int) (t9:Sl) (t10:Int) (t11:Int) (Q:VWP) (w:World):Prop :=
 qt.l2 slices_0 t9 t10 size_3 t11 Q w
def qt.j1 (slices_0:Sl) (size_3:Int) (Q:VWP) (w:World):Prop :=
 qt.j6 slices_0 size_3 slices_0 (slices_0.len:Int) 0 Q w
def qt (slices_0:Sl) (Q:VWP) (w:World):Prop :=
 qt.j1 slices_0 0 Q w
theorem qt.ok (slices_0:Sl) (Q:VWP) (w:World) (h:qt slices_0 Q w):Calls Tryz.prog 264 ⟨[sV slices_0]⟩ w (Ret Q) :=
 qqc [.tmp 2] qbe Tryz.func264 rfl rfl rfl rfl (.pr 1 [sL 0,sI 3] (fun a b w=>qt.j1 a b Q w) (.sq [sL 0,sI 3] (fun a b w=>qt.j2 a b Q w) (.sq [sL 0,sI 3,sL 9,sI 10,sI 11] (fun a b c d e w=>qt.j6 a b c d e Q w) .lf (.bk (.lo [sL 0,sL 9,sI 10] [sI 3,sI 11] (fun a b c d e w=>qt.l2 a b c d e Q w) (fun nx2 a b c d e w=>qt.b2 a b c d e Q nx2 w) fun nx2=>.lf))) (.sq [sL 0,sL 6] (fun a b w=>qt.j3 a b Q w) .lf (.sq [sL 6] (fun a w=>qt.j4 a Q w) (.sq [sL 6,sL 25,sI 26,sI 27] (fun a b c d w=>qt.j5 a b c d Q w) .lf (.bk (.lo [sL 25,sI 26] [sL 6,sI 27] (fun a b c d w=>qt.l1 a b c d Q w) (fun nx1 a b c d w=>qt.b1 a b c d Q nx1 w) fun nx1=>.lf))) .lf)))) (by kernel_rfl) h
def qgd.j2 (out_3:Sl) (Q:VWP) (w:World):Prop :=
 Q (sV out_3) w
def qgd.b1 (l_0 out_3:Sl) (i_4:Int) (Q:VWP) (nx1:Sl→Sl→Int→WP) (w:World):Prop :=
 br (decide (i_4 < (l_0.len:Int))) (
 lt (World.drew w) fun w1 =>
 lt (IntKind.i64.wrap (i_4 - 1)) fun x2 =>
 ixS l_0.a l_0.len x2 2 fun a3 =>
 ixS l_0.a l_0.len i_4 2 fun a4 =>
 lt (IntKind.i64.wrap (i_4 - 1)) fun x5 =>
 ixS l_0.a l_0.len x5 2 fun a6 =>
 ldL w1 (Addr.add a6 1) fun x7 =>
 ixS l_0.a l_0.len i_4 2 fun a8 =>
 ldL w1 (Addr.add a8 1) fun x9 =>
 (ldI .i64 w1 (Addr.add a3 0) fun x10 =>
 (ldI .i64 w1 (Addr.add a4 0) fun x11 =>
 lt (IntKind.i64.wrap (x10+x11)) fun x12 =>
 nw w1 ⟨[sV x7,sV x9]⟩ 88 fun a13 w14 =>
 qij 264 [.slice (some a13) 2 2] w14 fun r17 w16 =>
 ((⟨[.int .i64 x12,sV r17]⟩:Array Value)).size=2 ∧
 nw w16 ⟨(spl [.int .i64 0,.slice none 0 0] 0 (⟨[.int .i64 x12,sV r17]⟩:Array Value))⟩ 409 fun a18 w19 =>
 rdO w19 (some a18) (1 * 2) fun c20 =>
 apK Tryz.prog 409 w19 out_3.a out_3.len out_3.cap 1 c20 fun s21 w22 =>
 lt (IntKind.i64.wrap (i_4+2)) fun x23 =>
 nx1 l_0 s21 x23 w22)∧(
 nw w1 ⟨[sV x7,sV x9]⟩ 88 fun a24 w25 =>
 (ldI .i64 w25 (Addr.add a4 0) fun x26 =>
 lt (IntKind.i64.wrap (x10+x26)) fun x27 =>
 qij 264 [.slice (some a24) 2 2] w25 fun r30 w29 =>
 ((⟨[.int .i64 x27,sV r30]⟩:Array Value)).size=2 ∧
 nw w29 ⟨(spl [.int .i64 0,.slice none 0 0] 0 (⟨[.int .i64 x27,sV r30]⟩:Array Value))⟩ 409 fun a31 w32 =>
 rdO w32 (some a31) (1 * 2) fun c33 =>
 apK Tryz.prog 409 w32 out_3.a out_3.len out_3.cap 1 c33 fun s34 w35 =>
 lt (IntKind.i64.wrap (i_4+2)) fun x36 =>
 nx1 l_0 s34 x36 w35)∧(
 qij 264 [.slice (some a24) 2 2] w25 fun r39 w38 =>
 ldI .i64 w38 (Addr.add a4 0) fun x40 =>
 lt (IntKind.i64.wrap (x10+x40)) fun x41 =>
 ((⟨[.int .i64 x41,sV r39]⟩:Array Value)).size=2 ∧
 nw w38 ⟨(spl [.int .i64 0,.slice none 0 0] 0 (⟨[.int .i64 x41,sV r39]⟩:Array Value))⟩ 409 fun a42 w43 =>
 rdO w43 (some a42) (1 * 2) fun c44 =>
 apK Tryz.prog 409 w43 out_3.a out_3.len out_3.cap 1 c44 fun s45 w46 =>
 lt (IntKind.i64.wrap (i_4+2)) fun x47 =>
 nx1 l_0 s45 x47 w46)))∧(
 ldI .i64 w1 (Addr.add a4 0) fun x48 =>
 (ldI .i64 w1 (Addr.add a3 0) fun x49 =>
 lt (IntKind.i64.wrap (x49+x48)) fun x50 =>
 nw w1 ⟨[sV x7,sV x9]⟩ 88 fun a51 w52 =>
 qij 264 [.slice (some a51) 2 2] w52 fun r55 w54 =>
 ((⟨[.int .i64 x50,sV r55]⟩:Array Value)).size=2 ∧
 nw w54 ⟨(spl [.int .i64 0,.slice none 0 0] 0 (⟨[.int .i64 x50,sV r55]⟩:Array Value))⟩ 409 fun a56 w57 =>
 rdO w57 (some a56) (1 * 2) fun c58 =>
 apK Tryz.prog 409 w57 out_3.a out_3.len out_3.cap 1 c58 fun s59 w60 =>
 lt (IntKind.i64.wrap (i_4+2)) fun x61 =>
 nx1 l_0 s59 x61 w60)∧(
 nw w1 ⟨[sV x7,sV x9]⟩ 88 fun a62 w63 =>
 (ldI .i64 w63 (Addr.add a3 0) fun x64 =>
 lt (IntKind.i64.wrap (x64+x48)) fun x65 =>
 qij 264 [.slice (some a62) 2 2] w63 fun r68 w67 =>
 ((⟨[.int .i64 x65,sV r68]⟩:Array Value)).size=2 ∧
 nw w67 ⟨(spl [.int .i64 0,.slice none 0 0] 0 (⟨[.int .i64 x65,sV r68]⟩:Array Value))⟩ 409 fun a69 w70 =>
 rdO w70 (some a69) (1 * 2) fun c71 =>
 apK Tryz.prog 409 w70 out_3.a out_3.len out_3.cap 1 c71 fun s72 w73 =>
 lt (IntKind.i64.wrap (i_4+2)) fun x74 =>
 nx1 l_0 s72 x74 w73)∧(
 qij 264 [.slice (some a62) 2 2] w63 fun r77 w76 =>
 ldI .i64 w76 (Addr.add a3 0) fun x78 =>
 lt (IntKind.i64.wrap (x78+x48)) fun x79 =>
 ((⟨[.int .i64 x79,sV r77]⟩:Array Value)).size=2 ∧
 nw w76 ⟨(spl [.int .i64 0,.slice none 0 0] 0 (⟨[.int .i64 x79,sV r77]⟩:Array Value))⟩ 409 fun a80 w81 =>
 rdO w81 (some a80) (1 * 2) fun c82 =>
 apK Tryz.prog 409 w81 out_3.a out_3.len out_3.cap 1 c82 fun s83 w84 =>
 lt (IntKind.i64.wrap (i_4+2)) fun x85 =>
 nx1 l_0 s83 x85 w84)))∧(
 nw w1 ⟨[sV x7,sV x9]⟩ 88 fun a86 w87 =>
 (ldI .i64 w87 (Addr.add a3 0) fun x88 =>
 (ldI .i64 w87 (Addr.add a4 0) fun x89 =>
 lt (IntKind.i64.wrap (x88+x89)) fun x90 =>
 qij 264 [.slice (some a86) 2 2] w87 fun r93 w92 =>
 ((⟨[.int .i64 x90,sV r93]⟩:Array Value)).size=2 ∧
 nw w92 ⟨(spl [.int .i64 0,.slice none 0 0] 0 (⟨[.int .i64 x90,sV r93]⟩:Array Value))⟩ 409 fun a94 w95 =>
 rdO w95 (some a94) (1 * 2) fun c96 =>
 apK Tryz.prog 409 w95 out_3.a out_3.len out_3.cap 1 c96 fun s97 w98 =>
 lt (IntKind.i64.wrap (i_4+2)) fun x99 =>
 nx1 l_0 s97 x99 w98)∧(
 qij 264 [.slice (some a86) 2 2] w87 fun r102 w101 =>
 ldI .i64 w101 (Addr.add a4 0) fun x103 =>
 lt (IntKind.i64.wrap (x88+x103)) fun x104 =>
 ((⟨[.int .i64 x104,sV r102]⟩:Array Value)).size=2 ∧
 nw w101 ⟨(spl [.int .i64 0,.slice none 0 0] 0 (⟨[.int .i64 x104,sV r102]⟩:Array Value))⟩ 409 fun a105 w106 =>
 rdO w106 (some a105) (1 * 2) fun c107 =>
 apK Tryz.prog 409 w106 out_3.a out_3.len out_3.cap 1 c107 fun s108 w109 =>
 lt (IntKind.i64.wrap (i_4+2)) fun x110 =>
 nx1 l_0 s108 x110 w109))∧(
 ldI .i64 w87 (Addr.add a4 0) fun x111 =>
 (ldI .i64 w87 (Addr.add a3 0) fun x112 =>
 lt (IntKind.i64.wrap (x112+x111)) fun x113 =>
 qij 264 [.slice (some a86) 2 2] w87 fun r116 w115 =>
 ((⟨[.int .i64 x113,sV r116]⟩:Array Value)).size=2 ∧
 nw w115 ⟨(spl [.int .i64 0,.slice none 0 0] 0 (⟨[.int .i64 x113,sV r116]⟩:Array Value))⟩ 409 fun a117 w118 =>
 rdO w118 (some a117) (1 * 2) fun c119 =>
 apK Tryz.prog 409 w118 out_3.a out_3.len out_3.cap 1 c119 fun s120 w121 =>
 lt (IntKind.i64.wrap (i_4+2)) fun x122 =>
 nx1 l_0 s120 x122 w121)∧(
 qij 264 [.slice (some a86) 2 2] w87 fun r125 w124 =>
 ldI .i64 w124 (Addr.add a3 0) fun x126 =>
 lt (IntKind.i64.wrap (x126+x111)) fun x127 =>
 ((⟨[.int .i64 x127,sV r125]⟩:Array Value)).size=2 ∧
 nw w124 ⟨(spl [.int .i64 0,.slice none 0 0] 0 (⟨[.int .i64 x127,sV r125]⟩:Array Value))⟩ 409 fun a128 w129 =>
 rdO w129 (some a128) (1 * 2) fun c130 =>
 apK Tryz.prog 409 w129 out_3.a out_3.len out_3.cap 1 c130 fun s131 w132 =>
 lt (IntKind.i64.wrap (i_4+2)) fun x133 =>
 nx1 l_0 s131 x133 w132))∧(
 qij 264 [.slice (some a86) 2 2] w87 fun r136 w135 =>
 (ldI .i64 w135 (Addr.add a3 0) fun x137 =>
 ldI .i64 w135 (Addr.add a4 0) fun x138 =>
 lt (IntKind.i64.wrap (x137+x138)) fun x139 =>
 ((⟨[.int .i64 x139,sV r136]⟩:Array Value)).size=2 ∧
 nw w135 ⟨(spl [.int .i64 0,.slice none 0 0] 0 (⟨[.int .i64 x139,sV r136]⟩:Array Value))⟩ 409 fun a140 w141 =>
 rdO w141 (some a140) (1 * 2) fun c142 =>
 apK Tryz.prog 409 w141 out_3.a out_3.len out_3.cap 1 c142 fun s143 w144 =>
 lt (IntKind.i64.wrap (i_4+2)) fun x145 =>
 nx1 l_0 s143 x145 w144)∧(
 ldI .i64 w135 (Addr.add a4 0) fun x146 =>
 ldI .i64 w135 (Addr.add a3 0) fun x147 =>
 lt (IntKind.i64.wrap (x147+x146)) fun x148 =>
 ((⟨[.int .i64 x148,sV r136]⟩:Array Value)).size=2 ∧
 nw w135 ⟨(spl [.int .i64 0,.slice none 0 0] 0 (⟨[.int .i64 x148,sV r136]⟩:Array Value))⟩ 409 fun a149 w150 =>
 rdO w150 (some a149) (1 * 2) fun c151 =>
 apK Tryz.prog 409 w150 out_3.a out_3.len out_3.cap 1 c151 fun s152 w153 =>
 lt (IntKind.i64.wrap (i_4+2)) fun x154 =>
 nx1 l_0 s152 x154 w153)))) (
 qgd.j2 out_3 Q w)
def qgd.l1 (l_0 out_3:Sl) (i_4:Int) (Q:VWP) (w:World):Prop :=
 ∃ (I:Sl→Int→WP) (μ:Sl→Int→World→Nat),I out_3 i_4 w∧∀ out_3:Sl,∀ i_4:Int,∀ w:World,I out_3 i_4 w→qgd.b1 l_0 out_3 i_4 Q (fun l_0' out_3' i_4' w'=>(l_0'=l_0)∧I out_3' i_4' w'∧μ out_3' i_4' w' < μ out_3 i_4 w) w
def qgd.j3 (l_0 out_3:Sl) (i_4:Int) (Q:VWP) (w:World):Prop :=
 qgd.l1 l_0 out_3 i_4 Q w
def qgd.j1 (l_0 out_3:Sl) (Q:VWP) (w:World):Prop :=
 qgd.j3 l_0 out_3 1 Q w
def qgd (l_0:Sl) (Q:VWP) (w:World):Prop :=
 qgd.j1 l_0 ⟨none,0,0⟩ Q w
theorem qgd.ok (l_0:Sl) (Q:VWP) (w:World) (h:qgd l_0 Q w):Calls Tryz.prog 296 ⟨[sV l_0]⟩ w (Ret Q) :=
 qqc [.tmp 2] qbe Tryz.func296 rfl rfl rfl rfl (.pr 1 [sL 0,sL 3] (fun a b w=>qgd.j1 a b Q w) (.sq [sL 3] (fun a w=>qgd.j2 a Q w) (.sq [sL 0,sL 3,sI 4] (fun a b c w=>qgd.j3 a b c Q w) .lf (.bk (.lo [sL 0] [sL 3,sI 4] (fun a b c w=>qgd.l1 a b c Q w) (fun nx1 a b c w=>qgd.b1 a b c Q nx1 w) fun nx1=>.lf))) .lf)) (by kernel_rfl) h
def qqf (s_0:Sl) (Q:VWP) (w:World):Prop :=
 br (Option.isNone s_0.a) (
 Q (.slice none 0 0) w) (
 nw w ⟨[]⟩ 409 fun a1 w2 =>
 rdO w2 s_0.a (s_0.len * 2) fun c3 =>
 apK Tryz.prog 409 w2 (some a1) 0 0 s_0.len c3 fun s4 w5 =>
 Q (sV s4) w5)
theorem qqf.ok (s_0:Sl) (Q:VWP) (w:World) (h:qqf s_0 Q w):Calls Tryz.prog 295 ⟨[sV s_0]⟩ w (Ret Q) :=
 qqc [.tmp 2] qbe Tryz.func295 rfl rfl rfl rfl .lf (by kernel_rfl) h
def qm.j6 (t7:Sl) (Q:VWP) (w:World):Prop :=
 Q (.tuple ⟨[sV t7,.int .i64 0]⟩) w
def qm.j9 (t7 t85:Sl) (t86:Int) (t87:Int) (Q:VWP) (nx1:Sl→Sl→Int→Int→WP) (w:World):Prop :=
 lt (IntKind.i64.wrap (t87+1)) fun x1 =>
 nx1 t7 t85 t86 x1 w
def qm.b2 (t7 t85:Sl) (t86:Int) (t87:Int) (t92:Sl) (t93 t94:Int) (Q:VWP) (nx1:Sl→Sl→Int→Int→WP) (nx2:Sl→Sl→Int→Int→Sl→Int→Int→WP) (w:World):Prop :=
 br (decide (t94 < t93)) (
 ixS t92.a t92.len t94 1 fun a2 =>
 ldI .i64 w a2 fun x3 =>
 ixS t7.a t7.len x3 1 fun a4 =>
 ldI .i64 w a4 fun x5 =>
 lt (IntKind.i64.wrap (x5+1)) fun x6 =>
 ixS t7.a t7.len x3 1 fun a7 =>
 st w a7 (.int .i64 x6) fun w8 =>
 lt (IntKind.i64.wrap (t94+1)) fun x9 =>
 nx2 t7 t85 t86 t87 t92 t93 x9 w8) (
 qm.j9 t7 t85 t86 t87 Q nx1 w)
def qm.l2 (t7 t85:Sl) (t86:Int) (t87:Int) (t92:Sl) (t93 t94:Int) (Q:VWP) (nx1:Sl→Sl→Int→Int→WP) (w:World):Prop :=
 ∃ (I:Int→WP) (μ:Int→World→Nat),I t94 w∧∀ t94:Int,∀ w:World,I t94 w→qm.b2 t7 t85 t86 t87 t92 t93 t94 Q nx1 (fun t7' t85' t86' t87' t92' t93' t94' w'=>(t7'=t7∧t85'=t85∧t86'=t86∧t87'=t87∧t92'=t92∧t93'=t93)∧I t94' w'∧μ t94' w' < μ t94 w) w
def qm.j10 (t7 t85:Sl) (t86:Int) (t87:Int) (t92:Sl) (t93 t94:Int) (Q:VWP) (nx1:Sl→Sl→Int→Int→WP) (w:World):Prop :=
 qm.l2 t7 t85 t86 t87 t92 t93 t94 Q nx1 w
def qm.j8 (t7 t85:Sl) (t86:Int) (t87:Int) (Q:VWP) (nx1:Sl→Sl→Int→Int→WP) (w:World):Prop :=
 ixS t85.a t85.len t87 2 fun a10 =>
 ldA w a10 2 fun c11 =>
 nw w (zc Tryz.prog 409) 409 fun a12 w13 =>
 (c11).size=2 ∧
 stA w13 a12 c11 fun w14 =>
 ldL w14 (Addr.add a12 1) fun x15 =>
 qm.j10 t7 t85 t86 t87 x15 (x15.len:Int) 0 Q nx1 w14
def qm.b1 (t7 t85:Sl) (t86:Int) (t87:Int) (Q:VWP) (nx1:Sl→Sl→Int→Int→WP) (w:World):Prop :=
 br (decide (t87 < t86)) (
 qm.j8 t7 t85 t86 t87 Q nx1 w) (
 qm.j6 t7 Q w)
def qm.l1 (t7 t85:Sl) (t86:Int) (t87:Int) (Q:VWP) (w:World):Prop :=
 ∃ (I:Int→WP) (μ:Int→World→Nat),I t87 w∧∀ t87:Int,∀ w:World,I t87 w→qm.b1 t7 t85 t86 t87 Q (fun t7' t85' t86' t87' w'=>(t7'=t7∧t85'=t85∧t86'=t86)∧I t87' w'∧μ t87' w' < μ t87 w) w
def qm.j7 (t7 t85:Sl) (t86:Int) (t87:Int) (Q:VWP) (w:World):Prop :=
 qm.l1 t7 t85 t86 t87 Q w
def qm.j5 (t6 t7 t9:Sl) (Q:VWP) (w:World):Prop :=
 lt (IntKind.i64.wrap (2 * (t6.len:Int))) fun x16 =>
 lt (IntKind.i64.wrap (x16 - 2)) fun x17 =>
 bd x17 t9.cap fun n18 =>
 lt (⟨qgf t9.a t9.cap 0 2,n18 - 0,t9.cap - 0⟩:Sl) fun s19 =>
 qm.j7 t7 s19 (s19.len:Int) 0 Q w
def qm.b3 (t6 t7 t8:Sl) (t69:Int) (t9:Sl) (t70:Int) (Q:VWP) (nx3:Sl→Sl→Sl→Int→Sl→Int→WP) (w:World):Prop :=
 br (decide (t70 < t69)) (
 qij 295 [sV t8] w fun r22 w21 =>
 qij 296 [sV t9] w21 fun r25 w24 =>
 rdO w24 r25.a (r25.len * 2) fun c26 =>
 apK Tryz.prog 409 w24 r22.a r22.len r22.cap r25.len c26 fun s27 w28 =>
 ct_ 297 [sV s27,.func (.func 298) ⟨[]⟩ ⟨[]⟩] w28 fun w30 =>
 lt (IntKind.i64.wrap (t70+1)) fun x31 =>
 nx3 t6 t7 t8 t69 s27 x31 w30) (
 qm.j5 t6 t7 t9 Q w)
def qm.l3 (t6 t7 t8:Sl) (t69:Int) (t9:Sl) (t70:Int) (Q:VWP) (w:World):Prop :=
 ∃ (I:Sl→Int→WP) (μ:Sl→Int→World→Nat),I t9 t70 w∧∀ t9:Sl,∀ t70:Int,∀ w:World,I t9 t70 w→qm.b3 t6 t7 t8 t69 t9 t70 Q (fun t6' t7' t8' t69' t9' t70' w'=>(t6'=t6∧t7'=t7∧t8'=t8∧t69'=t69)∧I t9' t70' w'∧μ t9' t70' w' < μ t9 t70 w) w
def qm.j11 (t6 t7 t8 t9:Sl) (t69:Int) (t70:Int) (Q:VWP) (w:World):Prop :=
 qm.l3 t6 t7 t8 t69 t9 t70 Q w
def qm.j4 (i_1:Int) (t6:Sl) (t7 t8 t9:Sl) (Q:VWP) (w:World):Prop :=
 qm.j11 t6 t7 t8 t9 i_1 0 Q w
def qm.b4 (d_0:Sl) (i_1:Int) (t6 t7 t9 t52:Sl) (t53:Int) (t8:Sl) (t54:Int) (Q:VWP) (nx4:Sl→Int→Sl→Sl→Sl→Sl→Int→Sl→Int→WP) (w:World):Prop :=
 br (decide (t54 < t53)) (
 ixS t52.a t52.len t54 1 fun a32 =>
 ldI .i64 w a32 fun x33 =>
 ixS d_0.a d_0.len x33 1 fun a34 =>
 ldI .i64 w a34 fun x35 =>
 nw w ⟨[.int .i64 x33]⟩ 3 fun a36 w37 =>
 ((⟨[.int .i64 x35,.slice (some a36) 1 1]⟩:Array Value)).size=2 ∧
 nw w37 ⟨(spl [.int .i64 0,.slice none 0 0] 0 (⟨[.int .i64 x35,.slice (some a36) 1 1]⟩:Array Value))⟩ 409 fun a38 w39 =>
 rdO w39 (some a38) (1 * 2) fun c40 =>
 apK Tryz.prog 409 w39 t8.a t8.len t8.cap 1 c40 fun s41 w42 =>
 lt (IntKind.i64.wrap (t54+1)) fun x43 =>
 nx4 d_0 i_1 t6 t7 t9 t52 t53 s41 x43 w42) (
 qm.j4 i_1 t6 t7 t8 t9 Q w)
def qm.l4 (d_0:Sl) (i_1:Int) (t6 t7 t9 t52:Sl) (t53:Int) (t8:Sl) (t54:Int) (Q:VWP) (w:World):Prop :=
 ∃ (I:Sl→Int→WP) (μ:Sl→Int→World→Nat),I t8 t54 w∧∀ t8:Sl,∀ t54:Int,∀ w:World,I t8 t54 w→qm.b4 d_0 i_1 t6 t7 t9 t52 t53 t8 t54 Q (fun d_0' i_1' t6' t7' t9' t52' t53' t8' t54' w'=>(d_0'=d_0∧i_1'=i_1∧t6'=t6∧t7'=t7∧t9'=t9∧t52'=t52∧t53'=t53)∧I t8' t54' w'∧μ t8' t54' w' < μ t8 t54 w) w
def qm.j12 (d_0:Sl) (i_1:Int) (t6 t7 t8 t9 t52:Sl) (t53:Int) (t54:Int) (Q:VWP) (w:World):Prop :=
 qm.l4 d_0 i_1 t6 t7 t9 t52 t53 t8 t54 Q w
def qm.j3 (d_0:Sl) (i_1:Int) (t6 t7 t8 t9:Sl) (Q:VWP) (w:World):Prop :=
 qm.j12 d_0 i_1 t6 t7 t8 t9 t6 (t6.len:Int) 0 Q w
def qm.j2 (d_0:Sl) (i_1:Int) (t6 t7:Sl) (Q:VWP) (w:World):Prop :=
 (0:Int)≤i_1 ∧
 lt (qqi .i64 1 i_1) fun x44 =>
 br (decide ((t6.len:Int) > x44)) (
 Q (.tuple ⟨[.slice none 0 0,.int .i64 7]⟩) w) (
 br ((t6.len:Int) == 0) (
 Q (.tuple ⟨[sV t7,.int .i64 0]⟩) w) (
 br ((t6.len:Int) == 1) (
 ixS t6.a t6.len 0 1 fun a45 =>
 ldI .i64 w a45 fun x46 =>
 ixS t7.a t7.len x46 1 fun a47 =>
 st w a47 (.int .i64 1) fun w48 =>
 Q (.tuple ⟨[sV t7,.int .i64 0]⟩) w48) (
 qm.j3 d_0 i_1 t6 t7 ⟨none,0,0⟩ ⟨none,0,0⟩ Q w)))
def qm.j1 (d_0:Sl) (i_1:Int) (Q:VWP) (w:World):Prop :=
 qij 294 [sV d_0] w fun r51 w50 =>
 mkK Tryz.prog 3 w50 (d_0.len:Int) (d_0.len:Int) fun s52 w53 =>
 qm.j2 d_0 i_1 r51 s52 Q w53
def qm (d_0:Sl) (i_1:Int) (Q:VWP) (w:World):Prop :=
 cr_B 293 [sV d_0] w fun r56 w55 =>
 br r56 (
 Q (.tuple ⟨[.slice none 0 0,.int .i64 1]⟩) w55) (
 br (decide (i_1 < 1)) (
 Q (.tuple ⟨[.slice none 0 0,.int .i64 1]⟩) w55) (
 br (decide (i_1 > 15)) (
 Q (.tuple ⟨[.slice none 0 0,.int .i64 1]⟩) w55) (
 qm.j1 d_0 i_1 Q w55)))
theorem qm.ok (d_0:Sl) (i_1:Int) (Q:VWP) (w:World) (h:qm d_0 i_1 Q w):Calls Tryz.prog 261 ⟨[sV d_0,.int .i64 i_1]⟩ w (Ret Q) :=
 qqc [.tmp 4,.tmp 5] qbe Tryz.func261 rfl rfl rfl rfl (.pr 1 [sL 0,sI 1] (fun a b w=>qm.j1 a b Q w) (.pr 1 [sL 0,sI 1,sL 6,sL 7] (fun a b c d w=>qm.j2 a b c d Q w) (.pr 1 [sL 0,sI 1,sL 6,sL 7,sL 8,sL 9] (fun a b c d e f w=>qm.j3 a b c d e f Q w) (.sq [sI 1,sL 6,sL 7,sL 8,sL 9] (fun a b c d e w=>qm.j4 a b c d e Q w) (.sq [sL 0,sI 1,sL 6,sL 7,sL 8,sL 9,sL 52,sI 53,sI 54] (fun a b c d e f g h i w=>qm.j12 a b c d e f g h i Q w) .lf (.bk (.lo [sL 0,sI 1,sL 6,sL 7,sL 9,sL 52,sI 53] [sL 8,sI 54] (fun a b c d e f g h i w=>qm.l4 a b c d e f g h i Q w) (fun nx4 a b c d e f g h i w=>qm.b4 a b c d e f g h i Q nx4 w) fun nx4=>.lf))) (.sq [sL 6,sL 7,sL 9] (fun a b c w=>qm.j5 a b c Q w) (.sq [sL 6,sL 7,sL 8,sL 9,sI 69,sI 70] (fun a b c d e f w=>qm.j11 a b c d e f Q w) .lf (.bk (.lo [sL 6,sL 7,sL 8,sI 69] [sL 9,sI 70] (fun a b c d e f w=>qm.l3 a b c d e f Q w) (fun nx3 a b c d e f w=>qm.b3 a b c d e f Q nx3 w) fun nx3=>.lf))) (.sq [sL 7] (fun a w=>qm.j6 a Q w) (.sq [sL 7,sL 85,sI 86,sI 87] (fun a b c d w=>qm.j7 a b c d Q w) .lf (.bk (.lo [sL 7,sL 85,sI 86] [sI 87] (fun a b c d w=>qm.l1 a b c d Q w) (fun nx1 a b c d w=>qm.b1 a b c d Q nx1 w) fun nx1=>(.pr 1 [sL 7,sL 85,sI 86,sI 87] (fun a b c d w=>qm.j8 a b c d Q nx1 w) (.sq [sL 7,sL 85,sI 86,sI 87] (fun a b c d w=>qm.j9 a b c d Q nx1 w) (.bk (.pr 1 [sL 7,sL 85,sI 86,sI 87,sL 92,sI 93,sI 94] (fun a b c d e f g w=>qm.j10 a b c d e f g Q nx1 w) (.bk (.lo [sL 7,sL 85,sI 86,sI 87,sL 92,sI 93] [sI 94] (fun a b c d e f g w=>qm.l2 a b c d e f g Q nx1 w) (fun nx2 a b c d e f g w=>qm.b2 a b c d e f g Q nx1 nx2 w) fun nx2=>.lf)))) .lf))))) .lf)))))) (by kernel_rfl) h
end Go.Proofs.YtejnemneenjliaaGreat
namespace Go.Proofs.YtejnemneenjliaaGreat
open Go Go.Proofs
set_option linter.unusedVariables false
set_option linter.unusedSimpArgs false
attribute [local irreducible] apK cpK mkK br
def badN (n:Int):Prop:=n < 0 ∨ 16777216 < n
instance (n:Int):Decidable (badN n):=inferInstanceAs (Decidable (_ ∨ _))
def qhe (xs:List Int):List Nat:=(List.range xs.length).filter fun i=>0 < xs.getD i 0
section
variable {F0:List Nat} {w0 w:World} {ps rest:List As} {s:Sl} {xs:List Int}
theorem limit_bad1.c {n:Int} {K:Ending→World→Prop} (hk:K (.returned (.bool (decide (badN n)))) w):Calls Tryz.prog 317 ⟨[.int .i64 n]⟩ w K:=by
 refine qfc (qvl.ok _ _ _ ?_)
 unfold qvl
 refine qnc (fun g=>?_) (fun g=>?_)
 · rw [decide_eq_true (show badN n from Or.inl g)] at hk
   exact hk
 · rw [show decide (badN n)=decide (n > 16777216) from decide_eq_decide.2 ⟨fun e=>by rcases e with e | e; omega; exact e,fun e=>Or.inr e⟩] at hk
   exact hk
theorem qfl.c {K:Ending→World→Prop} (h:St F0 w0 w ps) [Rdb F0 w0 s ps 1 (ivs .i64 xs)]
 (hk:∀ (b:Bool) w',(b=false→xs.length≤288∧∀ x ∈ xs,¬ badN x)→(b=true→288 < xs.length ∨ ∃ x ∈ xs,badN x)→St F0 w0 w' ps→K (.returned (.bool b)) w'):Calls Tryz.prog 293 ⟨[.slice s.a s.len s.cap]⟩ w K:=by
 have hl:=(h.rdb s).1
 rw [ql] at hl
 refine qfc (qfl.ok _ _ _ ?_)
 unfold qfl
 refine qnc (fun g=>?_) (fun g=>?_)
 · exact hk true w (fun e=>by cases e) (fun _=>Or.inl (by omega)) h
 refine qfc (qpf.ok _ _ _ ?_)
 unfold qpf
 refine qfc (qnb.ok _ _ _ ?_)
 unfold qnb qnb.j1 qnb.j3
 refine qmg (fun (i:Nat) (i':Int) w'=>i'=i∧i≤xs.length∧(∀ j,j < i→¬ badN (xs.getD j 0))∧St F0 w0 w' ps) (fun i=>xs.length - i) 0 ⟨rfl,by omega,fun j hj=>by omega,h⟩ ?_
 clear h
 rintro i i' wL I μ ⟨rfl,hi,hb,h⟩ hin
 unfold qnb.b1
 refine qnc (fun g1=>?_) (fun g1=>?_)
 · have hix:i < xs.length:=by omega
   refine h.lx (s:=s) i rfl hix ?_
   refine limit_bad1.c ⟨_,rfl,?_⟩
   refine qnc (fun g2=>?_) (fun g2=>?_)
   · refine ⟨_,rfl,?_⟩
     dsimp only
     rw [decide_eq_true (show ((i:Nat):Int) ≥ 0 by omega)]
     refine ⟨_,rfl,hk true wL (fun e=>by cases e) (fun _=>Or.inr ⟨xs[i],List.getElem_mem hix,?_⟩) h⟩
     rw [List.getD,List.getElem?_eq_getElem hix] at g2
     exact g2
   · refine qn (qd (by omega) (by omega)) ?_
     refine ⟨⟨rfl,rfl⟩,hin (i+1) _ _ ⟨by omega,by omega,?_,h⟩ (by omega)⟩
     intro j hj
     rcases Nat.lt_or_ge j i with h1 | h1
     · exact hb j h1
     · rw [show j=i by omega]; exact g2
 · unfold qnb.j2
   refine ⟨_,rfl,?_⟩
   dsimp only
   rw [decide_eq_false (show ¬ (-1:Int) ≥ 0 by decide)]
   refine ⟨_,rfl,hk false wL (fun _=>⟨by omega,fun x hx=>?_⟩) (fun e=>by cases e) h⟩
   obtain ⟨j,hj,rfl⟩:=List.mem_iff_getElem.1 hx
   have:=hb j (by omega)
   rw [List.getD,List.getElem?_eq_getElem hj] at this
   exact this
theorem qqd.c {K:Ending→World→Prop} (h:St F0 w0 w ps) [Rdb F0 w0 s ps 1 (ivs .i64 xs)] (hlen:xs.length≤1000000)
 (hk:∀ t w',t.len=(qhe xs).length→St F0 w0 w' (qcc 1 t (ivs .i64 ((qhe xs).map fun (i:Nat)=>(i:Int))) :: ps)→K (.returned (.slice t.a t.len t.cap)) w'):Calls Tryz.prog 294 ⟨[.slice s.a s.len s.cap]⟩ w K:=by
 have hl:=(h.rdb s).1
 rw [ql] at hl
 refine qfc (qqd.ok _ _ _ ?_)
 unfold qqd qqd.j1 qqd.j3
 have cl:∀ i,((List.range i).filter fun i=>decide (0 < xs.getD i 0)).length≤i:=fun i=>Nat.le_trans (List.length_filter_le _ _) (by simp)
 refine qkg (fun (i:Nat) (o:Sl) (i':Int) w'=>i'=i∧i≤xs.length∧St F0 w0 w' (qcc 1 o (ivs .i64 (((List.range i).filter fun i=>decide (0 < xs.getD i 0)).map fun (i:Nat)=>(i:Int))) :: ps)) (fun i=>xs.length - i) 0 ⟨rfl,by omega,h.nil 1⟩ ?_
 clear h
 rintro i o i' wL I μ ⟨rfl,hi,h⟩ hin
 unfold qqd.b1
 refine qnc (fun g1=>?_) (fun g1=>?_)
 · have hix:i < xs.length:=by omega
   refine h.lx (s:=s) i rfl hix ?_
   have hcl:=cl i
   refine qnc (fun g2=>?_) (fun g2=>?_)
   · refine h.pushI (s:=o) (by rw [List.length_map]; omega) fun o2 w h=>?_
     refine qn (qd (by omega) (by omega)) ?_
     refine ⟨⟨rfl,rfl⟩,hin (i+1) _ _ _ ⟨by omega,by omega,?_⟩ (by omega)⟩
     rw [List.range_succ,List.filter_append,List.map_append]
     rw [show ([i].filter fun i=>decide (0 < xs.getD i 0))=[i] by simp only [List.filter_cons,List.filter_nil]; rw [if_pos (decide_eq_true g2)]]
     exact h
   · refine qn (qd (by omega) (by omega)) ?_
     refine ⟨⟨rfl,rfl⟩,hin (i+1) _ _ _ ⟨by omega,by omega,?_⟩ (by omega)⟩
     rw [List.range_succ,List.filter_append,List.map_append]
     rw [show ([i].filter fun i=>decide (0 < xs.getD i 0))=[] by simp only [List.filter_cons,List.filter_nil]; rw [if_neg (by simpa using g2)]]
     rw [List.map_nil,List.append_nil]
     exact h
 · have:i=xs.length:=by omega
   subst this
   unfold qqd.j2
   have hol:=h.len
   rw [ql,List.length_map] at hol
   refine hk o wL ?_ h
   unfold qhe
   omega
end
end Go.Proofs.YtejnemneenjliaaGreat
namespace Go.Proofs.YtejnemneenjliaaGreat
set_option linter.unusedVariables false
set_option linter.unusedSimpArgs false
theorem qtk {α:Type} {Q:List α→Prop} (h0:Q []) (h1:∀ a,Q [a]) (h2:∀ a b r,Q r→Q (a :: b :: r)):∀ l,Q l
 | []=>h0
 | [a]=>h1 a
 | a :: b :: r=>h2 a b r (qtk h0 h1 h2 r)
section
variable {α β:Type} {k:α→Int}
theorem ssort_srt_id {l:List α} (h:srt k l):qrd k l=l:=by
 have:∀ (l:List α),srt k l→qrd k l=l:=qgo (Q:=fun l=>srt k l→qrd k l=l) (fun _=>rfl) (fun l x ih h=>by
  have h':=List.pairwise_append.1 h
  rw [qni,ih h'.1]
  have:=insR_at (k:=k) (x:=x) (T1:=l) (T2:=[]) (fun y hy=>by have:=h'.2.2 y hy x (by simp); omega) (by simp)
  rwa [List.append_nil] at this)
 exact this l h
theorem insR_map {k':β→Int} {f:α→β} (hf:∀ a,k' (f a)=k a) (x:α) (l:List α):(insR k x l).map f=insR k' (f x) (l.map f):=by
 induction l with
 | nil=>rfl
 | cons y l ih =>
   rw [insR,List.map_cons,insR,hf,hf]
   split
   · rfl
   · rw [List.map_cons,ih]
theorem ssort_map {k':β→Int} {f:α→β} (hf:∀ a,k' (f a)=k a) (l:List α):(qrd k l).map f=qrd k' (l.map f) :=
 qgo (Q:=fun l=>(qrd k l).map f=qrd k' (l.map f)) rfl (fun l x ih=>by
  rw [qni,insR_map hf,ih,List.map_append,List.map_cons,List.map_nil,qni]) l
theorem mrg_take:∀ (m:Nat) (A B:List α),srt k A→m≤A.length+B.length→∃ c p,c+p=m∧c≤A.length∧p≤B.length∧((mrg k A B).take m).Perm (A.take c ++ B.take p)∧∀ (h:c < A.length),∀ b ∈ B.take p,k b < k A[c]:=by
 intro m
 induction m with
 | zero=>intro A B _ _; exact ⟨0,0,rfl,by omega,by omega,by simp,by simp⟩
 | succ m ih =>
   intro A B hA hm
   cases A with
   | nil =>
     rw [qsh]
     exact ⟨0,m+1,by omega,by omega,by simpa using hm,by simp,fun h=>by simp at h⟩
   | cons x A =>
     cases B with
     | nil =>
       rw [qnh]
       exact ⟨m+1,0,by omega,by simpa using hm,by omega,by simp,fun h b hb=>by simp at hb⟩
     | cons y B =>
       simp only [List.length_cons] at hm
       rw [qdh]
       by_cases hxy:k y < k x
       · rw [if_pos hxy]
         obtain ⟨c,p,h1,h2,h3,h4,h5⟩:=ih (x :: A) B hA (by simp only [List.length_cons]; omega)
         refine ⟨c,p+1,by omega,h2,by simp only [List.length_cons]; omega,?_,?_⟩
         · rw [List.take_succ_cons,List.take_succ_cons]
           exact (h4.cons y).trans (List.perm_middle).symm
         · intro h b hb
           rw [List.take_succ_cons] at hb
           rcases List.mem_cons.1 hb with rfl | hb
           · have hx:k x≤k (x :: A)[c]:=by
              cases c with
              | zero=>exact Int.le_refl _
              | succ c =>
                have:=(List.pairwise_cons.1 hA).1 ((x :: A)[c+1]) (by rw [List.getElem_cons_succ]; exact List.getElem_mem _)
                exact this
             omega
           · exact h5 h b hb
       · rw [if_neg hxy]
         obtain ⟨c,p,h1,h2,h3,h4,h5⟩:=ih A (y :: B) (List.pairwise_cons.1 hA).2 (by simp only [List.length_cons]; omega)
         refine ⟨c+1,p,by omega,by simp only [List.length_cons]; omega,h3,?_,?_⟩
         · rw [List.take_succ_cons,List.take_succ_cons]
           exact h4.cons x
         · intro h b hb
           rw [List.getElem_cons_succ]
           exact h5 (by simpa using h) b hb
end
abbrev Pg:=Int × List Nat
def gw (x:Pg):Int:=x.1
def qbl:List Pg→List Pg
 | a :: b :: r=>(a.1+b.1,a.2 ++ b.2) :: qbl r
 | _=>[]
def qqj (cs:List Pg):Nat→List Pg
 | 0=>[]
 | i+1=>qrd gw (cs ++ qbl (qqj cs i))
def qyf (l:List Pg):List Nat:=l.flatMap (·.2)
theorem qxr (a b:List Pg):qyf (a ++ b)=qyf a ++ qyf b:=by simp [qyf]
theorem qgj (a:Pg) (b:List Pg):qyf (a :: b)=a.2 ++ qyf b:=rfl
theorem qwr {a b:List Pg} (h:a.Perm b):(qyf a).Perm (qyf b):=by
 induction h with
 | nil=>exact List.Perm.refl _
 | cons x _ ih=>exact ih.append_left _
 | swap x y l =>
   show (y.2 ++ (x.2 ++ qyf l)).Perm (x.2 ++ (y.2 ++ qyf l))
   rw [← List.append_assoc,← List.append_assoc]
   exact List.perm_append_comm.append_right _
 | trans _ _ h1 h2=>exact h1.trans h2
theorem qfk:∀ l:List Pg,(qbl l).length=l.length / 2:=qtk rfl (fun a=>by simp [qbl]) (fun a b r ih=>by
 show (qbl r).length+1=(r.length+1+1) / 2
 omega)
theorem qkr:∀ (l:List Pg) (p:Nat),(qbl l).take p=qbl (l.take (2 * p)):=qtk (fun p=>by simp [qbl]) (fun a p=>by cases p <;> simp [qbl,show ∀ p,2 * (p+1)=2 * p+1+1 by omega]) (fun a b r ih p=>by
 cases p with
 | zero=>rfl
 | succ p =>
   rw [show 2 * (p+1)=2 * p+1+1 by omega,List.take_succ_cons,List.take_succ_cons,qbl,qbl,List.take_succ_cons,ih])
theorem flat_prsP:∀ l:List Pg,l.length % 2=0→qyf (qbl l)=qyf l:=qtk (fun _=>rfl) (fun a h=>by simp at h) (fun a b r ih h=>by
 simp only [List.length_cons] at h
 rw [qbl,qgj,qgj,qgj,ih (by omega),List.append_assoc])
theorem prsP_up:∀ l:List Pg,l.length % 2=0→(∀ y ∈ l,0 < gw y)→∀ x ∈ l,∃ b ∈ qbl l,gw x < gw b:=qtk (fun _ _ x hx=>by cases hx) (fun a h=>by simp at h) (fun a b r ih h hp x hx=>by
 simp only [List.length_cons] at h
 have ha:=hp a (by simp)
 have hb:=hp b (by simp)
 rcases List.mem_cons.1 hx with rfl | hx
 · exact ⟨_,by rw [qbl]; exact List.mem_cons_self,by show gw x < gw x+gw b; omega⟩
 · rcases List.mem_cons.1 hx with rfl | hx
   · exact ⟨_,by rw [qbl]; exact List.mem_cons_self,by show gw x < gw a+gw x; omega⟩
   · obtain ⟨c,h1,h2⟩:=ih (by omega) (fun y hy=>hp y (by simp [hy])) x hx
     exact ⟨c,by rw [qbl]; exact List.mem_cons_of_mem _ h1,h2⟩)
theorem prsP_pos:∀ l:List Pg,(∀ y ∈ l,0 < gw y)→∀ x ∈ qbl l,0 < gw x:=qtk (fun _ x hx=>by cases hx) (fun a _ x hx=>by cases hx) (fun a b r ih hp x hx=>by
 rw [qbl] at hx
 have ha:=hp a (by simp)
 have hb:=hp b (by simp)
 rcases List.mem_cons.1 hx with rfl | hx
 · show 0 < gw a+gw b; omega
 · exact ih (fun y hy=>hp y (by simp [hy])) x hx)
theorem prsP_ge (m:Int):∀ l:List Pg,(∀ y ∈ l,m≤gw y)→∀ x ∈ qbl l,m+m≤gw x:=qtk (fun _ x hx=>by cases hx) (fun a _ x hx=>by cases hx) (fun a b r ih hp x hx=>by
 rw [qbl] at hx
 have ha:=hp a (by simp)
 have hb:=hp b (by simp)
 rcases List.mem_cons.1 hx with rfl | hx
 · show m+m≤gw a+gw b; omega
 · exact ih (fun y hy=>hp y (by simp [hy])) x hx)
theorem prsP_srt:∀ l:List Pg,srt gw l→srt gw (qbl l):=qtk (fun _=>List.Pairwise.nil) (fun _ _=>List.Pairwise.nil) (fun a b r ih h=>by
 have h1:=List.pairwise_cons.1 h
 have h2:=List.pairwise_cons.1 h1.2
 rw [qbl]
 refine List.pairwise_cons.2 ⟨fun y hy=>?_,ih h2.2⟩
 have:=prsP_ge (gw b) r h2.1 y hy
 have hab:=h1.1 b (by simp)
 show gw a+gw b≤gw y
 omega)
section
variable {cs:List Pg}
theorem rowP_srt:∀ i,srt gw (qqj cs i):=by
 intro i
 cases i with
 | zero=>exact List.Pairwise.nil
 | succ i=>exact qri _
theorem rowP_mrg (i:Nat):qqj cs (i+1)=mrg gw (qrd gw cs) (qbl (qqj cs i)):=by
 rw [qqj,qhm,ssort_srt_id (prsP_srt _ (rowP_srt i))]
theorem rowP_pos (hp:∀ x ∈ cs,0 < gw x):∀ i,∀ x ∈ qqj cs i,0 < gw x:=by
 intro i
 induction i with
 | zero=>intro x hx; cases hx
 | succ i ih =>
   intro x hx
   rcases List.mem_append.1 ((qoi _).mem_iff.1 hx) with hx | hx
   · exact hp x hx
   · exact prsP_pos _ ih x hx
theorem qhr (i:Nat):(qqj cs (i+1)).length=cs.length+(qqj cs i).length / 2:=by
 rw [qqj,qhd,List.length_append,qfk]
theorem rowP_lt (h:1≤cs.length):∀ i,(qqj cs i).length < 2 * cs.length:=by
 intro i
 induction i with
 | zero=>simp only [qqj,List.length_nil]; omega
 | succ i ih=>rw [qhr]; omega
theorem rowP_many (h:1≤cs.length):∀ i,(2 * cs.length - (qqj cs i).length) * 2 ^ i < 2 * cs.length+2 ^ i:=by
 intro i
 induction i with
 | zero=>simp [qqj]
 | succ i ih =>
   have:=rowP_lt h i
   rw [qhr,Nat.pow_succ]
   generalize (qqj cs i).length=r at this ih
   have h2:2 * (2 * cs.length - (cs.length+r / 2))≤(2 * cs.length - r)+1:=by omega
   have h3:=Nat.mul_le_mul_right (2 ^ i) h2
   rw [Nat.add_mul,Nat.one_mul,Nat.mul_assoc,Nat.mul_comm 2,Nat.mul_assoc] at h3
   omega
theorem qir (h:1≤cs.length) {L:Nat} (hL:cs.length≤2 ^ L):2 * cs.length - 2≤(qqj cs L).length:=by
 have h1:=rowP_many h L
 have h2:(2 * cs.length - (qqj cs L).length) * 2 ^ L < 3 * 2 ^ L:=by omega
 have:=Nat.lt_of_mul_lt_mul_right h2
 omega
theorem sum_add {α:Type} (q:Nat) (g h:α→Nat):∀ (A:List α),(∀ s ∈ A,g s=q+h s)→(A.map g).sum=A.length * q+(A.map h).sum:=by
 intro A
 induction A with
 | nil=>intro _; simp
 | cons a A ih =>
   intro hA
   rw [List.map_cons,List.sum_cons,List.map_cons,List.sum_cons,ih (fun s hs=>hA s (by simp [hs])),hA a (by simp),List.length_cons,Nat.add_mul,Nat.one_mul]
   omega
theorem sum_same {α:Type} (g h:α→Nat) (A:List α) (e:∀ s ∈ A,g s=h s):(A.map g).sum=(A.map h).sum:=by
 rw [List.map_congr_left e]
theorem count_nodup {s:Nat}:∀ {l:List Nat},l.Nodup→s ∈ l→l.count s=1:=by
 intro l
 induction l with
 | nil=>intro _ h; cases h
 | cons a l ih =>
   intro hn h
   have hn:=List.nodup_cons.1 hn
   rcases List.mem_cons.1 h with rfl | h
   · rw [List.count_cons_self,List.count_eq_zero.2 hn.1]
   · rw [List.count_cons_of_ne (fun e=>hn.1 (by rw [e]; exact h)),ih hn.2 h]
theorem flat_take:∀ {l:List Pg} (c:Nat),(∀ x ∈ l,x.2.length=1)→qyf (l.take c)=(qyf l).take c:=by
 intro l
 induction l with
 | nil=>intro c _; simp [qyf]
 | cons a l ih =>
   intro c h
   cases c with
   | zero=>rfl
   | succ c =>
     obtain ⟨s,hs⟩:=List.length_eq_one_iff.1 (h a (by simp))
     rw [List.take_succ_cons,qgj,qgj,ih c (fun x hx=>h x (by simp [hx])),hs]
     rfl
theorem flat_len:∀ {l:List Pg},(∀ x ∈ l,x.2.length=1)→(qyf l).length=l.length:=by
 intro l
 induction l with
 | nil=>intro _; rfl
 | cons a l ih =>
   intro h
   rw [qgj,List.length_append,h a (by simp),ih (fun x hx=>h x (by simp [hx])),List.length_cons]; omega
def Tk3 (cs:List Pg) (i m:Nat):Prop:=∃ c,c≤cs.length∧(2 * cs.length - 2≤m→c=cs.length)∧(∀ x ∈ (qrd gw cs).take c,x ∈ (qqj cs i).take m) ∧
 (∀ s ∈ (qyf (qrd gw cs)).take c,0 < (qyf ((qqj cs i).take m)).count s∧(qyf ((qqj cs i).take m)).count s≤i) ∧
 (∀ s,s ∉ (qyf (qrd gw cs)).take c→(qyf ((qqj cs i).take m)).count s=0) ∧
 ((qyf (qrd gw cs)).map fun s=>2 ^ (i+1) - 2 ^ (i+1 - (qyf ((qqj cs i).take m)).count s)).sum=m * 2 ^ i
theorem takes (hn:2≤cs.length) (hp:∀ x ∈ cs,0 < gw x) (h1:∀ x ∈ cs,x.2.length=1) (hd:(qyf cs).Nodup):∀ i m,m≤(qqj cs i).length→Tk3 cs i m:=by
 have hS:∀ x ∈ qrd gw cs,x.2.length=1:=fun x hx=>h1 x ((qoi _).mem_iff.1 hx)
 have hSd:(qyf (qrd gw cs)).Nodup:=(qwr (qoi cs)).symm.nodup hd
 have hSl:(qyf (qrd gw cs)).length=cs.length:=by rw [flat_len hS,qhd]
 intro i
 induction i with
 | zero =>
   intro m hm
   have:m=0:=by simpa [qqj] using hm
   subst this
   refine ⟨0,by omega,fun h=>by omega,by simp,by simp,by simp [qqj,qyf],?_⟩
   rw [Nat.zero_mul,sum_same _ (fun _=>0) _ (fun s _=>by simp [qqj,qyf])]
   generalize qyf (qrd gw cs)=l
   induction l with
   | nil=>rfl
   | cons a l ih=>simpa using ih
 | succ i ih =>
   intro m hm
   rw [rowP_mrg,qft _ _ _ rfl] at hm
   obtain ⟨c,p,hcp,hc,hpB,hperm,hlt⟩:=mrg_take (k:=gw) m (qrd gw cs) (qbl (qqj cs i)) (qri _) hm
   rw [qhd] at hc
   have hpB':=hpB
   rw [qfk] at hpB'
   obtain ⟨c',hc',hall,hmem,hcnt,hno,hsum⟩:=ih (2 * p) (by omega)
   have hl2:((qqj cs i).take (2 * p)).length=2 * p:=by rw [List.length_take]; omega
   have hcc:c'≤c:=by
    rcases Nat.lt_or_ge c c' with hlt2 | hge
    · exfalso
      have hcS:c < (qrd gw cs).length:=by rw [qhd]; omega
      have hx:(qrd gw cs)[c] ∈ (qqj cs i).take (2 * p):=hmem _ (List.mem_take_iff_getElem.2 ⟨c,by omega,rfl⟩)
      obtain ⟨b,hb,hlt3⟩:=prsP_up _ (by rw [hl2]; omega) (fun y hy=>rowP_pos hp i y (List.mem_of_mem_take hy)) _ hx
      rw [← qkr] at hb
      have:=hlt hcS b hb
      omega
    · exact hge
   have hF:∀ s,(qyf ((qqj cs (i+1)).take m)).count s=((qyf (qrd gw cs)).take c).count s+(qyf ((qqj cs i).take (2 * p))).count s:=by
    intro s
    rw [rowP_mrg,(qwr hperm).count_eq,qxr,List.count_append,flat_take _ hS,qkr,flat_prsP _ (by rw [hl2]; omega)]
   have hin:∀ s,s ∈ (qyf (qrd gw cs)).take c→((qyf (qrd gw cs)).take c).count s=1:=fun s hs=>count_nodup (hSd.sublist (List.take_sublist _ _)) hs
   have hbd:∀ s,(qyf ((qqj cs i).take (2 * p))).count s≤i:=by
    intro s
    by_cases hs:s ∈ (qyf (qrd gw cs)).take c'
    · exact (hcnt s hs).2
    · rw [hno s hs]; omega
   have hno2:∀ s,s ∉ (qyf (qrd gw cs)).take c→(qyf ((qqj cs i).take (2 * p))).count s=0:=fun s hs=>hno s fun h=>hs (by
    have:(qyf (qrd gw cs)).take c'=((qyf (qrd gw cs)).take c).take c':=by rw [List.take_take,Nat.min_eq_left hcc]
    rw [this] at h
    exact List.mem_of_mem_take h)
   refine ⟨c,hc,?_,?_,?_,?_,?_⟩
   · intro h2
     have hrl:=rowP_lt (cs:=cs) (by omega) i
     rcases Nat.lt_or_ge c cs.length with hlt2 | hge
     · have:p=cs.length - 1:=by omega
       have:=hall (by omega)
       omega
     · omega
   · intro x hx
     rw [rowP_mrg]
     exact hperm.mem_iff.2 (List.mem_append_left _ hx)
   · intro s hs
     rw [hF,hin s hs]
     have:=hbd s
     omega
   · intro s hs
     rw [hF,List.count_eq_zero.2 hs,hno2 s hs]
   · have e:=List.take_append_drop c (qyf (qrd gw cs))
     have hdis:∀ s ∈ (qyf (qrd gw cs)).drop c,s ∉ (qyf (qrd gw cs)).take c:=by
      intro s hs hs2
      rw [← e] at hSd
      exact (List.nodup_append.1 hSd).2.2 s hs2 s hs rfl
     have hcl:((qyf (qrd gw cs)).take c).length=c:=by rw [List.length_take,hSl]; omega
     rw [← e,List.map_append,List.sum_append] at hsum ⊢
     rw [sum_add (2 ^ (i+1)) _ (fun s=>2 ^ (i+1) - 2 ^ (i+1 - (qyf ((qqj cs i).take (2 * p))).count s)) ((qyf (qrd gw cs)).take c) (fun s hs=>?_),
      sum_same _ (fun s=>2 ^ (i+1) - 2 ^ (i+1 - (qyf ((qqj cs i).take (2 * p))).count s)) ((qyf (qrd gw cs)).drop c) (fun s hs=>?_),Nat.add_assoc,hsum,hcl]
     · rw [← hcp,Nat.pow_succ,Nat.add_mul,Nat.mul_comm 2 p,Nat.mul_assoc p,Nat.mul_comm 2]
     rotate_left
     · rw [hF,hin s hs]
       have hb:=hbd s
       generalize (qyf ((qqj cs i).take (2 * p))).count s=f at hb
       rw [show i+1+1 - (1+f)=i+1 - f by omega]
       have h3:2 ^ (i+1 - f)≤2 ^ (i+1):=Nat.pow_le_pow_right (by omega) (by omega)
       rw [Nat.pow_succ 2 (i+1)]
       omega
     · rw [hF,List.count_eq_zero.2 (hdis s hs),hno2 s (hdis s hs)]
       simp
theorem full (hn:2≤cs.length) (hp:∀ x ∈ cs,0 < gw x) (h1:∀ x ∈ cs,x.2.length=1) (hd:(qyf cs).Nodup) {L:Nat} (hL:cs.length≤2 ^ L) :
 (∀ s ∈ qyf cs,0 < (qyf ((qqj cs L).take (2 * cs.length - 2))).count s∧(qyf ((qqj cs L).take (2 * cs.length - 2))).count s≤L) ∧
 (∀ s,s ∉ qyf cs→(qyf ((qqj cs L).take (2 * cs.length - 2))).count s=0) ∧
 ∀ K,L≤K→((qyf cs).map fun s=>2 ^ (K - (qyf ((qqj cs L).take (2 * cs.length - 2))).count s)).sum=2 ^ K:=by
 have hS:∀ x ∈ qrd gw cs,x.2.length=1:=fun x hx=>h1 x ((qoi _).mem_iff.1 hx)
 have hSl:(qyf (qrd gw cs)).length=cs.length:=by rw [flat_len hS,qhd]
 have hpm:(qyf (qrd gw cs)).Perm (qyf cs):=qwr (qoi cs)
 obtain ⟨c,hc,hall,hmem,hcnt,hno,hsum⟩:=takes hn hp h1 hd L (2 * cs.length - 2) (qir (by omega) hL)
 have hc:=hall (Nat.le_refl _)
 rw [hc,← hSl,List.take_length,hSl] at hcnt hno
 generalize (qqj cs L).take (2 * cs.length - 2)=R at *
 refine ⟨fun s hs=>hcnt s (hpm.mem_iff.2 hs),fun s hs=>hno s (fun h=>hs (hpm.mem_iff.1 h)),fun K hK=>?_⟩
 rw [← (hpm.map _).sum_nat]
 have e1:∀ (l:List Nat),(∀ s ∈ l,(qyf R).count s≤L∧0 < (qyf R).count s)→(l.map fun s=>2 ^ (L+1) - 2 ^ (L+1 - (qyf R).count s)).sum+2 * (l.map fun s=>2 ^ (L - (qyf R).count s)).sum=l.length * 2 ^ (L+1):=by
  intro l
  induction l with
  | nil=>intro _; simp
  | cons a l ih =>
    intro h
    have ha:=h a (by simp)
    have:=ih (fun s hs=>h s (by simp [hs]))
    simp only [List.map_cons,List.sum_cons,List.length_cons]
    have h3:2 ^ (L+1 - (qyf R).count a)=2 * 2 ^ (L - (qyf R).count a):=by
     rw [show L+1 - (qyf R).count a=(L - (qyf R).count a)+1 by omega,Nat.pow_succ,Nat.mul_comm]
    have h4:2 ^ (L+1 - (qyf R).count a)≤2 ^ (L+1):=Nat.pow_le_pow_right (by omega) (by omega)
    rw [Nat.add_mul,Nat.one_mul]
    omega
 have e2:=e1 _ (fun s hs=>⟨(hcnt s hs).2,(hcnt s hs).1⟩)
 rw [hsum,hSl,Nat.pow_succ] at e2
 have e3:((qyf (qrd gw cs)).map fun s=>2 ^ (L - (qyf R).count s)).sum=2 ^ L:=by
  have:(2 * cs.length - 2) * 2 ^ L+2 * 2 ^ L=cs.length * (2 ^ L * 2):=by
   rw [← Nat.add_mul,show 2 * cs.length - 2+2=cs.length * 2 by omega,Nat.mul_assoc,Nat.mul_comm 2]
  omega
 have e4:∀ (l:List Nat),(∀ s ∈ l,(qyf R).count s≤L)→(l.map fun s=>2 ^ (K - (qyf R).count s)).sum=2 ^ (K - L) * (l.map fun s=>2 ^ (L - (qyf R).count s)).sum:=by
  intro l
  induction l with
  | nil=>intro _; simp
  | cons a l ih =>
    intro h
    have ha:=h a (by simp)
    simp only [List.map_cons,List.sum_cons]
    rw [ih (fun s hs=>h s (by simp [hs])),Nat.mul_add,← Nat.pow_add,show K - L+(L - (qyf R).count a)=K - (qyf R).count a by omega]
 rw [e4 _ (fun s hs=>(hcnt s hs).2),e3,← Nat.pow_add,show K - L+L=K by omega]
end
end Go.Proofs.YtejnemneenjliaaGreat
namespace Go.Proofs.YtejnemneenjliaaGreat
set_option linter.unusedVariables false
set_option linter.unusedSimpArgs false
def cnt (t:Int) (l:List Int):Nat:=l.countP fun x=>decide (x≤t)
def coinsP (xs:List Int):List Pg:=(qhe xs).map fun i=>(xs.getD i 0,[i])
def lenF (xs:List Int) (m:Nat) (i:Nat):Nat :=
 if (qhe xs).length < 2 then (if 0 < xs.getD i 0 then 1 else 0) else (qyf ((qqj (coinsP xs) m).take (2 * (qhe xs).length - 2))).count i
def lenP (xs:List Int) (m:Nat):List Int:=qfj xs.length fun i=>lenF xs m i
theorem qin (xs:List Int):qyf (coinsP xs)=qhe xs:=by
 unfold coinsP
 generalize qhe xs=l
 induction l with
 | nil=>rfl
 | cons a l ih=>rw [List.map_cons,qgj,ih]; rfl
theorem qce (xs:List Int):(coinsP xs).length=(qhe xs).length:=by simp [coinsP]
theorem qgi {xs:List Int} {i:Nat}:i ∈ qhe xs ↔ i < xs.length∧0 < xs.getD i 0:=by
 unfold qhe; simp
theorem qot (xs:List Int):(qhe xs).Nodup:=List.nodup_range.sublist List.filter_sublist
theorem coins_one (xs:List Int):∀ x ∈ coinsP xs,x.2.length=1:=by
 intro x hx
 obtain ⟨i,_,rfl⟩:=List.mem_map.1 hx
 rfl
theorem coins_pos (xs:List Int):∀ x ∈ coinsP xs,0 < gw x:=by
 intro x hx
 obtain ⟨i,h,rfl⟩:=List.mem_map.1 hx
 exact (qgi.1 h).2
theorem qaj (xs:List Int) (m:Nat):(lenP xs m).length=xs.length:=qad _ _
theorem qmr {xs:List Int} {m i:Nat} (h:i < xs.length):(lenP xs m).getD i 0=lenF xs m i:=qbf (f:=fun i=>(lenF xs m i:Int)) h
theorem flat_lt {cs:List Pg} {n:Nat} (h:∀ x ∈ cs,∀ s ∈ x.2,s < n):∀ i,∀ x ∈ qqj cs i,∀ s ∈ x.2,s < n:=by
 have hp:∀ l:List Pg,(∀ x ∈ l,∀ s ∈ x.2,s < n)→∀ x ∈ qbl l,∀ s ∈ x.2,s < n:=qtk (fun _ x hx=>by cases hx) (fun a _ x hx=>by cases hx) (fun a b r ih h x hx=>by
  rw [qbl] at hx
  have ha:=h a (by simp)
  have hb:=h b (by simp)
  rcases List.mem_cons.1 hx with rfl | hx
  · intro s hs
    rcases List.mem_append.1 hs with hs | hs
    · exact ha s hs
    · exact hb s hs
  · exact ih (fun y hy=>h y (by simp [hy])) x hx)
 intro i
 induction i with
 | zero=>intro x hx; cases hx
 | succ i ih =>
   intro x hx
   rcases List.mem_append.1 ((qoi _).mem_iff.1 hx) with hx | hx
   · exact h x hx
   · exact hp _ ih x hx
theorem lenF_ok {xs:List Int} {m:Nat} (h:(qhe xs).length≤2 ^ m) (hm:1≤m) {i:Nat} (hi:i < xs.length):lenF xs m i≤m∧(0 < lenF xs m i ↔ 0 < xs.getD i 0):=by
 unfold lenF
 by_cases hc:(qhe xs).length < 2
 · rw [if_pos hc]; split <;> omega
 · rw [if_neg hc]
   obtain ⟨h1,h2,_⟩:=full (cs:=coinsP xs) (by rw [qce]; omega) (coins_pos xs) (coins_one xs) (by rw [qin]; exact qot xs) (L:=m) (by rw [qce]; exact h)
   rw [qce,qin] at h1 h2
   by_cases hx:0 < xs.getD i 0
   · have:=h1 i (qgi.2 ⟨hi,hx⟩); omega
   · have:=h2 i (fun h=>hx (qgi.1 h).2); omega
theorem lenF_full {xs:List Int} {m:Nat} (h:(qhe xs).length≤2 ^ m) (hc:2≤(qhe xs).length) (K:Nat) (hK:m≤K):((qhe xs).map fun i=>2 ^ (K - lenF xs m i)).sum=2 ^ K:=by
 obtain ⟨_,_,h3⟩:=full (cs:=coinsP xs) (by rw [qce]; omega) (coins_pos xs) (coins_one xs) (by rw [qin]; exact qot xs) (L:=m) (by rw [qce]; exact h)
 rw [qce,qin] at h3
 rw [← h3 K hK]
 congr 1
 refine List.map_congr_left fun i hi=>?_
 unfold lenF
 rw [if_neg (by omega)]
theorem come_sum (xs:List Int) (p:Nat→Bool) (g:Nat→Nat) (n:Nat):((List.range n).map fun i=>if p i then g i else 0).sum=(((List.range n).filter p).map g).sum:=by
 generalize List.range n=l
 induction l with
 | nil=>rfl
 | cons a l ih =>
   rw [List.map_cons,List.sum_cons,ih,List.filter_cons]
   cases p a <;> simp
end Go.Proofs.YtejnemneenjliaaGreat
namespace Go.Proofs.YtejnemneenjliaaGreat
open Go Go.Proofs
set_option linter.unusedVariables false
set_option linter.unusedSimpArgs false
attribute [local irreducible] apK cpK mkK br
section
variable {F0:List Nat} {w0 w:World} {ps rest:List As} {s:Sl} {l:List Int}
def goodX (xs:List Int):Prop:=xs.length≤288∧∀ x ∈ xs,¬ badN x
instance (xs:List Int):Decidable (goodX xs):=inferInstanceAs (Decidable (_∧_))
def leastE (xs:List Int) (m:Int):Int:=if ¬ goodX xs ∨ m < 1 ∨ 15 < m then 1 else if 2 ^ m.toNat < (qhe xs).length then 7 else 0
theorem qmp (xs:List Int):(qhe xs).length≤xs.length:=Nat.le_trans (List.length_filter_le _ _) (by simp)
end
end Go.Proofs.YtejnemneenjliaaGreat
namespace Go.Proofs.YtejnemneenjliaaGreat
open Go Go.Proofs
set_option linter.unusedVariables false
set_option linter.unusedSimpArgs false
attribute [local irreducible] apK cpK mkK br
class Rec {α:Type} (f:α→List Value) (sz:outParam Nat):Prop where
 len:∀ x,(f x).length=sz
 sto:∀ x,∀ v ∈ f x,storable v
 pos:0 < sz
class EltR (P:Program) (e:TypeId) (sz:outParam Nat) (z:outParam (List Value)):Prop where
 info:∃ i,P.info? e=some i∧i.size=sz∧i.bytes ≠ 0∧i.bytes≤1024
 zc:Go.Proofs.YtejnemneenjliaaGreat.zc P e=⟨z⟩
 len:z.length=sz
 pos:0 < sz
section
variable {α:Type} {f:α→List Value} {sz:Nat}
theorem qio (x:α) (L:List α):(x :: L).flatMap f=f x ++ L.flatMap f:=rfl
theorem qbt (L M:List α):(L ++ M).flatMap f=L.flatMap f ++ M.flatMap f:=List.flatMap_append
theorem rws_one (x:α):[x].flatMap f=f x:=by simp
theorem qjm [i:Rec f sz] (L:List α):(L.flatMap f).length=L.length * sz:=by
 induction L with
 | nil=>simp
 | cons x L ih=>rw [qio,List.length_append,ih,i.len,List.length_cons,Nat.add_mul]; omega
theorem rws_sto [i:Rec f sz] (L:List α):∀ v ∈ (⟨L.flatMap f⟩:Array Value),storable v:=by
 intro v hv
 have hv:v ∈ L.flatMap f:=by simpa using hv
 obtain ⟨x,_,hx⟩:=List.mem_flatMap.1 hv
 exact i.sto x v hx
theorem rws_get [i:Rec f sz]:∀ {L:List α} {j o:Nat} (hj:j < L.length),o < sz→(L.flatMap f)[j * sz+o]?=(f L[j])[o]?:=by
 intro L
 induction L with
 | nil=>intro j o hj; simp at hj
 | cons x L ih =>
   intro j o hj ho
   rw [qio]
   cases j with
   | zero=>rw [Nat.zero_mul,Nat.zero_add,List.getElem?_append_left (by rw [i.len]; exact ho)]; rfl
   | succ j =>
     rw [List.getElem?_append_right (by rw [i.len,Nat.add_mul]; omega),i.len,show (j+1) * sz+o - sz=j * sz+o by rw [Nat.add_mul]; omega,ih (by simpa using hj) ho]
     rfl
theorem rws_take [i:Rec f sz]:∀ (L:List α) (n:Nat),(L.flatMap f).take (n * sz)=(L.take n).flatMap f:=by
 intro L
 induction L with
 | nil=>intro n; simp
 | cons x L ih =>
   intro n
   cases n with
   | zero=>simp
   | succ n =>
     rw [List.take_succ_cons,qio,qio,← ih n,List.take_append,List.take_of_length_le (by rw [i.len,Nat.add_mul]; omega),i.len,show (n+1) * sz - sz=n * sz by rw [Nat.add_mul]; omega]
theorem rws_drop [i:Rec f sz]:∀ (L:List α) (n:Nat),(L.flatMap f).drop (n * sz)=(L.drop n).flatMap f:=by
 intro L
 induction L with
 | nil=>intro n; simp
 | cons x L ih =>
   intro n
   cases n with
   | zero=>simp
   | succ n =>
     rw [List.drop_succ_cons,qio,← ih n,List.drop_append,List.drop_eq_nil_of_le (by rw [i.len,Nat.add_mul]; omega),i.len,show (n+1) * sz - sz=n * sz by rw [Nat.add_mul]; omega,List.nil_append]
end
section
variable {F0:List Nat} {w0 w:World} {ps rest:List As} {P:Program} {e:TypeId} {α:Type} {f:α→List Value} {sz:Nat} {z:List Value} {s:Sl} {L:List α}
theorem Rd.rcell [i:Rec f sz] (h:Rd w sz s (L.flatMap f)) {a0:Addr} (ha:s.a=some a0) {j o:Nat} (hj:j < L.length) (ho:o < sz):w.cell? ((a0.add (j * sz)).add o)=(f L[j])[o]?:=by
 have hb:(j+1) * sz≤L.length * sz:=Nat.mul_le_mul_right _ hj
 rw [Nat.add_mul,Nat.one_mul] at hb
 rw [qzm,h.cell ha (by rw [qjm]; omega),rws_get hj ho]
theorem St.rix [i:Rec f sz] (h:St F0 w0 w ps) [Rdb F0 w0 s ps sz (L.flatMap f)] {n:Int} {K:Addr→Prop} (j:Nat) (hi:n=j) (hj:j < L.length) (hk:∀ a0,s.a=some a0→K (a0.add (j * sz))):ixS s.a s.len n sz K:=by
 subst hi
 have hr:=h.rdb s
 have hl:=hr.1
 rw [qjm] at hl
 have:=Nat.eq_of_mul_eq_mul_right i.pos hl
 refine hr.ix i.pos (by omega) (by omega) fun a ha=>?_
 rw [Int.toNat_natCast]
 exact hk a ha
theorem St.rlen [i:Rec f sz] (h:St F0 w0 w ps) [Rdb F0 w0 s ps sz (L.flatMap f)]:L.length=s.len:=by
 have hl:=(h.rdb s).1
 rw [qjm] at hl
 exact Nat.eq_of_mul_eq_mul_right i.pos hl
theorem Rd.rI {k:IntKind} [i:Rec f sz] (h:Rd w sz s (L.flatMap f)) {a0:Addr} {v:Int} {K:Int→Prop} (ha:s.a=some a0) {j o:Nat} (hj:j < L.length) (ho:o < sz) (hv:(f L[j])[o]?=some (.int k v)) (hk:K v):Go.Proofs.YtejnemneenjliaaGreat.ldI k w ((a0.add (j * sz)).add o) K :=
 ldI_c (by rw [h.rcell ha hj ho]; exact hv) hk
theorem Rd.rL [i:Rec f sz] (h:Rd w sz s (L.flatMap f)) {a0:Addr} {v:Sl} {K:Sl→Prop} (ha:s.a=some a0) {j o:Nat} (hj:j < L.length) (ho:o < sz) (hv:(f L[j])[o]?=some (.slice v.a v.len v.cap)) (hk:K v):Go.Proofs.YtejnemneenjliaaGreat.ldL w ((a0.add (j * sz)).add o) K :=
 ldL_c (by rw [h.rcell ha hj ho]; exact hv) hk
theorem Rd.rA [i:Rec f sz] (h:Rd w sz s (L.flatMap f)) {a0:Addr} {K:Array Value→Prop} (ha:s.a=some a0) {j:Nat} (hj:j < L.length) (hk:K ⟨f L[j]⟩):Go.Proofs.YtejnemneenjliaaGreat.ldA w (a0.add (j * sz)) sz K:=by
 refine ⟨⟨f L[j]⟩,i.len _,fun o ho=>?_,hk⟩
 rw [h.rcell ha hj ho]
 simp
theorem St.lr [i:Rec f sz] (h:St F0 w0 w ps) [Rdb F0 w0 s ps sz (L.flatMap f)] {n:Int} {K:Array Value→Prop} (j:Nat) (hi:n=j) (hj:j < L.length) (hk:K ⟨f L[j]⟩):ixS s.a s.len n sz fun a=>ldA w a sz K :=
 h.rix j hi hj fun a0 ha=>(h.rdb s).rA ha hj hk
theorem St.lrI {k:IntKind} [i:Rec f sz] (h:St F0 w0 w ps) [Rdb F0 w0 s ps sz (L.flatMap f)] {n v:Int} {o:Nat} {K:Int→Prop} (j:Nat) (hi:n=j) (hj:j < L.length) (ho:o < sz) (hv:(f L[j])[o]?=some (.int k v)) (hk:K v):ixS s.a s.len n sz fun a=>Go.Proofs.YtejnemneenjliaaGreat.ldI k w (a.add o) K :=
 h.rix j hi hj fun a0 ha=>(h.rdb s).rI ha hj ho hv hk
theorem rec_room {b n:Nat} (hb:b≤1024) (hn:n≤1000000000):(2 * n+1024) * b≤281474976710656:=by
 refine Nat.le_trans (Nat.mul_le_mul_left _ hb) ?_
 omega
theorem St.pushR [i:Rec f sz] [he:EltR P e sz z] (h:St F0 w0 w ps) [PkO s ps sz (L.flatMap f) rest] {x:α} {c:Array Value} {K:Sl→World→Prop} (hlen:L.length≤999999999) (hc:c=⟨f x⟩)
 (hk:∀ s' w',s'.len=s.len+1→St F0 w0 w' (qcc sz s' ((L ++ [x]).flatMap f) :: rest)→K s' w') :
 lt (⟨World.heapSize w,0,none⟩:Addr) fun a=>lt (World.alloc w (.cells c e)) fun w1=>rdO w1 (some a) (1 * sz) fun c=>apK P e w1 s.a s.len s.cap 1 c K:=by
 subst hc
 refine (h.toO s).new fun nb w h=>?_
 have h:St F0 w0 w (qzc nb (f x) :: qcc sz s (L.flatMap f) :: rest):=h
 refine h.rdB (by rw [i.len,Nat.one_mul]) ?_
 have h:=h.drop
 have hl:=h.len
 rw [qjm] at hl
 have hl:=Nat.eq_of_mul_eq_mul_right i.pos hl
 obtain ⟨t,h1,h2,h3,h4⟩:=he.info
 refine St.append (i:=t) (sz:=sz) (m:=1) h1 h2 i.pos (by rw [he.zc]; exact he.len) h3 (rec_room h4 (by omega)) h (by show (f x).length=_; rw [i.len,Nat.one_mul]) (fun v hv=>i.sto x v (by simpa using hv)) fun s' w' h hl'=>hk s' w' hl' (by rw [qbt,rws_one]; exact h)
theorem St.appR [i:Rec f sz] [he:EltR P e sz z] (h:St F0 w0 w ps) [PkO s ps sz (L.flatMap f) rest] {s2:Sl} {M:List α} [Rdb F0 w0 s2 ps sz (M.flatMap f)] {K:Sl→World→Prop} (hlen:L.length+M.length≤999999999)
 (hk:∀ s' w',s'.len=s.len+M.length→St F0 w0 w' (qcc sz s' ((L ++ M).flatMap f) :: rest)→K s' w') :
 rdO w s2.a (s2.len * sz) fun c=>apK P e w s.a s.len s.cap s2.len c K:=by
 have hr:=h.rdb s2
 have hl:=hr.1
 refine hr.rdO hl.symm ?_
 rw [qjm] at hl
 have hl:=Nat.eq_of_mul_eq_mul_right i.pos hl
 have h:=h.toO s
 have hl2:=h.len
 rw [qjm] at hl2
 have hl2:=Nat.eq_of_mul_eq_mul_right i.pos hl2
 obtain ⟨t,h1,h2,h3,h4⟩:=he.info
 refine St.append (i:=t) (sz:=sz) (m:=s2.len) h1 h2 i.pos (by rw [he.zc]; exact he.len) h3 (rec_room h4 (by omega)) h (by show (M.flatMap f).length=_; rw [qjm,hl]) (rws_sto M) fun s' w' h hl'=>hk s' w' (by omega) (by rw [qbt]; exact h)
theorem St.ownBR {nb n:Nat} {l:List Value} (h:St F0 w0 w (qzc nb l :: ps)) (hn:l.length=n * sz):St F0 w0 w (qcc sz ⟨some ⟨nb,0,none⟩,n,n⟩ l :: ps):=by
 refine h.mp ?_
 rintro F ⟨hb,rfl⟩
 exact Or.inr ⟨nb,[],rfl,by simpa using hb,hn,by simpa using hn,rfl⟩
theorem St.cloneR [i:Rec f sz] [he:EltR P e sz z] (h:St F0 w0 w ps) {s2:Sl} {M:List α} [Rdb F0 w0 s2 ps sz (M.flatMap f)] {K:Sl→World→Prop} (hlen:M.length≤999999999)
 (hk:∀ s' w',s'.len=M.length→St F0 w0 w' (qcc sz s' (M.flatMap f) :: ps)→K s' w') :
 lt (⟨World.heapSize w,0,none⟩:Addr) fun a=>lt (World.alloc w (.cells ⟨[]⟩ e)) fun w1=>rdO w1 s2.a (s2.len * sz) fun c=>apK P e w1 (some a) 0 0 s2.len c K:=by
 refine h.new fun nb w h=>?_
 have h:St F0 w0 w (qzc nb [] :: ps):=h
 have h:St F0 w0 w (qcc sz ⟨some ⟨nb,0,none⟩,0,0⟩ (([]:List α).flatMap f) :: ps):=h.ownBR (n:=0) (by simp)
 exact St.appR (s:=⟨some ⟨nb,0,none⟩,0,0⟩) (L:=([]:List α)) h (by simpa using hlen) fun s' w' h1 h=>hk s' w' (by simpa using h1) (by simpa using h)
theorem St.isnil [i:Rec f sz] (h:St F0 w0 w ps) [Rdb F0 w0 s ps sz (L.flatMap f)] (hn:s.a=none):L=[]:=by
 have hr:=h.rdb s
 cases L with
 | nil=>rfl
 | cons x L =>
   exfalso
   obtain ⟨a,ha,_⟩:=hr.2 0 (by rw [qjm,List.length_cons,Nat.add_mul]; have:=i.pos; omega)
   rw [hn] at ha
   cases ha
theorem St.cutRR [i:Rec f sz] (h:St F0 w0 w ps) (s:Sl) [hr:Rdb F0 w0 s ps sz (L.flatMap f)] (n m c':Nat) (hm:m≤s.len) (hn:n≤m) (hc:s.len≤s.cap):Rdb F0 w0 ⟨qgf s.a s.cap n sz,m - n,c'⟩ ps sz (((L.drop n).take (m - n)).flatMap f):=⟨fun h=>by
 have:=(hr.rd h).cut (n:=n) (m:=m) i.pos hm hn hc c'
 rw [rws_drop,rws_take] at this
 exact this⟩
theorem St.setR [i:Rec f sz] {b:Nat} {l:List Value} {x:α} {K:World→Prop} (h:St F0 w0 w (qzc b l :: ps)) (hl:l.length=sz) (hk:∀ w',St F0 w0 w' (qzc b (f x) :: ps)→K w'):Go.Proofs.YtejnemneenjliaaGreat.stA w ⟨b,0,none⟩ ⟨f x⟩ K :=
 h.sA (b:=b) hl (i.len x) (fun v hv=>i.sto x v (by simpa using hv)) hk
end
end Go.Proofs.YtejnemneenjliaaGreat
namespace Go.Proofs.YtejnemneenjliaaGreat
open Go Go.Proofs
set_option linter.unusedVariables false
set_option linter.unusedSimpArgs false
attribute [local irreducible] apK cpK mkK br
section
variable {F0:List Nat} {w0 w:World} {ps rest:List As} {s:Sl}
theorem St.front {sz:Nat} {cs:List Value} (h:St F0 w0 w (qcc sz s cs :: ps)) (m:Nat) (hm:m≤s.len):St F0 w0 w (qcc sz ⟨qgf s.a s.cap 0 sz,m - 0,s.cap - 0⟩ (cs.take (m * sz)) :: ps):=by
 refine h.mp ?_
 rintro F (⟨rfl,rfl,rfl⟩ | ⟨ob,rs,h1,hb,h2,h3,rfl⟩)
 · have:m=0:=by simpa using hm
   subst this
   exact Or.inl ⟨rfl,by simp,rfl⟩
 · refine Or.inr ⟨ob,cs.drop (m * sz) ++ rs,?_,?_,?_,?_,rfl⟩
   · show qgf s.a s.cap 0 sz=_
     unfold qgf
     rw [h1]
     split
     · rfl
     · rw [Option.map_some,qvf,Nat.zero_mul]
   · rw [← List.append_assoc,List.take_append_drop]; exact hb
   · rw [List.length_take,h2]
     exact Nat.min_eq_left (Nat.mul_le_mul_right _ hm)
   · rw [← List.append_assoc,List.take_append_drop]; exact h3
theorem qsg.c {n:Nat} {K:Ending→World→Prop} (h:St F0 w0 w ps) (hn:n≤1000000)
 (hk:∀ t w',t.len=0→St F0 w0 w' (qcc 1 t (ivs .i64 []) :: ps)→K (.returned (.slice t.a t.len t.cap)) w'):Calls Tryz.prog 300 ⟨[.slice none 0 0,.int .i64 n]⟩ w K:=by
 refine qfc (qsg.ok ⟨none,0,0⟩ _ _ _ ?_)
 unfold qsg
 dsimp only
 refine qnc (fun g=>by omega) (fun _=>?_)
 refine qn (qd (by omega) (by omega)) ?_
 refine qn (qd (by omega) (by omega)) ?_
 have e:(n:Int) - (((0:Nat):Int) - ((0:Nat):Int))=n:=by simp
 rw [e]
 have h:=h.nil 1
 refine qnc (fun g=>?_) (fun g=>hk ⟨none,0,0⟩ w rfl h)
 refine qvk (n:=0) rfl (Nat.le_refl _) (que ?_)
 have he:Elt Tryz.prog 3 (.int .i64 0):=elt_int
 dsimp only
 refine ⟨⟨by omega,by omega,?_,by omega⟩,?_⟩
 · have hb:=(Elt.bytes (P:=Tryz.prog) (e:=3) (z:=.int .i64 0))
   have h3:(n:Int) * (Tryz.prog.bytesOf 3:Int)≤1000000 * 16:=Int.mul_le_mul (by omega) (by omega) (by omega) (by omega)
   exact Int.le_trans h3 (by decide)
 rw [Int.toNat_natCast,he.zc,repL_one]
 refine St.app (s:=⟨none,0,0⟩) (cs2:=List.replicate n (.int .i64 0)) (z:=.int .i64 0) h rfl (by simp) (by rw [List.length_nil]; omega) (fun v hv=>?_) fun s6 w h=>?_
 · have hv:v ∈ List.replicate n (Value.int .i64 0):=by simpa using hv
   rw [(List.mem_replicate.1 hv).2]
   trivial
 refine qvk (n:=0) rfl (Nat.zero_le _) (que ?_)
 refine hk ⟨qgf s6.a s6.cap 0 1,0 - 0,s6.cap - 0⟩ w rfl ?_
 have h:=h.front 0 (Nat.zero_le _)
 rw [Nat.zero_mul,List.take_zero] at h
 exact h
theorem Rd.lsl2 {L:List (Sl × List Int)} {i:Int} {K:Sl→Prop} (h:Rd w 1 s (sls L)) (j:Nat) (hi:i=j) (hj:j < L.length) (hk:K L[j].1):ixS s.a s.len i 1 fun a=>ldL w a K:=by
 subst hi
 have hl:=h.1
 rw [show (sls L).length=L.length by simp [sls]] at hl
 refine h.ix (by decide) (by omega) (by omega) fun a ha=>?_
 rw [show ((j:Int)).toNat * 1=j by omega]
 exact ldL_c (by rw [h.cell ha (by simp [sls]; omega)]; simp [sls,hj]) hk
def catL (L:List (Sl × List Int)):List Int:=L.flatMap (·.2)
theorem catL_snoc (L:List (Sl × List Int)) {i:Nat} (h:i < L.length):catL (L.take (i+1))=catL (L.take i) ++ L[i].2:=by
 unfold catL
 rw [List.take_succ_eq_append_getElem h,List.flatMap_append]
 simp
theorem catL_le (L:List (Sl × List Int)) (i:Nat):(catL (L.take i)).length≤(catL L).length:=by
 have:catL L=catL (L.take i) ++ catL (L.drop i):=by
  unfold catL
  rw [← List.flatMap_append,List.take_append_drop]
 rw [this,List.length_append]
 omega
theorem qt.c {L:List (Sl × List Int)} {K:Ending→World→Prop} (h:St F0 w0 w ps) [Rdb F0 w0 s ps 1 (sls L)] (hL:∀ y ∈ L,∀ w,St F0 w0 w ps→Rd w 1 y.1 (ivs .i64 y.2)) (hn:L.length≤1000) (hlen:(catL L).length≤1000000)
 (hk:∀ t w',t.len=(catL L).length→St F0 w0 w' (qcc 1 t (ivs .i64 (catL L)) :: ps)→K (.returned (.slice t.a t.len t.cap)) w'):Calls Tryz.prog 264 ⟨[.slice s.a s.len s.cap]⟩ w K:=by
 have hl:=(h.rdb s).1
 rw [show (sls L).length=L.length by simp [sls]] at hl
 refine qfc (qt.ok _ _ _ ?_)
 unfold qt qt.j1 qt.j6
 refine qkg (fun (i:Nat) (z:Int) (i':Int) w'=>i'=i∧i≤L.length∧z=(catL (L.take i)).length∧St F0 w0 w' ps) (fun i=>L.length - i) 0 ⟨rfl,by omega,by simp [catL],h⟩ ?_
 clear h
 rintro i z i' wL I μ ⟨rfl,hi,rfl,h⟩ hin
 have hle:=catL_le L i
 unfold qt.b2
 refine qnc (fun g=>?_) (fun g=>?_)
 · have hix:i < L.length:=by omega
   have hsn:=catL_snoc L hix
   have hle2:=catL_le L (i+1)
   refine (h.rdb s).lsl2 i rfl hix ?_
   have hy:=(hL L[i] (List.getElem_mem hix) _ h).1
   rw [ql] at hy
   rw [hsn,List.length_append] at hle2
   refine qn (qd (by omega) (by omega)) ?_
   refine qnc (fun g=>by omega) (fun _=>?_)
   refine qn (qd (by omega) (by omega)) ?_
   refine ⟨⟨rfl,rfl,rfl⟩,hin (i+1) _ _ _ ⟨by omega,by omega,?_,h⟩ (by omega)⟩
   rw [hsn,List.length_append]
   omega
 · have:i=L.length:=by omega
   subst this
   rw [List.take_length]
   unfold qt.j2
   refine qsg.c h hlen fun t w ht h=>⟨t,rfl,?_⟩
   unfold qt.j3 qt.j5
   refine qkg (fun (i:Nat) (o:Sl) (i':Int) w'=>i'=i∧i≤L.length∧St F0 w0 w' (qcc 1 o (ivs .i64 (catL (L.take i))) :: ps)) (fun i=>L.length - i) 0 ⟨rfl,by omega,by simpa [catL] using h⟩ ?_
   clear h
   rintro i o i' wL I μ ⟨rfl,hi,h⟩ hin
   have hle:=catL_le L i
   unfold qt.b1
   refine qnc (fun g=>?_) (fun g=>?_)
   · have hix:i < L.length:=by omega
     have hsn:=catL_snoc L hix
     have hle2:=catL_le L (i+1)
     rw [hsn,List.length_append] at hle2
     refine (h.rdb s).lsl2 i rfl hix ?_
     haveI:Rdb F0 w0 L[i].1 ps 1 (ivs .i64 L[i].2):=⟨fun h=>hL L[i] (List.getElem_mem hix) _ h⟩
     refine h.appI (s:=o) (s2:=L[i].1) (k:=.i64) (by omega) fun o2 w h=>?_
     refine qn (qd (by omega) (by omega)) ?_
     refine ⟨⟨rfl,rfl⟩,hin (i+1) _ _ _ ⟨by omega,by omega,?_⟩ (by omega)⟩
     rw [hsn]
     exact h
   · have:i=L.length:=by omega
     subst this
     rw [List.take_length] at h
     unfold qt.j4
     have:=h.len
     rw [ql] at this
     exact hk o wL (by omega) h
theorem blk_rdb {nb n:Nat} {l:List Value} [PkB nb ps l rest] (hn:l.length=n):Rdb F0 w0 ⟨some ⟨nb,0,none⟩,n,n⟩ ps 1 l:=⟨fun h=>by
 have hb:=(h.toB nb).blk
 refine ⟨by rw [Nat.mul_one]; exact hn,fun i hi=>⟨_,rfl,?_⟩⟩
 rw [qvf,Nat.zero_add,hb.cell]⟩
theorem qt.c2 {nb:Nat} {A B:Sl} {xs ys:List Int} {K:Ending→World→Prop} (h:St F0 w0 w ps) [PkB nb ps [.slice A.a A.len A.cap,.slice B.a B.len B.cap] rest] [ha:Rdb F0 w0 A ps 1 (ivs .i64 xs)] [hb:Rdb F0 w0 B ps 1 (ivs .i64 ys)] (hlen:xs.length+ys.length≤1000000)
 (hk:∀ t w',t.len=xs.length+ys.length→St F0 w0 w' (qcc 1 t (ivs .i64 (xs ++ ys)) :: ps)→K (.returned (.slice t.a t.len t.cap)) w'):Calls Tryz.prog 264 ⟨[.slice (some ⟨nb,0,none⟩) 2 2]⟩ w K:=by
 haveI:Rdb F0 w0 ⟨some ⟨nb,0,none⟩,2,2⟩ ps 1 (sls [(A,xs),(B,ys)]):=blk_rdb rfl
 have e:catL [(A,xs),(B,ys)]=xs ++ ys:=by simp [catL]
 refine qt.c (s:=⟨some ⟨nb,0,none⟩,2,2⟩) (L:=[(A,xs),(B,ys)]) h (fun y hy w h=>?_) (by simp) (by rw [e,List.length_append]; omega) fun t w ht h=>?_
 · simp only [List.mem_cons,List.not_mem_nil,or_false] at hy
   rcases hy with rfl | rfl
   · exact ha.rd h
   · exact hb.rd h
 · rw [e] at ht h
   exact hk t w (by rw [ht,List.length_append]) h
abbrev Ep:=Int × Sl × List Nat
def eC (x:Ep):List Value:=[.int .i64 x.1,.slice x.2.1.a x.2.1.len x.2.1.cap]
def pkE (x:Ep):Pk:=(x.1,x.2.1)
def erE (x:Ep):Pg:=(x.1,x.2.2)
instance rec_eC:Rec eC 2:=⟨fun _=>rfl,fun x v hv=>by
 simp [eC] at hv
 rcases hv with rfl | rfl <;> trivial,by decide⟩
instance elt_pack:EltR Tryz.prog 409 2 [.int .i64 0,.slice none 0 0]:=⟨⟨Tryz.t409,by kernel_rfl,rfl,by decide,by decide⟩,by kernel_rfl,rfl,by decide⟩
theorem pks_eC (L:List Ep):pks (L.map pkE)=L.flatMap eC:=by
 unfold pks
 rw [List.flatMap_map]
 rfl
abbrev nvs (l:List Nat):List Value:=ivs .i64 (l.map fun n:Nat=>(n:Int))
def tabA (T:List (Sl × List Nat)):As:=allA (T.map fun x=>rdA 1 x.1 (nvs x.2))
theorem St.tab:∀ {T:List (Sl × List Nat)} {s:Sl} {xs:List Nat} {F0:List Nat} {w0 w:World} {ps:List As},St F0 w0 w (tabA T :: ps)→(s,xs) ∈ T→Rd w 1 s (nvs xs):=by
 intro T
 induction T with
 | nil=>intro s xs F0 w0 w ps h hm; cases hm
 | cons x T ih =>
   intro s xs F0 w0 w ps h hm
   have h:St F0 w0 w (andA (rdA 1 x.1 (nvs x.2)) (tabA T) :: ps):=h
   have h:=h.split
   rcases List.mem_cons.1 hm with e | hm
   · subst e; exact h.rd
   · exact ih h.drop hm
theorem tab_rdb {T:List (Sl × List Nat)} {xs:List Nat} (hm:(s,xs) ∈ T):Rdb F0 w0 s (tabA T :: ps) 1 (nvs xs):=⟨fun h=>h.tab hm⟩
theorem St.tabI {T:List (Sl × List Nat)} {xs:List Nat} (h:St F0 w0 w (rdA 1 s (nvs xs) :: tabA T :: ps)):St F0 w0 w (tabA ((s,xs) :: T) :: ps):=h.join
def okE (T:List (Sl × List Nat)) (M:Int) (n:Nat) (L:List Ep):Prop:=∀ x ∈ L,(x.2.1,x.2.2) ∈ T∧0≤x.1∧x.1≤M∧x.2.2.length≤n
theorem okE.mono {T T':List (Sl × List Nat)} {M M':Int} {n n':Nat} {L:List Ep} (h:okE T M n L) (hT:∀ x ∈ T,x ∈ T') (hM:M≤M') (hn:n≤n'):okE T' M' n' L:=fun x hx=>by
 have:=h x hx
 exact ⟨hT _ this.1,this.2.1,by omega,by omega⟩
def pairsFin (out:Sl) (i x:Int) (r:Sl) (w:World) (nx:Sl→Int→World→Prop):Prop :=
 ((⟨[.int .i64 x,.slice r.a r.len r.cap]⟩:Array Value)).size=2 ∧
 lt (⟨World.heapSize w,0,none⟩:Addr) fun a18 =>
 lt (World.alloc w (.cells ⟨(spl [.int .i64 0,.slice none 0 0] 0 (⟨[.int .i64 x,.slice r.a r.len r.cap]⟩:Array Value))⟩ 409)) fun w19 =>
 rdO w19 (some a18) (1 * 2) fun c20 =>
 apK Tryz.prog 409 w19 out.a out.len out.cap 1 c20 fun s21 w22 =>
 lt (IntKind.i64.wrap (i+2)) fun x23 =>
 nx s21 x23 w22
theorem qgd.c {L:List Ep} {T:List (Sl × List Nat)} {M:Int} {n:Nat} {K:Ending→World→Prop} (h:St F0 w0 w (tabA T :: ps)) [Rdb F0 w0 s ps 2 (L.flatMap eC)] (hL:okE T M n L) (hM:M≤4611686018427387903) (hn:n≤400000) (hlen:L.length≤1000000)
 (hk:∀ t w' L' T',L'.map erE=qbl (L.map erE)→(∀ x ∈ T,x ∈ T')→okE T' (2 * M) (2 * n) L'→St F0 w0 w' (qcc 2 t (L'.flatMap eC) :: tabA T' :: ps)→K (.returned (.slice t.a t.len t.cap)) w'):Calls Tryz.prog 296 ⟨[.slice s.a s.len s.cap]⟩ w K:=by
 have hl:=h.rlen (s:=s)
 refine qfc (qgd.ok _ _ _ ?_)
 unfold qgd qgd.j1 qgd.j3
 refine qkg (fun (a:Nat × List Ep × List (Sl × List Nat)) (o:Sl) (i':Int) w'=>i'=((2 * a.1+1:Nat):Int)∧2 * a.1≤L.length∧a.2.1.map erE=qbl ((L.map erE).take (2 * a.1))∧(∀ x ∈ T,x ∈ a.2.2)∧okE a.2.2 (2 * M) (2 * n) a.2.1∧St F0 w0 w' (qcc 2 o (a.2.1.flatMap eC) :: tabA a.2.2 :: ps)) (fun a=>L.length - 2 * a.1) (0,[],T)
  ⟨rfl,by simp,by simp [qbl],fun _ h=>h,fun x hx=>(by cases hx),h.nil 2⟩ ?_
 clear h
 rintro ⟨k,L',T'⟩ o i' wL I μ ⟨rfl,hi,hL',hT,hok,h⟩ hin
 simp only at hi hL' hT hok h hin ⊢
 unfold qgd.b1
 have hLl:L'.length=k:=by
  have:=congrArg List.length hL'
  rw [qfk,List.length_map,List.length_take,List.length_map] at this
  omega
 refine qnc (fun g=>?_) (fun g=>?_)
 · have h1:2 * k < L.length:=by omega
   have h2:2 * k+1 < L.length:=by omega
   have m1:=hL L[2 * k] (List.getElem_mem h1)
   have m2:=hL L[2 * k+1] (List.getElem_mem h2)
   haveI:Rdb F0 w0 (L[2 * k]).2.1 (tabA T' :: ps) 1 (nvs (L[2 * k]).2.2):=tab_rdb (hT _ m1.1)
   haveI:Rdb F0 w0 (L[2 * k+1]).2.1 (tabA T' :: ps) 1 (nvs (L[2 * k+1]).2.2):=tab_rdb (hT _ m2.1)
   have fin:∀ (w:World) (r:Sl) (x:Int),x=(L[2 * k]).1+(L[2 * k+1]).1→St F0 w0 w (qcc 2 o (L'.flatMap eC) :: qcc 1 r (ivs .i64 ((L[2 * k]).2.2.map (fun n:Nat=>(n:Int)) ++ (L[2 * k+1]).2.2.map (fun n:Nat=>(n:Int)))) :: tabA T' :: ps) →
    pairsFin o ((2 * k+1:Nat):Int) x r w (fun o' i'' w'=>s=s∧I o' i'' w'∧μ o' i'' w' < μ o ((2 * k+1:Nat):Int) wL):=by
    rintro w r x rfl h
    refine ⟨rfl,?_⟩
    rw [← List.map_append] at h
    refine h.pushR (s:=o) (x:=(((L[2 * k]).1+(L[2 * k+1]).1,r,(L[2 * k]).2.2 ++ (L[2 * k+1]).2.2):Ep)) (by omega) rfl fun o2 w _ h=>?_
    refine qn (qd (by omega) (by omega)) ⟨rfl,?_⟩
    refine hin (k+1,L' ++ [((L[2 * k]).1+(L[2 * k+1]).1,r,(L[2 * k]).2.2 ++ (L[2 * k+1]).2.2)],(r,(L[2 * k]).2.2 ++ (L[2 * k+1]).2.2) :: T') _ _ _ ⟨by simp only; omega,by simp only; omega,?_,fun x hx=>List.mem_cons_of_mem _ (hT x hx),?_,?_⟩ (by simp only; omega)
    · simp only
      rw [List.map_append,hL',show 2 * (k+1)=2 * k+1+1 by omega,List.take_succ_eq_append_getElem (by rw [List.length_map]; omega),List.take_succ_eq_append_getElem (by rw [List.length_map]; omega),List.append_assoc]
      have:∀ (X Y:List Pg),X.length % 2=0→qbl (X ++ Y)=qbl X ++ qbl Y:=by
       intro X Y
       exact qtk (Q:=fun X=>X.length % 2=0→qbl (X ++ Y)=qbl X ++ qbl Y) (fun _=>rfl) (fun a h=>by simp at h) (fun a b r ih h=>by
        simp only [List.length_cons] at h
        rw [List.cons_append,List.cons_append,qbl,qbl,ih (by omega),List.cons_append]) X
      rw [this _ _ (by rw [List.length_take,List.length_map,Nat.min_eq_left (by omega)]; omega)]
      simp [qbl,erE]
    · intro x hx
      rcases List.mem_append.1 hx with hx | hx
      · exact hok.mono (fun x hx=>List.mem_cons_of_mem _ hx) (Int.le_refl _) (Nat.le_refl _) x hx
      · rw [List.mem_singleton] at hx
        subst hx
        refine ⟨by simp,?_,?_,?_⟩
        · show 0≤(L[2 * k]).1+(L[2 * k+1]).1; omega
        · show (L[2 * k]).1+(L[2 * k+1]).1≤2 * M; omega
        · show ((L[2 * k]).2.2 ++ (L[2 * k+1]).2.2).length≤2 * n; rw [List.length_append]; omega
    · exact h.tail fun _ _ _ h=>h.ro.tabI
   refine h.drewK fun w h=>?_
   refine qn (qd (by omega) (by omega)) ?_
   refine h.rix (s:=s) (2 * k) (by omega) h1 fun a1 e1=>?_
   refine h.rix (s:=s) (2 * k+1) (by omega) h2 fun a2 e2=>?_
   refine qn (qd (by omega) (by omega)) ?_
   refine h.rix (s:=s) (2 * k) (by omega) h1 fun a3 e3=>?_
   refine (h.rdb s).rL (v:=(L[2 * k]).2.1) e3 h1 (by decide) rfl ?_
   refine h.rix (s:=s) (2 * k+1) (by omega) h2 fun a4 e4=>?_
   refine (h.rdb s).rL (v:=(L[2 * k+1]).2.1) e4 h2 (by decide) rfl ?_
   repeat' first
    | exact fin _ _ _ rfl h.sub
    | refine (h.rdb s).rI e1 h1 (by decide) rfl ?_
    | refine (h.rdb s).rI e2 h2 (by decide) rfl ?_
    | refine qn (qd (by omega) (by omega)) ?_
    | (refine h.new fun nb w h=>?_
       have h:St F0 w0 w (qzc nb [.slice (L[2 * k]).2.1.a (L[2 * k]).2.1.len (L[2 * k]).2.1.cap,.slice (L[2 * k+1]).2.1.a (L[2 * k+1]).2.1.len (L[2 * k+1]).2.1.cap] :: qcc 2 o (L'.flatMap eC) :: tabA T' :: ps):=h)
    | refine qt.c2 (A:=(L[2 * k]).2.1) (B:=(L[2 * k+1]).2.1) h (by simp only [List.length_map]; omega) fun r w _ h=>⟨r,rfl,?_⟩
    | refine And.intro ?_ ?_
 · unfold qgd.j2
   have e:qbl ((L.map erE).take (2 * k))=qbl (L.map erE):=by
    rcases Nat.lt_or_ge (2 * k) L.length with h1 | h1
    · have h2:L.length=2 * k+1:=by omega
      rw [← qkr,List.take_of_length_le (by rw [qfk,List.length_map]; omega)]
    · rw [List.take_of_length_le (by rw [List.length_map]; omega)]
   exact hk o wL L' T' (by rw [hL',e]) hT hok h
end
end Go.Proofs.YtejnemneenjliaaGreat
