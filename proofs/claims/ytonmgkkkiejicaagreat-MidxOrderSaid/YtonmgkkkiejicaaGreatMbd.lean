/- Own texts as one, only what is reached (shake.py). -/
import Derived.Test.YtonmgkkkiejicaaGreatMbc
import Derived.ChangeSlices
import Derived.Deep.Slices
import Derived.Test.YtonmgkkkiejicaaGreatProg
set_option linter.unusedSectionVars false
namespace Go.Proofs.YtonmgkkkiejicaaGreat
open Go Go.Proofs
set_option linter.unusedVariables false
set_option linter.unusedSimpArgs false
attribute [local irreducible] apK cpK mkK br
def spR (i:Nat) (r:Rw):Sp:=(r.1,(i:Int),r.2.2)
def qmg (rw:Mk→List Rw) (L:List Mk):List Sp:=L.zipIdx.flatMap fun p=>(rw p.1).map (spR p.2)
theorem spsA_snoc (rw:Mk→List Rw) (L:List Mk) (m:Mk):qmg rw (L ++ [m])=qmg rw L ++ (rw m).map (spR L.length):=by
 unfold qmg
 rw [List.zipIdx_append,List.flatMap_append]
 simp
theorem spsA_le (rw:Mk→List Rw) (L:List Mk) (i:Nat):(qmg rw (L.take i)).length≤(qmg rw L).length:=by
 have e:qmg rw L=qmg rw (L.take i ++ L.drop i):=by rw [List.take_append_drop]
 rw [e]
 unfold qmg
 rw [List.zipIdx_append,List.flatMap_append,List.length_append]
 omega
def MgO (S O:List Sp):Prop:=O.Pairwise (fun x y=>ltI x.1.1 y.1.1=true)∧(∀ o ∈ O,o ∈ S)∧(∀ y ∈ S,∃ o ∈ O,o.1=y.1∧o.2.1≤y.2.1)
theorem row_sp (r:Rw) (i:Nat):(List.set (List.set (spl ([.int .u8 0,.int .u8 0,.int .u8 0,.int .u8 0,.int .u8 0,.int .u8 0,.int .u8 0,.int .u8 0,.int .u8 0,.int .u8 0,.int .u8 0,.int .u8 0,.int .u8 0,.int .u8 0,.int .u8 0,.int .u8 0,.int .u8 0,.int .u8 0,.int .u8 0,.int .u8 0,.int .i64 0,.int .i64 0]:List Value) 0 ⟨nmC r.1⟩) 20 (.int .i64 i)) 21 (.int .i64 r.2.2))=spC (spR i r):=by
 have hl:(nmC r.1).length=20:=(inferInstance:Rec nmC 20).len r.1
 have e00:([.int .u8 0,.int .u8 0,.int .u8 0,.int .u8 0,.int .u8 0,.int .u8 0,.int .u8 0,.int .u8 0,.int .u8 0,.int .u8 0,.int .u8 0,.int .u8 0,.int .u8 0,.int .u8 0,.int .u8 0,.int .u8 0,.int .u8 0,.int .u8 0,.int .u8 0,.int .u8 0,.int .i64 0,.int .i64 0]:List Value)=ivs .u8 z20 ++ [.int .i64 0,.int .i64 0]:=rfl
 rw [e00,spl_eq _ _ _ (by rw [hl]; decide),hl]
 unfold spC spR
 have e:(ivs .u8 z20 ++ [Value.int .i64 0,.int .i64 0]).drop (0+20)=[.int .i64 0,.int .i64 0]:=rfl
 rw [e]
 have e0:(ivs .u8 z20 ++ [Value.int .i64 0,.int .i64 0]).take 0=[]:=rfl
 rw [e0,List.nil_append,List.set_append_right _ _ (by rw [hl]; decide),hl,List.set_append_right _ _ (by rw [hl]; decide),hl]
 rfl
section
variable {F0:List Nat} {w0 w:World} {ps r1:List As} {s:Sl} {L:List Mk} {D:List Sp} {qb:Nat} {rw:Mk→List Rw} {K:Ending→World→Prop}
theorem merge_out (S:List Sp) (hS:S.length≤900000000) (h:St F0 w0 w (qt qb [.slice s.a s.len s.cap] :: qp 22 s (D.flatMap spC) :: ps)) (hp:D.Perm S) (hh:HpD D)
 (hk:∀ t O w',MgO S O→St F0 w0 w' (qp 22 t (O.flatMap spC) :: ps)→K (.returned (sV t)) w') :
 qr.j3 (some ⟨qb,0,none⟩) ⟨none,0,0⟩ (fun v w'=>K (.returned v) w') w:=by
 unfold qr.j3
 refine loop1 (fun (a:Sl × List Sp × List Sp) (t:Sl) w'=>St F0 w0 w' (qt qb [.slice a.1.a a.1.len a.1.cap] :: qp 22 a.1 (a.2.1.flatMap spC) :: qp 22 t (a.2.2.flatMap spC) :: ps)∧HpD a.2.1∧a.2.1.length≤S.length∧(∀ y ∈ a.2.1,y ∈ S)∧(∀ x ∈ a.2.2,∀ y ∈ a.2.1,leS x y)∧a.2.2.Pairwise (fun x y=>ltI x.1.1 y.1.1=true)∧(∀ o ∈ a.2.2,o ∈ S)∧(∀ y ∈ S,y ∈ a.2.1 ∨ ∃ o ∈ a.2.2,o.1=y.1∧o.2.1≤y.2.1)∧a.2.2.length+a.2.1.length≤S.length) (fun a=>a.2.1.length) (s,D,[]) ⟨?_,hh,by simp [hp.length_eq],fun y hy=>hp.mem_iff.1 hy,by simp,List.Pairwise.nil,by simp,fun y hy=>Or.inl (hp.mem_iff.2 hy),by simp [hp.length_eq]⟩ ?_
 · have h1:St F0 w0 w (qp 22 ⟨none,0,0⟩ (([]:List Sp).flatMap spC) :: qt qb [.slice s.a s.len s.cap] :: qp 22 s (D.flatMap spC) :: ps):=h.nilO
   exact h1.sub
 clear h hp hh
 rintro ⟨s,D,O⟩ t wL I μ ⟨h,hh,hDS,hD,hle,hO,hOS,hc,hlen⟩ hin
 simp only at h hh hDS hD hle hO hOS hc hlen hin ⊢
 have hl:=h.rlen (s:=s) (f:=spC) (L:=D)
 have hlt:=h.rlen (s:=t) (f:=spC) (L:=O)
 unfold qr.b1
 refine qee ((h.toB qb).blk.ldL (n:=s) rfl ?_)
 refine q_Len.c ⟨_,rfl,?_⟩
 refine qwc (fun g=>?_) (fun g=>?_)
 · have hne:0 < D.length:=by omega
   refine qeh.c h (by omega) hne hh fun s' x D' w hp hh' hx h=>?_
   refine ⟨(75,.agg ⟨spC x⟩),rfl,eqT_q (asG_q ?_)⟩
   have hpl:D'.length+1=D.length:=by rw [← hp.length_eq]; rfl
   have hxD:x ∈ D:=hp.mem_iff.1 List.mem_cons_self
   have hD':∀ y ∈ D',y ∈ D:=fun y hy=>hp.mem_iff.1 (List.mem_cons_of_mem _ hy)
   rw [qjj]
   refine h.new fun xb w h=>?_
   have h:St F0 w0 w (qt xb (spC spZ) :: qt qb [.slice s'.a s'.len s'.cap] :: qp 22 s' (D'.flatMap spC) :: qp 22 t (O.flatMap spC) :: ps):=h
   refine ⟨qoc _,?_⟩
   refine h.setR (f:=spC) (x:=x) (qoc _) fun w h=>?_
   refine h.drewK fun w h=>qvd ?_
   have push:(∀ o ∈ O,ltI o.1.1 x.1.1=true)→∀ w,St F0 w0 w (qt xb (spC x) :: qt qb [.slice s'.a s'.len s'.cap] :: qp 22 s' (D'.flatMap spC) :: qp 22 t (O.flatMap spC) :: ps) →
    ldA w ⟨xb,0,none⟩ 22 fun c14=>(c14).size=22∧nw w ⟨(spl (ivs .u8 z20 ++ [.int .i64 0,.int .i64 0]) 0 c14)⟩ 75 fun a15 w16=>rdO w16 (some a15) (1 * 22) fun c17=>apK Tryz.prog 75 w16 t.a t.len t.cap 1 c17 fun s18 w19=>(some (⟨qb,0,none⟩:Addr)=some ⟨qb,0,none⟩)∧I s18 w19∧μ s18 w19 < μ t wL:=by
    intro hlt2 w h
    refine h.lA (b:=xb) (qoc _) ⟨qoc _,?_⟩
    rw [qnf (by rw [qoc]; rfl)]
    refine h.pushR (s:=t) (L:=O) (x:=x) (by omega) rfl fun t' w ht h=>⟨rfl,?_⟩
    refine hin (s',D',O ++ [x]) _ _ ⟨h.sub,hh',by simp only; omega,fun y hy=>hD y (hD' y hy),?_,?_,?_,?_,?_⟩ (by simp only; omega)
    · intro o ho y hy
      rcases List.mem_append.1 ho with ho | ho
      · exact hle o ho y (hD' y hy)
      · rw [List.mem_singleton.1 ho]; exact hx y (hD' y hy)
    · rw [List.pairwise_append]
      refine ⟨hO,List.pairwise_singleton _ _,fun a ha b hb=>?_⟩
      rw [List.mem_singleton.1 hb]
      exact hlt2 a ha
    · intro o ho
      rcases List.mem_append.1 ho with ho | ho
      · exact hOS o ho
      · rw [List.mem_singleton.1 ho]; exact hD x hxD
    · intro y hy
      rcases hc y hy with hy | ⟨o,ho,h1,h2⟩
      · rcases List.mem_cons.1 (hp.mem_iff.2 hy) with rfl | hy
        · exact Or.inr ⟨y,by simp,rfl,Int.le_refl _⟩
        · exact Or.inl hy
      · exact Or.inr ⟨o,by simp [ho],h1,h2⟩
    · simp only [List.length_append,List.length_singleton]; omega
   by_cases hO0:O.length=0
   · have:t.len=0:=by omega
     have hOn:O=[]:=List.eq_nil_of_length_eq_zero hO0
     refine qci (by rw [this]; rfl) (push (by simp [hOn]) w h)
   · refine br_no (by
      have:¬ ((t.len:Int)=0):=by omega
      simpa using this) ?_
     have hj:O.length - 1 < O.length:=by omega
     refine qy (e':=((O.length - 1:Nat):Int)) (by rw [ql (by omega) (by omega)]; omega) ?_
     refine h.spId (s:=t) (D:=O) (O.length - 1) rfl hj ?_
     have hid:∀ {Z:Array Value→Prop},Z ⟨nmC x.1⟩→ldA w (Addr.add ⟨xb,0,none⟩ 0) 20 Z:=fun hz=>by
      rw [qjb]
      refine h.blk.ldA (cs:=⟨nmC x.1⟩) (by unfold nmC; simp [x.1.2.1]) (fun i hi=>?_) hz
      unfold spC nmC
      rw [List.getElem?_append_left (by rw [qo,x.1.2.1]; omega)]
      simp
     refine hid ?_
     refine eqA_i (xs:=O[O.length - 1].1.1) (ys:=x.1.1) O[O.length - 1].1.2.1 x.1.2.1 ?_
     have hlast:O[O.length - 1] ∈ O:=List.getElem_mem hj
     have hlx:=leS_iff.1 (hle _ hlast x hxD)
     by_cases e:O[O.length - 1].1=x.1
     · rw [e,beq_self_eq_true]
       refine qyd (fun g=>by cases g) (fun _=>⟨rfl,?_⟩)
       refine hin (s',D',O) _ _ ⟨h.sub,hh',by simp only; omega,fun y hy=>hD y (hD' y hy),fun o ho y hy=>hle o ho y (hD' y hy),hO,hOS,fun y hy=>?_,by simp only; omega⟩ (by simp only; omega)
       rcases hc y hy with hy | hy
       · rcases List.mem_cons.1 (hp.mem_iff.2 hy) with rfl | hy
         · rcases hlx with ⟨_,h2⟩ | h2
           · exact Or.inr ⟨_,hlast,e,h2⟩
           · rw [e,qhd] at h2; cases h2
         · exact Or.inl hy
       · exact Or.inr hy
     · have e2:(O[O.length - 1].1.1 == x.1.1)=false:=beq_eq_false_iff_ne.2 fun y=>e (Nm.ext' y)
       rw [e2]
       refine qyd (fun _=>push (fun o ho=>?_) w h) (fun g=>by cases g)
       have hl2:ltI O[O.length - 1].1.1 x.1.1=true:=by
        rcases hlx with ⟨h1,_⟩ | h2
        · exact absurd h1 e
        · exact h2
       obtain ⟨k,hk2,rfl⟩:=List.getElem_of_mem ho
       by_cases ek:k=O.length - 1
       · subst ek; exact hl2
       · exact qwh (List.pairwise_iff_getElem.1 hO k (O.length - 1) hk2 hj (by omega)) hl2
 · have:D=[]:=List.eq_nil_of_length_eq_zero (by omega)
   subst this
   unfold qr.j4
   exact hk t O _ ⟨hO,hOS,fun y hy=>(hc y hy).elim (fun e=>by cases e) id⟩ (h.drop.drop)
theorem push_ct {x:Sp} {c:Array Value} {X:World→Prop} (hc:c=⟨spC x⟩) (h:St F0 w0 w (qt qb [.slice s.a s.len s.cap] :: qp 22 s (D.flatMap spC) :: ps)) (hD:D.length≤999999998) (hh:HpD D)
 (hk:∀ s' D' w',HpD D'→D'.Perm (D ++ [x])→St F0 w0 w' (qt qb [.slice s'.a s'.len s'.cap] :: qp 22 s' (D'.flatMap spC) :: ps)→X w') :
 ct_ 50 [.iface 127 (.pointer (some ⟨qb,0,none⟩)),.iface 75 (.agg c)] w X:=by
 subst hc
 exact qxf.c (D:=D) (x:=x) h hD hh fun q' D' w a b h=>⟨rfl,hk q' D' w a b h⟩
theorem merge.c (h:St F0 w0 w ps) [iR:Rdb F0 w0 s ps 2 (mks L)] (hL:L.length≤1000000) (hS:(qmg rw L).length≤900000000) (hRl:∀ m ∈ L,(rw m).length≤1000000000) (hP:∀ m ∈ L,Rdb F0 w0 m.2 ps 22 ((rw m).flatMap rwC))
 (hk:∀ t O w',MgO (qmg rw L) O→St F0 w0 w' (qp 22 t (O.flatMap spC) :: ps)→K (.returned (sV t)) w') :
 Calls Tryz.prog 22 ⟨[sV s]⟩ w K:=by
 haveI iR2:Rdb F0 w0 s ps 2 (L.flatMap mkC):=iR
 have hl:=h.rlen (s:=s) (f:=mkC) (L:=L)
 refine qmb (qr.ok _ _ _ ?_)
 unfold qr
 refine h.new fun zb w h=>?_
 have h:St F0 w0 w (qt zb [] :: ps):=h
 have h:St F0 w0 w (qp 22 ⟨some ⟨zb,0,none⟩,0,0⟩ [] :: ps):=h.ownBR rfl
 refine h.new fun qb w h=>?_
 have h:St F0 w0 w (qt qb [.slice (some ⟨zb,0,none⟩) 0 0] :: qp 22 ⟨some ⟨zb,0,none⟩,0,0⟩ [] :: ps):=h
 unfold qr.j1 qr.j5
 refine loop1 (fun (a:Nat × Sl × List Sp) (i':Int) w'=>i'=(a.1:Int)∧a.1≤L.length∧HpD a.2.2∧a.2.2.Perm (qmg rw (L.take a.1))∧St F0 w0 w' (qt qb [.slice a.2.1.a a.2.1.len a.2.1.cap] :: qp 22 a.2.1 (a.2.2.flatMap spC) :: ps)) (fun a=>L.length - a.1) (0,⟨some ⟨zb,0,none⟩,0,0⟩,[]) ⟨rfl,Nat.zero_le _,fun k h0 hk=>by simp at hk,.refl _,h⟩ ?_
 clear h
 rintro ⟨i,q,D⟩ _ wL I μ ⟨rfl,hi,hh,hp,h⟩ hin
 simp only at hi hh hp h hin ⊢
 unfold qr.b2
 refine qwc (fun g=>?_) (fun g=>?_)
 · have hix:i < L.length:=by omega
   have hm:=List.getElem_mem hix
   haveI iP:=hP _ hm
   have hlR:=h.rlen (s:=L[i].2) (f:=rwC) (L:=rw L[i])
   have hsn:L.take (i+1)=L.take i ++ [L[i]]:=List.take_succ_eq_append_getElem hix
   have hlen:(L.take i).length=i:=by rw [List.length_take]; omega
   have hSn:qmg rw (L.take (i+1))=qmg rw (L.take i) ++ (rw L[i]).map (spR i):=by
    rw [hsn,spsA_snoc,hlen]
   have hSl:(qmg rw (L.take i)).length+(rw L[i]).length≤900000000:=by
    have:=spsA_le rw L (i+1)
    rw [hSn,List.length_append,List.length_map] at this
    omega
   unfold qr.j6
   refine h.lr (s:=s) (f:=mkC) (L:=L) i rfl hix ?_
   rw [zc_pack]
   refine h.new fun pb w h=>?_
   have h:St F0 w0 w (qt pb (mkC (⟨⟨[]⟩⟩,⟨none,0,0⟩)) :: qt qb [.slice q.a q.len q.cap] :: qp 22 q (D.flatMap spC) :: ps):=h
   refine ⟨rfl,?_⟩
   refine h.setR (f:=mkC) (x:=L[i]) rfl fun w h=>?_
   have e1:Addr.add ⟨pb,0,none⟩ 1=⟨pb,1,none⟩:=qjb _ _ _
   rw [e1]
   refine (h.toB pb).blk.ldL (n:=L[i].2) rfl ?_
   have h:=h.drop
   unfold qr.j8
   refine loop1 (fun (a:Nat × Sl × List Sp) (k':Int) w'=>k'=(a.1:Int)∧a.1≤(rw L[i]).length∧HpD a.2.2∧a.2.2.Perm (qmg rw (L.take i) ++ ((rw L[i]).take a.1).map (spR i))∧St F0 w0 w' (qt qb [.slice a.2.1.a a.2.1.len a.2.1.cap] :: qp 22 a.2.1 (a.2.2.flatMap spC) :: ps)) (fun a=>(rw L[i]).length - a.1) (0,q,D) ⟨rfl,Nat.zero_le _,hh,by simpa using hp,h⟩ ?_
   clear h hp hh
   rintro ⟨k,q,D⟩ _ wM I2 μ2 ⟨rfl,hkl,hh,hp,h⟩ hin2
   simp only at hkl hh hp h hin2 ⊢
   have hDl:D.length≤900000000:=by
    rw [hp.length_eq,List.length_append,List.length_map,List.length_take]
    omega
   unfold qr.b3
   refine qwc (fun g2=>?_) (fun g2=>?_)
   · have hkx:k < (rw L[i]).length:=by
      have g2:(k:Int) < (L[i].2.len:Int):=g2
      omega
     have hsn2:(rw L[i]).take (k+1)=(rw L[i]).take k ++ [(rw L[i])[k]]:=List.take_succ_eq_append_getElem hkx
     refine h.lr (s:=L[i].2) (f:=rwC) (L:=rw L[i]) k rfl hkx ?_
     rw [zc_row]
     refine h.new fun rb w h=>?_
     have h:St F0 w0 w (qt rb (rwC (⟨z20,by refine ⟨rfl,?_⟩; decide⟩,0,0)) :: qt qb [.slice q.a q.len q.cap] :: qp 22 q (D.flatMap spC) :: ps):=h
     refine ⟨qsc _,?_⟩
     refine h.setR (f:=rwC) (x:=(rw L[i])[k]) (qsc _) fun w h=>?_
     refine (h.toB rb).blk.ldRid ?_
     refine (h.toB rb).blk.ldAt ?_
     refine ⟨by unfold nmC; simp [(rw L[i])[k].1.2.1],?_⟩
     have h:=h.drop
     refine push_ct (D:=D) (x:=spR i (rw L[i])[k]) (congrArg Array.mk (row_sp _ _)) h (by omega) hh fun q' D' w hh' hp' h=>?_
     refine qy (e':=((k+1:Nat):Int)) (by rw [ql (by omega) (by omega)]; rfl) ?_
     refine ⟨⟨rfl,rfl,rfl,rfl,rfl,rfl,rfl⟩,hin2 (k+1,q',D') _ _ ⟨rfl,by simp only; omega,hh',?_,h⟩ (by simp only; omega)⟩
     simp only
     rw [hsn2,List.map_append,← List.append_assoc]
     exact hp'.trans (hp.append_right _)
   · have:k=(rw L[i]).length:=by
      have g2:¬ (k:Int) < (L[i].2.len:Int):=g2
      omega
     subst this
     rw [List.take_length,← hSn] at hp
     unfold qr.j7
     refine qy (e':=((i+1:Nat):Int)) (by rw [ql (by omega) (by omega)]; rfl) ?_
     exact ⟨⟨rfl,rfl,rfl⟩,hin (i+1,q,D) _ _ ⟨rfl,by simp only; omega,hh,hp,h⟩ (by simp only; omega)⟩
 · have:i=L.length:=by omega
   subst this
   rw [List.take_length] at hp
   unfold qr.j2
   exact merge_out (qmg rw L) hS h hp hh hk
end
end Go.Proofs.YtonmgkkkiejicaaGreat
namespace Go.Proofs.YtonmgkkkiejicaaGreat
open Go Go.Proofs
set_option linter.unusedVariables false
set_option linter.unusedSimpArgs false
section
variable {M:Rws Nd} {pr:Nd→List Nm} {lost:Bool} {O O1 O2 A:List Nm} {G G1 G2:Rws Int}
theorem WkE.inM (h:WkE M pr lost O G) {q:Nm} (hq:q ∈ O):Go.Proofs.YtonmgkkkiejicaaGreat.inM M q=true:=by
 have:=h.mem q.1 ((h.keys q).2 hq)
 unfold Go.Proofs.YtonmgkkkiejicaaGreat.inM
 cases hl:lkE M q.1 with
 | none=>exact absurd this (lk_none.1 hl)
 | some x=>rfl
end
end Go.Proofs.YtonmgkkkiejicaaGreat
namespace Go.Proofs.YtonmgkkkiejicaaGreat
open Go Go.Proofs
set_option linter.unusedVariables false
set_option linter.unusedSimpArgs false
structure Cm where
 id:Nm
 tree:Nm
 par:List Nm
 date:Int
instance:Inhabited Cm:=⟨⟨default,default,[],0⟩⟩
def Nd.tr (n:Nd):Nm:=⟨n.tree,n.htr,n.btr⟩
def cmN (pr:Nd→List Nm) (n:Nd):Cm:=⟨n.nm,n.tr,pr n,n.date⟩
section
variable (f:Nm→Option (List Nm)) (lost:Bool)
def fineF (ps:List Nm):Bool:=lost || ps.all fun p=>(f p).isSome
inductive EnF:List Nm→Prop
 | nil:EnF []
 | snoc {O:List Nm} {c:Nm} {ps:List Nm}:EnF O→f c=some ps→fineF f lost ps=true→(∀ p ∈ ps,(f p).isSome=true→p ∈ O)→EnF (O ++ [c])
def mxF (g:Nm→Int) (O:List Nm):List Nm→Int
 | []=>0
 | p :: ps=>if p ∈ O then max (g p+1) (mxF g O ps) else mxF g O ps
def MostF (O:List Nm):Prop:=∀ k ps,f k=some ps→fineF f lost ps=true→(∀ p ∈ ps,(f p).isSome=true→p ∈ O)→k ∈ O
structure Wk (O:List Nm) (g:Nm→Int):Prop where
 nd:O.Nodup
 en:EnF f lost O
 most:MostF f lost O
 gens:∀ c ps,c ∈ O→f c=some ps→g c=max 1 (mxF g O ps)
end
section
variable {f:Nm→Option (List Nm)} {lost:Bool} {O O1 O2 A:List Nm} {g g1 g2:Nm→Int}
theorem EnF.dom (h:EnF f lost A):∀ q ∈ A,∃ ps,f q=some ps∧fineF f lost ps=true∧∀ p ∈ ps,(f p).isSome=true→p ∈ A:=by
 induction h with
 | nil=>intro q hq; cases hq
 | @snoc O c ps _ h1 h2 h3 ih =>
   intro q hq
   rcases List.mem_append.1 hq with hq | hq
   · obtain ⟨ms,k1,k2,k3⟩:=ih q hq
     exact ⟨ms,k1,k2,fun p hp hm=>List.mem_append_left _ (k3 p hp hm)⟩
   · have:q=c:=by simpa using hq
     subst this
     exact ⟨ps,h1,h2,fun p hp hm=>List.mem_append_left _ (h3 p hp hm)⟩
theorem mxF_same {ps:List Nm} (h:∀ p ∈ ps,(p ∈ O1 ↔ p ∈ O2)∧(p ∈ O1→g1 p=g2 p)):mxF g1 O1 ps=mxF g2 O2 ps:=by
 induction ps with
 | nil=>rfl
 | cons p ps ih =>
   obtain ⟨h1,h2⟩:=h p (by simp)
   rw [mxF,mxF,ih fun q hq=>h q (by simp [hq])]
   by_cases g:p ∈ O1
   · rw [if_pos g,if_pos (h1.1 g),h2 g]
   · rw [if_neg g,if_neg fun e=>g (h1.2 e)]
end
section
variable {M:Rws Nd} {pr:Nd→List Nm} {lost:Bool} {O:List Nm} {G:Rws Int}
end
def fC (C:List Cm) (k:Nm):Option (List Nm):=(C.find? fun c=>decide (c.id=k)).map (·.par)
def fstC (C:List Cm) (k:Nm):Option Cm:=C.find? fun c=>decide (c.id=k)
theorem nm_eq {n:Nd} {k:Nm}:n.nm=k ↔ n.id=k.1:=⟨fun h=>by rw [← h]; rfl,fun h=>Nm.ext' h⟩
theorem fC_fst (C:List Cm) (k:Nm):fC C k=(fstC C k).map (·.par):=rfl
theorem fst_id {C:List Cm} {k:Nm} {c:Cm} (h:fstC C k=some c):c ∈ C∧c.id=k:=⟨List.mem_of_find?_eq_some h,by have:=List.find?_some h; simpa using this⟩
theorem fst_none {C:List Cm} {k:Nm}:fstC C k=none ↔ k ∉ C.map (·.id):=by
 unfold fstC
 rw [List.find?_eq_none]
 constructor
 · intro h hm
   obtain ⟨c,hc,e⟩:=List.mem_map.1 hm
   exact h c hc (by simpa using e)
 · intro h c hc e
   exact h (List.mem_map.2 ⟨c,hc,by simpa using e⟩)
theorem fC_isSome {C:List Cm} {k:Nm}:(fC C k).isSome=true ↔ k ∈ C.map (·.id):=by
 rw [fC_fst,Option.isSome_map]
 cases h:fstC C k with
 | none=>simp [fst_none.1 h]
 | some c =>
   obtain ⟨h1,h2⟩:=fst_id h
   simp
   exact ⟨c,h1,h2⟩
def ltC (a b:Cm):Prop:=ltI a.id.1 b.id.1=true
end Go.Proofs.YtonmgkkkiejicaaGreat
namespace Go.Proofs.YtonmgkkkiejicaaGreat
open Go Go.Proofs
set_option linter.unusedVariables false
set_option linter.unusedSimpArgs false
attribute [local irreducible] apK cpK mkK br
abbrev Cx:=Nd × List Nm
section
variable {F0:List Nat} {w0 w:World} {ps rest:List As} {s:Sl} {L:List Nd} {pr:Nd→List Nm} {X:List Cx} {K:Ending→World→Prop}
theorem rd_one {sz:Nat} {cs ds:List Value} (h1:Rd w sz s cs) (h2:Rd w sz s ds):cs=ds:=by
 have hl:cs.length=ds.length:=h1.1.trans h2.1.symm
 apply List.ext_getElem? 
 intro i
 by_cases hi:i < cs.length
 · obtain ⟨a,ha,c1⟩:=h1.2 i hi
   obtain ⟨b,hb,c2⟩:=h2.2 i (by omega)
   rw [ha] at hb
   injection hb with hb
   subst hb
   rw [← c1,← c2]
 · rw [List.getElem?_eq_none (by omega),List.getElem?_eq_none (by omega)]
end
end Go.Proofs.YtonmgkkkiejicaaGreat
namespace Go.Proofs.YtonmgkkkiejicaaGreat
open Go Go.Proofs
set_option linter.unusedVariables false
set_option linter.unusedSimpArgs false
attribute [local irreducible] apK cpK mkK br
def fndN (L:List Nd) (k:List Int):Option Nd:=L.find? fun n=>decide (n.id=k)
theorem fnd_app (L M:List Nd) (k:List Int):fndN (L ++ M) k=(fndN L k).or (fndN M k):=by unfold fndN; exact List.find?_append ..
theorem fnd_cons (n:Nd) (L:List Nd) (k:List Int):fndN (n :: L) k=if n.id=k then some n else fndN L k:=by
 unfold fndN
 rw [List.find?_cons]
 by_cases g:n.id=k
 · simp [g]
 · simp [g]
theorem fnd_some {L:List Nd} {k:List Int} {n:Nd} (h:fndN L k=some n):n ∈ L∧n.id=k:=⟨List.mem_of_find?_eq_some h,by have:=List.find?_some h; simpa using this⟩
abbrev RisN (R:List Nd):Prop:=R.Pairwise fun x y=>ltN x y=true
theorem RisN.nd {R:List Nd} (h:RisN R):(R.map (·.id)).Nodup:=by
 unfold List.Nodup
 rw [List.pairwise_map]
 exact h.imp fun {a b} hab e=>by
  unfold ltN at hab
  rw [e,qhd] at hab
  cases hab
theorem qwj {R:List Nd} (hn:(R.map (·.id)).Nodup) {n:Nd} (h:n ∈ R):fndN R n.id=some n:=by
 induction R with
 | nil=>cases h
 | cons m R ih =>
   have hn':m.id ∉ R.map (·.id)∧(R.map (·.id)).Nodup:=List.nodup_cons.1 hn
   rw [fnd_cons]
   rcases List.mem_cons.1 h with rfl | h
   · simp
   · rw [if_neg fun e=>hn'.1 (by rw [e]; exact List.mem_map.2 ⟨n,h,rfl⟩),ih hn'.2 h]
structure SrtN (L R:List Nd):Prop where
 ris:RisN R
 fnd:∀ k,fndN R k=fndN L k
theorem SrtN.perm {L R:List Nd} (h:SrtN L R) (hn:(L.map (·.id)).Nodup):R.Perm L:=by
 have nd:∀ {A:List Nd},(A.map (·.id)).Nodup→A.Nodup:=fun h=>by
  unfold List.Nodup at h ⊢
  rw [List.pairwise_map] at h
  exact h.imp fun hab e=>hab (by rw [e])
 rw [List.perm_ext_iff_of_nodup (nd h.ris.nd) (nd hn)]
 intro n
 constructor
 · intro hm
   have:=qwj h.ris.nd hm
   rw [h.fnd] at this
   exact (fnd_some this).1
 · intro hm
   have:=qwj hn hm
   rw [← h.fnd] at this
   exact (fnd_some this).1
theorem SrtN.skip {L R:List Nd} {n m:Nd} (h:SrtN L R) (hm:m ∈ R) (e:m.id=n.id):SrtN (L ++ [n]) R:=by
 refine ⟨h.ris,fun k=>?_⟩
 rw [fnd_app,h.fnd,fnd_cons]
 by_cases g:n.id=k
 · rw [if_pos g]
   have:=qwj h.ris.nd hm
   rw [e,g,h.fnd] at this
   rw [this]; rfl
 · rw [if_neg g]
   show _=Option.or _ none
   simp
section
variable {F0:List Nat} {w0 w:World} {ps rest:List As} {s t:Sl} {L R:List Nd} {n:Nd} {K:Ending→World→Prop} {k i:Nat}
 {Q:VWP} {nx1:Sl→Sl→Int→World→Prop}
end
end Go.Proofs.YtonmgkkkiejicaaGreat
namespace Go.Proofs.YtonmgkkkiejicaaGreat
open Go Go.Proofs
set_option linter.unusedVariables false
set_option linter.unusedSimpArgs false
attribute [local irreducible] apK cpK mkK br
theorem atD_neg:∀ {L:List Nd} {q:Nm},atD L q < 0 ↔ q ∉ L.map Nd.nm:=by
 intro L
 induction L with
 | nil=>intro q; simp [atD]
 | cons n L ih =>
   intro q
   rw [atD,List.map_cons,List.mem_cons]
   by_cases g:n.id=q.1
   · rw [if_pos g]
     have:q=n.nm:=(nm_eq.2 g).symm
     simp [this]
   · rw [if_neg g]
     have hne:¬ q=n.nm:=fun e=>g (nm_eq.1 e.symm)
     by_cases g2:atD L q < 0
     · rw [if_pos g2]
       have:=ih.1 g2
       simp [hne,this]
     · rw [if_neg g2]
       have:q ∈ L.map Nd.nm:=Classical.byContradiction fun e=>g2 (ih.2 e)
       constructor
       · intro; omega
       · intro h; exact absurd (Or.inr this) h
theorem SrtN.sub {L S:List Nd} (h:SrtN L S) {n:Nd} (hn:n ∈ S):n ∈ L∧fndN L n.id=some n:=by
 have:=qwj h.ris.nd hn
 rw [h.fnd] at this
 exact ⟨(fnd_some this).1,this⟩
section
variable {F0:List Nat} {w0 w:World} {ps rest:List As} {s t:Sl} {L R:List Nd} {n:Nd} {pr:Nd→List Nm} {K:Ending→World→Prop}
end
end Go.Proofs.YtonmgkkkiejicaaGreat
namespace Go.Proofs.YtonmgkkkiejicaaGreat
open Go Go.Proofs
set_option linter.unusedVariables false
set_option linter.unusedSimpArgs false
attribute [local irreducible] apK cpK mkK br
theorem atD_get:∀ {L:List Nd} {q:Nm} (h:0≤atD L q),∃ hj:(atD L q).toNat < L.length,L[(atD L q).toNat].nm=q:=by
 intro L q h
 have hm:q ∈ L.map Nd.nm:=Classical.byContradiction fun e=>by have:=atD_neg.2 e; omega
 obtain ⟨n,hn,e⟩:=List.mem_map.1 hm
 have:∀ {M:List Nd},0≤atD M q→∃ hj:(atD M q).toNat < M.length,M[(atD M q).toNat].nm=q:=by
  intro M
  induction M with
  | nil=>intro h; simp [atD] at h
  | cons m M ih =>
    intro h
    rw [atD] at h
    by_cases g:m.id=q.1
    · have e:atD (m :: M) q=0:=by rw [atD,if_pos g]
      simp only [e]
      exact ⟨by simp,nm_eq.2 g⟩
    · rw [if_neg g] at h
      by_cases g2:atD M q < 0
      · rw [if_pos g2] at h; omega
      · obtain ⟨hj,e1⟩:=ih (by omega)
        have e:(atD (m :: M) q).toNat=(atD M q).toNat+1:=by rw [atD,if_neg g,if_neg g2]; omega
        simp only [e]
        exact ⟨by rw [List.length_cons]; omega,by simpa using e1⟩
 exact this h
theorem atD_nd {L:List Nd} (hn:(L.map (·.id)).Nodup) {i:Nat} (hi:i < L.length):atD L L[i].nm=i :=
 atD_hit hi rfl fun j hj hji e=>by
  unfold List.Nodup at hn
  rw [List.pairwise_map] at hn
  exact List.pairwise_iff_getElem.1 hn j i hj hi hji e
def gF (L:List Nd) (gl:List Int) (q:Nm):Int:=if atD L q < 0 then 0 else gl.getD (atD L q).toNat 0
structure GnS (L:List Nd) (f:Nm→Option (List Nm)) (gl:List Int) (O:List Nm):Prop where
 len:gl.length=L.length
 nd:O.Nodup
 en:EnF f true O
 dn:∀ j (h:j < L.length),(L[j].nm ∈ O→1≤gl.getD j 0)∧(L[j].nm ∉ O→gl.getD j 0=0)
 gens:∀ c ps,c ∈ O→f c=some ps→gF L gl c=max 1 (mxF (gF L gl) O ps)
 bd:∀ q,gF L gl q≤O.length
theorem mxF_le {g:Nm→Int} {B:Int} (hB:0≤B) (h:∀ q,g q+1≤B) (O:List Nm):∀ ps,mxF g O ps≤B:=by
 intro ps
 induction ps with
 | nil=>exact hB
 | cons p ps ih =>
   rw [mxF]
   have:=h p
   split <;> omega
theorem GnS.step {L:List Nd} {f:Nm→Option (List Nm)} {gl:List Int} {O:List Nm} (h:GnS L f gl O) (hn:(L.map (·.id)).Nodup) {pr:Nd→List Nm} (hf:∀ k:Nm,f k=(fndN L k.1).map pr) {i:Nat} (hi:i < L.length) (hO:L[i].nm ∉ O) (hp:∀ p ∈ pr L[i],(f p).isSome=true→p ∈ O) :
 GnS L f (gl.set i (max 1 (mxF (gF L gl) O (pr L[i])))) (O ++ [L[i].nm]):=by
 have hfi:f L[i].nm=some (pr L[i]):=by
  rw [hf]
  show (fndN L L[i].id).map pr=_
  rw [qwj hn (List.getElem_mem hi)]
  rfl
 generalize hv:max 1 (mxF (gF L gl) O (pr L[i]))=v
 have hset:∀ j,j < L.length→(gl.set i v).getD j 0=if i=j then v else gl.getD j 0:=fun j hj=>getD_setL (by rw [h.len]; exact hi)
 have hgF:∀ q,q ≠ L[i].nm→gF L (gl.set i v) q=gF L gl q:=by
  intro q hq
  unfold gF
  by_cases g:atD L q < 0
  · rw [if_pos g,if_pos g]
  · rw [if_neg g,if_neg g]
    obtain ⟨hj,e⟩:=atD_get (L:=L) (q:=q) (by omega)
    rw [hset _ hj,if_neg fun e2=>hq (by
     subst e2
     exact e.symm)]
 have hgi:gF L (gl.set i v) L[i].nm=v:=by
  unfold gF
  rw [atD_nd hn hi,if_neg (by omega),Int.toNat_natCast,hset i hi,if_pos rfl]
 have hno:L[i].nm ∉ pr L[i]:=fun e=>hO (hp _ e (by rw [hfi]; rfl))
 have hmx:∀ ps,L[i].nm ∉ ps→mxF (gF L (gl.set i v)) (O ++ [L[i].nm]) ps=mxF (gF L gl) O ps:=by
  intro ps hps
  refine mxF_same fun p hpp=>?_
  have hne:p ≠ L[i].nm:=fun e=>hps (e ▸ hpp)
  exact ⟨by simp [hne],fun _=>hgF p hne⟩
 refine ⟨by rw [List.length_set]; exact h.len,?_,.snoc h.en hfi rfl hp,fun j hj=>?_,fun c ps hc hfc=>?_,fun q=>?_⟩
 · rw [List.nodup_append]
   exact ⟨h.nd,by simp,fun a ha b hb e=>hO (by
    have:b=L[i].nm:=by simpa using hb
    rw [← this,← e]; exact ha)⟩
 · rw [hset j hj]
   by_cases e:i=j
   · subst e
     rw [if_pos rfl]
     exact ⟨fun _=>by omega,fun e=>absurd (by simp) e⟩
   · rw [if_neg e]
     have hne:L[j].nm ≠ L[i].nm:=fun e2=>by
      have h1:=atD_nd hn hj
      rw [e2,atD_nd hn hi] at h1
      omega
     have:=h.dn j hj
     exact ⟨fun hm=>this.1 (by simpa [hne] using hm),fun hm=>this.2 fun h2=>hm (by simp [h2])⟩
 · rcases List.mem_append.1 hc with hc | hc
   · have hne:c ≠ L[i].nm:=fun e=>hO (e ▸ hc)
     rw [hgF c hne,h.gens c ps hc hfc,hmx]
     intro hps
     obtain ⟨ms,k1,_,k3⟩:=h.en.dom c hc
     rw [hfc] at k1
     injection k1 with k1
     subst k1
     exact hO (k3 _ hps (by rw [hfi]; rfl))
   · have:c=L[i].nm:=by simpa using hc
     subst this
     rw [hfi] at hfc
     injection hfc with hfc
     subst hfc
     rw [hgi,hmx _ hno]
     exact hv.symm
 · rw [List.length_append,List.length_singleton]
   have hb:=h.bd
   by_cases e:q=L[i].nm
   · subst e
     rw [hgi]
     have:=mxF_le (g:=gF L gl) (B:=(O.length:Int)+1) (by omega) (fun q=>by have:=hb q; omega) O (pr L[i])
     omega
   · rw [hgF q e]
     have:=hb q
     omega
end Go.Proofs.YtonmgkkkiejicaaGreat
namespace Go.Proofs.YtonmgkkkiejicaaGreat
open Go Go.Proofs
set_option linter.unusedVariables false
set_option linter.unusedSimpArgs false
attribute [local irreducible] apK cpK mkK br
section
variable {F0:List Nat} {w0 w:World} {ps rest:List As} {s t:Sl} {L R:List Nd} {n:Nd} {pr:Nd→List Nm} {K:Ending→World→Prop} {gl:List Int} {O:List Nm}
theorem GnS.at (h:GnS L (fC (L.map (cmN pr))) gl O) {p:Nm} (hp:0≤atD L p):∃ hj:(atD L p).toNat < L.length,gl.getD (atD L p).toNat 0=gF L gl p∧(p ∈ O→1≤gF L gl p)∧(p ∉ O→gF L gl p=0):=by
 obtain ⟨hj,e⟩:=atD_get hp
 have:=h.dn _ hj
 rw [e] at this
 have e2:gl.getD (atD L p).toNat 0=gF L gl p:=by unfold gF; rw [if_neg (by omega)]
 rw [e2] at this
 exact ⟨hj,e2,this⟩
theorem GnS.le (h:GnS L (fC (L.map (cmN pr))) gl O):O.length≤L.length:=by
 have:=len_sub (O:=O) (S:=L.map Nd.nm) h.nd fun q hq=>by
  obtain ⟨ps,h1,_⟩:=h.en.dom q hq
  have:(fC (L.map (cmN pr)) q).isSome=true:=by rw [h1]; rfl
  rw [fC_isSome,List.map_map] at this
  exact this
 simpa using this
end
end Go.Proofs.YtonmgkkkiejicaaGreat
namespace Go.Proofs.YtonmgkkkiejicaaGreat
open Go Go.Proofs
set_option linter.unusedVariables false
set_option linter.unusedSimpArgs false
attribute [local irreducible] apK cpK mkK br
structure OkC (C:List Cm):Prop where
 nd:(C.map (·.id)).Nodup
 dt:∀ c ∈ C,0≤c.date∧c.date < 17179869184
 par:∀ c ∈ C,∀ p ∈ c.par,p ∈ C.map (·.id)
theorem OkC.perm {C D:List Cm} (h:OkC C) (hp:C.Perm D):OkC D :=
 ⟨(hp.map _).nodup_iff.1 h.nd,fun c hc=>h.dt c (hp.mem_iff.2 hc),fun c hc p hpp=>(hp.map _).mem_iff.1 (h.par c (hp.mem_iff.2 hc) p hpp)⟩
section
variable {F0:List Nat} {w0 w:World} {ps rest:List As} {s t:Sl} {L R:List Nd} {n:Nd} {pr:Nd→List Nm} {K:Ending→World→Prop}
end
end Go.Proofs.YtonmgkkkiejicaaGreat
namespace Go.Proofs.YtonmgkkkiejicaaGreat
open Go Go.Proofs
set_option linter.unusedVariables false
set_option maxRecDepth 100000
def qjf (x_0 n_1:Int) (Q:VWP) (w:World):Prop :=
 lt (World.drew w) fun w1 =>
 (0:Int)≤n_1 ∧
 lt (shlV .u32 x_0 n_1) fun x2 =>
 lt (IntKind.i64.wrap (32 - n_1)) fun x3 =>
 (0:Int)≤x3 ∧
 lt (shrV .u32 x_0 x3) fun x4 =>
 lt (orV .u32 x2 x4) fun x5 =>
 Q (.int .u32 x5) w1
theorem qjf.ok (x_0:Int) (n_1:Int) (Q:VWP) (w:World) (h:qjf x_0 n_1 Q w):Calls Tryz.prog 106 ⟨[.int .u32 x_0,.int .i64 n_1]⟩ w (Ret Q) :=
 qqb [.tmp 4] qdd Tryz.func106 rfl rfl rfl rfl .lf (by kernel_rfl) h
def qfi (t_0 b_1 c_2 d_3:Int) (Q:VWP) (w:World):Prop :=
 (20:Int) ≠ 0 ∧
 lt (IntKind.i64.wrap (Int.tdiv t_0 20)) fun x1 =>
 br (x1 == 0) (
 lt (andV .u32 b_1 c_2) fun x2 =>
 lt (xorV .u32 (if IntKind.signed .u32 then -1 else IntKind.max .u32) b_1) fun x3 =>
 lt (andV .u32 x3 d_3) fun x4 =>
 lt (orV .u32 x2 x4) fun x5 =>
 Q (.tuple ⟨[.int .u32 x5,.int .u32 1518500249]⟩) w) (
 br (x1 == 1) (
 lt (xorV .u32 b_1 c_2) fun x6 =>
 lt (xorV .u32 x6 d_3) fun x7 =>
 Q (.tuple ⟨[.int .u32 x7,.int .u32 1859775393]⟩) w) (
 br (x1 == 2) (
 lt (andV .u32 b_1 c_2) fun x8 =>
 lt (andV .u32 b_1 d_3) fun x9 =>
 lt (orV .u32 x8 x9) fun x10 =>
 lt (andV .u32 c_2 d_3) fun x11 =>
 lt (orV .u32 x10 x11) fun x12 =>
 Q (.tuple ⟨[.int .u32 x12,.int .u32 2400959708]⟩) w) (
 lt (xorV .u32 b_1 c_2) fun x13 =>
 lt (xorV .u32 x13 d_3) fun x14 =>
 Q (.tuple ⟨[.int .u32 x14,.int .u32 3395469782]⟩) w)))
theorem qfi.ok (t_0:Int) (b_1:Int) (c_2:Int) (d_3:Int) (Q:VWP) (w:World) (h:qfi t_0 b_1 c_2 d_3 Q w):Calls Tryz.prog 107 ⟨[.int .i64 t_0,.int .u32 b_1,.int .u32 c_2,.int .u32 d_3]⟩ w (Ret Q) :=
 qqb [.tmp 8,.tmp 9] qdd Tryz.func107 rfl rfl rfl rfl .lf (by kernel_rfl) h
def qi.b1 (d_0:OAd) (t121:(Array Value)) (t122:Int) (Q:VWP) (nx1:OAd→(Array Value)→Int→WP) (w:World):Prop :=
 br (decide (t122 < 5)) (
 ((0:Int)≤t122∧t122 < ((5:Nat):Int)) ∧
 ptI .u32 t121 (Int.toNat t122 * 1) fun x1 =>
 lt (World.drew w) fun w2 =>
 nz d_0 fun a3 =>
 ixA (Addr.add a3 0) 5 t122 1 fun a4 =>
 ldI .u32 w2 a4 fun x5 =>
 lt (IntKind.u32.wrap (x5+x1)) fun x6 =>
 nz d_0 fun a7 =>
 ixA (Addr.add a7 0) 5 t122 1 fun a8 =>
 st w2 a8 (.int .u32 x6) fun w9 =>
 lt (IntKind.i64.wrap (t122+1)) fun x10 =>
 nx1 d_0 t121 x10 w9) (
 Q (.tuple ⟨[]⟩) w)
def qi.l1 (d_0:OAd) (t121:(Array Value)) (t122:Int) (Q:VWP) (w:World):Prop :=
 ∃ (I:Int→WP) (μ:Int→World→Nat),I t122 w∧∀ t122:Int,∀ w:World,I t122 w→qi.b1 d_0 t121 t122 Q (fun d_0' t121' t122' w'=>(d_0'=d_0∧t121'=t121)∧I t122' w'∧μ t122' w' < μ t122 w) w
def qi.j6 (d_0:OAd) (t121:(Array Value)) (t122:Int) (Q:VWP) (w:World):Prop :=
 qi.l1 d_0 t121 t122 Q w
def qi.j5 (d_0:OAd) (t8:Int) (t9 t10 t11 t12:Int) (Q:VWP) (w:World):Prop :=
 qi.j6 d_0 ⟨[.int .u32 t8,.int .u32 t9,.int .u32 t10,.int .u32 t11,.int .u32 t12]⟩ 0 Q w
def qi.b2 (d_0:OAd) (t87:(Array Value)) (t8 t9 t10 t11 t12 t88:Int) (Q:VWP) (nx2:OAd→(Array Value)→Int→Int→Int→Int→Int→Int→WP) (w:World):Prop :=
 br (decide (t88 < 80)) (
 ((0:Int)≤t88∧t88 < ((80:Nat):Int)) ∧
 ptI .u32 t87 (Int.toNat t88 * 1) fun x11 =>
 Calls Tryz.prog 107 ⟨[.int .i64 t88,.int .u32 t9,.int .u32 t10,.int .u32 t11]⟩ w fun e12 w13 =>
 ∃ r14:Int,∃ r15:Int,e12=.returned (.tuple ⟨[.int .u32 r14,.int .u32 r15]⟩) ∧
 cr_u32 106 [.int .u32 t8,.int .i64 5] w13 fun r18 w17 =>
 lt (IntKind.u32.wrap (r18+r14)) fun x19 =>
 lt (IntKind.u32.wrap (x19+t12)) fun x20 =>
 lt (IntKind.u32.wrap (x20+r15)) fun x21 =>
 lt (IntKind.u32.wrap (x21+x11)) fun x22 =>
 cr_u32 106 [.int .u32 t9,.int .i64 30] w17 fun r25 w24 =>
 lt (IntKind.i64.wrap (t88+1)) fun x26 =>
 nx2 d_0 t87 x22 t8 r25 t10 t11 x26 w24) (
 qi.j5 d_0 t8 t9 t10 t11 t12 Q w)
def qi.l2 (d_0:OAd) (t87:(Array Value)) (t8 t9 t10 t11 t12 t88:Int) (Q:VWP) (w:World):Prop :=
 ∃ (I:Int→Int→Int→Int→Int→Int→WP) (μ:Int→Int→Int→Int→Int→Int→World→Nat),I t8 t9 t10 t11 t12 t88 w∧∀ t8:Int,∀ t9:Int,∀ t10:Int,∀ t11:Int,∀ t12:Int,∀ t88:Int,∀ w:World,I t8 t9 t10 t11 t12 t88 w→qi.b2 d_0 t87 t8 t9 t10 t11 t12 t88 Q (fun d_0' t87' t8' t9' t10' t11' t12' t88' w'=>(d_0'=d_0∧t87'=t87)∧I t8' t9' t10' t11' t12' t88' w'∧μ t8' t9' t10' t11' t12' t88' w' < μ t8 t9 t10 t11 t12 t88 w) w
def qi.j7 (d_0:OAd) (t8:Int) (t9 t10 t11 t12:Int) (t87:(Array Value)) (t88:Int) (Q:VWP) (w:World):Prop :=
 qi.l2 d_0 t87 t8 t9 t10 t11 t12 t88 Q w
def qi.j4 (d_0:OAd) (t4:Addr) (t8 t9 t10 t11 t12:Int) (Q:VWP) (w:World):Prop :=
 ldA w t4 80 fun c27 =>
 qi.j7 d_0 t8 t9 t10 t11 t12 c27 0 Q w
def qi.j3 (d_0:OAd) (t4:Addr) (Q:VWP) (w:World):Prop :=
 lt (World.drew w) fun w28 =>
 nz d_0 fun a29 =>
 ixA (Addr.add a29 0) 5 0 1 fun a30 =>
 ldI .u32 w28 a30 fun x31 =>
 nz d_0 fun a32 =>
 ixA (Addr.add a32 0) 5 1 1 fun a33 =>
 ldI .u32 w28 a33 fun x34 =>
 nz d_0 fun a35 =>
 ixA (Addr.add a35 0) 5 2 1 fun a36 =>
 ldI .u32 w28 a36 fun x37 =>
 nz d_0 fun a38 =>
 ixA (Addr.add a38 0) 5 3 1 fun a39 =>
 ldI .u32 w28 a39 fun x40 =>
 nz d_0 fun a41 =>
 ixA (Addr.add a41 0) 5 4 1 fun a42 =>
 ldI .u32 w28 a42 fun x43 =>
 qi.j4 d_0 t4 x31 x34 x37 x40 x43 Q w28
def qi.b3 (d_0:OAd) (t4:Addr) (t7:Int) (Q:VWP) (nx3:OAd→Addr→Int→WP) (w:World):Prop :=
 br (decide (t7 < 80)) (
 lt (World.drew w) fun w44 =>
 lt (IntKind.i64.wrap (t7 - 3)) fun x45 =>
 ixA t4 80 x45 1 fun a46 =>
 ldI .u32 w44 a46 fun x47 =>
 lt (IntKind.i64.wrap (t7 - 8)) fun x48 =>
 ixA t4 80 x48 1 fun a49 =>
 ldI .u32 w44 a49 fun x50 =>
 lt (xorV .u32 x47 x50) fun x51 =>
 lt (IntKind.i64.wrap (t7 - 14)) fun x52 =>
 ixA t4 80 x52 1 fun a53 =>
 ldI .u32 w44 a53 fun x54 =>
 lt (xorV .u32 x51 x54) fun x55 =>
 lt (IntKind.i64.wrap (t7 - 16)) fun x56 =>
 ixA t4 80 x56 1 fun a57 =>
 ldI .u32 w44 a57 fun x58 =>
 lt (xorV .u32 x55 x58) fun x59 =>
 cr_u32 106 [.int .u32 x59,.int .i64 1] w44 fun r62 w61 =>
 ixA t4 80 t7 1 fun a63 =>
 st w61 a63 (.int .u32 r62) fun w64 =>
 lt (IntKind.i64.wrap (t7+1)) fun x65 =>
 nx3 d_0 t4 x65 w64) (
 qi.j3 d_0 t4 Q w)
def qi.l3 (d_0:OAd) (t4:Addr) (t7:Int) (Q:VWP) (w:World):Prop :=
 ∃ (I:Int→WP) (μ:Int→World→Nat),I t7 w∧∀ t7:Int,∀ w:World,I t7 w→qi.b3 d_0 t4 t7 Q (fun d_0' t4' t7' w'=>(d_0'=d_0∧t4'=t4)∧I t7' w'∧μ t7' w' < μ t7 w) w
def qi.j8 (d_0:OAd) (t4:Addr) (t7:Int) (Q:VWP) (w:World):Prop :=
 qi.l3 d_0 t4 t7 Q w
def qi.j2 (d_0:OAd) (t4:Addr) (Q:VWP) (w:World):Prop :=
 qi.j8 d_0 t4 16 Q w
def qi.b4 (d_0:OAd) (t4:Addr) (t19:(Array Value)) (t20:Int) (Q:VWP) (nx4:OAd→Addr→(Array Value)→Int→WP) (w:World):Prop :=
 br (decide (t20 < 64)) (
 ((0:Int)≤t20∧t20 < ((64:Nat):Int)) ∧
 ptI .u8 t19 (Int.toNat t20 * 1) fun x66 =>
 (4:Int) ≠ 0 ∧
 lt (IntKind.i64.wrap (Int.tdiv t20 4)) fun x67 =>
 (4:Int) ≠ 0 ∧
 lt (IntKind.i64.wrap (Int.tdiv t20 4)) fun x68 =>
 ixA t4 80 x68 1 fun a69 =>
 ldI .u32 w a69 fun x70 =>
 (0:Int)≤8 ∧
 lt (shlV .u32 x70 8) fun x71 =>
 lt (IntKind.u32.wrap x66) fun x72 =>
 lt (orV .u32 x71 x72) fun x73 =>
 ixA t4 80 x67 1 fun a74 =>
 st w a74 (.int .u32 x73) fun w75 =>
 lt (IntKind.i64.wrap (t20+1)) fun x76 =>
 nx4 d_0 t4 t19 x76 w75) (
 qi.j2 d_0 t4 Q w)
def qi.l4 (d_0:OAd) (t4:Addr) (t19:(Array Value)) (t20:Int) (Q:VWP) (w:World):Prop :=
 ∃ (I:Int→WP) (μ:Int→World→Nat),I t20 w∧∀ t20:Int,∀ w:World,I t20 w→qi.b4 d_0 t4 t19 t20 Q (fun d_0' t4' t19' t20' w'=>(d_0'=d_0∧t4'=t4∧t19'=t19)∧I t20' w'∧μ t20' w' < μ t20 w) w
def qi.j9 (d_0:OAd) (t4:Addr) (t19:(Array Value)) (t20:Int) (Q:VWP) (w:World):Prop :=
 qi.l4 d_0 t4 t19 t20 Q w
def qi.j1 (d_0:OAd) (t3:Addr) (t4:Addr) (Q:VWP) (w:World):Prop :=
 ldA w t3 64 fun c77 =>
 qi.j9 d_0 t4 c77 0 Q w
def qi (d_0:OAd) (i_1:(Array Value)) (Q:VWP) (w:World):Prop :=
 nw w i_1 171 fun a78 w79 =>
 nw w79 (zc Tryz.prog 183) 183 fun a80 w81 =>
 qi.j1 d_0 a78 a80 Q w81
theorem qi.ok (d_0:OAd) (i_1:(Array Value)) (Q:VWP) (w:World) (h:qi d_0 i_1 Q w):Calls Tryz.prog 91 ⟨[.pointer d_0,.agg i_1]⟩ w (Ret Q) :=
 qqb [] qdd Tryz.func91 rfl rfl rfl rfl (.pr 1 [sP 0,sA 3,sA 4] (fun a b c w=>qi.j1 a b c Q w) (.sq [sP 0,sA 4] (fun a b w=>qi.j2 a b Q w) (.sq [sP 0,sA 4,(19,.G),sI 20] (fun a b c d w=>qi.j9 a b c d Q w) .lf (.bk (.lo [sP 0,sA 4,(19,.G)] [sI 20] (fun a b c d w=>qi.l4 a b c d Q w) (fun nx4 a b c d w=>qi.b4 a b c d Q nx4 w) fun nx4=>.lf))) (.sq [sP 0,sA 4] (fun a b w=>qi.j3 a b Q w) (.sq [sP 0,sA 4,sI 7] (fun a b c w=>qi.j8 a b c Q w) .lf (.bk (.lo [sP 0,sA 4] [sI 7] (fun a b c w=>qi.l3 a b c Q w) (fun nx3 a b c w=>qi.b3 a b c Q nx3 w) fun nx3=>.lf))) (.sq [sP 0,sA 4,(8,.I .u32),(9,.I .u32),(10,.I .u32),(11,.I .u32),(12,.I .u32)] (fun a b c d e f g w=>qi.j4 a b c d e f g Q w) .lf (.sq [sP 0,(8,.I .u32),(9,.I .u32),(10,.I .u32),(11,.I .u32),(12,.I .u32)] (fun a b c d e f w=>qi.j5 a b c d e f Q w) (.sq [sP 0,(8,.I .u32),(9,.I .u32),(10,.I .u32),(11,.I .u32),(12,.I .u32),(87,.G),sI 88] (fun a b c d e f g h w=>qi.j7 a b c d e f g h Q w) .lf (.bk (.lo [sP 0,(87,.G)] [(8,.I .u32),(9,.I .u32),(10,.I .u32),(11,.I .u32),(12,.I .u32),sI 88] (fun a b c d e f g h w=>qi.l2 a b c d e f g h Q w) (fun nx2 a b c d e f g h w=>qi.b2 a b c d e f g h Q nx2 w) fun nx2=>.lf))) (.sq [sP 0,(121,.G),sI 122] (fun a b c w=>qi.j6 a b c Q w) .lf (.bk (.lo [sP 0,(121,.G)] [sI 122] (fun a b c w=>qi.l1 a b c Q w) (fun nx1 a b c w=>qi.b1 a b c Q nx1 w) fun nx1=>.lf)))))))) (by kernel_rfl) h
def qdb.b1 (h_0:OAd) (t6:Sl) (t7 t8:Int) (Q:VWP) (nx1:OAd→Sl→Int→Int→WP) (w:World):Prop :=
 br (decide (t8 < t7)) (
 ixS t6.a t6.len t8 1 fun a1 =>
 ldI .u8 w a1 fun x2 =>
 lt (World.drew w) fun w3 =>
 nz h_0 fun a4 =>
 ldI .i64 w3 (Addr.add a4 69) fun x5 =>
 (64:Int) ≠ 0 ∧
 lt (Int.tmod x5 64) fun x6 =>
 nz h_0 fun a7 =>
 ixA (Addr.add a7 5) 64 x6 1 fun a8 =>
 st w3 a8 (.int .u8 x2) fun w9 =>
 nz h_0 fun a10 =>
 ldI .i64 w9 (Addr.add a10 69) fun x11 =>
 lt (IntKind.i64.wrap (x11+1)) fun x12 =>
 nz h_0 fun a13 =>
 st w9 (Addr.add a13 69) (.int .i64 x12) fun w14 =>
 nz h_0 fun a15 =>
 ldI .i64 w14 (Addr.add a15 69) fun x16 =>
 (64:Int) ≠ 0 ∧
 lt (Int.tmod x16 64) fun x17 =>
 br (x17 == 0) (
 nz h_0 fun a18 =>
 ldA w14 (Addr.add a18 5) 64 fun c19 =>
 ct_ 91 [.pointer h_0,.agg c19] w14 fun w21 =>
 lt (IntKind.i64.wrap (t8+1)) fun x22 =>
 nx1 h_0 t6 t7 x22 w21) (
 lt (IntKind.i64.wrap (t8+1)) fun x23 =>
 nx1 h_0 t6 t7 x23 w14)) (
 Q (.tuple ⟨[]⟩) w)
def qdb.l1 (h_0:OAd) (t6:Sl) (t7 t8:Int) (Q:VWP) (w:World):Prop :=
 ∃ (I:Int→WP) (μ:Int→World→Nat),I t8 w∧∀ t8:Int,∀ w:World,I t8 w→qdb.b1 h_0 t6 t7 t8 Q (fun h_0' t6' t7' t8' w'=>(h_0'=h_0∧t6'=t6∧t7'=t7)∧I t8' w'∧μ t8' w' < μ t8 w) w
def qdb.j1 (h_0:OAd) (t6:Sl) (t7 t8:Int) (Q:VWP) (w:World):Prop :=
 qdb.l1 h_0 t6 t7 t8 Q w
def qdb (h_0:OAd) (b_1:Sl) (Q:VWP) (w:World):Prop :=
 qdb.j1 h_0 b_1 (b_1.len:Int) 0 Q w
theorem qdb.ok (h_0:OAd) (b_1:Sl) (Q:VWP) (w:World) (h:qdb h_0 b_1 Q w):Calls Tryz.prog 56 ⟨[.pointer h_0,sV b_1]⟩ w (Ret Q) :=
 qqb [] qdd Tryz.func56 rfl rfl rfl rfl (.sq [sP 0,sL 6,sI 7,sI 8] (fun a b c d w=>qdb.j1 a b c d Q w) .lf (.bk (.lo [sP 0,sL 6,sI 7] [sI 8] (fun a b c d w=>qdb.l1 a b c d Q w) (fun nx1 a b c d w=>qdb.b1 a b c d Q nx1 w) fun nx1=>.lf))) (by kernel_rfl) h
def qtd (h_0:OAd) (Q:VWP) (w:World):Prop :=
 nz h_0 fun a1 =>
 ldA w a1 70 fun c2 =>
 nw w (zc Tryz.prog 173) 173 fun a3 w4 =>
 (c2).size=70 ∧
 stA w4 a3 c2 fun w5 =>
 Q (.pointer (some a3)) w5
theorem qtd.ok (h_0:OAd) (Q:VWP) (w:World) (h:qtd h_0 Q w):Calls Tryz.prog 92 ⟨[.pointer h_0]⟩ w (Ret Q) :=
 qqb [.tmp 2] qdd Tryz.func92 rfl rfl rfl rfl .lf (by kernel_rfl) h
def qn.j5 (t2:Addr) (out_4:Sl) (Q:VWP) (w:World):Prop :=
 20≤out_4.len ∧
 nz out_4.a fun a1 =>
 ldA w a1 20 fun c2 =>
 (c2).size=20 ∧
 stA w t2 c2 fun w3 =>
 ldA w3 t2 20 fun c4 =>
 Q (.agg c4) w3
def qn.b1 (t2:Addr) (t32:(Array Value)) (out_4:Sl) (t33:Int) (Q:VWP) (nx1:Addr→(Array Value)→Sl→Int→WP) (w:World):Prop :=
 br (decide (t33 < 5)) (
 ((0:Int)≤t33∧t33 < ((5:Nat):Int)) ∧
 ptI .u32 t32 (Int.toNat t33 * 1) fun x5 =>
 lt (IntKind.i64.wrap x5) fun x6 =>
 qgh 23 [sV out_4,.int .i64 x6] w fun r9 w8 =>
 lt (IntKind.i64.wrap (t33+1)) fun x10 =>
 nx1 t2 t32 r9 x10 w8) (
 qn.j5 t2 out_4 Q w)
def qn.l1 (t2:Addr) (t32:(Array Value)) (out_4:Sl) (t33:Int) (Q:VWP) (w:World):Prop :=
 ∃ (I:Sl→Int→WP) (μ:Sl→Int→World→Nat),I out_4 t33 w∧∀ out_4:Sl,∀ t33:Int,∀ w:World,I out_4 t33 w→qn.b1 t2 t32 out_4 t33 Q (fun t2' t32' out_4' t33' w'=>(t2'=t2∧t32'=t32)∧I out_4' t33' w'∧μ out_4' t33' w' < μ out_4 t33 w) w
def qn.j6 (t2:Addr) (out_4:Sl) (t32:(Array Value)) (t33:Int) (Q:VWP) (w:World):Prop :=
 qn.l1 t2 t32 out_4 t33 Q w
def qn.j4 (t2:Addr) (t_3:OAd) (out_4:Sl) (Q:VWP) (w:World):Prop :=
 nz t_3 fun a11 =>
 ldA w (Addr.add a11 0) 5 fun c12 =>
 qn.j6 t2 out_4 c12 0 Q w
def qn.j3 (h_0:OAd) (t2:Addr) (t_3:OAd) (Q:VWP) (w:World):Prop :=
 nz h_0 fun a13 =>
 ldI .i64 w (Addr.add a13 69) fun x14 =>
 lt (IntKind.i64.wrap (8 * x14)) fun x15 =>
 qgh 25 [.slice none 0 0,.int .i64 x15] w fun r18 w17 =>
 ct_ 56 [.pointer t_3,sV r18] w17 fun w20 =>
 qn.j4 t2 t_3 ⟨none,0,0⟩ Q w20
def qn.b2 (h_0:OAd) (t2:Addr) (t_3:OAd) (Q:VWP) (nx2:OAd→Addr→OAd→WP) (w:World):Prop :=
 nz t_3 fun a21 =>
 ldI .i64 w (Addr.add a21 69) fun x22 =>
 (64:Int) ≠ 0 ∧
 lt (Int.tmod x22 64) fun x23 =>
 br (x23 != 56) (
 nw w ⟨[.int .u8 0]⟩ 5 fun a24 w25 =>
 ct_ 56 [.pointer t_3,.slice (some a24) 1 1] w25 fun w27 =>
 nx2 h_0 t2 t_3 w27) (
 qn.j3 h_0 t2 t_3 Q w)
def qn.l2 (h_0:OAd) (t2:Addr) (t_3:OAd) (Q:VWP) (w:World):Prop :=
 ∃ (I:WP) (μ:World→Nat),I  w∧∀ w:World,I  w→qn.b2 h_0 t2 t_3 Q (fun h_0' t2' t_3' w'=>(h_0'=h_0∧t2'=t2∧t_3'=t_3)∧I  w'∧μ  w' < μ  w) w
def qn.j2 (h_0:OAd) (t2:Addr) (t_3:OAd) (Q:VWP) (w:World):Prop :=
 qn.l2 h_0 t2 t_3 Q w
def qn.j1 (h_0:OAd) (t2:Addr) (Q:VWP) (w:World):Prop :=
 cr_P 92 [.pointer h_0] w fun r30 w29 =>
 nw w29 ⟨[.int .u8 128]⟩ 5 fun a31 w32 =>
 ct_ 56 [.pointer r30,.slice (some a31) 1 1] w32 fun w34 =>
 qn.j2 h_0 t2 r30 Q w34
def qn (h_0:OAd) (Q:VWP) (w:World):Prop :=
 nw w (zc Tryz.prog 39) 39 fun a35 w36 =>
 qn.j1 h_0 a35 Q w36
theorem qn.ok (h_0:OAd) (Q:VWP) (w:World) (h:qn h_0 Q w):Calls Tryz.prog 57 ⟨[.pointer h_0]⟩ w (Ret Q) :=
 qqb [.cell 2 39] qdd Tryz.func57 rfl rfl rfl rfl (.sq [sP 0,sA 2] (fun a b w=>qn.j1 a b Q w) .lf (.pr 1 [sP 0,sA 2,sP 3] (fun a b c w=>qn.j2 a b c Q w) (.sq [sP 0,sA 2,sP 3] (fun a b c w=>qn.j3 a b c Q w) (.bk (.lo [sP 0,sA 2,sP 3] [] (fun a b c w=>qn.l2 a b c Q w) (fun nx2 a b c w=>qn.b2 a b c Q nx2 w) fun nx2=>.lf)) (.pr 1 [sA 2,sP 3,sL 4] (fun a b c w=>qn.j4 a b c Q w) (.sq [sA 2,sL 4] (fun a b w=>qn.j5 a b Q w) (.sq [sA 2,sL 4,(32,.G),sI 33] (fun a b c d w=>qn.j6 a b c d Q w) .lf (.bk (.lo [sA 2,(32,.G)] [sL 4,sI 33] (fun a b c d w=>qn.l1 a b c d Q w) (fun nx1 a b c d w=>qn.b1 a b c d Q nx1 w) fun nx1=>.lf))) .lf))))) (by kernel_rfl) h
def qgi  (Q:VWP) (w:World):Prop :=
 ((⟨[.int .u32 1732584193,.int .u32 4023233417,.int .u32 2562383102,.int .u32 271733878,.int .u32 3285377520]⟩:Array Value)).size=5 ∧
 nw w (⟨(spl (zc Tryz.prog 173).toList 0 (⟨[.int .u32 1732584193,.int .u32 4023233417,.int .u32 2562383102,.int .u32 271733878,.int .u32 3285377520]⟩:Array Value))⟩:Array Value) 173 fun a1 w2 =>
 Q (.pointer (some a1)) w2
theorem qgi.ok  (Q:VWP) (w:World) (h:qgi  Q w):Calls Tryz.prog 55 ⟨[]⟩ w (Ret Q) :=
 qqb [.tmp 0] qdd Tryz.func55 rfl rfl rfl rfl .lf (by kernel_rfl) h
def qdg (b_0:Sl) (Q:VWP) (w:World):Prop :=
 nw w (zc Tryz.prog 39) 39 fun a1 w2 =>
 cr_P 55 [] w2 fun r5 w4 =>
 ct_ 56 [.pointer r5,sV b_0] w4 fun w7 =>
 cr_G 57 [.pointer r5] w7 fun r10 w9 =>
 (r10).size=20 ∧
 stA w9 a1 r10 fun w11 =>
 ldA w11 a1 20 fun c12 =>
 Q (.agg c12) w11
theorem qdg.ok (b_0:Sl) (Q:VWP) (w:World) (h:qdg b_0 Q w):Calls Tryz.prog 27 ⟨[sV b_0]⟩ w (Ret Q) :=
 qqb [.cell 2 39] qdd Tryz.func27 rfl rfl rfl rfl .lf (by kernel_rfl) h
end Go.Proofs.YtonmgkkkiejicaaGreat
namespace Go.Proofs.YtonmgkkkiejicaaGreat
open Go Go.Proofs
set_option linter.unusedVariables false
set_option linter.unusedSimpArgs false
attribute [local irreducible] apK cpK mkK
def lf (x n:Int):Int:=orV .u32 (shlV .u32 x n) (shrV .u32 x (32 - n))
def no32 (b:Int):Int:=xorV .u32 4294967295 b
def mixF (t:Nat) (b c d:Int):Int × Int :=
 if t < 20 then (orV .u32 (andV .u32 b c) (andV .u32 (no32 b) d),1518500249)
 else if t < 40 then (xorV .u32 (xorV .u32 b c) d,1859775393)
 else if t < 60 then (orV .u32 (orV .u32 (andV .u32 b c) (andV .u32 b d)) (andV .u32 c d),2400959708)
 else (xorV .u32 (xorV .u32 b c) d,3395469782)
structure W5 where
 a:Int
 b:Int
 c:Int
 d:Int
 e:Int
def stepF (t:Nat) (x:Int) (s:W5):W5 :=
 ⟨IntKind.u32.wrap (IntKind.u32.wrap (IntKind.u32.wrap (IntKind.u32.wrap (lf s.a 5+(mixF t s.b s.c s.d).1)+s.e)+(mixF t s.b s.c s.d).2)+x),s.a,lf s.b 30,s.c,s.d⟩
def rounds (l:List Int):Nat→W5→W5
 | 0,s=>s
 | n+1,s=>stepF n (l.getD n 0) (rounds l n s)
def nextW (l:List Int):Int:=lf (xorV .u32 (xorV .u32 (xorV .u32 (l.getD (l.length - 3) 0) (l.getD (l.length - 8) 0)) (l.getD (l.length - 14) 0)) (l.getD (l.length - 16) 0)) 1
def growW:Nat→List Int→List Int
 | 0,l=>l
 | n+1,l=>growW n (l ++ [nextW l])
theorem growW_succ (n:Nat):∀ l,growW (n+1) l=growW n l ++ [nextW (growW n l)]:=by
 induction n with
 | zero=>intro l; rfl
 | succ n ih=>intro l; rw [growW,ih]; rfl
theorem growW_length (n:Nat) (l:List Int):(growW n l).length=l.length+n:=by
 induction n generalizing l with
 | zero=>rfl
 | succ n ih=>rw [growW,ih]; simp; omega
def be (l:List Int):Int:=l.foldl (fun a x=>a * 256+x) 0
theorem be_snoc (l:List Int) (x:Int):be (l ++ [x])=be l * 256+x:=by simp [be]
def base16 (p:List Int):List Int:=(List.range 16).map fun t=>be ((p.drop (4 * t)).take 4)
def addW (s x:W5):W5:=⟨IntKind.u32.wrap (s.a+x.a),IntKind.u32.wrap (s.b+x.b),IntKind.u32.wrap (s.c+x.c),IntKind.u32.wrap (s.d+x.d),IntKind.u32.wrap (s.e+x.e)⟩
def blkF (s:W5) (p:List Int):W5:=addW s (rounds (growW 64 (base16 p)) 80 s)
def W5.l (s:W5):List Int:=[s.a,s.b,s.c,s.d,s.e]
abbrev qkh (l:List Int):List Value:=l.map (Value.int .u32)
theorem qac (l:List Int):(qkh l).length=l.length:=by simp [qkh]
theorem qdj {l:List Int} {i:Nat} (h:i < l.length):(qkh l)[i]?=some (.int .u32 (l.getD i 0)):=by
 simp [qkh,h,List.getD,List.getElem?_eq_getElem h]
theorem u32s_set (l:List Int) (i:Nat) (v:Int):(qkh l).set i (.int .u32 v)=qkh (l.set i v):=by
 unfold qkh; rw [List.map_set]
theorem u8s_get {l:List Int} {i:Nat} (h:i < l.length):(u8s l)[i]?=some (.int .u8 (l.getD i 0)):=by
 simp [u8s,h,List.getD,List.getElem?_eq_getElem h]
def init5:W5:=⟨1732584193,4023233417,2562383102,271733878,3285377520⟩
def hs (xs:List Int):Nat→W5
 | 0=>init5
 | n+1=>blkF (hs xs n) ((xs.drop (64 * n)).take 64)
theorem hs_front (xs ys:List Int):∀ n,64 * n≤xs.length→hs (xs ++ ys) n=hs xs n
 | 0,_=>rfl
 | n+1,h=>by
   rw [hs,hs,hs_front xs ys n (by omega)]
   congr 1
   rw [List.drop_append_of_le_length (by omega),List.take_append_of_le_length (by rw [List.length_drop]; omega)]
def be8 (n:Int):List Int:=(List.range 8).map fun i=>n / 2 ^ (8 * (7 - i)) % 256
def zeros (n:Nat):List Int:=List.replicate ((119 - n % 64) % 64) 0
def padded (xs:List Int):List Int:=xs ++ [128] ++ zeros xs.length ++ be8 (8 * xs.length)
def sumW (xs:List Int):W5:=hs (padded xs) ((padded xs).length / 64)
def word4 (x:Int):List Int:=[x / 2 ^ 24 % 256,x / 2 ^ 16 % 256,x / 2 ^ 8 % 256,x % 256]
def qte (xs:List Int):List Int:=(sumW xs).l.flatMap word4
section
variable {F0:List Nat} {w0 w:World} {ps:List As}
theorem qph {b o n sz:Nat} {i:Int} {K:Addr→Prop} (h0:0≤i) (h1:i < (n:Int)) (hk:K ⟨b,o+i.toNat * sz,none⟩):ixA ⟨b,o,none⟩ n i sz K:=by
 unfold ixA
 rw [qjb]
 exact ⟨⟨h0,h1⟩,hk⟩
theorem qjf.c {x n:Int} {K:Ending→World→Prop} (hn:0≤n∧n≤32) (hk:∀ w',Mod [] w w'→K (.returned (.int .u32 (lf x n))) w'):Calls Tryz.prog 106 ⟨[.int .u32 x,.int .i64 n]⟩ w K:=by
 refine qmb (qjf.ok _ _ _ _ ?_)
 unfold qjf
 refine qvd ?_
 refine ⟨hn.1,qvd ?_⟩
 refine qy (ql (by omega) (by omega)) ?_
 refine ⟨by omega,qvd (qvd ?_)⟩
 exact hk _ (Mod.drew w)
theorem qfi.c {t:Nat} {b c d:Int} {K:Ending→World→Prop} (ht:t < 80) (hk:K (.returned (.tuple ⟨[.int .u32 (mixF t b c d).1,.int .u32 (mixF t b c d).2]⟩)) w):Calls Tryz.prog 107 ⟨[.int .i64 t,.int .u32 b,.int .u32 c,.int .u32 d]⟩ w K:=by
 refine qmb (qfi.ok _ _ _ _ _ _ ?_)
 unfold qfi
 refine ⟨by decide,?_⟩
 rw [tdiv_nn (by omega)]
 refine qy (ql (by omega) (by omega)) ?_
 unfold mixF at hk
 refine qyd (fun h1=>?_) (fun h1=>?_)
 · have h1:(t:Int) / 20=0:=by simpa using h1
   rw [if_pos (by omega)] at hk
   exact qvd (qvd (qvd (qvd hk)))
 have h1:¬ (t:Int) / 20=0:=by simpa using h1
 rw [if_neg (by omega)] at hk
 refine qyd (fun h2=>?_) (fun h2=>?_)
 · have h2:(t:Int) / 20=1:=by simpa using h2
   rw [if_pos (by omega)] at hk
   exact qvd (qvd hk)
 have h2:¬ (t:Int) / 20=1:=by simpa using h2
 rw [if_neg (by omega)] at hk
 refine qyd (fun h3=>?_) (fun h3=>?_)
 · have h3:(t:Int) / 20=2:=by simpa using h3
   rw [if_pos (by omega)] at hk
   exact qvd (qvd (qvd (qvd (qvd hk))))
 have h3:¬ (t:Int) / 20=2:=by simpa using h3
 rw [if_neg (by omega)] at hk
 exact qvd (qvd hk)
end
end Go.Proofs.YtonmgkkkiejicaaGreat
namespace Go.Proofs.YtonmgkkkiejicaaGreat
open Go Go.Proofs
set_option linter.unusedVariables false
set_option linter.unusedSimpArgs false
attribute [local irreducible] apK cpK mkK
theorem loop6 {α A B D E G H:Type} {C:(A→B→D→E→G→H→World→Prop)→(A→B→D→E→G→H→World→Nat)→A→B→D→E→G→H→World→Prop} {x:A} {y:B} {z:D} {u:E} {v:G} {t:H} {w:World} (Inv:α→A→B→D→E→G→H→World→Prop) (m:α→Nat) (a:α) (h:Inv a x y z u v t w)
 (hb:∀ a x y z u v t w I μ,Inv a x y z u v t w→(∀ a' x' y' z' u' v' t' w',Inv a' x' y' z' u' v' t' w'→m a' < m a→I x' y' z' u' v' t' w'∧μ x' y' z' u' v' t' w' < μ x y z u v t w)→C I μ x y z u v t w):∃ I μ,I x y z u v t w∧∀ x y z u v t w,I x y z u v t w→C I μ x y z u v t w:=by
 obtain ⟨I,μ,h1,h2⟩:=qvf (σ:=A × B × D × E × G × H × World) (C:=fun I μ s=>C (fun x y z u v t w=>I (x,y,z,u,v,t,w)) (fun x y z u v t w=>μ (x,y,z,u,v,t,w)) s.1 s.2.1 s.2.2.1 s.2.2.2.1 s.2.2.2.2.1 s.2.2.2.2.2.1 s.2.2.2.2.2.2) (s:=(x,y,z,u,v,t,w))
  (fun a s=>Inv a s.1 s.2.1 s.2.2.1 s.2.2.2.1 s.2.2.2.2.1 s.2.2.2.2.2.1 s.2.2.2.2.2.2) m a h
  (fun a s I μ hi hn=>hb a s.1 s.2.1 s.2.2.1 s.2.2.2.1 s.2.2.2.2.1 s.2.2.2.2.2.1 s.2.2.2.2.2.2 _ _ hi fun a' x' y' z' u' v' t' w'=>hn a' (x',y',z',u',v',t',w'))
 exact ⟨fun x y z u v t w=>I (x,y,z,u,v,t,w),fun x y z u v t w=>μ (x,y,z,u,v,t,w),h1,fun x y z u v t w hI=>h2 (x,y,z,u,v,t,w) hI⟩
attribute [local irreducible] rounds growW
theorem qye (l:List Value) (i:Nat):(⟨l⟩:Array Value)[i]?=l[i]?:=by simp
def qbd (l:List Int):Prop:=∀ x ∈ l,0≤x∧x < 256
theorem be_lt:∀ (l:List Int),qbd l→0≤be l∧be l < 256 ^ l.length:=by
 intro l
 have key:∀ (l:List Int) (a:Int) (k:Nat),qbd l→0≤a→a < 256 ^ k→0≤l.foldl (fun a x=>a * 256+x) a∧l.foldl (fun a x=>a * 256+x) a < 256 ^ (k+l.length):=by
  intro l
  induction l with
  | nil=>intro a k _ h0 h1; exact ⟨h0,h1⟩
  | cons x l ih =>
    intro a k hb h0 h1
    have hx:=hb x (by simp)
    have:=ih (a * 256+x) (k+1) (fun y hy=>hb y (by simp [hy])) (by omega) (by rw [Int.pow_succ]; omega)
    rw [List.foldl_cons,List.length_cons,show k+(l.length+1)=k+1+l.length by omega]
    exact this
 intro hb
 have:=key l 0 0 hb (by omega) (by decide)
 rwa [Nat.zero_add] at this
theorem or_byte {x c:Int} (hx:0≤x∧x < 16777216) (hc:0≤c∧c < 256):orV .u32 (shlV .u32 x 8) c=x * 256+c:=by
 obtain ⟨n,rfl⟩:∃ n:Nat,x=n:=⟨x.toNat,by omega⟩
 obtain ⟨m,rfl⟩:∃ m:Nat,c=m:=⟨c.toNat,by omega⟩
 have h1:shlV .u32 (n:Int) 8=(n:Int) * 2 ^ 8:=shlV_u (k:=.u32) (t:=8) rfl (by decide) (by show n * 2 ^ 8 < 2 ^ 32; omega)
 rw [h1,orV_comm,orV_uadd (k:=.u32) (t:=8) rfl (by omega) (by show m+n * 2 ^ 8 < 2 ^ 32; omega)]
 omega
def fillW (p:List Int) (i:Nat):List Int:=(List.range 80).map fun t=>be (((p.take i).drop (4 * t)).take 4)
theorem qwg (p:List Int) (i:Nat):(fillW p i).length=80:=by unfold fillW; rw [List.length_map,List.length_range]
theorem fillW_zero (p:List Int):fillW p 0=List.replicate 80 0:=by
 apply List.ext_getElem
 · simp [fillW]
 · intro i h1 h2
   rw [List.getElem_replicate]
   simp [fillW,be]
theorem fillW_getD {p:List Int} {i t:Nat} (h:t < 80):(fillW p i).getD t 0=be (((p.take i).drop (4 * t)).take 4):=by
 unfold fillW
 rw [List.getD_eq_getElem?_getD,List.getElem?_map,List.getElem?_range h]
 rfl
theorem fillW_bound {p:List Int} {i:Nat} (hp:qbd p) (hi:i < p.length):0≤be (((p.take i).drop (4 * (i / 4))).take 4)∧be (((p.take i).drop (4 * (i / 4))).take 4) < 16777216:=by
 have h:=be_lt (((p.take i).drop (4 * (i / 4))).take 4) (fun x hx=>hp x (List.mem_of_mem_take (List.mem_of_mem_drop (List.mem_of_mem_take hx))))
 refine ⟨h.1,Int.lt_of_lt_of_le h.2 ?_⟩
 have hl:(((p.take i).drop (4 * (i / 4))).take 4).length≤3:=by
  rw [List.length_take,List.length_drop,List.length_take]; omega
 generalize (((p.take i).drop (4 * (i / 4))).take 4).length=n at hl ⊢
 have h3:(256:Nat) ^ n≤256 ^ 3:=Nat.pow_le_pow_right (by decide) hl
 have h4:((256 ^ n:Nat):Int)=256 ^ n:=by rw [Int.natCast_pow]; rfl
 have h5:(256:Nat) ^ 3=16777216:=by decide
 omega
theorem fillW_succ {p:List Int} {i:Nat} (hi:i < p.length) (h64:i < 64):(fillW p i).set (i / 4) (be (((p.take i).drop (4 * (i / 4))).take 4) * 256+p[i])=fillW p (i+1):=by
 apply List.ext_getElem
 · simp [fillW]
 · intro t h1 h2
   simp only [List.length_set,qwg] at h1
   have htk:p.take (i+1)=p.take i ++ [p[i]]:=List.take_succ_eq_append_getElem hi
   rw [List.getElem_set]
   simp only [fillW,List.getElem_map,List.getElem_range]
   have hlen:(p.take i).length=i:=by rw [List.length_take]; omega
   by_cases h:i / 4=t
   · subst h
     rw [if_pos rfl,← be_snoc,htk,List.drop_append_of_le_length (by rw [hlen]; omega),List.take_append,List.take_of_length_le (l:=(p.take i).drop _) (by rw [List.length_drop,hlen]; omega)]
     congr 2
     rw [List.length_drop,hlen,List.take_of_length_le]
     simp; omega
   · rw [if_neg h,htk]
     congr 1
     rcases Nat.lt_or_ge t (i / 4) with h3 | h3
     · rw [List.drop_append_of_le_length (by rw [hlen]; omega),List.take_append_of_le_length (by rw [List.length_drop,hlen]; omega)]
     · rw [List.drop_eq_nil_of_le (by rw [hlen]; omega),List.drop_eq_nil_of_le (by rw [List.length_append,hlen]; simp; omega)]
theorem fillW_end {p:List Int} (hp:p.length=64):fillW p 64=base16 p ++ List.replicate 64 0:=by
 apply List.ext_getElem
 · simp [fillW,base16]
 · intro t h1 h2
   rw [List.getElem_append]
   simp only [fillW,List.getElem_map,List.getElem_range,base16,List.length_map,List.length_range]
   have e:p.take 64=p:=List.take_of_length_le (by omega)
   rw [e]
   split
   · rfl
   · rw [List.drop_eq_nil_of_le (by omega)]
     rw [List.getElem_replicate]
     simp [be]
theorem qkg {l m:List Int} {i:Nat} (h:i < l.length):(l ++ m).getD i 0=l.getD i 0:=by
 simp [List.getD,List.getElem?_append_left h]
theorem zc_w80:zc Tryz.prog 183=⟨qkh (List.replicate 80 0)⟩:=by kernel_rfl
section
variable {F0:List Nat} {w0 w:World} {ps:List As}
theorem St.ldu32 {b o:Nat} {l:List Int} {m:List Value} {i:Nat} {K:Int→Prop} (h:St F0 w0 w (qt b (qkh l ++ m) :: ps)) (ho:o=i) (hi:i < l.length) (hk:K (l.getD i 0)):ldI .u32 w ⟨b,o,none⟩ K:=by
 subst ho
 refine h.blk.ldI ?_ hk
 rw [List.getElem?_append_left (by rw [qac]; exact hi),qdj hi]
theorem St.ldu32' {b o:Nat} {l:List Int} {i:Nat} {K:Int→Prop} (h:St F0 w0 w (qt b (qkh l) :: ps)) (ho:o=i) (hi:i < l.length) (hk:K (l.getD i 0)):ldI .u32 w ⟨b,o,none⟩ K:=by
 subst ho
 exact h.blk.ldI (qdj hi) hk
theorem St.stu32 {b o:Nat} {l:List Int} {i:Nat} {v:Int} {K:World→Prop} (h:St F0 w0 w (qt b (qkh l) :: ps)) (ho:o=i) (hi:i < l.length) (hk:∀ w',St F0 w0 w' (qt b (qkh (l.set i v)) :: ps)→K w'):Go.Proofs.YtonmgkkkiejicaaGreat.st w ⟨b,o,none⟩ (.int .u32 v) K:=by
 subst ho
 refine h.st (by rw [qac]; exact hi) trivial fun w' h=>hk w' ?_
 rw [u32s_set] at h
 exact h
def someW (s x:W5) (n:Nat):List Int :=
 [if 0 < n then IntKind.u32.wrap (s.a+x.a) else s.a,if 1 < n then IntKind.u32.wrap (s.b+x.b) else s.b,if 2 < n then IntKind.u32.wrap (s.c+x.c) else s.c,if 3 < n then IntKind.u32.wrap (s.d+x.d) else s.d,if 4 < n then IntKind.u32.wrap (s.e+x.e) else s.e]
theorem qi.add {hb:Nat} {s x:W5} {tl:List Value} {Q:VWP} (h:St F0 w0 w (qt hb (qkh s.l ++ tl) :: ps))
 (hk:∀ w',St F0 w0 w' (qt hb (qkh (addW s x).l ++ tl) :: ps)→Q (.tuple ⟨[]⟩) w'):qi.l1 (some ⟨hb,0,none⟩) ⟨qkh x.l⟩ 0 Q w:=by
 refine loop1 (fun (i:Nat) (i':Int) w=>i'=i∧i≤5∧St F0 w0 w (qt hb (qkh (someW s x i) ++ tl) :: ps)) (fun i=>5 - i) 0 ⟨rfl,by omega,h⟩ ?_
 clear h
 rintro i i' w I μ ⟨rfl,hi,h⟩ hin
 unfold qi.b1
 refine qwc (fun h1=>?_) (fun h1=>?_)
 · refine ⟨by omega,?_⟩
   have ei:((i:Int)).toNat * 1=i:=by omega
   rw [ei]
   refine ⟨x.l.getD i 0,?_,?_⟩
   · rw [qye]
     exact qdj (by show i < 5; omega)
   refine h.drewK fun w h=>?_
   refine qee (qph (by omega) (by omega) ?_)
   rw [ei]
   refine h.ldu32 (i:=i) (by omega) (by show i < 5; omega) ?_
   refine qvd ?_
   refine qee (qph (by omega) (by omega) ?_)
   rw [ei]
   refine h.st (by rw [List.length_append,qac]; show 0+i < 5+tl.length; omega) trivial fun w h=>?_
   refine qy (ql (by omega) (by omega)) ?_
   refine ⟨⟨rfl,rfl⟩,hin (i+1) _ _ ⟨by simp,by omega,?_⟩ (by omega)⟩
   rw [List.set_append_left _ _ (by rw [qac]; show 0+i < 5; omega),u32s_set] at h
   have hc:i=0 ∨ i=1 ∨ i=2 ∨ i=3 ∨ i=4:=by omega
   rcases hc with rfl | rfl | rfl | rfl | rfl <;> exact h
 · have:i=5:=by omega
   subst this
   exact hk w h
theorem qi.rounds {hb:Nat} {s:W5} {tl:List Value} {l:List Int} (hl:l.length=80) {Q:VWP} (h:St F0 w0 w (qt hb (qkh s.l ++ tl) :: ps))
 (hk:∀ w',St F0 w0 w' (qt hb (qkh (addW s (rounds l 80 s)).l ++ tl) :: ps)→Q (.tuple ⟨[]⟩) w'):qi.l2 (some ⟨hb,0,none⟩) ⟨qkh l⟩ s.a s.b s.c s.d s.e 0 Q w:=by
 refine loop6 (fun (t:Nat) a b c d e (t':Int) w=>t'=t∧t≤80∧(⟨a,b,c,d,e⟩:W5)=Go.Proofs.YtonmgkkkiejicaaGreat.rounds l t s∧St F0 w0 w (qt hb (qkh s.l ++ tl) :: ps)) (fun t=>80 - t) 0 ⟨rfl,by omega,by rw [Go.Proofs.YtonmgkkkiejicaaGreat.rounds],h⟩ ?_
 clear h
 rintro t a b c d e t' w I μ ⟨rfl,ht,hr,h⟩ hin
 unfold qi.b2
 refine qwc (fun h1=>?_) (fun h1=>?_)
 · refine ⟨by omega,?_⟩
   have ei:((t:Int)).toNat * 1=t:=by omega
   rw [ei]
   refine ⟨l.getD t 0,?_,?_⟩
   · rw [qye]
     exact qdj (by omega)
   refine qfi.c (by omega) ⟨_,_,rfl,?_⟩
   refine qjf.c (by decide) fun w1 hm=>⟨_,rfl,?_⟩
   have h:=h.skip hm
   refine qvd (qvd (qvd (qvd ?_)))
   refine qjf.c (by decide) fun w2 hm=>⟨_,rfl,?_⟩
   have h:=h.skip hm
   refine qy (ql (by omega) (by omega)) ?_
   refine ⟨⟨rfl,rfl⟩,hin (t+1) _ _ _ _ _ _ _ ⟨by simp,by omega,?_,h⟩ (by omega)⟩
   rw [Go.Proofs.YtonmgkkkiejicaaGreat.rounds,← hr]
   rfl
 · have:t=80:=by omega
   subst this
   unfold qi.j5 qi.j6
   refine qi.add (x:=⟨a,b,c,d,e⟩) h ?_
   rw [hr]
   exact hk
theorem qi.c {hb:Nat} {s:W5} {tl:List Value} {p:List Int} {K:Ending→World→Prop} (hp:p.length=64) (hpb:qbd p) (h:St F0 w0 w (qt hb (qkh s.l ++ tl) :: ps))
 (hk:∀ w',St F0 w0 w' (qt hb (qkh (blkF s p).l ++ tl) :: ps)→K (.returned (.tuple ⟨[]⟩)) w'):Calls Tryz.prog 91 ⟨[.pointer (some ⟨hb,0,none⟩),.agg ⟨u8s p⟩]⟩ w K:=by
 unfold blkF at hk
 refine qmb (qi.ok _ _ _ _ ?_)
 unfold qi
 refine h.new fun n1 w h=>?_
 refine h.new fun n2 w h=>?_
 unfold qi.j1
 refine h.blk1.ldA (cs:=⟨u8s p⟩) (by show (u8s p).length=64; rw [qeb,hp]) (fun i hi=>by rw [Nat.zero_add,qye]) ?_
 have h:St F0 w0 w (qt n2 (qkh (fillW p 0)) :: qt hb (qkh s.l ++ tl) :: ps):=by
  have h:=h.at1.drop
  rw [zc_w80] at h
  rw [fillW_zero]
  exact h
 unfold qi.j9
 refine loop1 (fun (i:Nat) (i':Int) w=>i'=i∧i≤64∧St F0 w0 w (qt n2 (qkh (fillW p i)) :: qt hb (qkh s.l ++ tl) :: ps)) (fun i=>64 - i) 0 ⟨rfl,by omega,h⟩ ?_
 clear h
 rintro i i' w I μ ⟨rfl,hi,h⟩ hin
 unfold qi.b4
 refine qwc (fun h1=>?_) (fun h1=>?_)
 · refine ⟨by omega,?_⟩
   have ei:((i:Int)).toNat * 1=i:=by omega
   have ei4:((i:Int) / 4).toNat * 1=i / 4:=by omega
   rw [ei]
   refine ⟨p.getD i 0,?_,?_⟩
   · rw [qye]
     exact u8s_get (by omega)
   have hip:i < p.length:=by omega
   have hc:p.getD i 0=p[i]:=by simp [List.getD,hip]
   have hcb:=hpb p[i] (List.getElem_mem hip)
   rw [hc]
   refine ⟨by decide,?_⟩
   rw [tdiv_nn (by omega)]
   refine qy (ql (by omega) (by omega)) ?_
   refine ⟨by decide,?_⟩
   refine qy (ql (by omega) (by omega)) ?_
   refine qph (by omega) (by omega) ?_
   rw [ei4]
   refine h.ldu32' (i:=i / 4) (by omega) (by rw [qwg]; omega) ?_
   rw [fillW_getD (by omega)]
   refine ⟨by decide,qvd ?_⟩
   refine qy (show IntKind.u32.wrap p[i]=p[i] by rw [wrap_u32]; omega) ?_
   refine qy (or_byte (fillW_bound hpb hip) hcb) ?_
   refine qph (by omega) (by omega) ?_
   rw [ei4]
   refine h.stu32 (i:=i / 4) (by omega) (by rw [qwg]; omega) fun w h=>?_
   refine qy (ql (by omega) (by omega)) ?_
   refine ⟨⟨rfl,rfl,rfl⟩,hin (i+1) _ _ ⟨by simp,by omega,?_⟩ (by omega)⟩
   rw [fillW_succ hip (by omega)] at h
   exact h
 have:i=64:=by omega
 subst this
 rw [fillW_end hp] at h
 clear hin hi h1
 unfold qi.j2 qi.j8
 have hb16:(base16 p).length=16:=by simp [base16]
 refine loop1 (fun (t:Nat) (t':Int) w=>t'=(t:Int)+16∧t≤64∧St F0 w0 w (qt n2 (qkh (growW t (base16 p) ++ List.replicate (64 - t) 0)) :: qt hb (qkh s.l ++ tl) :: ps)) (fun t=>64 - t) 0 ⟨rfl,by omega,by rw [growW]; exact h⟩ ?_
 clear h
 rintro t t' w I μ ⟨rfl,ht,h⟩ hin
 have hgl:(growW t (base16 p)).length=t+16:=by rw [growW_length,hb16]; omega
 unfold qi.b3
 refine qwc (fun h1=>?_) (fun h1=>?_)
 · refine h.drewK fun w h=>?_
   have hlen:(growW t (base16 p) ++ List.replicate (64 - t) (0:Int)).length=80:=by rw [List.length_append,hgl,List.length_replicate]; omega
   refine qy (ql (by omega) (by omega)) ?_
   refine qph (by omega) (by omega) ?_
   refine h.ldu32' (i:=t+13) (by omega) (by omega) ?_
   refine qy (ql (by omega) (by omega)) ?_
   refine qph (by omega) (by omega) ?_
   refine h.ldu32' (i:=t+8) (by omega) (by omega) ?_
   refine qvd ?_
   refine qy (ql (by omega) (by omega)) ?_
   refine qph (by omega) (by omega) ?_
   refine h.ldu32' (i:=t+2) (by omega) (by omega) ?_
   refine qvd ?_
   refine qy (ql (by omega) (by omega)) ?_
   refine qph (by omega) (by omega) ?_
   refine h.ldu32' (i:=t) (by omega) (by omega) ?_
   refine qvd ?_
   refine qjf.c (by decide) fun w1 hm=>⟨_,rfl,?_⟩
   have h:=h.skip hm
   refine qph (by omega) (by omega) ?_
   refine h.stu32 (i:=t+16) (by omega) (by omega) fun w h=>?_
   refine qy (ql (by omega) (by omega)) ?_
   refine ⟨⟨rfl,rfl⟩,hin (t+1) _ _ ⟨by omega,by omega,?_⟩ (by omega)⟩
   rw [qkg (by omega),qkg (by omega),qkg (by omega),qkg (by omega)] at h
   have e:growW (t+1) (base16 p) ++ List.replicate (64 - (t+1)) 0=(growW t (base16 p) ++ List.replicate (64 - t) 0).set (t+16)
    (lf (xorV .u32 (xorV .u32 (xorV .u32 ((growW t (base16 p)).getD (t+13) 0) ((growW t (base16 p)).getD (t+8) 0)) ((growW t (base16 p)).getD (t+2) 0)) ((growW t (base16 p)).getD t 0)) 1):=by
    rw [growW_succ,List.set_append_right _ _ (by omega),hgl,Nat.sub_self,show 64 - t=(64 - (t+1))+1 by omega,List.replicate_succ,List.set_cons_zero,List.append_assoc]
    unfold nextW
    rw [hgl]
    rfl
   rw [e]
   exact h
 have:t=64:=by omega
 subst this
 clear hin ht h1
 rw [Nat.sub_self,List.replicate_zero,List.append_nil] at h
 unfold qi.j3
 refine h.drewK fun w h=>?_
 have hw:=h.at1
 refine qee (qph (by decide) (by decide) ?_)
 refine hw.ldu32 (i:=0) (by decide) (by show 0 < 5; decide) ?_
 refine qee (qph (by decide) (by decide) ?_)
 refine hw.ldu32 (i:=1) (by decide) (by show 1 < 5; decide) ?_
 refine qee (qph (by decide) (by decide) ?_)
 refine hw.ldu32 (i:=2) (by decide) (by show 2 < 5; decide) ?_
 refine qee (qph (by decide) (by decide) ?_)
 refine hw.ldu32 (i:=3) (by decide) (by show 3 < 5; decide) ?_
 refine qee (qph (by decide) (by decide) ?_)
 refine hw.ldu32 (i:=4) (by decide) (by show 4 < 5; decide) ?_
 unfold qi.j4
 refine h.blk.ldA (cs:=⟨qkh (growW 64 (base16 p))⟩) (by show (qkh _).length=80; rw [qac,hgl]) (fun i hi=>by rw [Nat.zero_add,qye]) ?_
 unfold qi.j7
 exact qi.rounds (by rw [hgl]) hw.at1.drop fun w h=>hk w h
end
end Go.Proofs.YtonmgkkkiejicaaGreat
namespace Go.Proofs.YtonmgkkkiejicaaGreat
open Go Go.Proofs
set_option linter.unusedVariables false
set_option maxRecDepth 100000
def qbc.j2 (out_7:Sl) (Q:VWP) (w:World):Prop :=
 qgh 28 [sV out_7] w fun r3 w2 =>
 Q (sV r3) w2
def qbc.b1 (v_1 bits_2:Int) (out_7:Sl) (Q:VWP) (nx1:Int→Int→Sl→WP) (w:World):Prop :=
 br (decide (bits_2 > 0)) (
 lt (IntKind.i64.wrap (bits_2 - 8)) fun x4 =>
 (0:Int)≤x4 ∧
 lt (shrV .i64 v_1 x4) fun x5 =>
 lt (IntKind.u8.wrap x5) fun x6 =>
 nw w ⟨[.int .u8 x6]⟩ 5 fun a7 w8 =>
 rdO w8 (some a7) (1 * 1) fun c9 =>
 apK Tryz.prog 5 w8 out_7.a out_7.len out_7.cap 1 c9 fun s10 w11 =>
 nx1 v_1 x4 s10 w11) (
 qbc.j2 out_7 Q w)
def qbc.l1 (v_1 bits_2:Int) (out_7:Sl) (Q:VWP) (w:World):Prop :=
 ∃ (I:Int→Sl→WP) (μ:Int→Sl→World→Nat),I bits_2 out_7 w∧∀ bits_2:Int,∀ out_7:Sl,∀ w:World,I bits_2 out_7 w→qbc.b1 v_1 bits_2 out_7 Q (fun v_1' bits_2' out_7' w'=>(v_1'=v_1)∧I bits_2' out_7' w'∧μ bits_2' out_7' w' < μ bits_2 out_7 w) w
def qbc.j1 (v_1 bits_2:Int) (out_7:Sl) (Q:VWP) (w:World):Prop :=
 qbc.l1 v_1 bits_2 out_7 Q w
def qbc (b_0:Sl) (v_1:Int) (bits_2:Int) (Q:VWP) (w:World):Prop :=
 qgh 90 [sV b_0] w fun r14 w13 =>
 qbc.j1 v_1 bits_2 r14 Q w13
theorem qbc.ok (b_0:Sl) (v_1:Int) (bits_2:Int) (Q:VWP) (w:World) (h:qbc b_0 v_1 bits_2 Q w):Calls Tryz.prog 53 ⟨[sV b_0,.int .i64 v_1,.int .i64 bits_2]⟩ w (Ret Q) :=
 qqb [.tmp 6] qdd Tryz.func53 rfl rfl rfl rfl (.pr 1 [sI 1,sI 2,sL 7] (fun a b c w=>qbc.j1 a b c Q w) (.sq [sL 7] (fun a w=>qbc.j2 a Q w) (.bk (.lo [sI 1] [sI 2,sL 7] (fun a b c w=>qbc.l1 a b c Q w) (fun nx1 a b c w=>qbc.b1 a b c Q nx1 w) fun nx1=>.lf)) .lf)) (by kernel_rfl) h
def qnc (b_0:Sl) (v_1:Int) (Q:VWP) (w:World):Prop :=
 qgh 53 [sV b_0,.int .i64 v_1,.int .i64 32] w fun r3 w2 =>
 Q (sV r3) w2
theorem qnc.ok (b_0:Sl) (v_1:Int) (Q:VWP) (w:World) (h:qnc b_0 v_1 Q w):Calls Tryz.prog 23 ⟨[sV b_0,.int .i64 v_1]⟩ w (Ret Q) :=
 qqb [.tmp 4] qdd Tryz.func23 rfl rfl rfl rfl .lf (by kernel_rfl) h
def qnd (b_0:Sl) (v_1:Int) (Q:VWP) (w:World):Prop :=
 qgh 53 [sV b_0,.int .i64 v_1,.int .i64 64] w fun r3 w2 =>
 Q (sV r3) w2
theorem qnd.ok (b_0:Sl) (v_1:Int) (Q:VWP) (w:World) (h:qnd b_0 v_1 Q w):Calls Tryz.prog 25 ⟨[sV b_0,.int .i64 v_1]⟩ w (Ret Q) :=
 qqb [.tmp 4] qdd Tryz.func25 rfl rfl rfl rfl .lf (by kernel_rfl) h
end Go.Proofs.YtonmgkkkiejicaaGreat
namespace Go.Proofs.YtonmgkkkiejicaaGreat
open Go Go.Proofs
set_option linter.unusedVariables false
set_option linter.unusedSimpArgs false
attribute [local irreducible] apK cpK mkK hs
def cellsH (s:W5) (rest:List Int) (n:Int):List Value:=qkh s.l ++ (u8s rest ++ [.int .i64 n])
theorem W5.l_length (s:W5):s.l.length=5:=rfl
theorem qbi {s:W5} {rest:List Int} {n:Int} (h:rest.length=64):(cellsH s rest n)[69]?=some (.int .i64 n):=by
 unfold cellsH
 rw [List.getElem?_append_right (by rw [qac,W5.l_length]; omega),qac,W5.l_length,List.getElem?_append_right (by rw [qeb]; omega),qeb,h]
 rfl
theorem qlg {s:W5} {rest:List Int} {n:Int} (h:rest.length=64):(cellsH s rest n).length=70:=by
 unfold cellsH
 rw [List.length_append,List.length_append,qac,qeb,W5.l_length,h]
 rfl
theorem cellsH_setn {s:W5} {rest:List Int} {n m:Int} (h:rest.length=64):(cellsH s rest n).set 69 (.int .i64 m)=cellsH s rest m:=by
 unfold cellsH
 rw [List.set_append_right _ _ (by rw [qac,W5.l_length]; omega),qac,W5.l_length,List.set_append_right _ _ (by rw [qeb]; omega),qeb,h]
 rfl
theorem cellsH_set {s:W5} {rest:List Int} {n c:Int} {k:Nat} (h:rest.length=64) (hk:k < 64):(cellsH s rest n).set (5+k) (.int .u8 c)=cellsH s (rest.set k c) n:=by
 unfold cellsH
 rw [List.set_append_right _ _ (by rw [qac,W5.l_length]; omega),qac,W5.l_length,show 5+k - 5=k by omega,List.set_append_left _ _ (by rw [qeb]; omega),u8s_set]
theorem cellsH_rest {s:W5} {rest:List Int} {n:Int} (h:rest.length=64) {i:Nat} (hi:i < 64):(cellsH s rest n)[5+i]?=(u8s rest)[i]?:=by
 unfold cellsH
 rw [List.getElem?_append_right (by rw [qac,W5.l_length]; omega),qac,W5.l_length,show 5+i - 5=i by omega,List.getElem?_append_left (by rw [qeb]; omega)]
def shA (hb:Nat) (xs:List Int):As:=exA fun rest:List Int=>ifA (rest.length=64∧rest.take (xs.length % 64)=xs.drop (64 * (xs.length / 64))∧qbd rest) <| qt hb (cellsH (Go.Proofs.YtonmgkkkiejicaaGreat.hs xs (xs.length / 64)) rest (xs.length:Int))
section
variable {F0:List Nat} {w0 w:World} {ps:List As}
theorem shA_o {hb:Nat} {xs:List Int} (h:St F0 w0 w (shA hb xs :: ps)):∃ rest:List Int,rest.length=64∧rest.take (xs.length % 64)=xs.drop (64 * (xs.length / 64))∧qbd rest∧St F0 w0 w (qt hb (cellsH (hs xs (xs.length / 64)) rest (xs.length:Int)) :: ps):=by
 obtain ⟨rest,h⟩:=h.exE
 obtain ⟨⟨h1,h2,h3⟩,h⟩:=h.ifE
 exact ⟨rest,h1,h2,h3,h⟩
theorem shA_i {hb:Nat} {xs rest:List Int} (h1:rest.length=64) (h2:rest.take (xs.length % 64)=xs.drop (64 * (xs.length / 64))) (h3:qbd rest) (h:St F0 w0 w (qt hb (cellsH (hs xs (xs.length / 64)) rest (xs.length:Int)) :: ps)):St F0 w0 w (shA hb xs :: ps) :=
 (h.ifI ⟨h1,h2,h3⟩).exI (p:=fun rest:List Int=>ifA (rest.length=64∧rest.take (xs.length % 64)=xs.drop (64 * (xs.length / 64))∧qbd rest) <| qt hb (cellsH (hs xs (xs.length / 64)) rest (xs.length:Int))) rest
theorem allB_set {l:List Int} {k:Nat} {c:Int} (h:qbd l) (hc:0≤c∧c < 256):qbd (l.set k c):=by
 intro x hx
 rcases List.mem_or_eq_of_mem_set hx with h1 | h1
 · exact h x h1
 · subst h1; exact hc
theorem qdb.c {hb:Nat} {xs zs:List Int} {s:Sl} {K:Ending→World→Prop} (h:St F0 w0 w (shA hb xs :: ps)) (hr:∀ w' p,St F0 w0 w' (p :: ps)→Rd w' 1 s (u8s zs)) (hz:qbd zs) (hL:xs.length+zs.length≤1099511627776)
 (hk:∀ w',St F0 w0 w' (shA hb (xs ++ zs) :: ps)→K (.returned (.tuple ⟨[]⟩)) w'):Calls Tryz.prog 56 ⟨[.pointer (some ⟨hb,0,none⟩),.slice s.a s.len s.cap]⟩ w K:=by
 have hs0:=(hr w _ h).1
 rw [qeb] at hs0
 refine qmb (qdb.ok _ _ _ _ ?_)
 unfold qdb qdb.j1
 refine loop1 (fun (i:Nat) (i':Int) w=>i'=i∧i≤zs.length∧St F0 w0 w (shA hb (xs ++ zs.take i) :: ps)) (fun i=>zs.length - i) 0 ⟨rfl,by omega,by simpa using h⟩ ?_
 clear h
 rintro i i' w I μ ⟨rfl,hi,h⟩ hin
 unfold qdb.b1
 refine qwc (fun h1=>?_) (fun h1=>?_)
 · have hiz:i < zs.length:=by omega
   have ei:((i:Int)).toNat * 1=i:=by omega
   refine (hr w _ h).ix (by decide) (by omega) (by omega) fun a ha=>?_
   rw [ei]
   refine (hr w _ h).ldI (n:=zs[i]) ha (by simp [u8s,hiz]) ?_
   have hcb:=hz zs[i] (List.getElem_mem hiz)
   have htk:xs ++ zs.take (i+1)=(xs ++ zs.take i) ++ [zs[i]]:=by rw [List.take_succ_eq_append_getElem hiz,List.append_assoc]
   have hlen:(xs ++ zs.take i).length≤1099511627776:=by rw [List.length_append,List.length_take]; omega
   generalize hy:xs ++ zs.take i=ys at h htk hlen
   generalize zs[i]=c at hcb htk
   refine h.drewK fun w h=>?_
   obtain ⟨rest,r1,r2,r3,h⟩:=shA_o h
   refine qee (h.blk.ldI (o:=69) (qbi r1) ?_)
   refine ⟨by decide,?_⟩
   refine qy (tmod_nn (by omega)) ?_
   have em:(ys.length:Int) % 64=(ys.length % 64:Nat):=by omega
   rw [em]
   have hk64:ys.length % 64 < 64:=Nat.mod_lt _ (by decide)
   refine qee (qph (by omega) (by omega) ?_)
   have eo:0+5+(((ys.length % 64:Nat):Int)).toNat * 1=5+ys.length % 64:=by omega
   rw [eo]
   refine h.st (by rw [qlg r1]; omega) trivial fun w h=>?_
   rw [cellsH_set r1 hk64] at h
   have r1':(rest.set (ys.length % 64) c).length=64:=by rw [List.length_set]; exact r1
   refine qee (h.blk.ldI (o:=69) (qbi r1') ?_)
   refine qy (ql (by omega) (by omega)) ?_
   refine qee (h.st (o:=69) (by rw [qlg r1']; omega) trivial fun w h=>?_)
   rw [cellsH_setn r1'] at h
   refine qee (h.blk.ldI (o:=69) (qbi r1') ?_)
   refine ⟨by decide,?_⟩
   refine qy (tmod_nn (by omega)) ?_
   have r3':=allB_set (k:=ys.length % 64) r3 hcb
   have r2':(rest.set (ys.length % 64) c).take (ys.length % 64+1)=(ys ++ [c]).drop (64 * (ys.length / 64)):=by
    rw [List.take_succ_eq_append_getElem (by omega),List.getElem_set_self,List.take_set_of_le (Nat.le_refl _),r2,List.drop_append_of_le_length (by omega)]
   have hl1:(ys ++ [c]).length=ys.length+1:=by simp
   refine qyd (fun h2=>?_) (fun h2=>?_)
   · have h2:((ys.length:Int)+1) % 64=0:=by simpa using h2
     refine qee (h.blk.ldA (cs:=⟨u8s (rest.set (ys.length % 64) c)⟩) (by show (u8s _).length=64; rw [qeb,r1']) (fun j hj=>by rw [qye,Nat.zero_add,cellsH_rest r1' hj]) ?_)
     unfold cellsH at h
     refine qi.c r1' r3' h fun w h=>⟨rfl,?_⟩
     refine qy (ql (by omega) (by omega)) ?_
     refine ⟨⟨rfl,rfl,rfl⟩,hin (i+1) _ _ ⟨by simp,by omega,?_⟩ (by omega)⟩
     rw [htk]
     refine shA_i r1' ?_ r3' ?_
     · rw [hl1,show (ys.length+1) % 64=0 by omega,List.take_zero,List.drop_eq_nil_of_le (by rw [hl1]; omega)]
     · rw [hl1,show (ys.length+1) / 64=ys.length / 64+1 by omega,hs,hs_front ys [c] _ (by omega)]
       have e:((ys ++ [c]).drop (64 * (ys.length / 64))).take 64=rest.set (ys.length % 64) c:=by
        rw [← r2',List.take_of_length_le (l:=(rest.set (ys.length % 64) c)) (by omega),List.take_of_length_le (by omega)]
       rw [e]
       exact h
   · have h2:¬ ((ys.length:Int)+1) % 64=0:=by simpa using h2
     refine qy (ql (by omega) (by omega)) ?_
     refine ⟨⟨rfl,rfl,rfl⟩,hin (i+1) _ _ ⟨by simp,by omega,?_⟩ (by omega)⟩
     rw [htk]
     refine shA_i r1' ?_ r3' ?_
     · rw [hl1,show (ys.length+1) % 64=ys.length % 64+1 by omega,show (ys.length+1) / 64=ys.length / 64 by omega]
       exact r2'
     · rw [hl1,show (ys.length+1) / 64=ys.length / 64 by omega,hs_front ys [c] _ (by omega)]
       exact h
 · have:i=zs.length:=by omega
   subst this
   rw [List.take_length] at h
   exact hk w h
end
end Go.Proofs.YtonmgkkkiejicaaGreat
namespace Go.Proofs.YtonmgkkkiejicaaGreat
open Go Go.Proofs
set_option linter.unusedVariables false
set_option linter.unusedSimpArgs false
attribute [local irreducible] apK cpK mkK hs
theorem zc_hash_size:(zc Tryz.prog 173).size=70:=by kernel_rfl
theorem new_cells:spl (zc Tryz.prog 173).toList 0 (⟨[.int .u32 1732584193,.int .u32 4023233417,.int .u32 2562383102,.int .u32 271733878,.int .u32 3285377520]⟩:Array Value)=cellsH init5 (List.replicate 64 0) 0:=by kernel_rfl
def beJ (n j:Nat) (v:Int):List Int:=(List.range j).map fun i=>v / 2 ^ (8 * (n - 1 - i)) % 256
theorem qfc (n j:Nat) (v:Int):(beJ n j v).length=j:=by simp [beJ]
theorem beJ_succ (n j:Nat) (v:Int):beJ n (j+1) v=beJ n j v ++ [v / 2 ^ (8 * (n - 1 - j)) % 256]:=by simp [beJ,List.range_succ]
theorem qgk (n j:Nat) (v:Int):qbd (beJ n j v):=by
 intro x hx
 obtain ⟨i,_,rfl⟩:=List.mem_map.1 hx
 omega
section
variable {F0:List Nat} {w0 w:World} {ps:List As}
theorem St.blkrd {b n:Nat} {l:List Value} (h:St F0 w0 w (qt b l :: ps)) (hn:l.length=n):St F0 w0 w (rdA 1 ⟨some ⟨b,0,none⟩,n,n⟩ l :: ps):=by
 refine h.mp ?_
 rintro F ⟨hb,rfl⟩
 exact ⟨by simp [hn],Or.inr ⟨b,0,l,rfl,hb.rb,rfl,fun i hi=>by rw [Nat.zero_add]⟩⟩
theorem qtd.c {hb:Nat} {xs:List Int} {K:Ending→World→Prop} (h:St F0 w0 w (shA hb xs :: ps)) (hk:∀ tb w',St F0 w0 w' (shA tb xs :: shA hb xs :: ps)→K (.returned (.pointer (some ⟨tb,0,none⟩))) w'):Calls Tryz.prog 92 ⟨[.pointer (some ⟨hb,0,none⟩)]⟩ w K:=by
 refine qmb (qtd.ok _ _ _ ?_)
 unfold qtd
 obtain ⟨rest,r1,r2,r3,h⟩:=shA_o h
 have hlen:=qlg (s:=hs xs (xs.length / 64)) (n:=(xs.length:Int)) r1
 refine qee (h.blk.ldA (cs:=⟨cellsH (hs xs (xs.length / 64)) rest (xs.length:Int)⟩) hlen (fun j hj=>by rw [qye,Nat.zero_add]) ?_)
 refine h.new fun nb w h=>?_
 refine ⟨hlen,?_⟩
 have hz:(zc Tryz.prog 173).toList.length=70:=by rw [Array.length_toList]; exact zc_hash_size
 refine h.stA (o:=0) (by rw [hz,Nat.zero_add]; show (cellsH _ _ _).length≤70; omega) ?_ fun w h=>?_
 · intro v hv
   have hv:v ∈ cellsH (hs xs (xs.length / 64)) rest (xs.length:Int):=by simpa using hv
   unfold cellsH at hv
   rcases List.mem_append.1 hv with hv | hv
   · obtain ⟨n,_,rfl⟩:=List.mem_map.1 hv; trivial
   rcases List.mem_append.1 hv with hv | hv
   · obtain ⟨n,_,rfl⟩:=List.mem_map.1 hv; trivial
   · rw [List.mem_singleton.1 hv]; trivial
 · have e:(zc Tryz.prog 173).toList.take 0 ++ (⟨cellsH (hs xs (xs.length / 64)) rest (xs.length:Int)⟩:Array Value).toList ++ (zc Tryz.prog 173).toList.drop (0+(⟨cellsH (hs xs (xs.length / 64)) rest (xs.length:Int)⟩:Array Value).size)=cellsH (hs xs (xs.length / 64)) rest (xs.length:Int):=by
    rw [List.take_zero,List.nil_append,List.drop_eq_nil_of_le (by rw [hz]; show 70≤0+(cellsH _ _ _).length; omega),List.append_nil]
   rw [e] at h
   exact hk nb w ((shA_i r1 r2 r3 h).tail fun _ _ _ h=>shA_i r1 r2 r3 h)
theorem new_as {nb:Nat} {l m:List Value} (e:l=m) (h:St F0 w0 w (qt nb (⟨l⟩:Array Value).toList :: ps)):St F0 w0 w (qt nb m :: ps):=by
 subst e; exact h
theorem qgi.c {K:Ending→World→Prop} (h:St F0 w0 w ps) (hk:∀ hb w',St F0 w0 w' (shA hb [] :: ps)→K (.returned (.pointer (some ⟨hb,0,none⟩))) w'):Calls Tryz.prog 55 ⟨[]⟩ w K:=by
 refine qmb (qgi.ok _ _ ?_)
 unfold qgi
 refine ⟨rfl,?_⟩
 refine h.new fun nb w h=>?_
 have h:=new_as new_cells h
 refine hk nb w (shA_i (xs:=[]) (rest:=List.replicate 64 0) (by decide) rfl ?_ ?_)
 · intro x hx
   rw [List.eq_of_mem_replicate hx]; decide
 · have e:hs [] (([]:List Int).length / 64)=init5:=by show hs [] 0=init5; rw [hs]
   rw [e]
   exact h
theorem qbc.c {s:Sl} {xs:List Int} {v:Int} {n:Nat} {K:Ending→World→Prop} (h:St F0 w0 w ps) (hr:Rd w 1 s (u8s xs)) (hL:xs.length≤1099511627776) (hn:n≤8)
 (hk:∀ s' w',s'.len=xs.length+n→s'.cap=s'.len→St F0 w0 w' (rdA 1 s' (u8s (xs ++ beJ n n v)) :: ps)→K (.returned (.slice s'.a s'.len s'.cap)) w'):Calls Tryz.prog 53 ⟨[.slice s.a s.len s.cap,.int .i64 v,.int .i64 ((8 * n:Nat):Int)]⟩ w K:=by
 refine qmb (qbc.ok _ _ _ _ _ ?_)
 unfold qbc
 refine qsb.c h hr (by omega) fun s1 w h=>⟨s1,rfl,?_⟩
 unfold qbc.j1
 refine loop2 (fun (j:Nat) (b':Int) (o':Sl) w=>b'=((8 * (n - j):Nat):Int)∧j≤n∧St F0 w0 w (qp 1 o' (u8s (xs ++ beJ n j v)) :: ps)) (fun j=>n - j) 0 ⟨rfl,by omega,by simpa [beJ] using h⟩ ?_
 clear h
 rintro j b' o w I μ ⟨rfl,hj,h⟩ hin
 unfold qbc.b1
 refine qwc (fun h1=>?_) (fun h1=>?_)
 · refine qy (ql (by omega) (by omega)) ?_
   have e:((8 * (n - j):Nat):Int) - 8=((8 * (n - 1 - j):Nat):Int):=by omega
   rw [e]
   refine ⟨by omega,?_⟩
   refine qy (qej .i64 _ (show 8 * (n - 1 - j)≤64 by omega)) ?_
   refine qy (wrap_u8 _) ?_
   refine h.new fun nb w h=>?_
   refine h.rdB rfl ?_
   refine h.drop.append_u8 (by rw [List.length_append,qfc]; omega) rfl fun s2 w h=>?_
   refine ⟨rfl,hin (j+1) _ _ _ ⟨?_,by omega,?_⟩ (by omega)⟩
   · rw [show n - 1 - j=n - (j+1) by omega]
   · rw [beJ_succ,← List.append_assoc]
     exact h
 · have:j=n:=by omega
   subst this
   have hcap:=h.cap (by decide)
   have hlen:=h.len
   rw [qeb,List.length_append,qfc] at hlen
   unfold qbc.j2
   refine qlb.c h.ro hcap fun s3 hs1 hs2 h=>⟨s3,rfl,hk s3 w (by omega) (by omega) h⟩
end
end Go.Proofs.YtonmgkkkiejicaaGreat
namespace Go.Proofs.YtonmgkkkiejicaaGreat
open Go Go.Proofs
set_option linter.unusedVariables false
set_option linter.unusedSimpArgs false
attribute [local irreducible] apK cpK mkK hs
def okW (s:W5):Prop:=∀ x ∈ s.l,0≤x∧x < 4294967296
theorem okW_hs (xs:List Int):∀ n,okW (hs xs n)
 | 0=>by
   rw [hs]
   intro x hx
   simp [W5.l,init5] at hx
   rcases hx with rfl | rfl | rfl | rfl | rfl <;> decide
 | n+1=>by
   rw [hs]
   unfold blkF
   generalize rounds _ 80 _=y
   generalize hs xs n=z
   intro x hx
   simp only [W5.l,addW,wrap_u32,List.mem_cons,List.not_mem_nil,or_false] at hx
   rcases hx with rfl | rfl | rfl | rfl | rfl <;> omega
theorem qlk:(zc Tryz.prog 39).size=20:=by kernel_rfl
theorem beJ4 (x:Int):beJ 4 4 x=word4 x:=by
 simp [beJ,word4,List.range_succ]
theorem be8_eq (v:Int):beJ 8 8 v=be8 v:=rfl
section
variable {F0:List Nat} {w0 w:World} {ps:List As}
theorem qnc.c {s:Sl} {xs:List Int} {v:Int} {K:Ending→World→Prop} (h:St F0 w0 w ps) (hr:Rd w 1 s (u8s xs)) (hL:xs.length≤1099511627776)
 (hk:∀ s' w',s'.len=xs.length+4→s'.cap=s'.len→St F0 w0 w' (rdA 1 s' (u8s (xs ++ word4 v)) :: ps)→K (.returned (.slice s'.a s'.len s'.cap)) w'):Calls Tryz.prog 23 ⟨[.slice s.a s.len s.cap,.int .i64 v]⟩ w K:=by
 refine qmb (qnc.ok _ _ _ _ ?_)
 unfold qnc
 refine qbc.c (n:=4) h hr hL (by decide) fun s' w h1 h2 h=>⟨s',rfl,?_⟩
 rw [beJ4] at h
 exact hk s' w h1 h2 h
theorem qnd.c {s:Sl} {xs:List Int} {v:Int} {K:Ending→World→Prop} (h:St F0 w0 w ps) (hr:Rd w 1 s (u8s xs)) (hL:xs.length≤1099511627776)
 (hk:∀ s' w',s'.len=xs.length+8→s'.cap=s'.len→St F0 w0 w' (rdA 1 s' (u8s (xs ++ be8 v)) :: ps)→K (.returned (.slice s'.a s'.len s'.cap)) w'):Calls Tryz.prog 25 ⟨[.slice s.a s.len s.cap,.int .i64 v]⟩ w K:=by
 refine qmb (qnd.ok _ _ _ _ ?_)
 unfold qnd
 refine qbc.c (n:=8) h hr hL (by decide) fun s' w h1 h2 h=>⟨s',rfl,?_⟩
 rw [be8_eq] at h
 exact hk s' w h1 h2 h
theorem qbf (xs:List Int):(qte xs).length=20:=rfl
theorem qn.out {tb nb:Nat} {zs:List Int} {c:List Value} (hc:c.length=20) {Q:VWP} (h:St F0 w0 w (shA tb zs :: qt nb c :: ps))
 (hk:∀ w',St F0 w0 w' ps→Q (.agg ⟨u8s ((hs zs (zs.length / 64)).l.flatMap word4)⟩) w'):qn.j4 ⟨nb,0,none⟩ (some ⟨tb,0,none⟩) ⟨none,0,0⟩ Q w:=by
 unfold qn.j4
 obtain ⟨rest,r1,r2,r3,h⟩:=shA_o h
 have hok:=okW_hs zs (zs.length / 64)
 generalize hs zs (zs.length / 64)=s at h hk hok
 refine qee (h.blk.ldA (cs:=⟨qkh s.l⟩) rfl (fun j hj=>?_) ?_)
 · rw [qye]
   unfold cellsH
   rw [List.getElem?_append_left (by rw [qac,W5.l_length]; omega)]
   congr 1
   omega
 unfold qn.j6
 refine loop2 (fun (i:Nat) (o':Sl) (i':Int) w=>i'=i∧i≤5∧o'.len=4 * i∧St F0 w0 w (rdA 1 o' (u8s ((s.l.take i).flatMap word4)) :: qt nb c :: ps)) (fun i=>5 - i) 0 ⟨rfl,by omega,rfl,(h.drop.nil 1).ro⟩ ?_
 clear h
 rintro i o i' w I μ ⟨rfl,hi,ho,h⟩ hin
 unfold qn.b1
 refine qwc (fun h1=>?_) (fun h1=>?_)
 · refine ⟨by omega,?_⟩
   have ei:((i:Int)).toNat * 1=i:=by omega
   have hil:i < s.l.length:=by rw [W5.l_length]; omega
   rw [ei]
   refine ⟨s.l[i],?_,?_⟩
   · rw [qye]; simp [qkh,hil]
   have hb:=hok s.l[i] (List.getElem_mem hil)
   refine qy (ql (by omega) (by omega)) ?_
   have hlen:=h.rd.1
   rw [qeb] at hlen
   refine qnc.c h h.rd (by omega) fun o2 w l1 l2 h=>⟨o2,rfl,?_⟩
   refine qy (ql (by omega) (by omega)) ?_
   refine ⟨⟨rfl,rfl⟩,hin (i+1) _ _ _ ⟨by simp,by omega,by omega,?_⟩ (by omega)⟩
   rw [List.take_succ_eq_append_getElem hil,List.flatMap_append,List.flatMap_singleton]
   exact h.tail fun _ _ _ h=>h.drop
 · have:i=5:=by omega
   subst this
   have hfl:s.l.take 5=s.l:=rfl
   rw [hfl] at h
   unfold qn.j5
   refine ⟨by omega,?_⟩
   have hr:=h.rd
   obtain ⟨a,ha,_⟩:=hr.2 0 (by show 0 < 20; decide)
   rw [ha]
   refine qee ⟨⟨u8s (s.l.flatMap word4)⟩,rfl,fun j hj=>?_,?_⟩
   · rw [hr.cell ha (by show j < 20; exact hj),qye]
   refine ⟨rfl,?_⟩
   refine h.at1.stA (o:=0) (by rw [hc]; exact Nat.le_refl 20) ?_ fun w h=>?_
   · intro v hv
     have hv:v ∈ u8s (s.l.flatMap word4):=by simpa using hv
     obtain ⟨n,_,rfl⟩:=List.mem_map.1 hv
     trivial
   · have e:c.take 0 ++ (⟨u8s (s.l.flatMap word4)⟩:Array Value).toList ++ c.drop (0+(⟨u8s (s.l.flatMap word4)⟩:Array Value).size)=u8s (s.l.flatMap word4):=by
      rw [List.take_zero,List.nil_append,List.drop_eq_nil_of_le (by rw [hc]; exact Nat.le_refl 20),List.append_nil]
     rw [e] at h
     refine h.blk.ldA (cs:=⟨u8s (s.l.flatMap word4)⟩) rfl (fun j hj=>by rw [qye,Nat.zero_add]) ?_
     exact hk w h.drop.drop
theorem St.tail1 {p q r:As} (h:St F0 w0 w (p :: q :: r :: ps)):St F0 w0 w (p :: r :: ps):=h.tail fun _ _ _ h=>h.drop
theorem qn.c {hb:Nat} {xs:List Int} {K:Ending→World→Prop} (h:St F0 w0 w (shA hb xs :: ps)) (hL:xs.length≤34359738368)
 (hk:∀ w',St F0 w0 w' (shA hb xs :: ps)→K (.returned (.agg ⟨u8s (qte xs)⟩)) w'):Calls Tryz.prog 57 ⟨[.pointer (some ⟨hb,0,none⟩)]⟩ w K:=by
 refine qmb (qn.ok _ _ _ ?_)
 unfold qn
 refine h.new fun nb w h=>?_
 have hz:(zc Tryz.prog 39).toList.length=20:=by rw [Array.length_toList]; exact qlk
 generalize (zc Tryz.prog 39).toList=c at h hz
 unfold qn.j1
 refine qtd.c h.at1 fun tb w h=>⟨_,rfl,?_⟩
 refine h.new fun n1 w h=>?_
 have h:=(h.blkrd (n:=1) rfl).at1
 refine qdb.c (s:=⟨some ⟨n1,0,none⟩,1,1⟩) (zs:=[128]) h (fun w' p h=>h.drop.rd) (by intro x hx; rw [List.mem_singleton.1 hx]; decide) (by simp; omega) fun w h=>⟨rfl,?_⟩
 have h:=h.tail1
 unfold qn.j2
 refine loop0 (fun (j:Nat) w=>j≤(119 - xs.length % 64) % 64∧St F0 w0 w (shA tb (xs ++ [128] ++ List.replicate j 0) :: shA hb xs :: qt nb c :: ps)) (fun j=>64 - j) 0 ⟨by omega,by simpa using h⟩ ?_
 clear h
 rintro j w I μ ⟨hj,h⟩ hin
 unfold qn.b2
 obtain ⟨rest,r1,r2,r3,h⟩:=shA_o h
 have hyl:(xs ++ [128] ++ List.replicate j 0).length=xs.length+1+j:=by simp; omega
 refine qee (h.blk.ldI (o:=69) (qbi r1) ?_)
 have h:=shA_i r1 r2 r3 h
 refine ⟨by decide,?_⟩
 refine qy (tmod_nn (by omega)) ?_
 refine qyd (fun h1=>?_) (fun h1=>?_)
 · have h1:¬ ((xs ++ [128] ++ List.replicate j 0).length:Int) % 64=56:=by simpa using h1
   refine h.new fun n2 w h=>?_
   have h:=(h.blkrd (n:=1) rfl).at1
   refine qdb.c (s:=⟨some ⟨n2,0,none⟩,1,1⟩) (zs:=[0]) h (fun w' p h=>h.drop.rd) (by intro x hx; rw [List.mem_singleton.1 hx]; decide) (by simp; omega) fun w h=>⟨rfl,?_⟩
   refine ⟨⟨rfl,rfl,rfl⟩,hin (j+1) _ ⟨by omega,?_⟩ (by omega)⟩
   rw [List.replicate_succ',← List.append_assoc]
   exact h.tail1
 · have h1:((xs ++ [128] ++ List.replicate j 0).length:Int) % 64=56:=by simpa using h1
   have hjz:j=(119 - xs.length % 64) % 64:=by omega
   unfold qn.j3
   obtain ⟨rest,r1,r2,r3,h2⟩:=shA_o h.at1
   refine qee (h2.blk.ldI (o:=69) (qbi r1) ?_)
   refine qy (ql (by omega) (by omega)) ?_
   refine qnd.c (s:=⟨none,0,0⟩) (xs:=[]) h ⟨rfl,fun i hi=>by simp [u8s] at hi⟩ (by simp) fun s w l1 l2 h=>⟨s,rfl,?_⟩
   refine qdb.c (zs:=be8 (8 * xs.length)) h.at1 (fun w' p h=>h.drop.rd) (qgk 8 8 _) (by rw [hyl]; show _+8≤_; omega) fun w h=>⟨rfl,?_⟩
   have e:xs ++ [128] ++ List.replicate j 0 ++ be8 (8 * xs.length)=padded xs:=by rw [padded,zeros,hjz]
   rw [e] at h
   refine qn.out hz (h.tail1.tail fun _ _ _ h=>h.at1) fun w h=>hk w h
end
end Go.Proofs.YtonmgkkkiejicaaGreat
namespace Go.Proofs.YtonmgkkkiejicaaGreat
open Go Go.Proofs
set_option linter.unusedVariables false
set_option linter.unusedSimpArgs false
attribute [local irreducible] apK cpK mkK hs qte
section
variable {F0:List Nat} {w0 w:World} {ps:List As}
theorem quh (xs:List Int):(u8s (qte xs)).length=20:=by rw [qeb]; exact qbf xs
theorem qsi {l:List Int}:∀ v ∈ (⟨u8s l⟩:Array Value),storable v:=by
 intro v hv
 have hv:v ∈ u8s l:=by simpa using hv
 obtain ⟨n,_,rfl⟩:=List.mem_map.1 hv
 trivial
theorem St.st20 {nb:Nat} {c l:List Value} {K:World→Prop} (h:St F0 w0 w (qt nb c :: ps)) (hc:c.length=20) (hl:l.length=20) (hs:∀ v ∈ (⟨l⟩:Array Value),storable v)
 (hk:∀ w',St F0 w0 w' (qt nb l :: ps)→K w'):Go.Proofs.YtonmgkkkiejicaaGreat.stA w ⟨nb,0,none⟩ ⟨l⟩ K:=by
 refine h.stA (o:=0) (by show 0+l.length≤c.length; omega) hs fun w' h=>hk w' ?_
 have e:c.take 0 ++ (⟨l⟩:Array Value).toList ++ c.drop (0+(⟨l⟩:Array Value).size)=l:=by
  rw [List.take_zero,List.nil_append,List.drop_eq_nil_of_le (by show c.length≤0+l.length; omega),List.append_nil]
 rwa [e] at h
theorem St.ld20 {nb n:Nat} {l:List Value} {K:Array Value→Prop} (h:St F0 w0 w (qt nb l :: ps)) (hl:l.length=n) (hk:K ⟨l⟩):ldA w ⟨nb,0,none⟩ n K :=
 h.blk.ldA (cs:=⟨l⟩) hl (fun j hj=>by rw [qye,Nat.zero_add]) hk
theorem qdg.c {s:Sl} {xs:List Int} {K:Ending→World→Prop} (h:St F0 w0 w ps) (hr:∀ w' p q,St F0 w0 w' (p :: q :: ps)→Rd w' 1 s (u8s xs)) (hx:qbd xs) (hL:xs.length≤34359738368)
 (hk:∀ w',St F0 w0 w' ps→K (.returned (.agg ⟨u8s (qte xs)⟩)) w'):Calls Tryz.prog 27 ⟨[.slice s.a s.len s.cap]⟩ w K:=by
 refine qmb (qdg.ok _ _ _ ?_)
 unfold qdg
 refine h.new fun nb w h=>?_
 have hz:(zc Tryz.prog 39).toList.length=20:=by rw [Array.length_toList]; exact qlk
 generalize (zc Tryz.prog 39).toList=c at h hz
 refine qgi.c h fun hb w h=>⟨_,rfl,?_⟩
 refine qdb.c h (fun w' p h=>hr w' p _ h) hx (by simp; omega) fun w h=>⟨rfl,?_⟩
 rw [List.nil_append] at h
 refine qn.c h hL fun w h=>⟨_,rfl,?_⟩
 refine ⟨quh xs,?_⟩
 refine h.drop.st20 hz (quh xs) qsi fun w h=>?_
 refine h.ld20 (quh xs) ?_
 exact hk w h.drop
end
end Go.Proofs.YtonmgkkkiejicaaGreat
namespace Go.Proofs.YtonmgkkkiejicaaGreat
open Go Go.Proofs
set_option linter.unusedVariables false
set_option linter.unusedSimpArgs false
attribute [local irreducible] apK cpK mkK hs qte rounds growW
section
variable {F0:List Nat} {w0 w:World} {ps rest:List As}
theorem qdg.d {s:Sl} {xs:List Int} {K:Ending→World→Prop} (h:St F0 w0 w ps) [Rdb F0 w0 s ps 1 (u8s xs)] (hx:qbd xs) (hL:xs.length≤34359738368)
 (hk:∀ w',St F0 w0 w' ps→K (.returned (.agg ⟨u8s (qte xs)⟩)) w'):Calls Tryz.prog 27 ⟨[.slice s.a s.len s.cap]⟩ w K :=
 qdg.c h (fun w' p q h=>h.drop.drop.rdb s) hx hL hk
end
end Go.Proofs.YtonmgkkkiejicaaGreat
namespace Go.Proofs.YtonmgkkkiejicaaGreat
open Go Go.Proofs
set_option linter.unusedVariables false
set_option maxRecDepth 100000
def qef (b_0:Sl) (Q:VWP) (w:World):Prop :=
 qgh 90 [sV b_0] w fun r3 w2 =>
 nw w2 (⟨[sV r3,.int .i64 0,.int .i64 0]⟩:Array Value) 176 fun a4 w5 =>
 Q (.pointer (some a4)) w5
theorem qef.ok (b_0:Sl) (Q:VWP) (w:World) (h:qef b_0 Q w):Calls Tryz.prog 60 ⟨[sV b_0]⟩ w (Ret Q) :=
 qqb [.tmp 2] qdd Tryz.func60 rfl rfl rfl rfl .lf (by kernel_rfl) h
def qad (r_0:OAd) (Q:VWP) (w:World):Prop :=
 nz r_0 fun a1 =>
 ldI .i64 w (Addr.add a1 2) fun x2 =>
 Q (.int .i64 x2) w
theorem qad.ok (r_0:OAd) (Q:VWP) (w:World) (h:qad r_0 Q w):Calls Tryz.prog 65 ⟨[.pointer r_0]⟩ w (Ret Q) :=
 qqb [.tmp 2] qdd Tryz.func65 rfl rfl rfl rfl .lf (by kernel_rfl) h
def qdc (r_0:OAd) (Q:VWP) (w:World):Prop :=
 nz r_0 fun a1 =>
 ldI .i64 w (Addr.add a1 2) fun x2 =>
 br (x2 != 0) (
 Q (.int .i64 0) w) (
 lt (World.drew w) fun w3 =>
 nz r_0 fun a4 =>
 ldL w3 (Addr.add a4 0) fun x5 =>
 nz r_0 fun a6 =>
 ldI .i64 w3 (Addr.add a6 1) fun x7 =>
 lt (IntKind.i64.wrap ((x5.len:Int) - x7)) fun x8 =>
 Q (.int .i64 x8) w3)
theorem qdc.ok (r_0:OAd) (Q:VWP) (w:World) (h:qdc r_0 Q w):Calls Tryz.prog 63 ⟨[.pointer r_0]⟩ w (Ret Q) :=
 qqb [.tmp 2] qdd Tryz.func63 rfl rfl rfl rfl .lf (by kernel_rfl) h
def qgb.j1 (r_0:OAd) (n_1:Int) (Q:VWP) (w:World):Prop :=
 nz r_0 fun a1 =>
 ldI .i64 w (Addr.add a1 2) fun x2 =>
 br (x2 != 0) (
 Q (.slice none 0 0) w) (
 nz r_0 fun a3 =>
 ldI .i64 w (Addr.add a3 1) fun x4 =>
 lt (IntKind.i64.wrap (x4+n_1)) fun x5 =>
 nz r_0 fun a6 =>
 st w (Addr.add a6 1) (.int .i64 x5) fun w7 =>
 lt (World.drew w7) fun w8 =>
 nz r_0 fun a9 =>
 ldL w8 (Addr.add a9 0) fun x10 =>
 nz r_0 fun a11 =>
 ldI .i64 w8 (Addr.add a11 1) fun x12 =>
 lt (IntKind.i64.wrap (x12 - n_1)) fun x13 =>
 nz r_0 fun a14 =>
 ldI .i64 w8 (Addr.add a14 1) fun x15 =>
 bd x15 x10.cap fun n16 =>
 bd x13 n16 fun n17 =>
 lt (⟨qme x10.a x10.cap n17 1,n16 - n17,x10.cap - n17⟩:Sl) fun s18 =>
 Q (sV s18) w8)
def qgb (r_0:OAd) (n_1:Int) (Q:VWP) (w:World):Prop :=
 nz r_0 fun a19 =>
 ldI .i64 w (Addr.add a19 2) fun x20 =>
 br (x20 == 0) (
 br (decide (n_1 < 0)) (
 nz r_0 fun a21 =>
 st w (Addr.add a21 2) (.int .i64 3) fun w22 =>
 qgb.j1 r_0 n_1 Q w22) (
 qmi 63 [.pointer r_0] w fun r25 w24 =>
 br (decide (n_1 > r25)) (
 nz r_0 fun a26 =>
 st w24 (Addr.add a26 2) (.int .i64 3) fun w27 =>
 qgb.j1 r_0 n_1 Q w27) (
 qgb.j1 r_0 n_1 Q w24))) (
 qgb.j1 r_0 n_1 Q w)
theorem qgb.ok (r_0:OAd) (n_1:Int) (Q:VWP) (w:World) (h:qgb r_0 n_1 Q w):Calls Tryz.prog 96 ⟨[.pointer r_0,.int .i64 n_1]⟩ w (Ret Q) :=
 qqb [.tmp 4] qdd Tryz.func96 rfl rfl rfl rfl (.pr 1 [sP 0,sI 1] (fun a b w=>qgb.j1 a b Q w) .lf) (by kernel_rfl) h
def qq.j2 (v_5:Int) (Q:VWP) (w:World):Prop :=
 Q (.int .i64 v_5) w
def qq.b1 (t10:Sl) (t11:Int) (v_5 t12:Int) (Q:VWP) (nx1:Sl→Int→Int→Int→WP) (w:World):Prop :=
 br (decide (t12 < t11)) (
 ixS t10.a t10.len t12 1 fun a1 =>
 ldI .u8 w a1 fun x2 =>
 (0:Int)≤8 ∧
 lt (shlV .i64 v_5 8) fun x3 =>
 lt (IntKind.i64.wrap x2) fun x4 =>
 lt (orV .i64 x3 x4) fun x5 =>
 lt (IntKind.i64.wrap (t12+1)) fun x6 =>
 nx1 t10 t11 x5 x6 w) (
 qq.j2 v_5 Q w)
def qq.l1 (t10:Sl) (t11:Int) (v_5 t12:Int) (Q:VWP) (w:World):Prop :=
 ∃ (I:Int→Int→WP) (μ:Int→Int→World→Nat),I v_5 t12 w∧∀ v_5:Int,∀ t12:Int,∀ w:World,I v_5 t12 w→qq.b1 t10 t11 v_5 t12 Q (fun t10' t11' v_5' t12' w'=>(t10'=t10∧t11'=t11)∧I v_5' t12' w'∧μ v_5' t12' w' < μ v_5 t12 w) w
def qq.j3 (v_5:Int) (t10:Sl) (t11 t12:Int) (Q:VWP) (w:World):Prop :=
 qq.l1 t10 t11 v_5 t12 Q w
def qq.j1 (r_0:OAd) (n_1:Int) (v_5:Int) (Q:VWP) (w:World):Prop :=
 qgh 96 [.pointer r_0,.int .i64 n_1] w fun r9 w8 =>
 qq.j3 v_5 r9 (r9.len:Int) 0 Q w8
def qq (r_0:OAd) (n_1:Int) (Q:VWP) (w:World):Prop :=
 qq.j1 r_0 n_1 0 Q w
theorem qq.ok (r_0:OAd) (n_1:Int) (Q:VWP) (w:World) (h:qq r_0 n_1 Q w):Calls Tryz.prog 94 ⟨[.pointer r_0,.int .i64 n_1]⟩ w (Ret Q) :=
 qqb [.tmp 4] qdd Tryz.func94 rfl rfl rfl rfl (.pr 1 [sP 0,sI 1,sI 5] (fun a b c w=>qq.j1 a b c Q w) (.sq [sI 5] (fun a w=>qq.j2 a Q w) (.sq [sI 5,sL 10,sI 11,sI 12] (fun a b c d w=>qq.j3 a b c d Q w) .lf (.bk (.lo [sL 10,sI 11] [sI 5,sI 12] (fun a b c d w=>qq.l1 a b c d Q w) (fun nx1 a b c d w=>qq.b1 a b c d Q nx1 w) fun nx1=>.lf))) .lf)) (by kernel_rfl) h
def qqc (r_0:OAd) (Q:VWP) (w:World):Prop :=
 qmi 94 [.pointer r_0,.int .i64 4] w fun r3 w2 =>
 Q (.int .i64 r3) w2
theorem qqc.ok (r_0:OAd) (Q:VWP) (w:World) (h:qqc r_0 Q w):Calls Tryz.prog 61 ⟨[.pointer r_0]⟩ w (Ret Q) :=
 qqb [.tmp 2] qdd Tryz.func61 rfl rfl rfl rfl .lf (by kernel_rfl) h
def qid (r_0:OAd) (Q:VWP) (w:World):Prop :=
 qmi 94 [.pointer r_0,.int .i64 8] w fun r3 w2 =>
 br (decide (r3 < 0)) (
 nz r_0 fun a4 =>
 ldI .i64 w2 (Addr.add a4 1) fun x5 =>
 lt (IntKind.i64.wrap (x5 - 8)) fun x6 =>
 nz r_0 fun a7 =>
 st w2 (Addr.add a7 1) (.int .i64 x6) fun w8 =>
 nz r_0 fun a9 =>
 st w8 (Addr.add a9 2) (.int .i64 5) fun w10 =>
 Q (.int .i64 0) w10) (
 Q (.int .i64 r3) w2)
theorem qid.ok (r_0:OAd) (Q:VWP) (w:World) (h:qid r_0 Q w):Calls Tryz.prog 93 ⟨[.pointer r_0]⟩ w (Ret Q) :=
 qqb [.tmp 2] qdd Tryz.func93 rfl rfl rfl rfl .lf (by kernel_rfl) h
def qmc (r_0:OAd) (n_1:Int) (Q:VWP) (w:World):Prop :=
 qgh 96 [.pointer r_0,.int .i64 n_1] w fun r3 w2 =>
 qgh 90 [sV r3] w2 fun r6 w5 =>
 qgh 28 [sV r6] w5 fun r9 w8 =>
 Q (sV r9) w8
theorem qmc.ok (r_0:OAd) (n_1:Int) (Q:VWP) (w:World) (h:qmc r_0 n_1 Q w):Calls Tryz.prog 64 ⟨[.pointer r_0,.int .i64 n_1]⟩ w (Ret Q) :=
 qqb [.tmp 4] qdd Tryz.func64 rfl rfl rfl rfl .lf (by kernel_rfl) h
end Go.Proofs.YtonmgkkkiejicaaGreat
namespace Go.Proofs.YtonmgkkkiejicaaGreat
open Go Go.Proofs
set_option linter.unusedVariables false
set_option linter.unusedSimpArgs false
attribute [local irreducible] apK cpK mkK
theorem qmk (k:IntKind) {x y:Int} (h:x % 2 ^ k.bits=y % 2 ^ k.bits):k.wrap x=k.wrap y:=by simp only [IntKind.wrap,h]
theorem wrap_mod (k:IntKind) (x:Int):k.wrap x % 2 ^ k.bits=x % 2 ^ k.bits:=by
 simp only [IntKind.wrap]
 split
 · rw [Int.sub_emod_right,Int.emod_emod]
 · rw [Int.emod_emod]
theorem or_byte64 {k:IntKind} (hb:k.bits=64) {v c:Int} (hc:0≤c∧c < 256):orV k (shlV k v 8) c=k.wrap (v * 256+c):=by
 obtain ⟨n,rfl⟩:∃ n:Nat,c=n:=⟨c.toNat,by omega⟩
 unfold orV shlV
 have h8:min (8:Int).toNat k.bits=8:=by rw [hb]; rfl
 rw [h8]
 have e1:=qoh k.bits (k.wrap (v * 2 ^ 8))
 rw [wrap_mod] at e1
 have e2:(BitVec.ofInt k.bits (n:Int)).toNat=n:=qlf _ _ (by rw [hb]; omega)
 rw [BitVec.toNat_or,e2]
 generalize (BitVec.ofInt k.bits (k.wrap (v * 2 ^ 8))).toNat=A at e1
 have h28:(2:Int) ^ 8=256:=by decide
 have h64:(2:Int) ^ k.bits=18446744073709551616:=by rw [hb]; decide
 rw [h28,h64] at e1
 obtain ⟨q,rfl⟩:∃ q,A=2 ^ 8 * q:=⟨A / 256,by omega⟩
 have:=Nat.two_pow_add_eq_or_of_lt (i:=8) (b:=n) (by omega) q
 rw [← this]
 apply qmk
 rw [h64]
 have h28n:(2:Nat) ^ 8=256:=by decide
 rw [h28n] at e1 ⊢
 omega
theorem be_fold (k:IntKind) (hb:k.bits=64) (a:Int) (l:List Int) (c:Int) (hc:0≤c∧c < 256):orV k (shlV k (k.wrap (be l)) 8) c=k.wrap (be (l ++ [c])):=by
 rw [or_byte64 hb hc,be_snoc]
 apply qmk
 have h64:(2:Int) ^ k.bits=18446744073709551616:=by rw [hb]; decide
 have:=wrap_mod k (be l)
 rw [h64] at this ⊢
 omega
theorem be_beJ (n:Nat) (v:Int):∀ j,j≤n→be (beJ n j v)=v / 2 ^ (8 * (n - j)) % 2 ^ (8 * j):=by
 intro j
 induction j with
 | zero=>intro _; simp [beJ,be,Int.emod_one]
 | succ j ih =>
   intro hj
   rw [beJ_succ,be_snoc,ih (by omega),show n - 1 - j=n - (j+1) by omega]
   have e1:v / 2 ^ (8 * (n - j))=v / 2 ^ (8 * (n - (j+1))) / 256:=by
    rw [show 8 * (n - j)=8 * (n - (j+1))+8 by omega,Int.pow_add,show (2:Int) ^ 8=256 by decide,Int.ediv_ediv_of_nonneg (Int.le_of_lt (Int.pow_pos (by decide)))]
   have e2:(2:Int) ^ (8 * (j+1))=256 * 2 ^ (8 * j):=by rw [show 8 * (j+1)=8+8 * j by omega,Int.pow_add]; rfl
   rw [e1,e2]
   generalize v / 2 ^ (8 * (n - (j+1)))=x
   have hp:(0:Int) < 2 ^ (8 * j):=Int.pow_pos (by decide)
   generalize (2:Int) ^ (8 * j)=m at hp
   have h1:=Int.mul_ediv_add_emod (x / 256) m
   have h2:=Int.mul_ediv_add_emod x 256
   have h3:=Int.emod_lt_of_pos (x / 256) hp
   have h4:=Int.emod_nonneg (x / 256) (show m ≠ 0 by omega)
   have h5:x=(x / 256 % m * 256+x % 256)+(x / 256 / m) * (256 * m):=by
    have e:(x / 256 / m) * (256 * m)=256 * (m * (x / 256 / m)):=by rw [← Int.mul_assoc,Int.mul_comm (x / 256 / m) 256,Int.mul_assoc,Int.mul_comm (x / 256 / m) m]
    rw [e]; omega
   have h6:=Int.add_mul_emod_self_right (x / 256 % m * 256+x % 256) (x / 256 / m) (256 * m)
   rw [← h5] at h6
   have h7:(x / 256 % m * 256+x % 256) % (256 * m)=x / 256 % m * 256+x % 256:=Int.emod_eq_of_lt (by omega) (by omega)
   rw [h6,h7]
theorem be_beJ' (n:Nat) (v:Int):be (beJ n n v)=v % 2 ^ (8 * n):=by
 rw [be_beJ n v n (Nat.le_refl _),Nat.sub_self,Nat.mul_zero,Int.pow_zero,Int.ediv_one]
theorem be_lt8 {l:List Int} (h:qbd l) {n:Nat} (hn:l.length≤n):0≤be l∧be l < 2 ^ (8 * n):=by
 have:=be_lt l h
 refine ⟨this.1,Int.lt_of_lt_of_le this.2 ?_⟩
 have e:(256:Int) ^ l.length=2 ^ (8 * l.length):=by rw [show (256:Int)=2 ^ 8 by decide,← Int.pow_mul]
 rw [e]
 exact_mod_cast Nat.pow_le_pow_right (by decide) (show 8 * l.length≤8 * n by omega)
def tkS (xs:List Int) (at':Nat) (err n:Int):List Int × Nat × Int :=
 if err=0∧0≤n∧n≤xs.length - at' then ((xs.drop at').take n.toNat,at'+n.toNat,0) else ([],at',if err=0 then 3 else err)
def nuS (xs:List Int) (at':Nat) (err:Int) (n:Nat):Int × Nat × Int :=
 if 9223372036854775807 < be (tkS xs at' err n).1 then (0,at',5) else (be (tkS xs at' err n).1,(tkS xs at' err n).2)
def brA (rb:Nat) (x:List Int × Nat × Int):As:=exA fun s:Sl=>ifA (x.2.1≤x.1.length∧s.len≤s.cap∧qbd x.1∧x.1.length≤1099511627776) <| andA (qt rb [.slice s.a s.len s.cap,.int .i64 (x.2.1:Int),.int .i64 x.2.2]) (qp 1 s (u8s x.1))
section
variable {F0:List Nat} {w0 w:World} {ps rest:List As} {rb at':Nat} {xs:List Int} {err:Int}
theorem brA_o (h:St F0 w0 w ps) [PkF brA rb ps (xs,at',err) rest]:∃ s:Sl,at'≤xs.length∧s.len≤s.cap∧s.len=xs.length∧qbd xs∧xs.length≤1099511627776∧St F0 w0 w (qt rb [.slice s.a s.len s.cap,.int .i64 (at':Int),.int .i64 err] :: qp 1 s (u8s xs) :: rest):=by
 obtain ⟨s,h⟩:=(h.toF brA rb).exE
 obtain ⟨⟨h1,h2,h3,h4⟩,h⟩:=h.ifE
 have h:=h.split
 have hl:=h.at1.len
 rw [qo] at hl
 exact ⟨s,h1,h2,by simp only at hl; omega,h3,h4,h⟩
theorem brA_i {s:Sl} (h1:at'≤xs.length) (h2:s.len≤s.cap) (h3:qbd xs) (h4:xs.length≤1099511627776) (h:St F0 w0 w (qt rb [.slice s.a s.len s.cap,.int .i64 (at':Int),.int .i64 err] :: qp 1 s (u8s xs) :: rest)):St F0 w0 w (brA rb (xs,at',err) :: rest) :=
 (h.join.ifI (c:=at'≤xs.length∧s.len≤s.cap∧qbd xs∧xs.length≤1099511627776) ⟨h1,h2,h3,h4⟩).exI (p:=fun s:Sl=>ifA (at'≤xs.length∧s.len≤s.cap∧qbd xs∧xs.length≤1099511627776) <| andA (qt rb [.slice s.a s.len s.cap,.int .i64 (at':Int),.int .i64 err]) (qp 1 s (u8s xs))) s
theorem qef.c {s:Sl} {K:Ending→World→Prop} (h:St F0 w0 w ps) [Rdb F0 w0 s ps 1 (u8s xs)] (hx:qbd xs) (hL:xs.length≤1099511627776)
 (hk:∀ nb w',St F0 w0 w' (brA nb (xs,0,0) :: ps)→K (.returned (.pointer (some ⟨nb,0,none⟩))) w'):Calls Tryz.prog 60 ⟨[.slice s.a s.len s.cap]⟩ w K:=by
 refine qmb (qef.ok _ _ _ ?_)
 unfold qef
 refine qsb.c h (h.rdb s) (by omega) fun s1 w h=>⟨s1,rfl,?_⟩
 have hc:=h.cap (by decide)
 refine h.new fun nb w h=>?_
 exact hk nb w (brA_i (Nat.zero_le _) hc hx hL h)
theorem qad.c {K:Ending→World→Prop} (h:St F0 w0 w ps) [PkF brA rb ps (xs,at',err) rest] (hk:K (.returned (.int .i64 err)) w):Calls Tryz.prog 65 ⟨[.pointer (some ⟨rb,0,none⟩)]⟩ w K:=by
 refine qmb (qad.ok _ _ _ ?_)
 unfold qad
 obtain ⟨s,h1,h2,h3,h4,h5,h⟩:=brA_o (rb:=rb) h
 exact qee (h.fI hk)
theorem qdc.r {s:Sl} {K:Ending→World→Prop} (h:St F0 w0 w (qt rb [.slice s.a s.len s.cap,.int .i64 (at':Int),.int .i64 err] :: rest)) (hl:at'≤s.len) (hL:s.len≤1099511627776)
 (hk:∀ w',St F0 w0 w' (qt rb [.slice s.a s.len s.cap,.int .i64 (at':Int),.int .i64 err] :: rest)→K (.returned (.int .i64 (if err=0 then (s.len:Int) - at' else 0))) w'):Calls Tryz.prog 63 ⟨[.pointer (some ⟨rb,0,none⟩)]⟩ w K:=by
 refine qmb (qdc.ok _ _ _ ?_)
 unfold qdc
 refine qee (h.fI (qyd (fun g=>?_) (fun g=>?_)))
 · rw [if_neg (by simpa using g)] at hk
   exact hk w h
 · rw [if_pos (by simpa using g)] at hk
   refine h.drewK fun w h=>?_
   refine qee (h.fL (qee (h.fI ?_)))
   refine qy (ql (by simp only; omega) (by simp only; omega)) ?_
   exact hk w h
theorem qdc.c {K:Ending→World→Prop} (h:St F0 w0 w ps) [PkF brA rb ps (xs,at',err) rest]
 (hk:∀ w',St F0 w0 w' (brA rb (xs,at',err) :: rest)→K (.returned (.int .i64 (if err=0 then (xs.length:Int) - at' else 0))) w'):Calls Tryz.prog 63 ⟨[.pointer (some ⟨rb,0,none⟩)]⟩ w K:=by
 obtain ⟨s,h1,h2,h3,h4,h5,h⟩:=brA_o (rb:=rb) h
 refine qdc.r h (by omega) (by omega) fun w h=>?_
 rw [h3]
 exact hk w (brA_i h1 h2 h4 h5 h)
theorem qgb.r {s:Sl} {n:Int} {K:Ending→World→Prop} (h:St F0 w0 w (qt rb [.slice s.a s.len s.cap,.int .i64 (at':Int),.int .i64 err] :: rest)) (hl:at'≤s.len) (hc:s.len≤s.cap) (hL:s.len≤1099511627776)
 (hk:∀ (m:Nat) w',err=0→n=m→m≤s.len - at'→St F0 w0 w' (qt rb [.slice s.a s.len s.cap,.int .i64 ((at'+m:Nat):Int),.int .i64 0] :: rest)→K (.returned (.slice (qme s.a s.cap at' 1) (at'+m - at') (s.cap - at'))) w')
 (hk2:∀ w',¬(err=0∧0≤n∧n≤(s.len:Int) - at')→St F0 w0 w' (qt rb [.slice s.a s.len s.cap,.int .i64 (at':Int),.int .i64 (if err=0 then 3 else err)] :: rest)→K (.returned (.slice none 0 0)) w') :
 Calls Tryz.prog 96 ⟨[.pointer (some ⟨rb,0,none⟩),.int .i64 n]⟩ w K:=by
 refine qmb (qgb.ok _ _ _ _ ?_)
 unfold qgb
 have bad:∀ (e:Int) w',e ≠ 0→e=(if err=0 then 3 else err)→¬(err=0∧0≤n∧n≤(s.len:Int) - at')→St F0 w0 w' (qt rb [.slice s.a s.len s.cap,.int .i64 (at':Int),.int .i64 e] :: rest)→qgb.j1 (some ⟨rb,0,none⟩) n (fun v w'=>K (.returned v) w') w':=by
  intro e w he e1 hn h
  unfold qgb.j1
  refine qee (h.fI (qci (by simpa using he) ?_))
  subst e1
  exact hk2 w hn h
 refine qee (h.fI (qyd (fun g=>?_) (fun g=>?_)))
 · have g:err=0:=by simpa using g
   subst g
   refine qwc (fun g=>?_) (fun g=>?_)
   · refine qee (h.fst trivial fun w h=>?_)
     exact bad 3 w (by decide) rfl (by omega) h
   · refine qdc.r h hl hL fun w h=>⟨_,rfl,?_⟩
     rw [if_pos rfl]
     refine qwc (fun g2=>?_) (fun g2=>?_)
     · refine qee (h.fst trivial fun w h=>?_)
       exact bad 3 w (by decide) rfl (by omega) h
     · obtain ⟨m,rfl⟩:∃ m:Nat,n=m:=⟨n.toNat,by omega⟩
       unfold qgb.j1
       refine qee (h.fI (br_no (by simp) ?_))
       refine qee (h.fI ?_)
       refine qy (ql (by omega) (by omega)) ?_
       refine qee (h.fst trivial fun w h=>?_)
       refine h.drewK fun w h=>?_
       refine qee (h.fL (qee (h.fI ?_)))
       refine qy (ql (by omega) (by omega)) ?_
       refine qee (h.fI ?_)
       refine qxk (n:=at'+m) (by omega) (by simp only; omega) ?_
       refine qxk (n:=at') (by omega) (by omega) (qvd ?_)
       exact hk m w rfl rfl (by omega) (by rw [Int.natCast_add]; exact h)
 · have g:err ≠ 0:=by simpa using g
   exact bad err w g (by rw [if_neg g]) (fun e=>g e.1) h
end
end Go.Proofs.YtonmgkkkiejicaaGreat
namespace Go.Proofs.YtonmgkkkiejicaaGreat
open Go Go.Proofs
set_option linter.unusedVariables false
set_option linter.unusedSimpArgs false
attribute [local irreducible] apK cpK mkK
theorem tkS_ok {xs:List Int} (hx:qbd xs) (at':Nat) (err n:Int):qbd (tkS xs at' err n).1∧(tkS xs at' err n).1.length≤n.toNat∧(tkS xs at' err n).1.length≤xs.length∧(at'≤xs.length→(tkS xs at' err n).2.1≤xs.length):=by
 unfold tkS
 split
 · refine ⟨fun x h=>hx x (List.mem_of_mem_drop (List.mem_of_mem_take h)),by simp; omega,by simp; omega,fun _=>by simp only; omega⟩
 · exact ⟨fun x h=>by simp at h,by simp,by simp,fun h=>h⟩
theorem take_snoc {xs:List Int} {i:Nat} (h:i < xs.length):xs.take (i+1)=xs.take i ++ [xs.getD i 0]:=by
 rw [List.take_succ_eq_append_getElem h]
 simp [List.getD,List.getElem?_eq_getElem h]
theorem allB_getD {xs:List Int} (hx:qbd xs) {i:Nat} (h:i < xs.length):0≤xs.getD i 0∧xs.getD i 0 < 256:=by
 have:xs.getD i 0=xs[i]:=by simp [List.getD,List.getElem?_eq_getElem h]
 rw [this]; exact hx _ (List.getElem_mem h)
section
variable {F0:List Nat} {w0 w:World} {ps rest:List As} {rb at':Nat} {xs:List Int} {err:Int}
theorem qq.loop {t:Sl} {ys:List Int} {Q:VWP} (h:St F0 w0 w ps) [Rdb F0 w0 t ps 1 (u8s ys)] (hy:qbd ys) (hL:ys.length≤1099511627776)
 (hk:∀ w',St F0 w0 w' ps→Q (.int .i64 (IntKind.i64.wrap (be ys))) w'):qq.j3 0 t ((t.len:Nat):Int) 0 Q w:=by
 unfold qq.j3
 have hl:=(h.rdb t).1
 rw [qo] at hl
 refine loop2 (fun (i:Nat) (v i':Int) w'=>i'=i∧i≤ys.length∧v=IntKind.i64.wrap (be (ys.take i))∧St F0 w0 w' ps) (fun i=>ys.length - i) 0 ⟨rfl,by omega,rfl,h⟩ ?_
 clear h
 rintro i v i' w I μ ⟨rfl,hi,rfl,h⟩ hin
 unfold qq.b1
 refine qwc (fun g=>?_) (fun g=>?_)
 · have hiy:i < ys.length:=by omega
   have hc:=allB_getD hy hiy
   refine h.lx i rfl hiy ⟨by decide,qvd ?_⟩
   refine qy (ql (by omega) (by omega)) ?_
   refine qy (be_fold .i64 rfl 0 _ _ hc) ?_
   rw [← take_snoc hiy]
   refine qy (ql (by omega) (by omega)) ?_
   exact ⟨⟨rfl,rfl⟩,hin (i+1) _ _ _ ⟨by omega,by omega,rfl,h⟩ (by omega)⟩
 · have:i=ys.length:=by omega
   subst this
   rw [List.take_length]
   exact hk w h
theorem qq.c {n:Nat} {K:Ending→World→Prop} (h:St F0 w0 w ps) [PkF brA rb ps (xs,at',err) rest]
 (hk:∀ w',St F0 w0 w' (brA rb (xs,(tkS xs at' err n).2) :: rest)→K (.returned (.int .i64 (IntKind.i64.wrap (be (tkS xs at' err n).1)))) w'):Calls Tryz.prog 94 ⟨[.pointer (some ⟨rb,0,none⟩),.int .i64 (n:Int)]⟩ w K:=by
 refine qmb (qq.ok _ _ _ _ ?_)
 unfold qq qq.j1
 obtain ⟨s,h1,h2,h3,h4,h5,h⟩:=brA_o (rb:=rb) h
 refine qgb.r h (by omega) h2 (by omega) (fun m w e1 e2 e3 g=>⟨⟨_,_,_⟩,rfl,?_⟩) (fun w hn h=>⟨⟨none,0,0⟩,rfl,?_⟩)
 · have e2:n=m:=by omega
   subst e2 e1
   have h:=g
   have et:tkS xs at' 0 n=((xs.drop at').take n,at'+n,0):=by unfold tkS; rw [if_pos ⟨rfl,by omega,by omega⟩,Int.toNat_natCast]
   rw [et] at hk
   haveI:=h.cutR s at' (at'+n) (s.cap - at') (ys:=(xs.drop at').take n) (by omega) (by omega) h2 (by rw [show at'+n - at'=n by omega])
   refine qq.loop (t:=⟨qme s.a s.cap at' 1,at'+n - at',s.cap - at'⟩) (ys:=(xs.drop at').take n) h (fun x hx=>h4 x (List.mem_of_mem_drop (List.mem_of_mem_take hx))) (by simp; omega) fun w h=>?_
   exact hk w (brA_i (by omega) h2 h4 h5 h)
 · have et:tkS xs at' err n=([],at',if err=0 then 3 else err):=by unfold tkS; rw [if_neg (by omega)]
   rw [et] at hk
   haveI:=Rdb.nil (F0:=F0) (w0:=w0) (ps:=qt rb [.slice s.a s.len s.cap,.int .i64 (at':Int),.int .i64 (if err=0 then 3 else err)] :: qp 1 s (u8s xs) :: rest) 0
   refine qq.loop (t:=⟨none,0,0⟩) (ys:=[]) h (fun x hx=>by cases hx) (by simp) fun w h=>?_
   exact hk w (brA_i h1 h2 h4 h5 h)
theorem nuS_small {n:Nat} (hx:qbd xs) (hn:n≤4):IntKind.i64.wrap (be (tkS xs at' err n).1)=(nuS xs at' err n).1∧(nuS xs at' err n).2=(tkS xs at' err n).2:=by
 have h:=tkS_ok hx at' err n
 have h2:=be_lt8 h.1 (n:=4) (by omega)
 have h3:(2:Int) ^ (8 * 4)=4294967296:=by decide
 rw [h3] at h2
 unfold nuS
 rw [if_neg (by omega),ql (by omega) (by omega)]
 exact ⟨rfl,rfl⟩
theorem qqc.c {K:Ending→World→Prop} (h:St F0 w0 w ps) [PkF brA rb ps (xs,at',err) rest] (hx:qbd xs)
 (hk:∀ w',St F0 w0 w' (brA rb (xs,(nuS xs at' err 4).2) :: rest)→K (.returned (.int .i64 (nuS xs at' err 4).1)) w'):Calls Tryz.prog 61 ⟨[.pointer (some ⟨rb,0,none⟩)]⟩ w K:=by
 refine qmb (qqc.ok _ _ _ ?_)
 unfold qqc
 obtain ⟨e1,e2⟩:=nuS_small (at':=at') (err:=err) hx (show 4≤4 by decide)
 refine qq.c (n:=4) h fun w h=>⟨_,rfl,?_⟩
 rw [← e2] at h
 rw [e1]
 exact hk w h
theorem qid.c {K:Ending→World→Prop} (h:St F0 w0 w ps) [PkF brA rb ps (xs,at',err) rest] (hx:qbd xs)
 (hk:∀ w',St F0 w0 w' (brA rb (xs,(nuS xs at' err 8).2) :: rest)→K (.returned (.int .i64 (nuS xs at' err 8).1)) w'):Calls Tryz.prog 93 ⟨[.pointer (some ⟨rb,0,none⟩)]⟩ w K:=by
 refine qmb (qid.ok _ _ _ ?_)
 unfold qid
 have hl0:at'≤xs.length:=by obtain ⟨s,h1,_⟩:=brA_o (rb:=rb) h; exact h1
 refine qq.c (n:=8) h fun w h=>⟨_,rfl,?_⟩
 have hd:((8:Nat):Int)=8:=rfl
 rw [hd] at h ⊢
 have hok:=tkS_ok hx at' err 8
 have h2:=be_lt8 hok.1 (n:=8) (by omega)
 have h3:(2:Int) ^ (8 * 8)=18446744073709551616:=by decide
 rw [h3] at h2
 have hw:=wrap_i64_eq (be (tkS xs at' err 8).1)
 unfold nuS at hk
 rw [hd] at hk
 refine qwc (fun g=>?_) (fun g=>?_)
 · rw [if_pos (by omega)] at hk
   have hat:(tkS xs at' err 8).2=(at'+8,0):=by
    unfold tkS at g ⊢
    split
    · rfl
    · rename_i hn
      rw [if_neg hn] at g
      exact absurd g (by show ¬ IntKind.i64.wrap (be []) < 0; decide)
   rw [hat] at h
   obtain ⟨s,h1,h2,h3,h4,h5,h⟩:=brA_o (rb:=rb) h
   refine qee (h.fI ?_)
   refine qy (ql (by omega) (by omega)) ?_
   refine qee (h.fst trivial fun w h=>?_)
   refine qee (h.fst trivial fun w h=>?_)
   rw [show ((at'+8:Nat):Int) - 8=(at':Int) by omega] at h
   exact hk w (brA_i hl0 h2 h4 h5 h)
 · rw [if_neg (by omega)] at hk
   rw [ql (by omega) (by omega)]
   exact hk w h
theorem qmc.c {n:Int} {K:Ending→World→Prop} (h:St F0 w0 w ps) [PkF brA rb ps (xs,at',err) rest]
 (hk:∀ s' w',St F0 w0 w' (rdA 1 s' (u8s (tkS xs at' err n).1) :: brA rb (xs,(tkS xs at' err n).2) :: rest)→K (.returned (.slice s'.a s'.len s'.cap)) w'):Calls Tryz.prog 64 ⟨[.pointer (some ⟨rb,0,none⟩),.int .i64 n]⟩ w K:=by
 refine qmb (qmc.ok _ _ _ _ ?_)
 unfold qmc
 obtain ⟨s,h1,h2,h3,h4,h5,h⟩:=brA_o (rb:=rb) h
 refine qgb.r h (by omega) h2 (by omega) (fun m w e1 e2 e3 g=>⟨⟨_,_,_⟩,rfl,?_⟩) (fun w hn h=>⟨⟨none,0,0⟩,rfl,?_⟩)
 · subst e2 e1
   have h:=g
   have et:tkS xs at' 0 m=((xs.drop at').take m,at'+m,0):=by unfold tkS; rw [if_pos ⟨rfl,by omega,by omega⟩,Int.toNat_natCast]
   rw [et] at hk
   have hr:=(h.cutR s at' (at'+m) (s.cap - at') (ys:=(xs.drop at').take m) (by omega) (by omega) h2 (by rw [show at'+m - at'=m by omega])).rd h
   refine qsb.c h hr (by simp; omega) fun s1 w h=>⟨s1,rfl,?_⟩
   refine qlb.c h.ro (h.cap (by decide)) fun s2 _ _ h=>⟨s2,rfl,?_⟩
   exact hk s2 w (h.tail fun _ _ _ h=>brA_i (by omega) h2 h4 h5 h)
 · have et:tkS xs at' err n=([],at',if err=0 then 3 else err):=by unfold tkS; rw [if_neg (by omega)]
   rw [et] at hk
   refine qsb.c (s:=⟨none,0,0⟩) (xs:=[]) h ((Rdb.nil 0).rd h) (by simp) fun s1 w h=>⟨s1,rfl,?_⟩
   refine qlb.c h.ro (h.cap (by decide)) fun s2 _ _ h=>⟨s2,rfl,?_⟩
   exact hk s2 w (h.tail fun _ _ _ h=>brA_i h1 h2 h4 h5 h)
end
end Go.Proofs.YtonmgkkkiejicaaGreat
namespace Go.Proofs.YtonmgkkkiejicaaGreat
open Go Go.Proofs
set_option linter.unusedVariables false
set_option linter.unusedSimpArgs false
attribute [local irreducible] apK cpK mkK
section
variable {F0:List Nat} {w0 w:World} {ps rest:List As} {xs:List Int}
theorem qlb.d {s:Sl} {ys:List Int} {K:Ending→World→Prop} (h:St F0 w0 w (qp 1 s (u8s ys) :: ps))
 (hk:∀ s':Sl,s'.len=ys.length→s'.cap=s'.len→St F0 w0 w (rdA 1 s' (u8s ys) :: ps)→K (.returned (.slice s'.a s'.len s'.cap)) w):Calls Tryz.prog 28 ⟨[.slice s.a s.len s.cap]⟩ w K:=by
 have hl:=h.len
 rw [qo] at hl
 exact qlb.c h.ro (h.cap (by decide)) fun s' h1 h2 h=>hk s' (by omega) (by omega) h
end
end Go.Proofs.YtonmgkkkiejicaaGreat
namespace Go.Proofs.YtonmgkkkiejicaaGreat
open Go Go.Proofs Go.ChangeShapes Go.WideShapes Go.Deep
set_option linter.unusedVariables false
set_option linter.unusedSimpArgs false
section
variable {H:Type} {enc:TypeId × Value→H} {P:Program} {w:World} {base:Nat} {spare:Nat→Bool} {held:Bool}
instance:Inhabited Sl:=⟨⟨none,0,0⟩⟩
end
end Go.Proofs.YtonmgkkkiejicaaGreat
namespace Go.Proofs.YtonmgkkkiejicaaGreat
open Go Go.Proofs
set_option linter.unusedVariables false
set_option linter.unusedSimpArgs false
attribute [local irreducible] apK cpK mkK
section
variable {F0:List Nat} {w0 w:World} {ps rest:List As} {xs:List Int}
theorem qnc.d {s:Sl} {v:Int} {K:Ending→World→Prop} (h:St F0 w0 w ps) [Rdb F0 w0 s ps 1 (u8s xs)] (hL:xs.length≤1099511627776)
 (hk:∀ s' w',s'.len=xs.length+4→s'.cap=s'.len→St F0 w0 w' (rdA 1 s' (u8s (xs ++ beJ 4 4 v)) :: ps)→K (.returned (.slice s'.a s'.len s'.cap)) w'):Calls Tryz.prog 23 ⟨[.slice s.a s.len s.cap,.int .i64 v]⟩ w K:=by
 refine qmb (qnc.ok _ _ _ _ ?_)
 unfold qnc
 exact qbc.c (n:=4) h (h.rdb s) hL (by decide) fun s' w h1 h2 h=>⟨s',rfl,hk s' w h1 h2 h⟩
theorem qnd.d {s:Sl} {v:Int} {K:Ending→World→Prop} (h:St F0 w0 w ps) [Rdb F0 w0 s ps 1 (u8s xs)] (hL:xs.length≤1099511627776)
 (hk:∀ s' w',s'.len=xs.length+8→s'.cap=s'.len→St F0 w0 w' (rdA 1 s' (u8s (xs ++ beJ 8 8 v)) :: ps)→K (.returned (.slice s'.a s'.len s'.cap)) w'):Calls Tryz.prog 25 ⟨[.slice s.a s.len s.cap,.int .i64 v]⟩ w K:=by
 refine qmb (qnd.ok _ _ _ _ ?_)
 unfold qnd
 exact qbc.c (n:=8) h (h.rdb s) hL (by decide) fun s' w h1 h2 h=>⟨s',rfl,hk s' w h1 h2 h⟩
end
end Go.Proofs.YtonmgkkkiejicaaGreat
namespace Go.Proofs.YtonmgkkkiejicaaGreat
open Go Go.Proofs
set_option linter.unusedVariables false
set_option linter.unusedSimpArgs false
def nmA (A P:List Nm):List Int:=P.map fun p=>(posN A p:Int)
theorem nmA_len (A P:List Nm):(nmA A P).length=P.length:=by simp [nmA]
def numA (q:List Int):Int:=if 0 < q.length then q.getD 0 0 else 1879048192
def numB (e:Nat) (q:List Int):Int:=if q.length=2 then q.getD 1 0 else if 2 < q.length then 2147483648+(e:Int) else 1879048192
def edw (q:List Int):List Int:=if 2 < q.length then (q.drop 1).dropLast ++ [q.getD (q.length - 1) 0+2147483648] else []
def wB (ws:List Int):List Int:=ws.flatMap (beJ 4 4)
theorem wB_len (ws:List Int):(wB ws).length=4 * ws.length:=by
 induction ws with
 | nil=>rfl
 | cons v ws ih =>
   show (beJ 4 4 v ++ wB ws).length=_
   rw [List.length_append,ih,qfc,List.length_cons]
   omega
theorem wB_app (a b:List Int):wB (a ++ b)=wB a ++ wB b:=by simp [wB]
theorem wB_one (v:Int):wB [v]=beJ 4 4 v:=by simp [wB]
theorem edw_len (q:List Int):(edw q).length=if 2 < q.length then q.length - 1 else 0:=by
 unfold edw
 split
 · simp; omega
 · rfl
def qC (A:List Nm) (c:Cm):List Int:=nmA A c.par
def eG (A:List Nm) (S:List Cm):List Int:=S.flatMap fun c=>edw (qC A c)
def drow (tree q:List Int) (e:Nat) (gd:Int):List Int:=tree ++ (beJ 4 4 (numA q) ++ (beJ 4 4 (numB e q) ++ beJ 8 8 gd))
def drw (A:List Nm) (g:Nm→Int) (S:List Cm) (j:Nat):List Int:=drow (S.getD j default).tree.1 (qC A (S.getD j default)) (eG A (S.take j)).length (g (S.getD j default).id * 17179869184+(S.getD j default).date)
def dG (A:List Nm) (g:Nm→Int) (S:List Cm) (i:Nat):List Int:=(List.range i).flatMap (drw A g S)
def fB (A:List Nm):List Int:=wB (fanL A)
theorem qij (A:List Nm):(fanL A).length=256:=by unfold fanL; rw [qtc]
theorem fB_len (A:List Nm):(fB A).length=1024:=by unfold fB; rw [wB_len,qij]
def nB (A:List Nm):List Int:=A.flatMap (·.1)
theorem qsk (A:List Nm):(nB A).length=20 * A.length:=by
 induction A with
 | nil=>rfl
 | cons a A ih =>
   show (a.1 ++ nB A).length=_
   rw [List.length_append,ih,a.2.1,List.length_cons]
   omega
theorem nB_snoc (A:List Nm) (a:Nm):nB (A ++ [a])=nB A ++ a.1:=by simp [nB]
def wrdB:List (List Int):=[[79,73,68,70],[79,73,68,76],[67,68,65,84],[69,68,71,69]]
def ofs (l:List (List Int)) (i:Nat):Nat:=8+(l.length+1) * 12+(l.take i).flatten.length
def tb (l:List (List Int)) (i:Nat):List Int:=(List.range i).flatMap fun j=>wrdB.getD j [] ++ beJ 8 8 (ofs l j)
def hdB (n:Int):List Int:=[67,71,80,72] ++ [1,1,n,0]
def preB (l:List (List Int)):List Int:=hdB l.length ++ tb l l.length ++ [0,0,0,0] ++ beJ 8 8 (ofs l l.length) ++ l.flatten
def chkB (l:List (List Int)):List Int:=preB l ++ qte (preB l)
def chunkL (A:List Nm) (g:Nm→Int) (S:List Cm):List (List Int):=[fB A,nB A,dG A g S S.length] ++ if (eG A S).length=0 then [] else [wB (eG A S)]
def gB (S:List Cm) (g:Nm→Int):List Int:=chkB (chunkL (S.map (·.id)) g S)
theorem qxd {a b:List Int}:qbd (a ++ b) ↔ qbd a∧qbd b:=by
 unfold qbd
 constructor
 · exact fun h=>⟨fun x hx=>h x (by simp [hx]),fun x hx=>h x (by simp [hx])⟩
 · rintro ⟨h1,h2⟩ x hx
   rcases List.mem_append.1 hx with hx | hx
   · exact h1 x hx
   · exact h2 x hx
theorem qxg {α:Type} {f:α→List Int} {l:List α} (h:∀ x ∈ l,qbd (f x)):qbd (l.flatMap f):=by
 intro y hy
 obtain ⟨x,hx,hy⟩:=List.mem_flatMap.1 hy
 exact h x hx y hy
theorem wB_ok (ws:List Int):qbd (wB ws):=qxg fun v _=>qgk 4 4 v
theorem nm_ok (a:Nm):qbd a.1:=a.2.2
theorem nB_ok (A:List Nm):qbd (nB A):=qxg fun a _=>nm_ok a
end Go.Proofs.YtonmgkkkiejicaaGreat
namespace Go.Proofs.YtonmgkkkiejicaaGreat
open Go Go.Proofs
set_option linter.unusedVariables false
set_option linter.unusedSimpArgs false
attribute [local irreducible] apK cpK mkK br
def clA (sz:Nat) (s:Sl) (cs:List Value):As where
 hd w F:=(s.a=none∧s.len=0∧cs=[]∧F=[]) ∨ ∃ ob rest,s.a=some ⟨ob,0,none⟩∧Blk w ob (cs ++ rest)∧cs.length=s.len * sz∧F=[ob]
 keep:=by
  rintro w w' F G (h | ⟨ob,rest,h1,hb,h2,rfl⟩) m hd
  · exact Or.inl h
  · exact Or.inr ⟨ob,rest,h1,hb.keep m (hd ob (by simp)),h2,rfl⟩
 lt:=by
  rintro w F (⟨_,_,_,rfl⟩ | ⟨ob,rest,h1,hb,h2,rfl⟩) x hx
  · cases hx
  · have:x=ob:=by simpa using hx
    subst this; exact hb.lt
section
variable {F0:List Nat} {w0 w:World} {ps rest:List As} {s:Sl} {sz:Nat} {cs:List Value} {xs:List Int}
theorem St.ocl (h:St F0 w0 w (qp sz s cs :: ps)):St F0 w0 w (clA sz s cs :: ps):=h.mp (by
 rintro F (⟨rfl,rfl,rfl⟩ | ⟨ob,rs,h1,hb,h2,h3,rfl⟩)
 · exact Or.inl ⟨rfl,rfl,rfl,rfl⟩
 · exact Or.inr ⟨ob,rs,h1,hb,h2,rfl⟩)
theorem St.recapC {s':Sl} (h:St F0 w0 w (clA sz s cs :: ps)) (ha:s'.a=s.a) (hl:s'.len=s.len):St F0 w0 w (clA sz s' cs :: ps):=h.mp (by
 rintro F (⟨h1,h2,h3,rfl⟩ | ⟨ob,rs,h1,hb,h2,rfl⟩)
 · exact Or.inl ⟨by rw [ha]; exact h1,by rw [hl]; exact h2,h3,rfl⟩
 · exact Or.inr ⟨ob,rs,by rw [ha]; exact h1,hb,by rw [hl]; exact h2,rfl⟩)
theorem St.clrd (h:St F0 w0 w (clA sz s cs :: ps)):Rd w sz s cs:=by
 obtain ⟨F,⟨h1,h2,rfl,_⟩ | ⟨ob,rs,h1,hb,h2,_⟩⟩:=h.get
 · exact ⟨by simp [h2],fun i hi=>by simp at hi⟩
 · refine ⟨h2,fun i hi=>⟨_,h1,?_⟩⟩
   rw [qjb,Nat.zero_add,hb.cell,List.getElem?_append_left hi]
instance Rdb.cl:Rdb F0 w0 s (clA sz s cs :: ps) sz cs:=⟨fun h=>h.clrd⟩
theorem qbc.cl {v:Int} {n:Nat} {K:Ending→World→Prop} (h:St F0 w0 w ps) (hr:Rd w 1 s (u8s xs)) (hL:xs.length≤1099511627776) (hn:n≤8)
 (hk:∀ s' w',s'.len=xs.length+n→s'.cap=s'.len→St F0 w0 w' (clA 1 s' (u8s (xs ++ beJ n n v)) :: ps)→K (.returned (.slice s'.a s'.len s'.cap)) w'):Calls Tryz.prog 53 ⟨[.slice s.a s.len s.cap,.int .i64 v,.int .i64 ((8 * n:Nat):Int)]⟩ w K:=by
 refine qmb (qbc.ok _ _ _ _ _ ?_)
 unfold qbc
 refine qsb.c h hr (by omega) fun s1 w h=>⟨s1,rfl,?_⟩
 unfold qbc.j1
 refine loop2 (fun (j:Nat) (b':Int) (o':Sl) w=>b'=((8 * (n - j):Nat):Int)∧j≤n∧St F0 w0 w (qp 1 o' (u8s (xs ++ beJ n j v)) :: ps)) (fun j=>n - j) 0 ⟨rfl,by omega,by simpa [beJ] using h⟩ ?_
 clear h
 rintro j b' o w I μ ⟨rfl,hj,h⟩ hin
 unfold qbc.b1
 refine qwc (fun h1=>?_) (fun h1=>?_)
 · refine qy (ql (by omega) (by omega)) ?_
   have e:((8 * (n - j):Nat):Int) - 8=((8 * (n - 1 - j):Nat):Int):=by omega
   rw [e]
   refine ⟨by omega,?_⟩
   refine qy (qej .i64 _ (show 8 * (n - 1 - j)≤64 by omega)) ?_
   refine qy (wrap_u8 _) ?_
   refine h.new fun nb w h=>?_
   refine h.rdB rfl ?_
   refine h.drop.append_u8 (by rw [List.length_append,qfc]; omega) rfl fun s2 w h=>?_
   refine ⟨rfl,hin (j+1) _ _ _ ⟨?_,by omega,?_⟩ (by omega)⟩
   · rw [show n - 1 - j=n - (j+1) by omega]
   · rw [beJ_succ,← List.append_assoc]
     exact h
 · have:j=n:=by omega
   subst this
   have hcap:=h.cap (by decide)
   have hlen:=h.len
   rw [qeb,List.length_append,qfc] at hlen
   unfold qbc.j2
   refine qmb (qlb.ok _ _ _ ?_)
   unfold qlb
   refine qxk rfl hcap (qxk rfl (Nat.le_refl _) (qvd ⟨_,rfl,?_⟩))
   refine hk _ w ?_ rfl (h.ocl.recapC ?_ ?_)
   · show o.len - 0=_
     omega
   · show qme o.a o.len 0 1=o.a
     unfold qme
     split
     · rfl
     · rw [Nat.zero_mul]
       cases o.a with
       | none=>rfl
       | some a=>simp [Addr.add]
   · show o.len - 0=o.len
     omega
theorem qnc.cl {v:Int} {K:Ending→World→Prop} (h:St F0 w0 w ps) [Rdb F0 w0 s ps 1 (u8s xs)] (hL:xs.length≤1099511627776)
 (hk:∀ s' w',s'.len=xs.length+4→s'.cap=s'.len→St F0 w0 w' (clA 1 s' (u8s (xs ++ beJ 4 4 v)) :: ps)→K (.returned (.slice s'.a s'.len s'.cap)) w'):Calls Tryz.prog 23 ⟨[.slice s.a s.len s.cap,.int .i64 v]⟩ w K:=by
 refine qmb (qnc.ok _ _ _ _ ?_)
 unfold qnc
 exact qbc.cl (n:=4) h (h.rdb s) hL (by decide) fun s' w h1 h2 h=>⟨s',rfl,hk s' w h1 h2 h⟩
end
end Go.Proofs.YtonmgkkkiejicaaGreat
namespace Go.Proofs.YtonmgkkkiejicaaGreat
open Go Go.Proofs
set_option linter.unusedVariables false
set_option linter.unusedSimpArgs false
attribute [local irreducible] apK cpK mkK br
def slB (L:List (Sl × List Int)):List Value:=L.map fun x=>.slice x.1.a x.1.len x.1.cap
section
variable {F0:List Nat} {w0 w:World} {ps rest:List As} {s:Sl}
theorem St.frontB {sz:Nat} {cs:List Value} (h:St F0 w0 w (qp sz s cs :: ps)) (m:Nat) (hm:m≤s.len):St F0 w0 w (qp sz ⟨qme s.a s.cap 0 sz,m - 0,s.cap - 0⟩ (cs.take (m * sz)) :: ps):=by
 refine h.mp ?_
 rintro F (⟨rfl,rfl,rfl⟩ | ⟨ob,rs,h1,hb,h2,h3,rfl⟩)
 · have:m=0:=by simpa using hm
   subst this
   exact Or.inl ⟨rfl,by simp,rfl⟩
 · refine Or.inr ⟨ob,cs.drop (m * sz) ++ rs,?_,?_,?_,?_,rfl⟩
   · show qme s.a s.cap 0 sz=_
     unfold qme
     rw [h1]
     split
     · rfl
     · rw [Option.map_some,qjb,Nat.zero_mul]
   · rw [← List.append_assoc,List.take_append_drop]; exact hb
   · rw [List.length_take,h2]
     exact Nat.min_eq_left (Nat.mul_le_mul_right _ hm)
   · rw [← List.append_assoc,List.take_append_drop]; exact h3
theorem qxc.c {n:Nat} {K:Ending→World→Prop} (h:St F0 w0 w ps) (hn:n≤1000000)
 (hk:∀ t w',t.len=0→St F0 w0 w' (qp 1 t (ivs .u8 []) :: ps)→K (.returned (.slice t.a t.len t.cap)) w'):Calls Tryz.prog 54 ⟨[.slice none 0 0,.int .i64 n]⟩ w K:=by
 refine qmb (qxc.ok ⟨none,0,0⟩ _ _ _ ?_)
 unfold qxc
 dsimp only
 refine qwc (fun g=>by omega) (fun _=>?_)
 refine qy (ql (by omega) (by omega)) ?_
 refine qy (ql (by omega) (by omega)) ?_
 have e:(n:Int) - (((0:Nat):Int) - ((0:Nat):Int))=n:=by simp
 rw [e]
 have h:=h.nil 1
 refine qwc (fun g=>?_) (fun g=>hk ⟨none,0,0⟩ w rfl h)
 refine qxk (n:=0) rfl (Nat.le_refl _) (qvd ?_)
 have he:Elt Tryz.prog 5 (.int .u8 0):=elt_u8
 dsimp only
 refine ⟨⟨by omega,by omega,?_,by omega⟩,?_⟩
 · have hb:=(Elt.bytes (P:=Tryz.prog) (e:=5) (z:=.int .u8 0))
   have h3:(n:Int) * (Tryz.prog.bytesOf 5:Int)≤1000000 * 16:=Int.mul_le_mul (by omega) (by omega) (by omega) (by omega)
   exact Int.le_trans h3 (by decide)
 rw [Int.toNat_natCast,he.zc,repL_one]
 refine St.app (s:=⟨none,0,0⟩) (cs2:=List.replicate n (.int .u8 0)) (z:=.int .u8 0) h rfl (by simp) (by rw [List.length_nil]; omega) (fun v hv=>?_) fun s6 w h=>?_
 · have hv:v ∈ List.replicate n (Value.int .u8 0):=by simpa using hv
   rw [(List.mem_replicate.1 hv).2]
   trivial
 refine qxk (n:=0) rfl (Nat.zero_le _) (qvd ?_)
 refine hk ⟨qme s6.a s6.cap 0 1,0 - 0,s6.cap - 0⟩ w rfl ?_
 have h:=h.frontB 0 (Nat.zero_le _)
 rw [Nat.zero_mul,List.take_zero] at h
 exact h
theorem Rd.lslB {L:List (Sl × List Int)} {i:Int} {K:Sl→Prop} (h:Rd w 1 s (slB L)) (j:Nat) (hi:i=j) (hj:j < L.length) (hk:K L[j].1):ixS s.a s.len i 1 fun a=>ldL w a K:=by
 subst hi
 have hl:=h.1
 rw [show (slB L).length=L.length by simp [slB]] at hl
 refine h.ix (by decide) (by omega) (by omega) fun a ha=>?_
 rw [show ((j:Int)).toNat * 1=j by omega]
 exact ldL_c (by rw [h.cell ha (by simp [slB]; omega)]; simp [slB,hj]) hk
def catB (L:List (Sl × List Int)):List Int:=L.flatMap (·.2)
theorem catB_snoc (L:List (Sl × List Int)) {i:Nat} (h:i < L.length):catB (L.take (i+1))=catB (L.take i) ++ L[i].2:=by
 unfold catB
 rw [List.take_succ_eq_append_getElem h,List.flatMap_append]
 simp
theorem catB_le (L:List (Sl × List Int)) (i:Nat):(catB (L.take i)).length≤(catB L).length:=by
 have:catB L=catB (L.take i) ++ catB (L.drop i):=by
  unfold catB
  rw [← List.flatMap_append,List.take_append_drop]
 rw [this,List.length_append]
 omega
theorem qj.c {L:List (Sl × List Int)} {K:Ending→World→Prop} (h:St F0 w0 w ps) [Rdb F0 w0 s ps 1 (slB L)] (hL:∀ y ∈ L,∀ w,St F0 w0 w ps→Rd w 1 y.1 (ivs .u8 y.2)) (hn:L.length≤1000) (hlen:(catB L).length≤1000000)
 (hk:∀ t w',t.len=(catB L).length→St F0 w0 w' (qp 1 t (ivs .u8 (catB L)) :: ps)→K (.returned (.slice t.a t.len t.cap)) w'):Calls Tryz.prog 26 ⟨[.slice s.a s.len s.cap]⟩ w K:=by
 have hl:=(h.rdb s).1
 rw [show (slB L).length=L.length by simp [slB]] at hl
 refine qmb (qj.ok _ _ _ ?_)
 unfold qj qj.j1 qj.j6
 refine loop2 (fun (i:Nat) (z:Int) (i':Int) w'=>i'=i∧i≤L.length∧z=(catB (L.take i)).length∧St F0 w0 w' ps) (fun i=>L.length - i) 0 ⟨rfl,by omega,by simp [catB],h⟩ ?_
 clear h
 rintro i z i' wL I μ ⟨rfl,hi,rfl,h⟩ hin
 have hle:=catB_le L i
 unfold qj.b2
 refine qwc (fun g=>?_) (fun g=>?_)
 · have hix:i < L.length:=by omega
   have hsn:=catB_snoc L hix
   have hle2:=catB_le L (i+1)
   refine (h.rdb s).lslB i rfl hix ?_
   have hy:=(hL L[i] (List.getElem_mem hix) _ h).1
   rw [qo] at hy
   rw [hsn,List.length_append] at hle2
   refine qy (ql (by omega) (by omega)) ?_
   refine qwc (fun g=>by omega) (fun _=>?_)
   refine qy (ql (by omega) (by omega)) ?_
   refine ⟨⟨rfl,rfl,rfl⟩,hin (i+1) _ _ _ ⟨by omega,by omega,?_,h⟩ (by omega)⟩
   rw [hsn,List.length_append]
   omega
 · have:i=L.length:=by omega
   subst this
   rw [List.take_length]
   unfold qj.j2
   refine qxc.c h hlen fun t w ht h=>⟨t,rfl,?_⟩
   unfold qj.j3 qj.j5
   refine loop2 (fun (i:Nat) (o:Sl) (i':Int) w'=>i'=i∧i≤L.length∧St F0 w0 w' (qp 1 o (ivs .u8 (catB (L.take i))) :: ps)) (fun i=>L.length - i) 0 ⟨rfl,by omega,by simpa [catB] using h⟩ ?_
   clear h
   rintro i o i' wL I μ ⟨rfl,hi,h⟩ hin
   have hle:=catB_le L i
   unfold qj.b1
   refine qwc (fun g=>?_) (fun g=>?_)
   · have hix:i < L.length:=by omega
     have hsn:=catB_snoc L hix
     have hle2:=catB_le L (i+1)
     rw [hsn,List.length_append] at hle2
     refine (h.rdb s).lslB i rfl hix ?_
     haveI:Rdb F0 w0 L[i].1 ps 1 (ivs .u8 L[i].2):=⟨fun h=>hL L[i] (List.getElem_mem hix) _ h⟩
     refine h.appI (s:=o) (s2:=L[i].1) (k:=.u8) (by omega) fun o2 w h=>?_
     refine qy (ql (by omega) (by omega)) ?_
     refine ⟨⟨rfl,rfl⟩,hin (i+1) _ _ _ ⟨by omega,by omega,?_⟩ (by omega)⟩
     rw [hsn]
     exact h
   · have:i=L.length:=by omega
     subst this
     rw [List.take_length] at h
     unfold qj.j4
     have:=h.len
     rw [qo] at this
     exact hk o wL (by omega) h
theorem qrh {nb n:Nat} {l:List Value} [PkB nb ps l rest] (hn:l.length=n):Rdb F0 w0 ⟨some ⟨nb,0,none⟩,n,n⟩ ps 1 l:=⟨fun h=>by
 have hb:=(h.toB nb).blk
 refine ⟨by rw [Nat.mul_one]; exact hn,fun i hi=>⟨_,rfl,?_⟩⟩
 rw [qjb,Nat.zero_add,hb.cell]⟩
end
end Go.Proofs.YtonmgkkkiejicaaGreat
namespace Go.Proofs.YtonmgkkkiejicaaGreat
open Go Go.Proofs
set_option linter.unusedVariables false
set_option linter.unusedSimpArgs false
attribute [local irreducible] apK cpK mkK br qte
def apA (s:Sl) (cs:List Value):As:=exA fun b:Bool=>ifA (b=true ∨ s.cap=s.len) (if b then qp 1 s cs else rdA 1 s cs)
section
variable {F0:List Nat} {w0 w:World} {ps rest:List As} {s t:Sl} {xs ys zs:List Int} {cs:List Value}
theorem St.apO (h:St F0 w0 w (qp 1 s cs :: ps)):St F0 w0 w (apA s cs :: ps):=St.exI true (St.ifI (Or.inl rfl) h)
theorem St.apR (h:St F0 w0 w (rdA 1 s cs :: ps)) (hc:s.cap=s.len):St F0 w0 w (apA s cs :: ps):=St.exI false (St.ifI (Or.inr hc) h)
theorem St.apE (h:St F0 w0 w (apA s cs :: ps)):St F0 w0 w (qp 1 s cs :: ps) ∨ (s.cap=s.len∧St F0 w0 w (rdA 1 s cs :: ps)):=by
 obtain ⟨b,h⟩:=h.exE
 obtain ⟨hc,h⟩:=h.ifE
 cases b with
 | true=>exact Or.inl h
 | false=>exact Or.inr ⟨hc.resolve_left (by decide),h⟩
instance Rdb.ap:Rdb F0 w0 s (apA s cs :: ps) 1 cs:=⟨fun h=>by
 rcases h.apE with h | ⟨_,h⟩
 · exact h.rdb s
 · exact h.rdb s⟩
theorem St.appFc {P:Program} {e:TypeId} {z:Value} {k:IntKind} {c:Array Value} {n:Nat} {K:Sl→World→Prop} [he:Elt P e z] (h:St F0 w0 w ps) [Rdb F0 w0 s ps 1 (ivs k zs)] (hcv:c=⟨ivs k ys⟩) (hn:ys.length=n) (hc:s.cap=s.len) (hy:0 < n) (hlen:zs.length+n≤1099511627776)
 (hk:∀ s' w',St F0 w0 w' (qp 1 s' (ivs k (zs ++ ys)) :: ps)→K s' w'):apK P e w s.a s.len s.cap n c K:=by
 subst hcv
 have hr:=h.rdb s
 have hl:=hr.1
 rw [qo] at hl
 obtain ⟨i,h1,h2,h3,h4⟩:=he.info
 have hbo:P.bytesOf e=i.bytes:=by simp [Program.bytesOf,h1]
 unfold apK withSz
 simp only [h1,h2]
 rw [if_neg (by omega)]
 refine ⟨⟨?_,by rw [hbo]; exact h3⟩,?_⟩
 · rw [hbo]
   have:=next_le (s.len+n) s.cap (by omega) (by omega)
   refine Nat.le_trans (Nat.mul_le_mul this h4) ?_
   rw [show (2:Nat) ^ 48=281474976710656 from rfl]
   omega
 · refine hr.rdO (by rw [qo]; omega) fun c hcc=>?_
   have hbl:=Blk.new w.drew (ivs k zs ++ ivs k ys ++ qpf (c - (s.len+n)) (zc P e).toList) e
   have e1:((⟨ivs k zs⟩:Array Value) ++ (⟨ivs k ys⟩:Array Value) ++ ⟨qpf (c - (s.len+n)) (zc P e).toList⟩)=⟨ivs k zs ++ ivs k ys ++ qpf (c - (s.len+n)) (zc P e).toList⟩:=by
    apply Array.ext'
    simp
   rw [e1]
   refine hk _ _ (h.add (f':=[w.heap.size]) (((Mod.drew w).trans (Mod.alloc w.drew _) (fun _ hx=>by cases hx)).mono (fun _ hx=>by cases hx)) ?_ ?_)
   · rw [← ivs_app]
     refine Or.inr ⟨w.heap.size,_,rfl,hbl,?_,?_,rfl⟩
     · show _=(s.len+n) * 1
       rw [List.length_append,qo,qo]; omega
     · show _=c * 1
       rw [List.length_append,List.length_append,qo,qo,qmd,he.zc]
       show _+(c - (s.len+n)) * 1=_
       omega
   · intro x hx
     have:x=w.heap.size:=by simpa using hx
     exact Or.inr (by omega)
theorem St.apx {P:Program} {e:TypeId} {z:Value} {c:Array Value} {n:Nat} {K:Sl→World→Prop} [he:Elt P e z] (h:St F0 w0 w (apA s (u8s xs) :: ps)) (hcv:c=⟨u8s ys⟩) (hn:ys.length=n) (hy:0 < n) (hlen:xs.length+n≤1099511627776)
 (hk:∀ s' w',St F0 w0 w' (qp 1 s' (u8s (xs ++ ys)) :: ps)→K s' w'):apK P e w s.a s.len s.cap n c K:=by
 rcases h.apE with h | ⟨hc,h⟩
 · exact h.app (cs:=u8s xs) (cs2:=u8s ys) hcv (by rw [qo]; exact hn) (by rw [qo]; exact hlen) qzc fun s' w h=>hk s' w (by show St F0 w0 w (qp 1 s' (ivs .u8 (xs ++ ys)) :: ps); rw [← ivs_app]; exact h)
 · exact h.appFc (zs:=xs) (ys:=ys) (k:=.u8) hcv hn hc hy hlen fun s' w h=>hk s' w (h.tail fun _ _ _ h=>h.drop)
theorem St.apxR {P:Program} {e:TypeId} {z:Value} {K:Sl→World→Prop} [he:Elt P e z] (h:St F0 w0 w (apA s (u8s xs) :: ps)) [hr:Rdb F0 w0 t (apA s (u8s xs) :: ps) 1 (u8s ys)] (hy:0 < ys.length) (hlen:xs.length+ys.length≤1099511627776)
 (hk:∀ s' w',St F0 w0 w' (qp 1 s' (u8s (xs ++ ys)) :: ps)→K s' w'):rdO w t.a (t.len * 1) fun c=>apK P e w s.a s.len s.cap t.len c K:=by
 have hr:=h.rdb t
 have hl:=hr.1
 rw [qo] at hl
 refine hr.rdO (by rw [qo]; omega) ?_
 exact h.apx rfl (by omega) (by omega) (by omega) hk
theorem cutP_b (b o:Nat):cutP ⟨b,o,none⟩ 20 0 1=some ⟨b,o,none⟩:=by
 unfold cutP
 rw [if_neg (by decide),qjb,Nat.zero_mul,Nat.add_zero]
theorem ixS_blk {b n:Nat} {i:Int} {X:Addr→Prop} (j:Nat) (hi:i=j) (hj:j < n) (hk:X ⟨b,j,none⟩):ixS (some ⟨b,0,none⟩) n i 1 X:=by
 subst hi
 unfold ixS
 refine ⟨⟨by omega,by omega⟩,?_⟩
 rw [qjb]
 simpa using hk
theorem St.sealed {b:Nat} {K:Sl→World→Prop} {P:Program} {e:TypeId} {z:Value} [he:Elt P e z] (h:St F0 w0 w (qt b (u8s ys) :: apA s (u8s xs) :: ps)) (hy:ys.length=20) (hlen:xs.length≤1000000000)
 (hk:∀ s' w',St F0 w0 w' (qp 1 s' (u8s (xs ++ ys)) :: ps)→K s' w') :
 lt (⟨cutP ⟨b,0,none⟩ 20 0 1,20 - 0,20 - 0⟩:Sl) fun s21=>rdO w s21.a (s21.len * 1) fun c=>apK P e w s.a s.len s.cap s21.len c K:=by
 rw [cutP_b]
 refine qvd ?_
 have h2:St F0 w0 w (apA s (u8s xs) :: qt b (u8s ys) :: ps):=h.at1
 haveI:Rdb F0 w0 ⟨some ⟨b,0,none⟩,20,20⟩ (apA s (u8s xs) :: qt b (u8s ys) :: ps) 1 (u8s ys):=qrh (by rw [qeb,hy])
 exact h2.apxR (t:=⟨some ⟨b,0,none⟩,20,20⟩) (by omega) (by omega) fun s' w h=>hk s' w (h.tail fun _ _ _ h=>h.drop)
end
end Go.Proofs.YtonmgkkkiejicaaGreat
namespace Go.Proofs.YtonmgkkkiejicaaGreat
open Go Go.Proofs
set_option linter.unusedVariables false
set_option linter.unusedSimpArgs false
attribute [local irreducible] apK cpK mkK br qte
theorem ptI_at {k:IntKind} {zs:List Int} {i:Nat} {K:Int→Prop} (hj:i < zs.length) (hk:K (zs.getD i 0)):ptI k ⟨ivs k zs⟩ (Int.toNat (i:Int) * 1) K:=by
 rw [show Int.toNat (i:Int) * 1=i by omega]
 refine ⟨zs.getD i 0,?_,hk⟩
 have:=ivs_get (k:=k) hj
 simpa using this
section
variable {F0:List Nat} {w0 w:World} {ps rest:List As} {s t u:Sl} {S L:List Nd} {n:Nd} {pr:Nd→List Nm} {gb:Nat} {G:Rws Int} {K:Ending→World→Prop}
end
end Go.Proofs.YtonmgkkkiejicaaGreat
namespace Go.Proofs.YtonmgkkkiejicaaGreat
open Go Go.Proofs
set_option linter.unusedVariables false
set_option linter.unusedSimpArgs false
attribute [local irreducible] apK cpK mkK br qte
def biB (s:ByteArray):List Int:=s.data.toList.map fun b=>(b.toNat:Int)
theorem qod (s:ByteArray):(biB s).length=s.size:=by
 unfold biB
 rw [List.length_map]
 rfl
theorem biB_ok (s:ByteArray):qbd (biB s):=by
 intro x hx
 obtain ⟨b,_,rfl⟩:=List.mem_map.1 hx
 have:=b.toNat_lt
 omega
def padB (xs:List Int):List Int:=xs ++ List.replicate ((4 - xs.length % 4) % 4) 0
def nm0 (n:ByteArray):List Int:=biB n ++ [0]
def nmsB (NL:List ByteArray):List Int:=padB (NL.flatMap nm0)
def at1B (o:Sp):List Int:=beJ 4 4 o.2.1 ++ beJ 4 4 o.2.2
def atB (O:List Sp):List Int:=O.flatMap at1B
theorem qri (O:List Sp):(atB O).length=8 * O.length:=by
 induction O with
 | nil=>rfl
 | cons a O ih =>
   show (at1B a ++ atB O).length=_
   unfold at1B at *
   rw [List.length_append,List.length_append,qfc,qfc,ih,List.length_cons]
   omega
theorem atB_ok (O:List Sp):qbd (atB O):=qxg fun o _=>qxd.2 ⟨qgk 4 4 _,qgk 4 4 _⟩
theorem nmsB_ok (NL:List ByteArray):qbd (nmsB NL):=by
 refine qxd.2 ⟨qxg fun n _=>qxd.2 ⟨biB_ok n,?_⟩,?_⟩
 · intro x hx
   have:x=0:=by simpa using hx
   omega
 · intro x hx
   have:=List.eq_of_mem_replicate hx
   omega
def qvc (O:List Sp):List Nm:=O.map (·.1)
def mdL (NL:List ByteArray) (O:List Sp):List (List Int):=[nmsB NL,fB (qvc O),nB (qvc O),atB O]
def wrdM:List (List Int):=[[80,78,65,77],[79,73,68,70],[79,73,68,76],[79,79,70,70]]
def ofsM (l:List (List Int)) (i:Nat):Nat:=72+(l.take i).flatten.length
def tbM (l:List (List Int)) (i:Nat):List Int:=(List.range i).flatMap fun j=>wrdM.getD j [] ++ beJ 8 8 (ofsM l j)
theorem qth (l:List (List Int)) (i:Nat):tbM l (i+1)=tbM l i ++ (wrdM.getD i [] ++ beJ 8 8 (ofsM l i)):=by
 unfold tbM
 rw [List.range_succ,List.flatMap_append]
 simp
theorem qsj {l:List (List Int)} {i:Nat} (h:i < l.length):ofsM l (i+1)=ofsM l i+l[i].length:=by
 unfold ofsM
 rw [List.take_succ_eq_append_getElem h,List.flatten_append,List.length_append]
 simp
 omega
theorem ofsM_le (l:List (List Int)) (i:Nat):ofsM l i≤72+l.flatten.length:=by
 unfold ofsM
 have:l.flatten=(l.take i).flatten ++ (l.drop i).flatten:=by rw [← List.flatten_append,List.take_append_drop]
 rw [this,List.length_append]
 omega
theorem qcj {j:Nat} (hj:j < 4):(wrdM.getD j []).length=4:=by
 have:j=0 ∨ j=1 ∨ j=2 ∨ j=3:=by omega
 rcases this with rfl | rfl | rfl | rfl <;> rfl
theorem qmj (l:List (List Int)) {i:Nat} (hi:i≤4):(tbM l i).length=12 * i:=by
 induction i with
 | zero=>rfl
 | succ i ih =>
   rw [qth,List.length_append,List.length_append,ih (by omega),qfc,qcj (by omega)]
   omega
theorem tbM_ok (l:List (List Int)) {i:Nat} (hi:i≤4):qbd (tbM l i):=by
 induction i with
 | zero=>intro x hx; simp [tbM] at hx
 | succ i ih =>
   rw [qth,qxd,qxd]
   refine ⟨ih (by omega),?_,qgk 8 8 _⟩
   have:i=0 ∨ i=1 ∨ i=2 ∨ i=3:=by omega
   rcases this with rfl | rfl | rfl | rfl <;> (intro x hx; simp [wrdM] at hx; omega)
def markM:List Int:=[77,73,68,88,1,1,4,0]
def hdM (n:Nat):List Int:=markM ++ beJ 4 4 n
theorem qvj (n:Nat):(hdM n).length=12:=by
 unfold hdM
 rw [List.length_append,qfc]
 rfl
theorem hdM_ok (n:Nat):qbd (hdM n):=qxd.2 ⟨by intro x hx; simp [markM] at hx; omega,qgk 4 4 _⟩
def tabM (n:Nat) (l:List (List Int)):List Int:=hdM n ++ tbM l 4 ++ [0,0,0,0] ++ beJ 8 8 (ofsM l 4)
theorem tabM_len (n:Nat) (l:List (List Int)):(tabM n l).length=72:=by
 unfold tabM
 rw [List.length_append,List.length_append,List.length_append,qvj,qmj _ (Nat.le_refl _),qfc]
 rfl
def preM (n:Nat) (l:List (List Int)):List Int:=tabM n l ++ l.flatten
theorem preM_ok {n:Nat} {l:List (List Int)} (h:qbd l.flatten):qbd (preM n l):=by
 unfold preM tabM
 rw [qxd,qxd,qxd,qxd]
 exact ⟨⟨⟨⟨hdM_ok n,tbM_ok _ (Nat.le_refl _)⟩,by intro x hx; simp at hx; omega⟩,qgk 8 8 _⟩,h⟩
def endM (n:Nat) (l:List (List Int)):List Int:=preM n l ++ qte (preM n l)
def mB (NL:List ByteArray) (O:List Sp):List Int:=endM NL.length (mdL NL O)
def wrdT:List ByteArray:=[⟨#[80,78,65,77]⟩,⟨#[79,73,68,70]⟩,⟨#[79,73,68,76]⟩,⟨#[79,79,70,70]⟩]
theorem wrdT_cells:∀ j < 4,∃ h:j < wrdT.length,strCells wrdT[j] (ByteArray.size wrdT[j])=⟨u8s (wrdM.getD j [])⟩∧ByteArray.size wrdT[j]=4:=by
 intro j hj
 have:j=0 ∨ j=1 ∨ j=2 ∨ j=3:=by omega
 rcases this with rfl | rfl | rfl | rfl <;> exact ⟨by decide,by kernel_rfl,by kernel_rfl⟩
section
variable {F0:List Nat} {w0 w:World} {ps r1:List As} {s t6 t7 t8 t9 t17:Sl} {x1 x2 x3 x4:List Int} {n:Nat} {K:Ending→World→Prop} {Q:VWP}
theorem MBuild_11 {l:List (List Int)} {t18:Int} (hl:l=[x1,x2,x3,x4]) (h18:t18=(ofsM l 4:Int)) (h:St F0 w0 w (apA t17 (u8s (hdM n ++ tbM l 4)) :: ps)) [Rdb F0 w0 t6 ps 1 (u8s x1)] [Rdb F0 w0 t7 ps 1 (u8s x2)] [Rdb F0 w0 t8 ps 1 (u8s x3)] [Rdb F0 w0 t9 ps 1 (u8s x4)]
 (b1:qbd x1) (b2:qbd x2) (b3:qbd x3) (b4:qbd x4) (hlen:x1.length+x2.length+x3.length+x4.length≤900000)
 (hk:∀ t w',(t.len=(endM n l).length∧t.cap=t.len)→St F0 w0 w' (rdA 1 t (u8s (endM n l)) :: ps)→Q (.tuple ⟨[sV t,.int .i64 0]⟩) w') :
 qg.j11 t6 t7 t8 t9 t17 t18 Q w:=by
 subst h18
 have hX:(hdM n ++ tbM l 4).length=60:=by rw [List.length_append,qvj,qmj _ (Nat.le_refl _)]
 unfold qg.j11
 refine h.new fun zb w h=>?_
 have h:St F0 w0 w (qt zb (u8s [0,0,0,0]) :: apA t17 (u8s (hdM n ++ tbM l 4)) :: ps):=h
 haveI:Rdb F0 w0 ⟨some ⟨zb,0,none⟩,4,4⟩ (apA t17 (u8s (hdM n ++ tbM l 4)) :: qt zb (u8s [0,0,0,0]) :: ps) 1 (u8s [0,0,0,0]):=qrh rfl
 refine St.apxR (t:=⟨some ⟨zb,0,none⟩,4,4⟩) (ys:=[0,0,0,0]) h.at1 (by show 0 < 4; decide) (by rw [hX]; show 60+4≤_; decide) fun o2 w h=>?_
 refine qnd.d (s:=o2) h (by rw [List.length_append,hX]; show 60+4≤_; decide) fun o3 w e1 e2 h=>⟨o3,rfl,?_⟩
 have h:St F0 w0 w (rdA 1 o3 (u8s (tabM n l)) :: ps):=h.tail fun _ _ _ h=>h.drop.drop
 refine h.new fun ab w h=>?_
 have h:St F0 w0 w (qt ab (slB [(o3,tabM n l),(t6,x1),(t7,x2),(t8,x3),(t9,x4)]) :: rdA 1 o3 (u8s (tabM n l)) :: ps):=h
 haveI:=qrh (F0:=F0) (w0:=w0) (nb:=ab) (n:=5) (l:=slB [(o3,tabM n l),(t6,x1),(t7,x2),(t8,x3),(t9,x4)]) (ps:=qt ab (slB [(o3,tabM n l),(t6,x1),(t7,x2),(t8,x3),(t9,x4)]) :: rdA 1 o3 (u8s (tabM n l)) :: ps) rfl
 have hcat:catB [(o3,tabM n l),(t6,x1),(t7,x2),(t8,x3),(t9,x4)]=preM n l:=by
  subst hl
  unfold preM
  simp [catB]
 have hpl:(preM n l).length≤900072:=by
  rw [← hcat]
  simp only [catB,List.flatMap_cons,List.flatMap_nil,List.length_append,tabM_len,List.length_nil]
  omega
 have hpb:qbd (preM n l):=by
  refine preM_ok ?_
  subst hl
  simp only [List.flatten_cons,List.flatten_nil,List.append_nil,qxd]
  exact ⟨b1,b2,b3,b4⟩
 refine qj.c (s:=⟨some ⟨ab,0,none⟩,5,5⟩) (L:=[(o3,tabM n l),(t6,x1),(t7,x2),(t8,x3),(t9,x4)]) h ?_ (by simp) (by rw [hcat]; omega) fun o4 w ht h=>⟨o4,rfl,?_⟩
 · intro y hy w h
   rcases List.mem_cons.1 hy with rfl | hy
   · exact h.rdb o3
   rcases List.mem_cons.1 hy with rfl | hy
   · exact h.rdb t6
   rcases List.mem_cons.1 hy with rfl | hy
   · exact h.rdb t7
   rcases List.mem_cons.1 hy with rfl | hy
   · exact h.rdb t8
   rcases List.mem_cons.1 hy with rfl | hy
   · exact h.rdb t9
   cases hy
 rw [hcat] at h
 have h:St F0 w0 w (qp 1 o4 (u8s (preM n l)) :: ps):=h.tail fun _ _ _ h=>h.drop.drop
 refine qdg.d (s:=o4) (xs:=preM n l) h hpb (by omega) fun w h=>⟨_,rfl,?_⟩
 have hzc:zc Tryz.prog 39=⟨ivs .u8 z20⟩:=zc_idM
 rw [hzc]
 refine h.new fun kb w h=>?_
 have h:St F0 w0 w (qt kb (u8s z20) :: qp 1 o4 (u8s (preM n l)) :: ps):=h
 refine ⟨quh _,?_⟩
 refine St.sA (b:=kb) (l':=u8s (qte (preM n l))) h rfl (quh _) qsi fun w h=>?_
 refine St.sealed (s:=o4) (xs:=preM n l) (ys:=qte (preM n l)) (h.tail fun _ _ _ h=>h.apO) (qbf _) (by omega) fun o6 w h=>?_
 refine qlb.d h fun o7 h1 h2 h=>⟨o7,rfl,?_⟩
 refine hk o7 w ?_ h
 have:=(h.rdb o7).1
 rw [qeb,Nat.mul_one] at this
 exact ⟨this.symm,by omega⟩
theorem MBuild_10 {l:List (List Int)} (hl:l=[x1,x2,x3,x4]) (h:St F0 w0 w (apA t17 (u8s (hdM n)) :: ps)) [Rdb F0 w0 t6 ps 1 (u8s x1)] [Rdb F0 w0 t7 ps 1 (u8s x2)] [Rdb F0 w0 t8 ps 1 (u8s x3)] [Rdb F0 w0 t9 ps 1 (u8s x4)]
 (b1:qbd x1) (b2:qbd x2) (b3:qbd x3) (b4:qbd x4) (hlen:x1.length+x2.length+x3.length+x4.length≤900000)
 (hk:∀ t w',(t.len=(endM n l).length∧t.cap=t.len)→St F0 w0 w' (rdA 1 t (u8s (endM n l)) :: ps)→Q (.tuple ⟨[sV t,.int .i64 0]⟩) w') :
 qg.j10 t6 t7 t8 t9 t17 72 Q w:=by
 have hf:l.flatten.length≤900000:=by
  subst hl
  simp only [List.flatten_cons,List.flatten_nil,List.append_nil,List.length_append]
  omega
 have ho:∀ i,ofsM l i≤900072:=fun i=>Nat.le_trans (ofsM_le l i) (by omega)
 unfold qg.j10
 refine h.new fun ab w h=>?_
 have h:St F0 w0 w (qt ab (slB [(t6,x1),(t7,x2),(t8,x3),(t9,x4)]) :: apA t17 (u8s (hdM n)) :: ps):=h
 have h:St F0 w0 w (apA t17 (u8s (hdM n ++ tbM l 0)) :: qt ab (slB [(t6,x1),(t7,x2),(t8,x3),(t9,x4)]) :: ps):=by
  have e:hdM n ++ tbM l 0=hdM n:=by simp [tbM]
  rw [e]; exact h.at1
 unfold qg.j12
 refine loop3 (fun (i:Nat) (o:Sl) (a i':Int) w'=>i'=(i:Int)∧i≤4∧a=(ofsM l i:Int)∧St F0 w0 w' (apA o (u8s (hdM n ++ tbM l i)) :: qt ab (slB [(t6,x1),(t7,x2),(t8,x3),(t9,x4)]) :: ps)) (fun i=>4 - i) 0 ⟨rfl,Nat.zero_le _,rfl,h⟩ ?_
 clear h
 rintro i o _ _ wL I μ ⟨rfl,hi,rfl,h⟩ hin
 have htl:=qmj l (i:=i) hi
 have hxl:(hdM n ++ tbM l i).length≤100:=by rw [List.length_append,htl,qvj]; omega
 have hoi:=ho i
 unfold qg.b1
 refine qwc (fun g=>?_) (fun g=>?_)
 · have hi4:i < 4:=by
    have g:(i:Int) < 4:=g
    omega
   haveI:Rdb F0 w0 ⟨some ⟨ab,0,none⟩,4,4⟩ (apA o (u8s (hdM n ++ tbM l i)) :: qt ab (slB [(t6,x1),(t7,x2),(t8,x3),(t9,x4)]) :: ps) 1 (slB [(t6,x1),(t7,x2),(t8,x3),(t9,x4)]):=qrh rfl
   refine (h.rdb ⟨some ⟨ab,0,none⟩,4,4⟩).lslB (L:=[(t6,x1),(t7,x2),(t8,x3),(t9,x4)]) i rfl (by simpa using hi4) ?_
   have hlen4:l.length=4:=by rw [hl]; rfl
   have hyl:([(t6,x1),(t7,x2),(t8,x3),(t9,x4)]:List (Sl × List Int))[i].1.len=(l[i]'(by omega)).length:=by
    have q1:=(h.drop.drop.rdb t6).1
    have q2:=(h.drop.drop.rdb t7).1
    have q3:=(h.drop.drop.rdb t8).1
    have q4:=(h.drop.drop.rdb t9).1
    rw [qeb,Nat.mul_one] at q1 q2 q3 q4
    have h03:i=0 ∨ i=1 ∨ i=2 ∨ i=3:=by omega
    subst hl
    rcases h03 with rfl | rfl | rfl | rfl
    · exact q1.symm
    · exact q2.symm
    · exact q3.symm
    · exact q4.symm
   generalize ([(t6,x1),(t7,x2),(t8,x3),(t9,x4)]:List (Sl × List Int))[i].1=y at hyl ⊢
   refine h.new fun sb w h=>?_
   have h:St F0 w0 w (qt sb (wrdT.map Value.string) :: apA o (u8s (hdM n ++ tbM l i)) :: qt ab (slB [(t6,x1),(t7,x2),(t8,x3),(t9,x4)]) :: ps):=h
   obtain ⟨hw,hc,hs⟩:=wrdT_cells i hi4
   refine ixS_blk i rfl hi4 ?_
   refine (h.toB sb).blk.ldS (n:=wrdT[i]) ?_ ⟨rfl,?_⟩
   · rw [List.getElem?_map,List.getElem?_eq_getElem hw]; rfl
   rw [hc,hs]
   refine qvd ?_
   refine h.drop.apx (ys:=wrdM.getD i []) rfl (qcj hi4) (by decide) (by omega) fun o2 w h=>?_
   refine qnd.d (s:=o2) (xs:=hdM n ++ tbM l i ++ wrdM.getD i []) h (by rw [List.length_append,qcj hi4]; omega) fun o3 w h1 h2 h=>⟨o3,rfl,?_⟩
   have hoi2:=ho (i+1)
   have hos:=qsj (l:=l) (i:=i) (by omega)
   refine qy (e':=(ofsM l (i+1):Int)) (by rw [ql (by omega) (by omega)]; omega) ?_
   refine qy (e':=((i+1:Nat):Int)) (by rw [ql (by omega) (by omega)]; rfl) ?_
   refine ⟨⟨rfl,rfl,rfl,rfl,rfl,rfl⟩,hin (i+1) _ _ _ _ ⟨rfl,by omega,rfl,?_⟩ (by omega)⟩
   rw [qth,← List.append_assoc,← List.append_assoc]
   exact (h.apR h2).tail fun _ _ _ h=>h.drop
 · have:i=4:=by
    have g:¬ (i:Int) < 4:=g
    omega
   subst this
   exact MBuild_11 hl rfl h b1 b2 b3 b4 hlen fun t w ht h=>hk t w ht (h.tail fun _ _ _ h=>h.drop)
end
end Go.Proofs.YtonmgkkkiejicaaGreat
namespace Go.Proofs.YtonmgkkkiejicaaGreat
open Go Go.Proofs
set_option linter.unusedVariables false
set_option linter.unusedSimpArgs false
attribute [local irreducible] apK cpK mkK br qte
def namesB (L:List Mk):List Int:=L.flatMap fun m=>nm0 m.1
theorem namesB_snoc (L:List Mk) (m:Mk):namesB (L ++ [m])=namesB L ++ nm0 m.1:=by simp [namesB]
theorem namesB_eq (L:List Mk):padB (namesB L)=nmsB (L.map (·.1)):=by
 unfold nmsB namesB
 rw [List.flatMap_map]
theorem namesB_le (L:List Mk) (i:Nat):(namesB (L.take i)).length≤(namesB L).length:=by
 have e:namesB L=namesB (L.take i) ++ namesB (L.drop i):=by
  unfold namesB
  rw [← List.flatMap_append,List.take_append_drop]
 rw [e,List.length_append]
 omega
theorem str0_cells (x:ByteArray):strCells (x ++ ⟨#[0]⟩) (ByteArray.size (x ++ ⟨#[0]⟩))=⟨u8s (nm0 x)⟩:=by
 unfold strCells
 have e:(x ++ ⟨#[0]⟩:ByteArray).extract 0 (ByteArray.size (x ++ ⟨#[0]⟩))=x ++ ⟨#[0]⟩:=by
  apply ByteArray.ext
  rw [ByteArray.data_extract]
  exact Array.extract_eq_self_of_le (Nat.le_refl _)
 rw [e]
 have e2:(x ++ ⟨#[0]⟩:ByteArray).data=x.data ++ #[0]:=ByteArray.data_append
 rw [e2]
 apply Array.ext'
 simp [ivs,nm0,biB]
theorem str0_size (x:ByteArray):ByteArray.size (x ++ ⟨#[0]⟩)=x.size+1:=ByteArray.size_append
theorem idsO_take {O:List Sp} {i:Nat} (h:i < O.length):qvc (O.take (i+1))=qvc (O.take i) ++ [O[i].1]:=by
 unfold qvc
 rw [List.take_succ_eq_append_getElem h,List.map_append]
 rfl
theorem atB_take {O:List Sp} {i:Nat} (h:i < O.length):atB (O.take (i+1))=atB (O.take i) ++ beJ 4 4 O[i].2.1 ++ beJ 4 4 O[i].2.2:=by
 unfold atB
 rw [List.take_succ_eq_append_getElem h,List.flatMap_append,List.append_assoc]
 simp [at1B]
theorem pad_len (xs:List Int):(padB xs).length≤xs.length+3:=by
 unfold padB
 rw [List.length_append,List.length_replicate]
 omega
section
variable {F0:List Nat} {w0 w:World} {ps rest:List As} {s t6 t7 t8 t9 t10 t17:Sl} {x1 x2 x3 x4:List Int} {lb:Nat} {K:Ending→World→Prop} {Q:VWP} {O:List Sp} {L:List Mk} {NL:List ByteArray}
theorem MBuild_9 (h:St F0 w0 w ps) [PkB lb ps [.slice s.a s.len s.cap] rest] (hn:s.len=NL.length) (hNL:NL.length≤1000) [Rdb F0 w0 t6 ps 1 (u8s (nmsB NL))] [Rdb F0 w0 t7 ps 1 (u8s (fB (qvc O)))] [Rdb F0 w0 t8 ps 1 (u8s (nB (qvc O)))] [Rdb F0 w0 t9 ps 1 (u8s (atB O))]
 (hO:O.length≤2048) (hnl:(nmsB NL).length≤100000)
 (hk:∀ t w',(t.len=(mB NL O).length∧t.cap=t.len)→St F0 w0 w' (rdA 1 t (u8s (mB NL O)) :: ps)→Q (.tuple ⟨[sV t,.int .i64 0]⟩) w') :
 qg.j9 ⟨lb,0,none⟩ t6 t7 t8 t9 Q w:=by
 unfold qg.j9
 refine h.new fun cb w h=>?_
 have h:St F0 w0 w (qt cb (u8s markM) :: ps):=h
 refine h.str (n:=8) rfl fun w h=>?_
 refine (h.toB lb).blk.ldL (n:=s) rfl ?_
 refine qnc.d (s:=⟨some ⟨cb,0,none⟩,8,8⟩) (xs:=markM) (v:=(s.len:Int)) h (by show 8≤_; decide) fun r w hr hc h=>⟨r,rfl,?_⟩
 have hr:r.len=12:=hr
 refine qy (e':=72) (by rw [hr]; rfl) ?_
 rw [hn] at h
 have h:St F0 w0 w (apA r (u8s (hdM NL.length)) :: ps):=(St.apR h hc).tail fun _ _ _ h=>h.drop
 refine MBuild_10 (n:=NL.length) (l:=mdL NL O) (x1:=nmsB NL) (x2:=fB (qvc O)) (x3:=nB (qvc O)) (x4:=atB O) rfl h (nmsB_ok _) (wB_ok _) (nB_ok _) (atB_ok _) ?_ hk
 have e1:(qvc O).length=O.length:=List.length_map ..
 rw [fB_len,qsk,qri,e1]
 omega
theorem MBuild_8 (h:St F0 w0 w (qp 20 t10 ((qvc O).flatMap nmC) :: ps)) [PkB lb ps [.slice s.a s.len s.cap] rest] (hn:s.len=NL.length) (hNL:NL.length≤1000) [Rdb F0 w0 t6 ps 1 (u8s (nmsB NL))] [Rdb F0 w0 t8 ps 1 (u8s (nB (qvc O)))] [Rdb F0 w0 t9 ps 1 (u8s (atB O))]
 (hO:O.length≤2048) (hnl:(nmsB NL).length≤100000)
 (hk:∀ t w',(t.len=(mB NL O).length∧t.cap=t.len)→St F0 w0 w' (rdA 1 t (u8s (mB NL O)) :: ps)→Q (.tuple ⟨[sV t,.int .i64 0]⟩) w') :
 qg.j8 ⟨lb,0,none⟩ t6 ⟨none,0,0⟩ t8 t9 t10 Q w:=by
 have e1:(qvc O).length=O.length:=List.length_map ..
 unfold qg.j8
 refine qab.c (s:=t10) (A:=qvc O) h (by omega) fun w h=>⟨_,rfl,?_⟩
 have h:=h.drop
 unfold qg.j13
 refine loop2 (fun (i:Nat) (t7:Sl) (i':Int) w'=>i'=(i:Int)∧i≤256∧St F0 w0 w' (rdA 1 t7 (u8s (wB ((fanL (qvc O)).take i))) :: ps)) (fun i=>256 - i) 0 ⟨rfl,Nat.zero_le _,(h.nil 1).ro⟩ ?_
 clear h
 rintro i t7 _ wL I μ ⟨rfl,hi,h⟩ hin
 unfold qg.b2
 refine qwc (fun g=>?_) (fun g=>?_)
 · have hi2:i < 256:=by omega
   refine ⟨⟨by omega,by omega⟩,?_⟩
   refine ptI_at (by rw [qij]; exact hi2) ?_
   refine qnc.d (s:=t7) h (by rw [wB_len,List.length_take]; omega) fun t7' w _ _ h=>⟨t7',rfl,?_⟩
   refine qy (e':=((i+1:Nat):Int)) (by rw [ql (by omega) (by omega)]; rfl) ?_
   refine ⟨⟨rfl,rfl,rfl,rfl,rfl⟩,hin (i+1) _ _ _ ⟨rfl,by omega,?_⟩ (by omega)⟩
   rw [qnj (by rw [qij]; exact hi2),wB_app,wB_one]
   exact h.tail fun _ _ _ h=>h.drop
 · have:i=256:=by omega
   subst this
   rw [List.take_of_length_le (by rw [qij]; exact Nat.le_refl _)] at h
   have h:St F0 w0 wL (rdA 1 t7 (u8s (fB (qvc O))) :: ps):=h
   exact MBuild_9 (NL:=NL) (O:=O) (s:=s) h hn hNL hO hnl fun t w ht h=>hk t w ht (h.tail fun _ _ _ h=>h.drop)
theorem MBuild_7 {t5:Sl} (h:St F0 w0 w (qp 22 t5 (O.flatMap spC) :: ps)) [PkB lb ps [.slice s.a s.len s.cap] rest] (hn:s.len=NL.length) (hNL:NL.length≤1000) [Rdb F0 w0 t6 ps 1 (u8s (nmsB NL))]
 (hO:O.length≤2048) (hnl:(nmsB NL).length≤100000)
 (hk:∀ t w',(t.len=(mB NL O).length∧t.cap=t.len)→St F0 w0 w' (rdA 1 t (u8s (mB NL O)) :: ps)→Q (.tuple ⟨[sV t,.int .i64 0]⟩) w') :
 qg.j7 ⟨lb,0,none⟩ t5 t6 ⟨none,0,0⟩ ⟨none,0,0⟩ ⟨none,0,0⟩ ⟨none,0,0⟩ Q w:=by
 have hl5:=h.rlen (s:=t5) (f:=spC) (L:=O)
 unfold qg.j7 qg.j14
 refine loop4 (fun (i:Nat) (t8 t9 t10:Sl) (i':Int) w'=>i'=(i:Int)∧i≤O.length∧St F0 w0 w' (qp 1 t8 (u8s (nB (qvc (O.take i)))) :: qp 20 t10 ((qvc (O.take i)).flatMap nmC) :: clA 1 t9 (u8s (atB (O.take i))) :: qp 22 t5 (O.flatMap spC) :: ps)) (fun i=>O.length - i) 0 ⟨rfl,Nat.zero_le _,?_⟩ ?_
 · have h1:St F0 w0 w (clA 1 ⟨none,0,0⟩ (u8s (atB (O.take 0))) :: qp 22 t5 (O.flatMap spC) :: ps):=(h.nil 1).ocl
   have h2:St F0 w0 w (qp 20 ⟨none,0,0⟩ ((qvc (O.take 0)).flatMap nmC) :: clA 1 ⟨none,0,0⟩ (u8s (atB (O.take 0))) :: qp 22 t5 (O.flatMap spC) :: ps):=h1.nilO
   exact h2.nil 1
 clear h
 rintro i t8 t9 t10 _ wL I μ ⟨rfl,hi,h⟩ hin
 have hnB:(nB (qvc (O.take i))).length≤100000:=by
  have:(qvc (O.take i)).length=(O.take i).length:=List.length_map ..
  rw [qsk,this,List.length_take]; omega
 have hidl:(qvc (O.take i)).length≤100000:=by
  have:(qvc (O.take i)).length=(O.take i).length:=List.length_map ..
  rw [this,List.length_take]; omega
 have hatl:(atB (O.take i)).length≤100000:=by rw [qri,List.length_take]; omega
 unfold qg.b3
 refine qwc (fun g=>?_) (fun g=>?_)
 · have hix:i < O.length:=by omega
   have e1:=idsO_take hix
   have e2:=atB_take hix
   refine h.lr (s:=t5) (f:=spC) (L:=O) i rfl hix ?_
   generalize O[i]=x at e1 e2 ⊢
   rw [qjj]
   refine h.new fun xb w h=>?_
   have h:St F0 w0 w (qt xb (spC spZ) :: qp 1 t8 (u8s (nB (qvc (O.take i)))) :: qp 20 t10 ((qvc (O.take i)).flatMap nmC) :: clA 1 t9 (u8s (atB (O.take i))) :: qp 22 t5 (O.flatMap spC) :: ps):=h
   refine ⟨qoc _,?_⟩
   refine h.setR (f:=spC) (x:=x) (qoc _) fun w h=>?_
   rw [qjb,cutP_b]
   refine qvd ?_
   haveI:∀ qs,Rdb F0 w0 ⟨some ⟨xb,0,none⟩,20,20⟩ (qt xb (spC x) :: qs) 1 (u8s x.1.1):=fun qs=>⟨fun h=>by
    have:=h.blk.rdAt (o:=0) (n:=20) (c:=20) (by rw [qoc]; decide)
    have e:((spC x).drop 0).take 20=u8s x.1.1:=by
     unfold spC
     rw [List.drop_zero]
     exact List.take_left' (by rw [qo,x.1.2.1])
    rw [e] at this
    exact this⟩
   refine h.appI (s:=t8) (s2:=⟨some ⟨xb,0+0,none⟩,20,20⟩) (zs:=nB (qvc (O.take i))) (ys:=x.1.1) (k:=.u8) (by rw [x.1.2.1]; omega) fun t8' w h=>?_
   have h:St F0 w0 w (qt xb (spC x) :: clA 1 t9 (u8s (atB (O.take i))) :: qp 1 t8' (u8s (nB (qvc (O.take i)) ++ x.1.1)) :: qp 20 t10 ((qvc (O.take i)).flatMap nmC) :: qp 22 t5 (O.flatMap spC) :: ps):=h.sub
   refine h.drewK fun w h=>qvd ?_
   have hI:∀ {o:Nat} {v:Int} {w':World} {qs:List As} {Z:Int→Prop},(spC x)[o]?=some (.int .i64 v)→St F0 w0 w' (qt xb (spC x) :: qs)→Z v→ldI .i64 w' (Addr.add ⟨xb,0,none⟩ o) Z:=fun hv h hz=>by
    rw [qjb]
    exact h.blk.ldI (by rw [Nat.zero_add]; exact hv) hz
   have hv20:(spC x)[20]?=some (.int .i64 x.2.1):=by
    unfold spC
    rw [List.getElem?_append_right (by rw [qo,x.1.2.1]; decide),qo,x.1.2.1]
    rfl
   have hv21:(spC x)[21]?=some (.int .i64 x.2.2):=by
    unfold spC
    rw [List.getElem?_append_right (by rw [qo,x.1.2.1]; decide),qo,x.1.2.1]
    rfl
   have hP1:∀ {w':World} {Z:Sl→World→Prop},St F0 w0 w' (qt xb (spC x) :: clA 1 t9 (u8s (atB (O.take i))) :: qp 1 t8' (u8s (nB (qvc (O.take i)) ++ x.1.1)) :: qp 20 t10 ((qvc (O.take i)).flatMap nmC) :: qp 22 t5 (O.flatMap spC) :: ps)→(∀ r w'',St F0 w0 w'' (qt xb (spC x) :: clA 1 r (u8s (atB (O.take i) ++ beJ 4 4 x.2.1)) :: qp 1 t8' (u8s (nB (qvc (O.take i)) ++ x.1.1)) :: qp 20 t10 ((qvc (O.take i)).flatMap nmC) :: qp 22 t5 (O.flatMap spC) :: ps)→Z r w'')→qgh 23 [sV t9,.int .i64 x.2.1] w' Z:=fun h hz =>
    qnc.cl (s:=t9) (xs:=atB (O.take i)) h (by omega) fun r w' _ _ h=>⟨r,rfl,hz r w' h.sub⟩
   have tail:∀ {w:World} {r:Sl},St F0 w0 w (qt xb (spC x) :: clA 1 r (u8s (atB (O.take i) ++ beJ 4 4 x.2.1)) :: qp 1 t8' (u8s (nB (qvc (O.take i)) ++ x.1.1)) :: qp 20 t10 ((qvc (O.take i)).flatMap nmC) :: qp 22 t5 (O.flatMap spC) :: ps) →
    qgh 23 [sV r,.int .i64 x.2.2] w fun r76 w75=>ldA w75 (Addr.add ⟨xb,0,none⟩ 0) 20 fun c77=>(c77).size=20∧nw w75 ⟨(spl (u8s z20) 0 c77)⟩ 39 fun a78 w79=>rdO w79 (some a78) (1 * 20) fun c80=>apK Tryz.prog 39 w79 t10.a t10.len t10.cap 1 c80 fun s81 w82=>lt (IntKind.i64.wrap ((i:Int)+1)) fun x83 =>
     (⟨lb,0,none⟩=(⟨lb,0,none⟩:Addr)∧t6=t6∧(⟨none,0,0⟩:Sl)=⟨none,0,0⟩∧t5=t5∧(t5.len:Int)=(t5.len:Int))∧I t8' r76 s81 x83 w82∧μ t8' r76 s81 x83 w82 < μ t8 t9 t10 (i:Int) wL:=fun {w r} h=>by
    refine qnc.cl (s:=r) (xs:=atB (O.take i) ++ beJ 4 4 x.2.1) h (by rw [List.length_append,qfc]; omega) fun r2 w _ _ h=>⟨r2,rfl,?_⟩
    have hN:(nmC x.1).length=20:=(inferInstance:Rec nmC 20).len x.1
    have hA:∀ {Z:Array Value→Prop},Z ⟨nmC x.1⟩→ldA w (Addr.add ⟨xb,0,none⟩ 0) 20 Z:=fun hz=>by
     rw [qjb]
     refine (h.toB xb).blk.ldA (cs:=⟨nmC x.1⟩) hN (fun j hj=>?_) hz
     unfold spC nmC
     rw [List.getElem?_append_left (by rw [qo,x.1.2.1]; omega)]
     simp
    refine hA ⟨hN,?_⟩
    rw [qnf (by rw [hN]; rfl)]
    refine h.pushR (s:=t10) (f:=nmC) (L:=qvc (O.take i)) (x:=x.1) (by omega) rfl fun t10' w _ h=>?_
    refine qy (e':=((i+1:Nat):Int)) (by rw [ql (by omega) (by omega)]; rfl) ?_
    refine ⟨⟨rfl,rfl,rfl,rfl,rfl⟩,hin (i+1) _ _ _ _ _ ⟨rfl,by omega,?_⟩ (by omega)⟩
    rw [e1,e2,nB_snoc]
    exact h.sub
   refine hI hv20 h ⟨?_,?_⟩
   · refine hP1 h fun r w h=>?_
     refine hI hv21 h ?_
     exact tail h
   · refine hI hv21 h ?_
     refine hP1 h fun r w h=>?_
     exact tail h
 · have:i=O.length:=by omega
   subst this
   rw [List.take_length] at h
   refine MBuild_8 (O:=O) (NL:=NL) (s:=s) (t10:=t10) (ps:=qp 1 t8 (u8s (nB (qvc O))) :: clA 1 t9 (u8s (atB O)) :: qp 22 t5 (O.flatMap spC) :: ps) h.sub hn hNL hO hnl fun t w ht h=>hk t w ht h.sub
end
end Go.Proofs.YtonmgkkkiejicaaGreat
namespace Go.Proofs.YtonmgkkkiejicaaGreat
open Go Go.Proofs
set_option linter.unusedVariables false
set_option linter.unusedSimpArgs false
attribute [local irreducible] apK cpK mkK br qte lessV swapV dtV
theorem qfg {s:ByteArray} (h:nmdB s=true):s.size=49:=by
 unfold nmdB at h
 simp only [Bool.and_eq_true] at h
 obtain ⟨h1,h2,h3⟩:=h
 have e1:qkd s=s.extract pakB.size s.size:=by unfold qkd; rw [if_pos h1]
 have e2:cutS1 (qkd s)=(qkd s).extract 0 ((qkd s).size - idxB.size):=by unfold cutS1; rw [if_pos h2]
 have l1:(qkd s).size=s.size - 5:=by
  rw [e1,ByteArray.size_extract]
  show min s.size s.size - 5=_
  omega
 have l2:(cutS1 (qkd s)).size=(qkd s).size - 4:=by
  rw [e2,ByteArray.size_extract]
  show min ((qkd s).size - 4) (qkd s).size - 0=_
  omega
 unfold begB at h1
 unfold endB at h2
 unfold okN at h3
 simp only [Bool.and_eq_true,decide_eq_true_eq] at h1 h2 h3
 have a1:5≤s.size:=h1.1
 have a2:4≤(qkd s).size:=h2.1
 omega
theorem spsA_len (rw:Mk→List Rw) (L:List Mk):(qmg rw L).length=(L.map fun m=>(rw m).length).sum:=by
 unfold qmg
 rw [List.length_flatMap]
 have e:(L.zipIdx.map fun a=>((rw a.1).map (spR a.2)).length)=L.map fun m=>(rw m).length:=by
  have:L=L.zipIdx.map Prod.fst:=by simp
  conv=>rhs; rw [this,List.map_map]
  exact List.map_congr_left fun a _=>by simp
 rw [e]
section
variable {F0:List Nat} {w0 w:World} {ps rest:List As} {s d t6:Sl} {lb:Nat} {K:Ending→World→Prop} {Q:VWP} {O:List Sp} {L:List Mk} {rw:Mk→List Rw}
theorem MBuild_6 {t5:Sl} (h:St F0 w0 w (qp 1 t6 (u8s (namesB L)) :: qp 22 t5 (O.flatMap spC) :: ps)) [PkB lb ps [.slice d.a d.len d.cap] rest] (hd:d.len=L.length) (hL:L.length≤64) (hO:O.length≤2048) (hnl:(namesB L).length≤3200)
 (hk:∀ t w',(t.len=(mB (L.map (·.1)) O).length∧t.cap=t.len)→St F0 w0 w' (rdA 1 t (u8s (mB (L.map (·.1)) O)) :: ps)→Q (.tuple ⟨[sV t,.int .i64 0]⟩) w') :
 qg.j6 ⟨lb,0,none⟩ t5 t6 ⟨none,0,0⟩ ⟨none,0,0⟩ ⟨none,0,0⟩ ⟨none,0,0⟩ Q w:=by
 unfold qg.j6
 refine loop1 (fun (k:Nat) (t6:Sl) w'=>k≤(4 - (namesB L).length % 4) % 4∧St F0 w0 w' (qp 1 t6 (u8s (namesB L ++ List.replicate k 0)) :: qp 22 t5 (O.flatMap spC) :: ps)) (fun k=>4 - k) 0 ⟨Nat.zero_le _,by simpa using h⟩ ?_
 clear h
 rintro k t6 wL I μ ⟨hk0,h⟩ hin
 have hl:=h.len
 rw [qeb,List.length_append,List.length_replicate,Nat.mul_one] at hl
 unfold qg.b4
 refine ⟨by decide,?_⟩
 refine qy (e':=((t6.len % 4:Nat):Int)) (by rw [Int.tmod_eq_emod_of_nonneg (by omega)]; omega) ?_
 by_cases g:t6.len % 4=0
 · rw [g]
   refine qyd (fun g=>by simp at g) (fun _=>?_)
   have hke:k=(4 - (namesB L).length % 4) % 4:=by omega
   have h:St F0 w0 wL (qp 1 t6 (u8s (nmsB (L.map (·.1)))) :: qp 22 t5 (O.flatMap spC) :: ps):=by
    rw [← namesB_eq]
    unfold padB
    rw [← hke]
    exact h
   have hpl:=pad_len (namesB L)
   rw [namesB_eq] at hpl
   have hn7:(L.map (·.1)).length=L.length:=List.length_map ..
   generalize L.map (·.1)=NL at h hpl hn7 hk
   have h:St F0 w0 wL (qp 22 t5 (O.flatMap spC) :: qp 1 t6 (u8s (nmsB NL)) :: ps):=h.at1
   refine MBuild_7 (s:=d) (t6:=t6) (NL:=NL) (O:=O) h (by omega) (by omega) hO (by omega) fun t w ht h=>?_
   have h:St F0 w0 w (rdA 1 t (u8s (mB NL O)) :: ps):=h.tail fun _ _ _ h=>h.drop
   exact hk t w ht h
 · refine qyd (fun _=>?_) (fun g2=>by
    have:((t6.len % 4:Nat):Int)=0:=by simpa using g2
    omega)
   refine h.new fun zb w h=>?_
   have h:St F0 w0 w (qt zb (u8s [0]) :: qp 1 t6 (u8s (namesB L ++ List.replicate k 0)) :: qp 22 t5 (O.flatMap spC) :: ps):=h
   haveI:Rdb F0 w0 ⟨some ⟨zb,0,none⟩,1,1⟩ (qt zb (u8s [0]) :: qp 1 t6 (u8s (namesB L ++ List.replicate k 0)) :: qp 22 t5 (O.flatMap spC) :: ps) 1 (u8s [0]):=qrh rfl
   refine h.appI (s:=t6) (s2:=⟨some ⟨zb,0,none⟩,1,1⟩) (zs:=namesB L ++ List.replicate k 0) (ys:=[0]) (k:=.u8) (by rw [List.length_append,List.length_replicate]; show _+1≤_; omega) fun t6' w h=>?_
   refine ⟨⟨rfl,rfl,rfl,rfl,rfl,rfl⟩,hin (k+1) _ _ ⟨by omega,?_⟩ (by omega)⟩
   rw [List.append_assoc,← List.replicate_succ'] at h
   exact h.sub
theorem MBuild_5 {t5:Sl} (h:St F0 w0 w (qp 22 t5 (O.flatMap spC) :: ps)) [PkB lb ps [.slice d.a d.len d.cap] rest] [Rdb F0 w0 d ps 2 (mks L)] (hL:L.length≤64) (hO:O.length≤2048) (hn:∀ m ∈ L,nmdB m.1=true)
 (hk:∀ t w',(t.len=(mB (L.map (·.1)) O).length∧t.cap=t.len)→St F0 w0 w' (rdA 1 t (u8s (mB (L.map (·.1)) O)) :: ps)→Q (.tuple ⟨[sV t,.int .i64 0]⟩) w') :
 qg.j4 ⟨lb,0,none⟩ t5 Q w:=by
 haveI iR2:Rdb F0 w0 d ps 2 (L.flatMap mkC):=(inferInstance:Rdb F0 w0 d ps 2 (mks L))
 have hl:=h.rlen (s:=d) (f:=mkC) (L:=L)
 have hn0:∀ M:List Mk,(∀ m ∈ M,nmdB m.1=true)→(namesB M).length=50 * M.length:=by
  intro M
  induction M with
  | nil=>intro _; rfl
  | cons m M ih =>
    intro hM
    show (nm0 m.1 ++ namesB M).length=_
    rw [List.length_append,ih fun x hx=>hM x (List.mem_cons_of_mem _ hx),List.length_cons]
    unfold nm0
    rw [List.length_append,qod,qfg (hM m List.mem_cons_self)]
    show 49+1+_=_
    omega
 have hnl:=hn0 L hn
 have hni:∀ i,(namesB (L.take i)).length≤3200:=fun i=>by have:=namesB_le L i; omega
 unfold qg.j4 qg.j5
 refine (h.toB lb).blk.ldL (n:=d) rfl ?_
 unfold qg.j15
 refine loop2 (fun (i:Nat) (t6:Sl) (i':Int) w'=>i'=(i:Int)∧i≤L.length∧St F0 w0 w' (qp 1 t6 (u8s (namesB (L.take i))) :: qp 22 t5 (O.flatMap spC) :: ps)) (fun i=>L.length - i) 0 ⟨rfl,Nat.zero_le _,h.nil 1⟩ ?_
 clear h
 rintro i t6 _ wL I μ ⟨rfl,hi,h⟩ hin
 unfold qg.b5
 refine qwc (fun g=>?_) (fun g=>?_)
 · have hix:i < L.length:=by omega
   have hsz:=qfg (hn _ (List.getElem_mem hix))
   have hsn:L.take (i+1)=L.take i ++ [L[i]]:=List.take_succ_eq_append_getElem hix
   refine h.lr (s:=d) (f:=mkC) (L:=L) i rfl hix ?_
   generalize L[i]=m at hsz hsn ⊢
   rw [zc_pack]
   refine h.new fun pb w h=>?_
   have h:St F0 w0 w (qt pb (mkC (⟨⟨[]⟩⟩,⟨none,0,0⟩)) :: qp 1 t6 (u8s (namesB (L.take i))) :: qp 22 t5 (O.flatMap spC) :: ps):=h
   refine ⟨rfl,?_⟩
   refine h.setR (f:=mkC) (x:=m) rfl fun w h=>?_
   have hld:∀ {Z:ByteArray→Prop},Z m.1→ldS w (Addr.add ⟨pb,0,none⟩ 0) Z:=fun hz=>by
    rw [qjb]
    exact (h.toB pb).blk.ldS (n:=m.1) rfl hz
   refine hld ⟨?_,?_⟩
   · rw [hsz]; decide
   refine qvd ⟨rfl,?_⟩
   rw [str0_cells,str0_size]
   refine qvd ?_
   have hlen0:(nm0 m.1).length=m.1.size+1:=by unfold nm0; rw [List.length_append,qod]; rfl
   have h2:St F0 w0 w (apA t6 (u8s (namesB (L.take i))) :: qp 22 t5 (O.flatMap spC) :: ps):=(h.drop).apO
   refine h2.apx (ys:=nm0 m.1) rfl hlen0 (by omega) (by have:=hni i; omega) fun t6' w h=>?_
   rw [← namesB_snoc,← hsn] at h
   refine qy (e':=((i+1:Nat):Int)) (by rw [ql (by omega) (by omega)]; rfl) ?_
   exact ⟨⟨rfl,rfl,rfl,rfl,rfl,rfl,rfl,rfl⟩,hin (i+1) _ _ _ ⟨rfl,by omega,h⟩ (by omega)⟩
 · have:i=L.length:=by omega
   subst this
   rw [List.take_length] at h
   exact MBuild_6 h hl.symm hL hO (by omega) hk
theorem packs_Clone.c (h:St F0 w0 w ps) [iR:Rdb F0 w0 s ps 2 (mks L)] (hP:L.length≤1000000) (hk:∀ t w',t.len=L.length→St F0 w0 w' (qp 2 t (mks L) :: ps)→K (.returned (sV t)) w') :
 Calls Tryz.prog 18 ⟨[sV s]⟩ w K:=by
 haveI iR2:Rdb F0 w0 s ps 2 (L.flatMap mkC):=iR
 refine qmb (quc.ok _ _ _ ?_)
 unfold quc
 refine qyd (fun g=>?_) (fun g=>?_)
 · have:s.a=none:=by simpa using g
   have hP:=h.isnil (s:=s) (f:=mkC) (L:=L) this
   subst hP
   exact hk ⟨none,0,0⟩ w rfl (h.nilO)
 · refine h.cloneR (s2:=s) (f:=mkC) (M:=L) (by omega) fun s' w' hs h=>?_
   exact hk s' w' hs h
theorem MBuild.c (h:St F0 w0 w ps) [iR:Rdb F0 w0 s ps 2 (mks L)] (hL:L.length≤1000000) (hN:∀ m ∈ L,m.1.size≤1000000000) (hRl:(L.map fun m=>(rw m).length).sum≤900000000) (hP:∀ m ∈ L,Rdb F0 w0 m.2 ps 22 ((rw m).flatMap rwC))
 (hk1:∀ w',badM rw (qgc L)→St F0 w0 w' ps→K (.returned (.tuple ⟨[.slice none 0 0,.int .i64 1]⟩)) w')
 (hk5:∀ w',¬ badM rw (qgc L)→(64 < L.length ∨ ∃ O,MgO (qmg rw (qgc L)) O∧2048 < O.length)→St F0 w0 w' ps→K (.returned (.tuple ⟨[.slice none 0 0,.int .i64 5]⟩)) w')
 (hk0:∀ O t w',¬ badM rw (qgc L)→L.length≤64→MgO (qmg rw (qgc L)) O→O.length≤2048→(t.len=(mB ((qgc L).map (·.1)) O).length∧t.cap=t.len)→St F0 w0 w' (rdA 1 t (u8s (mB ((qgc L).map (·.1)) O)) :: ps)→K (.returned (.tuple ⟨[sV t,.int .i64 0]⟩)) w') :
 Calls Tryz.prog 9 ⟨[sV s]⟩ w K:=by
 have hp:=qec L
 have hpl:=hp.length_eq
 have hm:∀ m ∈ qgc L,m ∈ L:=fun m hm=>hp.mem_iff.1 hm
 have hSl:(qmg rw (qgc L)).length≤900000000:=by
  rw [spsA_len,(hp.map fun m=>(rw m).length).sum_nat]; exact hRl
 have hr1:∀ m ∈ qgc L,(rw m).length≤1000000000:=fun m hm'=>by
  have:(rw m).length≤(L.map fun m=>(rw m).length).sum:=qqk (f:=fun m=>(rw m).length) (hm m hm')
  omega
 refine qmb (qg.ok _ _ _ ?_)
 unfold qg qg.j1
 refine packs_Clone.c (s:=s) (L:=L) h hL fun d w hd h=>⟨d,rfl,?_⟩
 have hz:zc Tryz.prog 28=⟨[.slice none 0 0]⟩:=by kernel_rfl
 rw [hz]
 refine h.new fun lb w h=>?_
 have h:St F0 w0 w (qt lb [.slice none 0 0] :: qp 2 d (mks L) :: ps):=h
 refine h.st (by show 0 < 1; decide) trivial fun w h=>?_
 have h:St F0 w0 w (qt lb [.slice d.a d.len d.cap] :: qp 2 d (mks L) :: ps):=h
 refine (h.toB lb).blk.ldL (n:=d) rfl ?_
 have h:St F0 w0 w (qp 2 d (mks L) :: qt lb [.slice d.a d.len d.cap] :: ps):=h.at1
 refine mSliceStable.c (lb:=lb) (wt:=rkM L) h (key_rk L) hL fun w h=>⟨rfl,?_⟩
 have h:St F0 w0 w (qp 2 d (mks (qgc L)) :: qt lb [.slice d.a d.len d.cap] :: ps):=h
 have hPs:∀ m ∈ qgc L,Rdb F0 w0 m.2 (qp 2 d (mks (qgc L)) :: qt lb [.slice d.a d.len d.cap] :: ps) 22 ((rw m).flatMap rwC):=fun m hm'=>by
  haveI:=hP m (hm m hm')
  infer_instance
 unfold qg.j2
 refine (h.toB lb).blk.ldL (n:=d) rfl ?_
 refine wrong.c (L:=qgc L) (rw:=rw) h (by omega) (fun m hm'=>hN m (hm m hm')) hr1 hPs (fun w hb h=>⟨true,rfl,?_⟩) (fun w hb h=>⟨false,rfl,?_⟩)
 · exact qyd (fun _=>hk1 w hb h.drop.drop) (fun g=>by cases g)
 refine qyd (fun g=>by cases g) (fun _=>?_)
 refine (h.toB lb).blk.ldL (n:=d) rfl ?_
 refine qwc (fun g=>?_) (fun g=>?_)
 · exact hk5 w hb (Or.inl (by omega)) h.drop.drop
 have hL64:L.length≤64:=by omega
 unfold qg.j3
 refine (h.toB lb).blk.ldL (n:=d) rfl ?_
 refine merge.c (L:=qgc L) (rw:=rw) h (by omega) hSl hr1 hPs fun t5 O w hO h=>⟨t5,rfl,?_⟩
 have hl5:=h.rlen (s:=t5) (f:=spC) (L:=O)
 refine qwc (fun g=>?_) (fun g=>?_)
 · exact hk5 w hb (Or.inr ⟨O,hO,by omega⟩) h.drop.drop.drop
 refine MBuild_5 (L:=qgc L) (O:=O) (d:=d) h (by omega) (by omega) (fun m hm'=>?_) fun t w ht h=>hk0 O t w hb hL64 hO (by omega) ht (h.tail fun _ _ _ h=>h.drop.drop)
 obtain ⟨i,hi,rfl⟩:=List.getElem_of_mem hm'
 cases e:nmdB (qgc L)[i].1 with
 | true=>rfl
 | false=>exact absurd ⟨i,hi,Or.inl e⟩ hb
end
end Go.Proofs.YtonmgkkkiejicaaGreat
namespace Go.Proofs.YtonmgkkkiejicaaGreat
open Go Go.Proofs
set_option linter.unusedVariables false
set_option linter.unusedSimpArgs false
attribute [local irreducible] apK cpK mkK br qte
section
variable {F0:List Nat} {w0 w:World} {ps rest:List As} {s t u:Sl} {xs:List Int} {S L:List Nd} {n:Nd} {pr:Nd→List Nm} {K:Ending→World→Prop}
end
theorem nmA_get {A P:List Nm} {k:Nat} (h:k < P.length):(nmA A P).getD k 0=(posN A P[k]:Int):=by
 unfold nmA
 rw [List.getD_eq_getElem?_getD,List.getElem?_map,List.getElem?_eq_getElem h]
 rfl
theorem edw_get {q:List Int} {k:Nat} (hq:2 < q.length) (h1:1≤k) (hk:k < q.length):(edw q).take k=(edw q).take (k - 1) ++ [if k=q.length - 1 then q.getD k 0+2147483648 else q.getD k 0]:=by
 obtain ⟨k,rfl⟩:∃ m,k=m+1:=⟨k - 1,by omega⟩
 have hl:(edw q).length=q.length - 1:=by rw [edw_len,if_pos hq]
 rw [Nat.add_sub_cancel,qnj (by omega)]
 congr 2
 unfold edw
 rw [if_pos hq,List.getD_eq_getElem?_getD]
 have hdl:(q.drop 1).dropLast.length=q.length - 2:=by rw [List.length_dropLast,List.length_drop]; omega
 by_cases g:k+1=q.length - 1
 · rw [if_pos g,List.getElem?_append_right (by omega),show k - (q.drop 1).dropLast.length=0 by omega,← g]
   rfl
 · rw [if_neg g,List.getElem?_append_left (by omega),List.getElem?_dropLast,if_pos (by rw [List.length_drop]; omega),List.getElem?_drop,List.getD_eq_getElem?_getD,Nat.add_comm 1 k]
end Go.Proofs.YtonmgkkkiejicaaGreat
namespace Go.Proofs.YtonmgkkkiejicaaGreat
open Go Go.Proofs
set_option linter.unusedVariables false
set_option linter.unusedSimpArgs false
attribute [local irreducible] apK cpK mkK br qte
instance elt_str:Elt Tryz.prog 9 (.string ⟨#[]⟩):=⟨⟨Tryz.t9,by kernel_rfl,rfl,by decide,by decide⟩,by kernel_rfl⟩
theorem ldS_c {w:World} {a:Addr} {n:ByteArray} {K:ByteArray→Prop} (hc:w.cell? a=some (.string n)) (hk:K n):ldS w a K:=⟨n,hc,hk⟩
theorem Rd.atS {w:World} {s:Sl} {l:List Value} {i:Int} {n:ByteArray} {K:ByteArray→Prop} (h:Rd w 1 s l) (j:Nat) (hi:i=j) (hj:l[j]?=some (.string n)) (hk:K n):ixS s.a s.len i 1 fun a=>ldS w a K:=by
 subst hi
 have hl:=h.1
 have hjl:j < l.length:=(List.getElem?_eq_some_iff.1 hj).1
 refine h.ix (by decide) (by omega) (by omega) fun a ha=>?_
 rw [show ((j:Int)).toNat * 1=j by omega]
 exact ldS_c (by rw [h.cell ha hjl]; exact hj) hk
section
variable {F0:List Nat} {w0 w:World} {ps rest:List As} {s t u:Sl} {xs:List Int} {S L:List Nd} {C:List Cm} {A:List Nm} {n:Nd} {P:List Nm} {g:Nm→Int} {gb xb i:Nat} {t3 t4 t5 t12 t13:Sl} {l:List (List Int)}
 {Q:VWP}
end
end Go.Proofs.YtonmgkkkiejicaaGreat
namespace Go.Proofs.YtonmgkkkiejicaaGreat
open Go Go.Proofs
set_option linter.unusedVariables false
set_option linter.unusedSimpArgs false
structure EncP (A:List Nm) (f:Nat→Int) (E:Nat) (P Q:Int) (PP:List Nm):Prop where
 ris:Ris A
 mem:∀ p ∈ PP,p ∈ A
 len:A.length≤1024
 a:P=numA (nmA A PP)
 b:∃ e,Q=numB e (nmA A PP)∧e+(edw (nmA A PP)).length≤E∧∀ j,j < (edw (nmA A PP)).length→f (e+j)=(edw (nmA A PP)).getD j 0
def lst0 (P:Int):List Int:=if P=1879048192 then [] else [P]
theorem posN_mem {A:List Nm} (hA:Ris A) {p:Nm} (hp:p ∈ A):∃ h:posN A p < A.length,A[posN A p]=p:=by
 obtain ⟨j,hj,rfl⟩:=List.getElem_of_mem hp
 have:=pos_at hA hj
 exact ⟨by omega,by simp only [this]⟩
section
variable {A PP:List Nm} {f:Nat→Int} {E:Nat} {P Q:Int}
theorem EncP.q (h:EncP A f E P Q PP) {k:Nat} (hk:k < PP.length):∃ hj:posN A PP[k] < A.length,(nmA A PP).getD k 0=(posN A PP[k]:Int)∧A[posN A PP[k]]=PP[k]:=by
 obtain ⟨hj,e⟩:=posN_mem h.ris (h.mem _ (List.getElem_mem hk))
 exact ⟨hj,nmA_get hk,e⟩
theorem EncP.small (h:EncP A f E P Q PP) {k:Nat} (hk:k < PP.length):0≤(nmA A PP).getD k 0∧(nmA A PP).getD k 0 < 1024:=by
 obtain ⟨hj,e,_⟩:=h.q hk
 have:=h.len
 omega
theorem EncP.lst (h:EncP A f E P Q PP):lst0 P=(nmA A PP).take 1:=by
 have hl:=nmA_len A PP
 unfold lst0
 rw [h.a]
 unfold numA
 by_cases g:0 < (nmA A PP).length
 · rw [if_pos g]
   have:=h.small (k:=0) (by omega)
   rw [if_neg (by omega),qnj g]
   rfl
 · rw [if_neg g,if_pos rfl,List.eq_nil_of_length_eq_zero (l:=nmA A PP) (by omega)]
   rfl
theorem EncP.none (h:EncP A f E P Q PP) (hQ:Q=1879048192):lst0 P=nmA A PP:=by
 have hl:=nmA_len A PP
 rw [h.lst]
 obtain ⟨e,he,_⟩:=h.b
 rw [he] at hQ
 unfold numB at hQ
 refine List.take_of_length_le ?_
 split at hQ
 · have:=h.small (k:=1) (by omega)
   omega
 · split at hQ
   · omega
   · omega
theorem EncP.many (h:EncP A f E P Q PP) (hQ2:2147483648≤Q):2 < PP.length∧∃ e:Nat,Q=2147483648+e∧e+(PP.length - 1)≤E∧∀ j,j < PP.length - 1→f (e+j)=(edw (nmA A PP)).getD j 0:=by
 have hl:=nmA_len A PP
 obtain ⟨e,he,h1,h2⟩:=h.b
 rw [he] at hQ2
 unfold numB at hQ2
 split at hQ2
 · have:=h.small (k:=1) (by omega)
   omega
 · rename_i g
   split at hQ2
   · rename_i g2
     rw [edw_len,if_pos g2,hl] at h1 h2
     refine ⟨by omega,e,?_,h1,h2⟩
     rw [he]
     unfold numB
     rw [if_neg g,if_pos g2]
   · omega
theorem edw_at {q:List Int} (hq:2 < q.length) {j:Nat} (hj:j < q.length - 1):(edw q).getD j 0=if j=q.length - 2 then q.getD (j+1) 0+2147483648 else q.getD (j+1) 0:=by
 have h:=edw_get (q:=q) (k:=j+1) hq (by omega) (by omega)
 have hl:(edw q).length=q.length - 1:=by rw [edw_len,if_pos hq]
 rw [Nat.add_sub_cancel,qnj (by omega)] at h
 have h:=List.append_cancel_left h
 injection h with h _
 rw [h]
 by_cases g:j=q.length - 2
 · rw [if_pos g,if_pos (by omega)]
 · rw [if_neg g,if_neg (by omega)]
theorem EncP.short (h:EncP A f E P Q PP) {e m:Nat} (hQ:Q=2147483648+(e:Int)) (h1:∀ j,j < m→f (e+j) < 2147483648):e+m < E:=by
 have hl:=nmA_len A PP
 obtain ⟨hp,e',he,h3,h4⟩:=h.many (by omega)
 have:e'=e:=by omega
 subst this
 refine Classical.byContradiction fun hc=>?_
 have:=h1 (PP.length - 2) (by omega)
 rw [h4 _ (by omega),edw_at (by omega) (by omega),if_pos (by omega)] at this
 have:=h.small (k:=PP.length - 2+1) (by omega)
 omega
end
end Go.Proofs.YtonmgkkkiejicaaGreat
namespace Go.Proofs.YtonmgkkkiejicaaGreat
open Go Go.Proofs
set_option linter.unusedVariables false
set_option linter.unusedSimpArgs false
attribute [local irreducible] apK cpK mkK br qte
theorem be4_b {l:List Int} (h:qbd l) (hl:l.length≤4):0≤be l∧be l < 4294967296:=by
 have:=be_lt8 h (n:=4) hl
 have e:((2:Int) ^ (8 * 4))=4294967296:=by decide
 rw [e] at this
 exact this
theorem nu4 {xs:List Int} (hx:qbd xs) (at':Nat) (err:Int):nuS xs at' err 4=(be (tkS xs at' err 4).1,(tkS xs at' err 4).2):=by
 obtain ⟨h1,h2,_⟩:=tkS_ok hx at' err 4
 have:=be4_b h1 h2
 show (if 9223372036854775807 < be (tkS xs at' err 4).1 then _ else _)=_
 rw [if_neg (by omega)]
 rfl
section
variable {F0:List Nat} {w0 w:World} {ps rest:List As} {s t te ta:Sl} {Eb l:List Int} {A:List Nm} {P Q:Int} {K:Ending→World→Prop}
end
end Go.Proofs.YtonmgkkkiejicaaGreat
namespace Go.Proofs.YtonmgkkkiejicaaGreat
open Go Go.Proofs
set_option linter.unusedVariables false
set_option linter.unusedSimpArgs false
attribute [local irreducible] qte
structure Vg (S:List Cm) (g:Nm→Int):Prop where
 ris:S.Pairwise ltC
 ok:OkC S
 full:∃ O,Wk (fC S) true O g∧S.length≤O.length
 len:S.length≤1024
theorem Vg.nm {S:List Cm} {g:Nm→Int} (h:Vg S g):Ris (S.map (·.id)):=by
 unfold Ris
 rw [List.pairwise_map]
 exact h.ris
theorem flat_at {α:Type} {f:α→List Int} {sz:Nat} (hf:∀ x,(f x).length=sz) (r:List Int):∀ {L:List α} {j:Nat} (hj:j < L.length),((L.flatMap f ++ r).drop (sz * j)).take sz=f L[j]:=by
 intro L
 induction L with
 | nil=>intro j hj; simp at hj
 | cons x L ih =>
   intro j hj
   show ((f x ++ L.flatMap f ++ r).drop _).take sz=_
   rw [List.append_assoc]
   cases j with
   | zero =>
     rw [Nat.mul_zero,List.drop_zero,List.take_left' (hf x)]
     rfl
   | succ j =>
     rw [Nat.mul_succ,Nat.add_comm,← List.drop_drop,List.drop_left' (hf x),ih (by simpa using hj)]
     rfl
section
variable {S:List Cm} {g:Nm→Int} {xs:List Int}
end
end Go.Proofs.YtonmgkkkiejicaaGreat
namespace Go.Proofs.YtonmgkkkiejicaaGreat
open Go Go.Proofs
set_option linter.unusedVariables false
set_option linter.unusedSimpArgs false
attribute [local irreducible] apK cpK mkK br qte
theorem nu8 {xs:List Int} (at':Nat) (err:Int):nuS xs at' err 8=if 9223372036854775807 < be (tkS xs at' err 8).1 then (0,at',5) else (be (tkS xs at' err 8).1,(tkS xs at' err 8).2):=rfl
theorem tk_in {xs:List Int} {at' n:Nat} (h:at'+n≤xs.length):tkS xs at' 0 (n:Int)=((xs.drop at').take n,at'+n,0):=by
 unfold tkS
 rw [if_pos ⟨rfl,by omega,by omega⟩,Int.toNat_natCast]
theorem Rd.ldF {w:World} {s:Sl} {ys:List Int} {n:Nat} {K:Array Value→Prop} (h:Rd w 1 s (u8s ys)) (hn:0 < n) (hl:n≤ys.length) (hk:K ⟨u8s (ys.take n)⟩):nz s.a fun a=>ldA w a n K:=by
 have hlen:=h.1
 obtain ⟨a,ha,hc⟩:=h.2 0 (by rw [qeb]; omega)
 rw [ha]
 refine qee ?_
 refine ⟨⟨u8s (ys.take n)⟩,by rw [List.size_toArray,qeb,List.length_take]; omega,fun i hi=>?_,hk⟩
 rw [h.cell ha (by rw [qeb]; omega)]
 show (ivs .u8 ys)[i]?=(⟨ivs .u8 (ys.take n)⟩:Array Value)[i]?
 simp [ivs,List.getElem?_take,hi]
section
variable {F0:List Nat} {w0 w:World} {ps rest:List As} {s t te ta b:Sl} {Eb R:List Int} {A:List Nm} {n:Nd} {X:List Cx} {K:Ending→World→Prop} {rb xb N i:Nat}
 {t10:Sl} {t5:Int} {Q:VWP} {nx1:Sl→Int→Int→Sl→Sl→Int→Sl→Int→Int→World→Prop}
end
end Go.Proofs.YtonmgkkkiejicaaGreat
namespace Go.Proofs.YtonmgkkkiejicaaGreat
open Go Go.Proofs
set_option linter.unusedVariables false
set_option linter.unusedSimpArgs false
attribute [local irreducible] apK cpK mkK br qte
open Classical in
noncomputable def nmOf (l:List Int):Nm:=if h:idOk l then ⟨l,h⟩ else default
theorem nmOf_ok {l:List Int} (h:idOk l):(nmOf l).1=l:=by unfold nmOf; rw [dif_pos h]
theorem idOk_cut {xs:List Int} {n:Nat} (hB:qbd xs) (h:n+20≤xs.length):idOk ((xs.drop n).take 20):=⟨by rw [List.length_take,List.length_drop]; omega,fun x hx=>hB x (List.mem_of_mem_drop (List.mem_of_mem_take hx))⟩
section
variable {F0:List Nat} {w0 w:World} {ps rest:List As} {s t te ta b:Sl} {xs Eb R:List Int} {A:List Nm} {n:Nd} {X:List Cx} {K:Ending→World→Prop} {rb xb N i a2:Nat}
 {t10:Sl} {Q:VWP} {nx1:Sl→Int→Int→Sl→Sl→Int→Sl→Int→Int→World→Prop}
end
end Go.Proofs.YtonmgkkkiejicaaGreat
namespace Go.Proofs.YtonmgkkkiejicaaGreat
open Go Go.Proofs
set_option linter.unusedVariables false
set_option linter.unusedSimpArgs false
attribute [local irreducible] apK cpK mkK br qte
section
variable {F0:List Nat} {w0 w:World} {ps rest:List As} {b s t:Sl} {xs ys:List Int} {K:Ending→World→Prop}
theorem nz_o {a:Addr} {Z:Addr→Prop} (h:nz (some a) Z):Z a:=by
 unfold nz at h
 exact h
theorem qne.c (h:St F0 w0 w ps) [Rdb F0 w0 s ps 1 (u8s xs)] [Rdb F0 w0 t ps 1 (u8s ys)] (hx:qbd xs) (hy:qbd ys) (hk:K (.returned (.bool (xs == ys))) w):Calls Tryz.prog 32 ⟨[sV s,sV t]⟩ w K:=by
 refine qmb (qne.ok _ _ _ _ ?_)
 unfold qne
 refine h.bt (s:=s) hx (h.bt (s:=t) hy ?_)
 rw [u8_beq hx hy]
 exact hk
end
end Go.Proofs.YtonmgkkkiejicaaGreat
namespace Go.Proofs.YtonmgkkkiejicaaGreat
open Go Go.Proofs
set_option linter.unusedVariables false
set_option linter.unusedSimpArgs false
attribute [local irreducible] apK cpK mkK br qte
theorem sumB_ok (xs:List Int):qbd (qte xs):=by
 unfold qte
 refine qxg fun v _=>?_
 intro x hx
 have m:∀ y:Int,0≤y % 256∧y % 256 < 256:=fun y=>by omega
 unfold word4 at hx
 simp only [List.mem_cons,List.not_mem_nil,or_false] at hx
 rcases hx with rfl | rfl | rfl | rfl <;> exact m _
section
variable {F0:List Nat} {w0 w:World} {ps rest:List As} {b s t sa sn sg:Sl} {xs ys:List Int} {L:List Nd} {G:Rws Int} {mb gb:Nat} {K:Ending→World→Prop}
end
end Go.Proofs.YtonmgkkkiejicaaGreat
namespace Go.Proofs.YtonmgkkkiejicaaGreat
open Go Go.Proofs
set_option linter.unusedVariables false
set_option linter.unusedSimpArgs false
attribute [local irreducible] qte
structure VM (NL:List ByteArray) (O:List Sp):Prop where
 nm:∀ n ∈ NL,nmdB n=true
 so:NL.Pairwise (fun a b=>ltB a b=true)
 ln:NL.length≤64
 ris:O.Pairwise (fun x y=>ltI x.1.1 y.1.1=true)
 ol:O.length≤2048
 rg:∀ o ∈ O,(0≤o.2.1∧o.2.1 < NL.length)∧(0≤o.2.2∧o.2.2≤2147483647)
theorem tbM_more (l:List (List Int)) (j k:Nat):∃ r,tbM l (j+k)=tbM l j ++ r:=by
 induction k with
 | zero=>exact ⟨[],by simp⟩
 | succ k ih =>
   obtain ⟨r,hr⟩:=ih
   exact ⟨r ++ (wrdM.getD (j+k) [] ++ beJ 8 8 (ofsM l (j+k))),by rw [← Nat.add_assoc,qth,hr,List.append_assoc]⟩
theorem tab_at (n:Nat) (l:List (List Int)) {i:Nat} (hi:i≤4):∃ a r,tabM n l=a ++ (beJ 8 8 (ofsM l i) ++ r)∧a.length=16+12 * i:=by
 by_cases h4:i=4
 · subst h4
   refine ⟨hdM n ++ tbM l 4 ++ [0,0,0,0],[],by unfold tabM; simp,?_⟩
   rw [List.length_append,List.length_append,qvj,qmj _ (Nat.le_refl _)]
   rfl
 · obtain ⟨r,hr⟩:=tbM_more l (i+1) (4 - (i+1))
   rw [show i+1+(4 - (i+1))=4 by omega] at hr
   have hs:=qth l i
   rw [hs] at hr
   refine ⟨hdM n ++ (tbM l i ++ wrdM.getD i []),r ++ [0,0,0,0] ++ beJ 8 8 (ofsM l 4),?_,?_⟩
   · unfold tabM
     rw [hr]
     simp only [List.append_assoc]
   · rw [List.length_append,List.length_append,qvj,qmj _ hi,qcj (by omega)]
     omega
theorem qak {a b r:List Int} {p n:Nat} (hp:a.length=p) (hn:b.length=n):((a ++ (b ++ r)).drop p).take n=b:=by
 rw [List.drop_left' hp,List.take_left' hn]
section
variable {n:Nat} {l:List (List Int)} {xs:List Int}
theorem qzf:endM n l=tabM n l ++ (l.flatten ++ qte (preM n l)):=by
 unfold endM preM
 rw [List.append_assoc]
theorem qai:(endM n l).length=92+l.flatten.length:=by
 rw [qzf,List.length_append,List.length_append,tabM_len,qbf]
 omega
theorem endM_at {i:Nat} (hi:i≤4):(((endM n l).drop 12).drop (12 * i+4)).take 8=beJ 8 8 (ofsM l i):=by
 obtain ⟨a,r,e,hl⟩:=tab_at n l hi
 rw [List.drop_drop,qzf,e,List.append_assoc,List.append_assoc]
 exact qak (by omega) (qfc ..)
theorem endM_n:((endM n l).drop 8).take 4=beJ 4 4 n:=by
 rw [qzf]
 unfold tabM hdM
 simp only [List.append_assoc]
 exact qak (a:=markM) rfl (qfc ..)
theorem flatM_at {i:Nat} (hi:i < l.length):∃ a r,l.flatten=a ++ (l[i] ++ r)∧72+a.length=ofsM l i:=by
 refine ⟨(l.take i).flatten,(l.drop (i+1)).flatten,?_,rfl⟩
 conv=>lhs; rw [← List.take_append_drop i l,List.drop_eq_getElem_cons hi]
 rw [List.flatten_append,List.flatten_cons]
theorem endM_chunk {i:Nat} (hi:i < l.length):((endM n l).drop (ofsM l i)).take l[i].length=l[i]:=by
 obtain ⟨a,r,e,hl⟩:=flatM_at hi
 rw [qzf,e]
 have e2:tabM n l ++ (a ++ (l[i] ++ r) ++ qte (preM n l))=(tabM n l ++ a) ++ (l[i] ++ (r ++ qte (preM n l))):=by simp only [List.append_assoc]
 have e3:qte (preM n l)=qte (preM n l):=rfl
 have key:∀ z:List Int,(List.drop (ofsM l i) (tabM n l ++ (a ++ (l[i] ++ r) ++ z))).take l[i].length=l[i]:=by
  intro z
  have e2:tabM n l ++ (a ++ (l[i] ++ r) ++ z)=(tabM n l ++ a) ++ (l[i] ++ (r ++ z)):=by simp only [List.append_assoc]
  rw [e2]
  exact qak (by rw [List.length_append,tabM_len]; omega) rfl
 exact key _
theorem endM_mark:(endM n l).take 8=markM:=by
 rw [qzf]
 unfold tabM hdM
 simp only [List.append_assoc]
 exact List.take_left' rfl
theorem be_ofs {v:Nat} (h:v≤900000):be (beJ 8 8 v)=v:=by
 rw [be_beJ']
 have e:(2:Int) ^ (8 * 8)=18446744073709551616:=by decide
 rw [e]
 omega
theorem be_4 {v:Int} (h:0≤v∧v < 4294967296):be (beJ 4 4 v)=v:=by
 rw [be_beJ']
 have e:(2:Int) ^ (8 * 4)=4294967296:=by decide
 rw [e]
 omega
end
section
variable {NL:List ByteArray} {O:List Sp}
theorem nmsM_len:∀ {NL:List ByteArray},(∀ n ∈ NL,nmdB n=true)→(NL.flatMap nm0).length=50 * NL.length:=by
 intro NL
 induction NL with
 | nil=>intro _; rfl
 | cons n NL ih =>
   intro h
   rw [List.flatMap_cons,List.length_append,ih fun m hm=>h m (List.mem_cons_of_mem _ hm),List.length_cons]
   unfold nm0
   rw [List.length_append,qod,qfg (h n List.mem_cons_self)]
   show 49+1+_=_
   omega
theorem VM.flat (h:VM NL O):(mdL NL O).flatten.length≤70000:=by
 have h1:=nmsM_len h.nm
 have h2:=pad_len (NL.flatMap nm0)
 have h3:(qvc O).length=O.length:=List.length_map ..
 have h4:=h.ln
 have h5:=h.ol
 unfold mdL
 simp only [List.flatten_cons,List.flatten_nil,List.append_nil,List.length_append,fB_len,qsk,qri]
 unfold nmsB
 omega
theorem VM.len (h:VM NL O):(mB NL O).length≤70092:=by
 have:=h.flat
 unfold mB
 rw [qai]
 omega
theorem VM.ok (h:VM NL O):qbd (mB NL O):=by
 unfold mB endM
 refine qxd.2 ⟨preM_ok ?_,sumB_ok _⟩
 unfold mdL
 simp only [List.flatten_cons,List.flatten_nil,List.append_nil,qxd]
 exact ⟨nmsB_ok _,wB_ok _,nB_ok _,atB_ok _⟩
end
end Go.Proofs.YtonmgkkkiejicaaGreat
namespace Go.Proofs.YtonmgkkkiejicaaGreat
open Go Go.Proofs
set_option linter.unusedVariables false
set_option linter.unusedSimpArgs false
attribute [local irreducible] apK cpK mkK br qte mB
def slF (y:Sl × List Int):List Value:=[.slice y.1.a y.1.len y.1.cap]
instance rec_slF:Rec slF 1 where
 len _:=rfl
 pos:=by decide
 sto x v hv:=by
  have hv:v ∈ slF x:=by simpa using hv
  simp [slF] at hv
  rw [hv]; trivial
instance elt_by:EltR Tryz.prog 32 1 [.slice none 0 0]:=⟨⟨Tryz.t32,by kernel_rfl,rfl,by decide,by decide⟩,by kernel_rfl,rfl,by decide⟩
section
variable {F0:List Nat} {w0 w:World} {ps rest:List As} {b t5:Sl} {xs:List Int} {K:Ending→World→Prop} {Q:VWP} {rb:Nat} {T:List Int}
def TabV (xs:List Int) (T:List Int) (e:Int) (i:Nat):Prop:=∀ NL O,VM NL O→xs=mB NL O→e=0∧∀ j,j < i→T.getD j 0=ofsM (mdL NL O) j
theorem cut_3 {p:Nat} {e:Int} (h:St F0 w0 w (qp 1 t5 (ivs .i64 T) :: brA rb (xs.drop 12,p,e) :: ps)) [Rdb F0 w0 b ps 1 (u8s xs)] (hT:T.length=5) (hc:b.len≤b.cap) (hB:qbd xs) (hx2:xs.length≤1000000) (hv:TabV xs T e 5)
 (hno:∀ w',(∀ NL O,VM NL O→xs ≠ mB NL O)→St F0 w0 w' ps→Q (.tuple ⟨[.slice none 0 0,.bool false]⟩) w')
 (hk:∀ (t:Sl) (LL:List (Sl × List Int)) (w':World),LL.length=4→(∀ y ∈ LL,qbd y.2∧y.2.length≤xs.length∧y.1.len≤y.1.cap∧Rdb F0 w0 y.1 ps 1 (u8s y.2))→(∀ NL O,VM NL O→xs=mB NL O→LL.map Prod.snd=mdL NL O)→St F0 w0 w' (qp 1 t (LL.flatMap slF) :: ps)→Q (.tuple ⟨[sV t,.bool true]⟩) w') :
 qcb.j3 b (some ⟨rb,0,none⟩) t5 Q w:=by
 have hbl:=(h.rdb b).1
 rw [qeb,Nat.mul_one] at hbl
 unfold qcb.j3 qcb.j4 qcb.j6
 refine loop2 (fun (a:Nat × List (Sl × List Int)) (t:Sl) (i':Int) w'=>i'=(a.1:Int)∧a.1≤4∧a.2.length=a.1∧(∀ y ∈ a.2,qbd y.2∧y.2.length≤xs.length∧y.1.len≤y.1.cap∧Rdb F0 w0 y.1 ps 1 (u8s y.2))∧(∀ NL O,VM NL O→xs=mB NL O→a.2.map Prod.snd=(mdL NL O).take a.1)∧St F0 w0 w' (qp 1 t (a.2.flatMap slF) :: qp 1 t5 (ivs .i64 T) :: brA rb (xs.drop 12,p,e) :: ps)) (fun a=>4 - a.1) (0,[]) ⟨rfl,Nat.zero_le _,rfl,by simp,fun _ _ _ _=>rfl,h.nilO⟩ ?_
 clear h
 rintro ⟨i,LL⟩ t _ wL I μ ⟨rfl,hi,hLl,hLL,hvL,h⟩ hin
 simp only at hi hLl hLL hvL h hin ⊢
 unfold qcb.b1
 refine qwc (fun g=>?_) (fun g=>?_)
 · have hi4:i < 4:=by omega
   have fail:∀ w,(∀ NL O,VM NL O→xs=mB NL O→False)→St F0 w0 w (qp 1 t (LL.flatMap slF) :: qp 1 t5 (ivs .i64 T) :: brA rb (xs.drop 12,p,e) :: ps)→Q (.tuple ⟨[.slice none 0 0,.bool false]⟩) w:=fun w hf h=>hno w (fun NL O a b=>hf NL O a b) h.drop.drop.drop
   refine h.drewK fun w h=>?_
   refine qad.c (rb:=rb) h ⟨_,rfl,?_⟩
   by_cases he:¬ e=0
   · exact qci (by simpa using he) (fail w (fun NL O a b=>he (hv NL O a b).1) h)
   refine br_no (by simpa using he) ?_
   have hlx:∀ {w':World} {n:Int} {Z:Int→Prop} (j:Nat),n=j→j < 5→St F0 w0 w' (qp 1 t (LL.flatMap slF) :: qp 1 t5 (ivs .i64 T) :: brA rb (xs.drop 12,p,e) :: ps)→Z (T.getD j 0)→ixS t5.a t5.len n 1 fun a=>ldI .i64 w' a Z:=fun j hn hj h hz=>h.lx (s:=t5) (zs:=T) j hn (by omega) hz
   have hof:∀ NL O,VM NL O→xs=mB NL O→∀ j,j < 5→T.getD j 0=ofsM (mdL NL O) j:=fun NL O a b=>(hv NL O a b).2
   have hs:∀ NL O,VM NL O→xs=mB NL O→(ofsM (mdL NL O) (i+1):Int)=ofsM (mdL NL O) i+((mdL NL O).getD i []).length∧ofsM (mdL NL O) (i+1)≤xs.length:=fun NL O a b=>by
    have hl4:i < (mdL NL O).length:=hi4
    have e1:=qsj hl4
    have e2:(mdL NL O).getD i []=(mdL NL O)[i]:=by rw [List.getD_eq_getElem?_getD,List.getElem?_eq_getElem hl4]; rfl
    rw [e2]
    refine ⟨by omega,?_⟩
    have h1:=ofsM_le (mdL NL O) (i+1)
    have h2:xs.length=92+(mdL NL O).flatten.length:=by rw [b]; unfold mB; exact qai
    omega
   refine hlx i rfl (by omega) h ?_
   refine qwc (fun g1=>fail w (fun NL O a b=>?_) h) (fun g1=>?_)
   · have:=hof NL O a b i (by omega); omega
   refine qy (e':=((i+1:Nat):Int)) (by rw [ql (by omega) (by omega)]; rfl) ?_
   refine hlx (i+1) rfl (by omega) h ?_
   refine hlx i rfl (by omega) h ?_
   refine qwc (fun g2=>fail w (fun NL O a b=>?_) h) (fun g2=>?_)
   · have:=hof NL O a b i (by omega)
     have:=hof NL O a b (i+1) (by omega)
     have:=hs NL O a b
     omega
   refine qy (e':=((i+1:Nat):Int)) (by rw [ql (by omega) (by omega)]; rfl) ?_
   refine hlx (i+1) rfl (by omega) h ?_
   refine qwc (fun g3=>fail w (fun NL O a b=>?_) h) (fun g3=>?_)
   · have:=hof NL O a b (i+1) (by omega)
     have:=hs NL O a b
     omega
   refine h.drewK fun w h=>?_
   refine hlx i rfl (by omega) h ?_
   refine qy (e':=((i+1:Nat):Int)) (by rw [ql (by omega) (by omega)]; rfl) ?_
   refine hlx (i+1) rfl (by omega) h ?_
   obtain ⟨u,hu⟩:∃ u:Nat,T.getD i 0=u:=⟨(T.getD i 0).toNat,by omega⟩
   obtain ⟨v,hv2⟩:∃ v:Nat,T.getD (i+1) 0=v:=⟨(T.getD (i+1) 0).toNat,by omega⟩
   rw [hu,hv2]
   refine qxk (n:=v) rfl (by omega) ?_
   refine qxk (n:=u) rfl (by omega) (qvd ?_)
   have iC:Rdb F0 w0 ⟨qme b.a b.cap u 1,v - u,b.cap - u⟩ ps 1 (u8s ((xs.drop u).take (v - u))):=h.drop.drop.drop.cutR b u v (b.cap - u) (by omega) (by omega) hc rfl
   refine h.pushR (s:=t) (f:=slF) (L:=LL) (x:=(⟨qme b.a b.cap u 1,v - u,b.cap - u⟩,(xs.drop u).take (v - u))) (by omega) rfl fun t' w _ h=>?_
   refine qy (e':=((i+1:Nat):Int)) (by rw [ql (by omega) (by omega)]; rfl) ?_
   refine ⟨⟨rfl,rfl,rfl⟩,hin (i+1,LL ++ [(⟨qme b.a b.cap u 1,v - u,b.cap - u⟩,(xs.drop u).take (v - u))]) _ _ _ ⟨rfl,by simp only; omega,by simp only [List.length_append,List.length_singleton]; omega,?_,?_,h⟩ (by simp only; omega)⟩
   · intro y hy
     rcases List.mem_append.1 hy with hy | hy
     · exact hLL y hy
     · have:y=(⟨qme b.a b.cap u 1,v - u,b.cap - u⟩,(xs.drop u).take (v - u)):=by simpa using hy
       subst this
       refine ⟨fun x hx=>hB x (List.mem_of_mem_drop (List.mem_of_mem_take hx)),?_,?_,iC⟩
       · rw [List.length_take,List.length_drop]; omega
       · show v - u≤b.cap - u; omega
   · intro NL O a b
     have hl4:i < (mdL NL O).length:=hi4
     rw [List.map_append,hvL NL O a b,List.take_succ_eq_append_getElem hl4]
     have h1:=hof NL O a b i (by omega)
     have h2:=hof NL O a b (i+1) (by omega)
     have h3:=qsj hl4
     have hu2:u=ofsM (mdL NL O) i:=by omega
     have hv3:v - u=(mdL NL O)[i].length:=by omega
     have:=endM_chunk (n:=NL.length) hl4
     rw [← hu2,← hv3] at this
     have e:endM NL.length (mdL NL O)=xs:=by rw [b]; unfold mB; rfl
     rw [e] at this
     rw [List.map_singleton]
     simp only [this]
 · have:i=4:=by omega
   subst this
   unfold qcb.j5
   refine hk t LL wL hLl hLL (fun NL O a b=>?_) (h.tail fun _ _ _ h=>h.drop.drop)
   rw [hvL NL O a b]
   rfl
theorem cut.c (h:St F0 w0 w ps) [Rdb F0 w0 b ps 1 (u8s xs)] (hc:b.len≤b.cap) (hB:qbd xs) (hx1:32≤xs.length) (hx2:xs.length≤1000000)
 (hno:∀ w',(∀ NL O,VM NL O→xs ≠ mB NL O)→St F0 w0 w' ps→K (.returned (.tuple ⟨[.slice none 0 0,.bool false]⟩)) w')
 (hk:∀ (t:Sl) (LL:List (Sl × List Int)) (w':World),LL.length=4→(∀ y ∈ LL,qbd y.2∧y.2.length≤xs.length∧y.1.len≤y.1.cap∧Rdb F0 w0 y.1 ps 1 (u8s y.2))→(∀ NL O,VM NL O→xs=mB NL O→LL.map Prod.snd=mdL NL O)→St F0 w0 w' (qp 1 t (LL.flatMap slF) :: ps)→K (.returned (.tuple ⟨[sV t,.bool true]⟩)) w') :
 Calls Tryz.prog 59 ⟨[sV b]⟩ w K:=by
 have hbl:=(h.rdb b).1
 rw [qeb,Nat.mul_one] at hbl
 refine qmb (qcb.ok _ _ _ ?_)
 unfold qcb qcb.j1
 refine qxk (n:=12) rfl (by omega) (qvd ?_)
 haveI i1:Rdb F0 w0 ⟨qme b.a b.cap 12 1,b.len - 12,b.cap - 12⟩ ps 1 (u8s (xs.drop 12)):=h.cutR b 12 b.len (b.cap - 12) (Nat.le_refl _) (by omega) hc (List.take_of_length_le (by rw [List.length_drop]; omega))
 have hRB:qbd (xs.drop 12):=fun x hx=>hB x (List.mem_of_mem_drop hx)
 refine qef.c (s:=⟨qme b.a b.cap 12 1,b.len - 12,b.cap - 12⟩) h hRB (by rw [List.length_drop]; omega) fun rb w h=>⟨_,rfl,?_⟩
 unfold qcb.j2 qcb.j7
 refine loop2 (fun (a:Nat × List Int × Nat × Int) (t5:Sl) (i':Int) w'=>i'=(a.1:Int)∧a.1≤5∧a.2.1.length=a.1∧TabV xs a.2.1 a.2.2.2 a.1∧(∀ NL O,VM NL O→xs=mB NL O→a.2.2.1=12 * a.1)∧St F0 w0 w' (qp 1 t5 (ivs .i64 a.2.1) :: brA rb (xs.drop 12,a.2.2.1,a.2.2.2) :: ps)) (fun a=>5 - a.1) (0,[],0,0) ⟨rfl,Nat.zero_le _,rfl,fun _ _ _ _=>⟨rfl,fun j hj=>by omega⟩,fun _ _ _ _=>rfl,h.nil 1⟩ ?_
 clear h
 rintro ⟨i,T,p,e⟩ t5 _ wL I μ ⟨rfl,hi,hTl,hv,hp,h⟩ hin
 simp only at hi hTl hv hp h hin ⊢
 unfold qcb.b2
 refine qwc (fun g=>?_) (fun g=>?_)
 · have hi5:i < 5:=by omega
   refine qmc.c (rb:=rb) (n:=4) h fun r w h=>⟨r,rfl,?_⟩
   have h:=h.drop
   generalize hq:tkS (xs.drop 12) p e 4=q at h
   obtain ⟨q0,p1,e1⟩:=q
   have h:St F0 w0 w (brA rb (xs.drop 12,p1,e1) :: qp 1 t5 (ivs .i64 T) :: ps):=h
   refine qid.c (rb:=rb) h hRB fun w h=>⟨_,rfl,?_⟩
   generalize hz:nuS (xs.drop 12) p1 e1 8=z at h ⊢
   obtain ⟨v,p2,e2⟩:=z
   have h:St F0 w0 w (qp 1 t5 (ivs .i64 T) :: brA rb (xs.drop 12,p2,e2) :: ps):=h.at1
   simp only
   refine h.new fun ab w h=>?_
   have h:St F0 w0 w (qt ab (ivs .i64 [v]) :: qp 1 t5 (ivs .i64 T) :: brA rb (xs.drop 12,p2,e2) :: ps):=h
   haveI:Rdb F0 w0 ⟨some ⟨ab,0,none⟩,1,1⟩ (qt ab (ivs .i64 [v]) :: qp 1 t5 (ivs .i64 T) :: brA rb (xs.drop 12,p2,e2) :: ps) 1 (ivs .i64 [v]):=qrh rfl
   refine h.appI (s:=t5) (s2:=⟨some ⟨ab,0,none⟩,1,1⟩) (zs:=T) (ys:=[v]) (k:=.i64) (by show _+1≤_; omega) fun t5' w h=>?_
   refine qy (e':=((i+1:Nat):Int)) (by rw [ql (by omega) (by omega)]; rfl) ?_
   have hV:∀ NL O,VM NL O→xs=mB NL O→e2=0∧p2=12 * (i+1)∧v=ofsM (mdL NL O) i:=fun NL O a b=>by
    have he:=(hv NL O a b).1
    have hpp:=hp NL O a b
    have hl:xs.length=92+(mdL NL O).flatten.length:=by rw [b]; unfold mB; exact qai
    subst he hpp
    have ht4:tkS (xs.drop 12) (12 * i) 0 4=(((xs.drop 12).drop (12 * i)).take 4,12 * i+4,0):=tk_in (n:=4) (by rw [List.length_drop]; omega)
    rw [ht4] at hq
    have h1:p1=12 * i+4:=by have:=congrArg (fun z=>z.2.1) hq; exact this.symm
    have h2:e1=0:=by have:=congrArg (fun z=>z.2.2) hq; exact this.symm
    subst h1 h2
    have hat:=endM_at (n:=NL.length) (l:=mdL NL O) (i:=i) (by omega)
    have e:endM NL.length (mdL NL O)=xs:=by rw [b]; unfold mB; rfl
    rw [e] at hat
    have hbe:be (((xs.drop 12).drop (12 * i+4)).take 8)=ofsM (mdL NL O) i:=by
     rw [hat]
     refine be_ofs ?_
     have:=ofsM_le (mdL NL O) i
     have:=a.flat
     omega
    have ht8:tkS (xs.drop 12) (12 * i+4) 0 8=(((xs.drop 12).drop (12 * i+4)).take 8,12 * i+4+8,0):=tk_in (n:=8) (by rw [List.length_drop]; omega)
    have hle:(ofsM (mdL NL O) i:Int)≤900000:=by
     have:=ofsM_le (mdL NL O) i
     have:=a.flat
     omega
    rw [nu8,ht8] at hz
    simp only [hbe] at hz
    rw [if_neg (by omega)] at hz
    refine ⟨?_,?_,?_⟩
    · have:=congrArg (fun z=>z.2.2) hz; exact this.symm
    · have:=congrArg (fun z=>z.2.1) hz; simp only at this; omega
    · have:=congrArg (fun z=>z.1) hz; exact this.symm
   refine ⟨⟨trivial,trivial⟩,hin (i+1,T ++ [v],p2,e2) _ _ _ ⟨rfl,by simp only; omega,by simp only [List.length_append,List.length_singleton]; omega,fun NL O a b=>⟨(hV NL O a b).1,fun j hj=>?_⟩,fun NL O a b=>(hV NL O a b).2.1,?_⟩ (by simp only; omega)⟩
   · by_cases hj2:j < i
     · have:=(hv NL O a b).2 j hj2
       rw [← this,List.getD_eq_getElem?_getD,List.getD_eq_getElem?_getD,List.getElem?_append_left (by omega)]
     · have:j=i:=by omega
       subst this
       rw [List.getD_eq_getElem?_getD,List.getElem?_append_right (by omega),hTl,Nat.sub_self,← (hV NL O a b).2.2]
       rfl
   · have h:St F0 w0 w (qp 1 t5' (ivs .i64 (T ++ [v])) :: qt ab (ivs .i64 [v]) :: brA rb (xs.drop 12,p2,e2) :: ps):=h
     exact h.tail fun _ _ _ h=>h.drop
 · have:i=5:=by omega
   subst this
   exact cut_3 h hTl hc hB hx2 hv hno hk
end
end Go.Proofs.YtonmgkkkiejicaaGreat
namespace Go.Proofs.YtonmgkkkiejicaaGreat
open Go Go.Proofs
set_option linter.unusedVariables false
set_option linter.unusedSimpArgs false
attribute [local irreducible] apK cpK mkK br
theorem qdk {xs:List Int} (h:qbd xs):biB ⟨⟨u8 xs⟩⟩=xs:=by
 unfold biB u8
 show (xs.map _).map _=xs
 rw [List.map_map]
 conv=>rhs; rw [← List.map_id xs]
 refine List.map_congr_left fun x hx=>?_
 have:=h x hx
 have e:=u8_byte (x:=x) (by omega)
 show ((x.toNat.toUInt8.toNat:Nat):Int)=x
 rw [e]
 omega
theorem qqi {a b:ByteArray} (h:biB a=biB b):a=b:=by
 unfold biB at h
 have h2:a.data.toList=b.data.toList:=by
  refine List.map_inj_right (f:=fun b:UInt8=>(b.toNat:Int)) (fun x y e=>?_) |>.1 h
  have e2:(x.toNat:Int)=(y.toNat:Int):=e
  have:x.toNat=y.toNat:=by omega
  exact UInt8.toNat_inj.1 this
 apply ByteArray.ext
 exact Array.ext' h2
theorem qff (s:ByteArray) (a b:Nat):biB (s.extract a b)=((biB s).drop a).take (b - a):=by
 unfold biB
 rw [ByteArray.data_extract,Array.toList_extract,← List.map_drop,← List.map_take]
theorem biB_get {s:ByteArray} {k:Nat} {v:UInt8} (h:s.data.toList[k]?=some v):(biB s)[k]?=some (v.toNat:Int):=by
 unfold biB
 rw [List.getElem?_map,h]
 rfl
theorem biB_no0 {s:ByteArray} (h:∀ k:Nat,s.data.toList[k]? ≠ some 0):(0:Int) ∉ biB s:=by
 intro hm
 obtain ⟨b,hb,e⟩:=List.mem_map.1 hm
 obtain ⟨k,hk,rfl⟩:=List.getElem_of_mem hb
 refine h k ?_
 rw [List.getElem?_eq_getElem hk]
 have:(s.data.toList[k]).toNat=0:=by omega
 exact congrArg some (UInt8.toNat_inj.1 this)
section
variable {w:World} {s:ByteArray} {K:Ending→World→Prop}
def nulB:ByteArray:={ data:=#[0] }
theorem IndexByteI.c {ch:Int} {K:Ending→World→Prop} (hk:K (.returned (.int .i64 (ixBy s ch))) w):Calls Tryz.prog 112 ⟨[.string s,.int .u8 ch]⟩ w K:=by
 refine qmb (qkb.ok _ _ _ _ ?_)
 unfold qkb
 refine ⟨ixBy s ch,w,?_,hk⟩
 unfold cfR
 rw [run_callFunc_extern (fn:=Tryz.f116) (e:=Extern.BytealgIndexByte.indexByte) (by kernel_rfl) (by kernel_rfl) (by kernel_rfl) (by kernel_rfl) (by kernel_rfl)]
 have:=Lib.run_indexByteString (P:=Tryz.prog) s ch w
 rw [this]
 rfl
theorem IndexZ.c {K:Ending→World→Prop} (hk:K (.returned (.int .i64 (ixBy s 0))) w):Calls Tryz.prog 108 ⟨[.string s,.string nulB]⟩ w K:=by
 refine qmb (qc.ok _ _ _ _ ?_)
 unfold qc qc.j1
 refine br_no (by kernel_rfl) ?_
 unfold qc.j13
 refine qyd (fun g=>?_) (fun g=>?_)
 · have g:ByteArray.toList nulB=ByteArray.toList s:=by simpa using g
   have e:s=nulB:=(ba_ext g).symm
   subst e
   have:ixBy nulB 0=0:=by unfold ixBy nulB; decide
   rw [this] at hk
   exact hk
 · refine qci (by kernel_rfl) ?_
   refine ⟨⟨by decide,by decide⟩,qvd ?_⟩
   have:byteAt nulB (Int.toNat 0)=0:=by kernel_rfl
   rw [this]
   exact IndexByteI.c ⟨_,rfl,hk⟩
theorem CutZ.c {K:Ending→World→Prop} (hs:s.size≤1000000000) (hk:∀ p r w',w'.heap=w.heap→biB s=nm0 p ++ biB r→(0:Int) ∉ biB p→Mod [] w w'→K (.returned (.tuple ⟨[.string p,.string r,.bool true]⟩)) w')
 (hno:(0:Int) ∉ biB s→K (.returned (.tuple ⟨[.string s,.string ⟨#[]⟩,.bool false]⟩)) w) :
 Calls Tryz.prog 62 ⟨[.string s,.string nulB]⟩ w K:=by
 refine qmb (qag.ok _ _ _ _ ?_)
 unfold qag
 refine qmb (qlc.ok _ _ _ _ ?_)
 unfold qlc
 refine IndexZ.c ⟨_,rfl,?_⟩
 have hge : -1≤ixBy s 0:=Lib.indexByte_ge _ _
 refine qwc (fun g=>?_) (fun g=>?_)
 · obtain ⟨o,ho⟩:∃ o:Nat,ixBy s 0=o:=⟨(ixBy s 0).toNat,by omega⟩
   obtain ⟨h1,h2⟩:=Lib.indexByte_some (l:=s.data.toList) (c:=0) (o:=o) ho
   have hos:o < s.size:=by
    have:=List.getElem?_eq_some_iff.1 h1
    exact this.1
   rw [ho]
   refine qvd ?_
   refine qxk (n:=o) rfl (by omega) (qvd ?_)
   refine qy (e':=((o+1:Nat):Int)) (by show IntKind.i64.wrap ((o:Int)+1)=_; rw [ql (by omega) (by omega)]; rfl) ?_
   refine qxk (n:=o+1) rfl (by omega) (qvd ?_)
   refine ⟨_,_,_,rfl,?_⟩
   refine hk _ _ _ rfl ?_ ?_ (Mod.drew w)
   · unfold nm0
     rw [qff,qff,List.drop_zero]
     have hb:=biB_get h1
     have hl:=qod s
     have e1:biB s=(biB s).take o ++ (biB s).drop o:=(List.take_append_drop _ _).symm
     have e2:(biB s).drop o=0 :: (biB s).drop (o+1):=by
      have hlt:o < (biB s).length:=by omega
      rw [List.drop_eq_getElem_cons hlt]
      rw [List.getElem?_eq_getElem hlt] at hb
      have:(biB s)[o]=0:=by injection hb
      rw [this]
     have e3:((biB s).drop (o+1)).take (s.size - (o+1))=(biB s).drop (o+1):=List.take_of_length_le (by rw [List.length_drop]; omega)
     rw [e3,List.append_assoc]
     conv=>lhs; rw [e1,e2]
     rfl
   · refine biB_no0 fun k hk2=>?_
     rw [ByteArray.data_extract,Array.toList_extract] at hk2
     have hk2:((s.data.toList.drop 0).take (o - 0))[k]?=some 0:=hk2
     rw [List.drop_zero,Nat.sub_zero] at hk2
     have hko:k < o:=by
      have:=(List.getElem?_eq_some_iff.1 hk2).1
      rw [List.length_take] at this
      omega
     rw [List.getElem?_take_of_lt hko] at hk2
     exact h2 k hko hk2
 · have e:ixBy s 0 = -1:=by omega
   refine ⟨_,_,_,rfl,?_⟩
   exact hno (biB_no0 (Lib.indexByte_none e))
end
theorem nmd_no0 {s:ByteArray} (h:nmdB s=true):(0:Int) ∉ biB s:=by
 have hsz:=qfg h
 unfold nmdB at h
 simp only [Bool.and_eq_true] at h
 obtain ⟨h1,h2,h3⟩:=h
 have e1:qkd s=s.extract 5 s.size:=by unfold qkd; rw [if_pos h1]; rfl
 have l1:(qkd s).size=44:=by rw [e1,ByteArray.size_extract]; omega
 have e2:cutS1 (qkd s)=(qkd s).extract 0 40:=by
  unfold cutS1
  rw [if_pos h2,l1]
  rfl
 have b1:biB s=(biB s).take 5 ++ (biB s).drop 5:=(List.take_append_drop _ _).symm
 have hl:=qod s
 have b2:biB (qkd s)=(biB s).drop 5:=by
  rw [e1,qff]
  exact List.take_of_length_le (by rw [List.length_drop]; omega)
 have b3:biB (qkd s)=biB (cutS1 (qkd s)) ++ (biB (qkd s)).drop 40:=by
  rw [e2,qff,List.drop_zero]
  exact (List.take_append_drop _ _).symm
 unfold begB at h1
 unfold endB at h2
 unfold okN at h3
 simp only [Bool.and_eq_true,decide_eq_true_eq,beq_iff_eq] at h1 h2 h3
 have p1:s.extract 0 5=pakB:=ba_ext h1.2
 have p2:(qkd s).extract 40 44=idxB:=by
  have:=ba_ext h2.2
  rw [l1] at this
  exact this
 have q1:(biB s).take 5=biB pakB:=by
  rw [← p1,qff]; rfl
 have q2:(biB (qkd s)).drop 40=biB idxB:=by
  rw [← p2,qff]
  exact (List.take_of_length_le (by rw [List.length_drop,qod]; omega)).symm
 have n1:(0:Int) ∉ biB pakB:=by decide +kernel
 have n2:(0:Int) ∉ biB idxB:=by decide +kernel
 have n3:(0:Int) ∉ biB (cutS1 (qkd s)):=by
  generalize cutS1 (qkd s)=z at h3
  refine biB_no0 fun k hk=>?_
  have hs:=h3.2
  unfold sgs at hs
  rw [List.all_eq_true] at hs
  have hkl:=(List.getElem?_eq_some_iff.1 hk).1
  have:=hs k (List.mem_range.2 hkl)
  have e:byteAt z k=0:=by
   unfold byteAt
   have h4:z.data[k]?=some 0:=by simpa using hk
   simp [h4]
  rw [e] at this
  have h0:isSg 0=false:=by decide +kernel
  rw [h0] at this
  cases this
 rw [b1,q1,← b2,b3,q2]
 simp only [List.mem_append,not_or]
 exact ⟨n1,n3,n2⟩
theorem nm0_eq {p q:List Int} {X Y:List Int} (hp:(0:Int) ∉ p) (hq:(0:Int) ∉ q) (h:p ++ [0] ++ X=q ++ [0] ++ Y):p=q∧X=Y:=by
 induction p generalizing q with
 | nil =>
   cases q with
   | nil=>exact ⟨rfl,by simpa using h⟩
   | cons b q =>
     have:(0:Int)=b:=by injection h
     exact absurd (by rw [← this]; exact List.mem_cons_self) hq
 | cons a p ih =>
   cases q with
   | nil =>
     have:a=(0:Int):=by injection h
     exact absurd (by rw [this]; exact List.mem_cons_self) hp
   | cons b q =>
     have h1:a=b:=by injection h
     have h2:p ++ [0] ++ X=q ++ [0] ++ Y:=by injection h
     obtain ⟨e1,e2⟩:=ih (fun hm=>hp (List.mem_cons_of_mem _ hm)) (fun hm=>hq (List.mem_cons_of_mem _ hm)) h2
     exact ⟨by rw [h1,e1],e2⟩
end Go.Proofs.YtonmgkkkiejicaaGreat
namespace Go.Proofs.YtonmgkkkiejicaaGreat
open Go Go.Proofs
set_option linter.unusedVariables false
set_option linter.unusedSimpArgs false
attribute [local irreducible] apK cpK mkK br
theorem repL_flat {α:Type} {f:α→List Value} (n:Nat) (x:α):qpf n (f x)=(List.replicate n x).flatMap f:=by
 induction n with
 | zero=>rfl
 | succ n ih =>
   show f x ++ qpf n (f x)=_
   rw [ih,List.replicate_succ,List.flatMap_cons]
section
variable {α:Type} {f:α→List Value} {sz:Nat} {P:Program} {e:TypeId} {z:List Value} {F0:List Nat} {w0 w:World} {ps rest:List As} {s:Sl} {L:List α}
theorem St.makeR [r:Rec f sz] {n:Nat} {l c:Int} {x0:α} {K:Sl→World→Prop} [he:EltR P e sz z] (hz:z=f x0) (h:St F0 w0 w ps) (hl:l=n) (hc:c=n) (hn:n≤1000000)
 (hk:∀ s w',s.len=n→s.cap=n→St F0 w0 w' (qp sz s ((List.replicate n x0).flatMap f) :: ps)→K s w'):mkK P e w l c K:=by
 subst hl hc
 obtain ⟨i,h1,h2,h3,h4⟩:=he.info
 have hb:P.bytesOf e=i.bytes:=by simp [Program.bytesOf,h1]
 unfold mkK
 refine ⟨⟨by omega,by omega,by omega,?_⟩,?_⟩
 · rw [hb]
   have:i.bytes * n≤1024 * 1000000:=Nat.mul_le_mul h4 hn
   have e2:(2:Int) ^ 48=281474976710656:=by decide
   rw [e2]
   have h5:((i.bytes:Int) * (n:Int))=((i.bytes * n:Nat):Int):=by simp
   rw [h5]
   omega
 · rw [Int.toNat_natCast]
   refine hk _ _ rfl rfl ?_
   have e1:qpf n (Go.Proofs.YtonmgkkkiejicaaGreat.zc P e).toList=(List.replicate n x0).flatMap f:=by
    rw [he.zc,hz]
    exact repL_flat n x0
   rw [e1]
   have h2:=h.new (t:=e) (cs:=⟨(List.replicate n x0).flatMap f⟩) (K:=fun a w'=>a=⟨w.heap.size,0,none⟩→St F0 w0 w' (qp sz ⟨some a,n,n⟩ ((List.replicate n x0).flatMap f) :: ps)) (fun nb w' h _=>h.ownBR (by rw [qjc,List.length_replicate]))
   exact h2 rfl
theorem St.sF [r:Rec f sz] (h:St F0 w0 w (qp sz s (L.flatMap f) :: ps)) {n:Int} {o:Nat} {v:Value} {x:α} {K:World→Prop} (j:Nat) (hi:n=j) (hj:j < L.length) (ho:o < sz) (hs:storable v) (hx:f x=(f L[j]).set o v) (hk:∀ w',St F0 w0 w' (qp sz s ((L.set j x).flatMap f) :: ps)→K w') :
 ixS s.a s.len n sz fun a=>Go.Proofs.YtonmgkkkiejicaaGreat.st w (Addr.add a o) v K:=by
 subst hi
 have hl:=h.len
 rw [qjc] at hl
 have hp:=r.pos
 have hsl:=Nat.eq_of_mul_eq_mul_right hp hl
 obtain ⟨F,hw,hst⟩:=h.step
 have hle:(j+1) * sz≤L.length * sz:=Nat.mul_le_mul_right _ hj
 rw [Nat.add_mul,Nat.one_mul] at hle
 have hfl:(f L[j]).length=sz:=r.len _
 rcases hw with ⟨rfl,hnil,_⟩ | ⟨ob,rs,h1,hb,h2,h3,rfl⟩
 · simp only at hsl; omega
 · unfold ixS
   rw [h1]
   refine ⟨⟨by omega,by omega⟩,?_⟩
   rw [qjb,Nat.zero_add,Int.toNat_natCast]
   show Go.Proofs.YtonmgkkkiejicaaGreat.st w (Addr.add ⟨ob,j * sz,none⟩ o) v K
   rw [qjb]
   have hdec:L.flatMap f=(L.take j).flatMap f ++ (f L[j] ++ (L.drop (j+1)).flatMap f):=by
    conv=>lhs; rw [← List.take_append_drop j L,List.drop_eq_getElem_cons hj]
    rw [qce,qkf]
   have htl:((L.take j).flatMap f).length=j * sz:=by rw [qjc,List.length_take,Nat.min_eq_left (by omega)]
   have hset:(L.set j x).flatMap f=(L.flatMap f).set (j * sz+o) v:=by
    rw [List.set_eq_take_append_cons_drop,if_pos hj,qce,qkf,hx]
    conv=>rhs; rw [hdec]
    rw [List.set_append_right _ _ (by omega),htl,show j * sz+o - j * sz=o by omega,List.set_append_left _ _ (by omega)]
   refine hb.st (by rw [List.length_append,qjc]; omega) hs fun w' hm hb'=>hk w' (hst w' [ob] _ hm (Gr.refl _ _) (Or.inr ⟨ob,rs,h1,?_,?_,?_,rfl⟩))
   · rw [List.set_append_left _ _ (by rw [qjc]; omega)] at hb'
     rw [hset]
     exact hb'
   · rw [qjc,List.length_set,hsl]
   · rw [List.length_append,qjc,List.length_set,← h3,List.length_append,qjc]
end
end Go.Proofs.YtonmgkkkiejicaaGreat
