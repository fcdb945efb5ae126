/- Own texts as one, only what is reached (shake.py). -/
import Derived.Test.YtigmbblgfnkpbaaGde
import Derived.OpenShut
set_option linter.unusedSectionVars false
namespace Go.Proofs.Ytigmbblgfnkpbaa
open Go Go.Proofs
set_option linter.unusedVariables false
set_option linter.unusedSimpArgs false
attribute [local irreducible] apK cpK mkK br qoe
def Isg (xs:List Int) (S:List Cm) (g:Nm→Int):Prop:=Vg S g∧xs=gB S g
theorem isg_row {xs:List Int} {S:List Cm} {g:Nm→Int} (hI:Isg xs S g) (hxl:xs.length≤1000000) {i:Nat} (hi:i < S.length) {R Eb:List Int} (hR:R=(xs.drop (8+(hcN S+1) * 12+1024+20 * S.length+36 * i)).take 36) (hE:Eb=(xs.drop (8+(hcN S+1) * 12+1024+20 * S.length+36 * S.length)).take (xs.length - 20 - (8+(hcN S+1) * 12+1024+20 * S.length+36 * S.length))) :
 R.take 20=S[i].qwe.1∧qjh (S.map (·.id)) (wd Eb) (Eb.length / 4) (be ((R.drop 20).take 4)) (be ((R.drop 24).take 4)) S[i].par∧be ((R.drop 28).take 8)=g S[i].id * 17179869184+S[i].date:=by
 obtain ⟨hV,hx⟩:=hI
 have hSi:=List.getElem_mem hi
 have ht:S[i].qwe.1.length=20:=S[i].qwe.2.1
 have hg:=hV.gen hSi
 have hd:=hV.ok.dt _ hSi
 have hlen:=qok hx
 have he:=eG_le (S.map (·.id)) S i
 rw [gB_row hx hi] at hR
 rw [gB_edge hx] at hE
 rw [hR,hE,row_tree ht,row_a ht,row_b ht,row_d ht]
 have hb:=numA_b hV S[i]
 refine ⟨rfl,?_,be_word8 (by omega)⟩
 rw [be_word hb]
 rw [be_word (numB_b hV S[i] (by omega))]
 exact gB_enc hV hi
noncomputable def nmAt (xs:List Int) (a1 N:Nat):List Nm:=(List.range N).map fun j=>nmOf ((xs.drop (a1+20 * j)).take 20)
theorem qoh (xs:List Int) (a1 N:Nat):(nmAt xs a1 N).length=N:=by simp [nmAt]
theorem nmAt_succ (xs:List Int) (a1 N:Nat):nmAt xs a1 (N+1)=nmAt xs a1 N ++ [nmOf ((xs.drop (a1+20 * N)).take 20)]:=by simp [nmAt,List.range_succ]
theorem nmAt_get {xs:List Int} {a1 N j:Nat} (h:j < N):(nmAt xs a1 N)[j]'(by rw [qoh]; exact h)=nmOf ((xs.drop (a1+20 * j)).take 20):=by simp [nmAt]
theorem nmAt_S {xs:List Int} {S:List Cm} {g:Nm→Int} (hx:xs=gB S g):nmAt xs (8+(hcN S+1) * 12+1024) S.length=S.map (·.id):=by
 apply List.ext_getElem (by rw [qoh,List.length_map])
 intro j h1 h2
 rw [qoh] at h1
 rw [nmAt_get h1,gB_name hx h1,nmOf_nm,List.getElem_map]
section
variable {F0:List Nat} {w0 w:World} {ps rest:List As} {b:Sl} {xs:List Int} {K:Ending→World→Prop}
theorem qp.c (h:St F0 w0 w ps) [Rdb F0 w0 b ps 1 (u8s xs)] (hc:b.len≤b.cap) (hB:qsd xs) (hl28:28≤xs.length) (hxl:xs.length≤1000000)
 (hk1:∀ w',(∀ S g,¬ Isg xs S g)→St F0 w0 w' ps→K (.returned (.tuple ⟨[.slice none 0 0,.bool false]⟩)) w')
 (hk2:∀ X t w',t.len=X.length→X.length≤1024→(X.map fun x:Cx=>x.2.length).sum≤xs.length / 4+2048→(∀ S g,Isg xs S g→X.map cmX=S)→St F0 w0 w' (qbb 42 t ((ndX X).flatMap ndC) :: qzd (X.map cxA) :: ps)→K (.returned (.tuple ⟨[sV t,.bool true]⟩)) w') :
 Calls Try.prog 27 ⟨[sV b]⟩ w K:=by
 have lenC:∀ p:Nm,(nmC p).length=20:=fun p=>(inferInstance:Rec nmC 20).len p
 have hbl:=(h.rdb b).1
 rw [qgb,Nat.mul_one] at hbl
 refine qnb (qp.ok _ _ _ ?_)
 unfold qp
 refine h.lx (s:=b) (zs:=xs) 6 rfl (by omega) ?_
 have h6:=hB _ (qgf (xs:=xs) (i:=6) (by omega))
 obtain ⟨c,hc6⟩:∃ c:Nat,xs.getD 6 0=c:=⟨(xs.getD 6 0).toNat,by omega⟩
 rw [hc6] at h6 ⊢
 have fc:∀ S g,Isg xs S g→c=hcN S:=fun S g hI=>by
  have:=gB_6 hI.2
  omega
 refine qw (qq (by omega) (by omega)) ?_
 unfold qp.j1
 refine qw (e':=((c+1:Nat):Int)) (by rw [qq (by omega) (by omega)]; omega) ?_
 refine qw (e':=(((c+1) * 12:Nat):Int)) (by rw [qq (by omega) (by omega)]; omega) ?_
 refine qw (e':=((8+(c+1) * 12:Nat):Int)) (by rw [qq (by omega) (by omega)]; omega) ?_
 refine qlc (fun g=>?_) (fun g3=>?_)
 · exact hk1 w (fun S g' hI=>by have:=fc S g' hI; have:=hcN_34 S; omega) h
 refine qlc (fun g=>?_) (fun g4=>?_)
 · exact hk1 w (fun S g' hI=>by have:=fc S g' hI; have:=hcN_34 S; omega) h
 generalize ha0:8+(c+1) * 12=a0
 have ha0b:a0≤68:=by omega
 have f0:∀ S g,Isg xs S g→8+(hcN S+1) * 12=a0:=fun S g hI=>by have:=fc S g hI; omega
 refine qw (qq (by omega) (by omega)) ?_
 refine qw (qq (by omega) (by omega)) ?_
 refine qlc (fun g=>?_) (fun g5=>?_)
 · exact hk1 w (fun S g' hI=>by have:=f0 S g' hI; have:=qok hI.2; omega) h
 unfold qp.j2
 refine qw (e':=((a0+1020:Nat):Int)) (by rw [qq (by omega) (by omega)]; omega) ?_
 refine qyj (n:=a0+1020) rfl (by omega) (qtd ?_)
 haveI i1:Rdb F0 w0 ⟨qvd b.a b.cap (a0+1020) 1,b.len - (a0+1020),b.cap - (a0+1020)⟩ ps 1 (u8s (xs.drop (a0+1020))):=h.cutR b (a0+1020) b.len (b.cap - (a0+1020)) (Nat.le_refl _) (by omega) hc (List.take_of_length_le (by rw [List.length_drop]; omega))
 have hBd:qsd (xs.drop (a0+1020)):=fun x hx=>hB x (List.mem_of_mem_drop hx)
 refine qqg.c (s:=⟨qvd b.a b.cap (a0+1020) 1,b.len - (a0+1020),b.cap - (a0+1020)⟩) h hBd (by rw [List.length_drop]; omega) fun rb w h=>⟨_,rfl,?_⟩
 refine qgc.c (rb:=rb) h hBd fun w h=>⟨_,rfl,?_⟩
 have e1:=nu4 hBd 0 0
 have t1:tkS (xs.drop (a0+1020)) 0 0 4=((xs.drop (a0+1020)).take 4,4,0):=tk_in (n:=4) (by rw [List.length_drop]; omega)
 rw [t1] at e1
 rw [e1]
 have hNb:=be4_b (l:=(xs.drop (a0+1020)).take 4) (fun x hx=>hBd x (List.mem_of_mem_take hx)) (by rw [List.length_take]; omega)
 have fN:∀ S g,Isg xs S g→be ((xs.drop (a0+1020)).take 4)=S.length:=fun S g hI=>by
  have:=gB_count hI.2
  rw [f0 S g hI] at this
  rw [this,be_word (by have:=hI.1.len; omega)]
 have h:St F0 w0 w ps:=h.drop
 clear e1 t1 i1
 simp only
 obtain ⟨N,hN⟩:∃ N:Nat,be ((xs.drop (a0+1020)).take 4)=N:=⟨(be ((xs.drop (a0+1020)).take 4)).toNat,by omega⟩
 rw [hN] at hNb fN ⊢
 have fN:∀ S g,Isg xs S g→S.length=N:=fun S g hI=>by have:=fN S g hI; omega
 refine qw (e':=((a0+1024:Nat):Int)) (by rw [qq (by omega) (by omega)]; omega) ?_
 unfold qp.j3
 refine qlc (fun g=>?_) (fun g6=>?_)
 · exact hk1 w (fun S g' hI=>by have:=fN S g' hI; have:=hI.1.len; omega) h
 refine qw (qq (by omega) (by omega)) ?_
 refine qw (qq (by omega) (by omega)) ?_
 refine qw (qq (by omega) (by omega)) ?_
 refine qlc (fun g=>?_) (fun g7=>?_)
 · exact hk1 w (fun S g' hI=>by have:=fN S g' hI; have:=f0 S g' hI; have:=qok hI.2; omega) h
 unfold qp.j4 qp.j14
 refine loop2 (fun (i:Nat) (t7:Sl) (i':Int) w'=>i'=(i:Int)∧i≤N∧St F0 w0 w' (qbb 20 t7 ((nmAt xs (a0+1024) i).flatMap nmC) :: ps)) (fun i=>N - i) 0 ⟨rfl,Nat.zero_le _,h.nilO⟩ ?_
 clear h
 rintro i t7 _ wL I μ ⟨rfl,hi,h⟩ hin
 unfold qp.b2
 refine qlc (fun g=>?_) (fun g=>?_)
 · have hix:i < N:=by omega
   refine qw (e':=((20 * i:Nat):Int)) (by rw [qq (by omega) (by omega)]; omega) ?_
   refine qw (e':=((a0+1024+20 * i:Nat):Int)) (by rw [qq (by omega) (by omega)]; omega) ?_
   refine qyj (n:=a0+1024+20 * i) rfl (by omega) (qtd ?_)
   have i1:Rdb F0 w0 ⟨qvd b.a b.cap (a0+1024+20 * i) 1,b.len - (a0+1024+20 * i),b.cap - (a0+1024+20 * i)⟩ ps 1 (u8s (xs.drop (a0+1024+20 * i))):=h.drop.cutR b (a0+1024+20 * i) b.len _ (Nat.le_refl _) (by omega) hc (List.take_of_length_le (by rw [List.length_drop]; omega))
   refine ⟨by show 20≤b.len - _; omega,(i1.rd h.drop).ldF (by decide) (by rw [List.length_drop]; omega) ?_⟩
   have hid:=idOk_cut (xs:=xs) (n:=a0+1024+20 * i) hB (by omega)
   have hnm:u8s ((xs.drop (a0+1024+20 * i)).take 20)=nmC (nmOf ((xs.drop (a0+1024+20 * i)).take 20)):=by unfold nmC; rw [nmOf_ok hid]
   rw [hnm]
   refine ⟨lenC _,?_⟩
   rw [qde (by rw [lenC]; rfl)]
   refine h.pushR (s:=t7) (L:=nmAt xs (a0+1024) i) (x:=nmOf ((xs.drop (a0+1024+20 * i)).take 20)) (by rw [qoh]; omega) rfl fun s' w hs h=>?_
   rw [← nmAt_succ] at h
   refine qw (e':=((i+1:Nat):Int)) (by rw [qq (by omega) (by omega)]; rfl) ?_
   exact ⟨⟨rfl,rfl,rfl,rfl⟩,hin (i+1) _ _ _ ⟨rfl,by omega,h⟩ (by omega)⟩
 have:i=N:=by omega
 subst this
 clear hin
 have hAl:=qoh xs (a0+1024) i
 have fA:∀ S g,Isg xs S g→nmAt xs (a0+1024) i=S.map (·.id):=fun S g hI=>by
  have h1:=f0 S g hI
  have h2:=fN S g hI
  have:=nmAt_S hI.2
  rw [h1,h2] at this
  exact this
 unfold qp.j5
 refine qw (e':=((20 * i:Nat):Int)) (by rw [qq (by omega) (by omega)]; omega) ?_
 refine qw (e':=((a0+1024+20 * i:Nat):Int)) (by rw [qq (by omega) (by omega)]; omega) ?_
 refine qw (e':=((36 * i:Nat):Int)) (by rw [qq (by omega) (by omega)]; omega) ?_
 refine qw (e':=((a0+1024+20 * i+36 * i:Nat):Int)) (by rw [qq (by omega) (by omega)]; omega) ?_
 refine qw (e':=((xs.length - 20:Nat):Int)) (by rw [qq (by omega) (by omega)]; omega) ?_
 refine qyj (n:=xs.length - 20) rfl (by omega) ?_
 refine qyj (n:=a0+1024+20 * i+36 * i) rfl (by omega) (qtd ?_)
 generalize hA:nmAt xs (a0+1024) i=A at hAl fA h
 haveI i2:Rdb F0 w0 ⟨qvd b.a b.cap (a0+1024+20 * i+36 * i) 1,xs.length - 20 - (a0+1024+20 * i+36 * i),b.cap - (a0+1024+20 * i+36 * i)⟩ ps 1 (u8s ((xs.drop (a0+1024+20 * i+36 * i)).take (xs.length - 20 - (a0+1024+20 * i+36 * i)))):=h.drop.cutR b (a0+1024+20 * i+36 * i) (xs.length - 20) _ (by omega) (by omega) hc rfl
 have hEBb:qsd ((xs.drop (a0+1024+20 * i+36 * i)).take (xs.length - 20 - (a0+1024+20 * i+36 * i))):=fun x hx=>hB x (List.mem_of_mem_drop (List.mem_of_mem_take hx))
 have hEl:((xs.drop (a0+1024+20 * i+36 * i)).take (xs.length - 20 - (a0+1024+20 * i+36 * i))).length≤xs.length:=by rw [List.length_take,List.length_drop]; omega
 have fR:∀ S g,Isg xs S g→∀ j (hj:j < S.length),((xs.drop (a0+1024+20 * i+36 * j)).take 36).take 20=S[j].qwe.1∧qjh A (wd ((xs.drop (a0+1024+20 * i+36 * i)).take (xs.length - 20 - (a0+1024+20 * i+36 * i)))) (((xs.drop (a0+1024+20 * i+36 * i)).take (xs.length - 20 - (a0+1024+20 * i+36 * i))).length / 4) (be ((((xs.drop (a0+1024+20 * i+36 * j)).take 36).drop 20).take 4)) (be ((((xs.drop (a0+1024+20 * i+36 * j)).take 36).drop 24).take 4)) S[j].par∧be ((((xs.drop (a0+1024+20 * i+36 * j)).take 36).drop 28).take 8)=g S[j].id * 17179869184+S[j].date:=fun S g hI j hj=>by
  have h1:=f0 S g hI
  have h2:=fN S g hI
  rw [fA S g hI]
  exact isg_row hI hxl hj (by rw [h1,h2]) (by rw [h1,h2])
 have fE:∀ S g,Isg xs S g→((xs.drop (a0+1024+20 * i+36 * i)).take (xs.length - 20 - (a0+1024+20 * i+36 * i))).length / 4=(eG (S.map (·.id)) S).length:=fun S g hI=>by
  have h1:=f0 S g hI
  have h2:=fN S g hI
  have:=gB_edge hI.2
  rw [h1,h2] at this
  rw [this,qkf]
  omega
 generalize hEb:(xs.drop (a0+1024+20 * i+36 * i)).take (xs.length - 20 - (a0+1024+20 * i+36 * i))=Eb at i2 hEBb hEl fR fE
 unfold qp.j6 qp.j7 qp.j9
 refine loop3 (fun (X:List Cx) (t10:Sl) (r i':Int) w'=>i'=(X.length:Int)∧X.length≤i∧r=(((X.map fun x:Cx=>x.2.length).sum:Nat):Int)∧(X.map fun x:Cx=>x.2.length).sum≤Eb.length / 4+2 * i∧(∀ S g,Isg xs S g→X.map cmX=S.take X.length)∧St F0 w0 w' (qbb 42 t10 ((ndX X).flatMap ndC) :: qzd (X.map cxA) :: qbb 20 t7 (A.flatMap nmC) :: ps)) (fun X=>i - X.length) []
  ⟨rfl,Nat.zero_le _,rfl,Nat.zero_le _,fun S g _=>rfl,h.bag0.nilO⟩ ?_
 clear h
 rintro X t10 _ _ wL I μ ⟨rfl,hX,rfl,hrows,hXS,h⟩ hin
 unfold qp.b1
 refine qlc (fun g=>?_) (fun g=>?_)
 · have hix:X.length < i:=by omega
   unfold qp.j10
   refine read_12 (xs:=xs) (a2:=a0+1024+20 * i) (N:=i) (i:=X.length) (A:=A) (te:=⟨qvd b.a b.cap (a0+1024+20 * i+36 * i) 1,xs.length - 20 - (a0+1024+20 * i+36 * i),b.cap - (a0+1024+20 * i+36 * i)⟩) h hc hB (by omega) (by omega) (by omega) fun rb xb w h=>?_
   have hRl:((xs.drop (a0+1024+20 * i+36 * X.length)).take 36).length=36:=by rw [List.length_take,List.length_drop]; omega
   have hRe:((xs.drop (a0+1024+20 * i+36 * X.length)).take 36).take 20=(xs.drop (a0+1024+20 * i+36 * X.length)).take 20:=by rw [List.take_take]; rfl
   have hid:=idOk_cut (xs:=xs) (n:=a0+1024+20 * i+36 * X.length) hB (by omega)
   refine read_13 (Eb:=Eb) (A:=A) (X:=X) (rows:=(X.map fun x:Cx=>x.2.length).sum) (N:=i) (i:=X.length) h hRl (fun x hx=>hB x (List.mem_of_mem_drop (List.mem_of_mem_take hx))) hEBb (by omega) (by omega) (by omega) (by omega) (by omega) (fun w hn h=>?_) (fun x t' w hrx hxi hro h=>?_) (by omega)
   · refine hk1 w (fun S g hI=>?_) h.drop
     have hN:=fN S g hI
     obtain ⟨q1,q2,q3⟩:=fR S g hI X.length (by omega)
     have hSi:S[X.length]'(by omega) ∈ S:=List.getElem_mem _
     rcases hn with hn | hn | ⟨x,hrx,hn⟩
     · exact hn _ q2
     · have h1:=hI.1.gen hSi
       have h2:=hI.1.ok.dt _ hSi
       rw [q3] at hn
       omega
     · have h1:=hrx.par _ q2
       have h2:=hXS S g hI
       have h3:(X.map fun x:Cx=>x.2.length)=(S.take X.length).map fun c=>c.par.length:=by
        rw [← h2,List.map_map]
        rfl
       have h4:=sum_par (S.take (X.length+1)) (S.map (·.id))
       rw [List.take_succ_eq_append_getElem (by omega),List.map_append,List.sum_append,← h3,← List.take_succ_eq_append_getElem (by omega)] at h4
       have h5:=eG_le (S.map (·.id)) S (X.length+1)
       have h6:=fE S g hI
       rw [h1] at hn
       simp only [List.map_cons,List.map_nil,List.sum_cons,List.sum_nil,List.length_take] at h4
       omega
   · have el:(X ++ [x]).length=X.length+1:=by simp
     have es:((X ++ [x]).map fun x:Cx=>x.2.length).sum=(X.map fun x:Cx=>x.2.length).sum+x.2.length:=by simp
     refine ⟨⟨rfl,rfl,rfl,rfl,rfl,rfl⟩,hin (X ++ [x]) _ _ _ _ ⟨by rw [el],by omega,by rw [es],by omega,fun S g hI=>?_,h.sub⟩ (by rw [el]; omega)⟩
     have hN:=fN S g hI
     have hj:X.length < S.length:=by omega
     obtain ⟨q1,q2,q3⟩:=fR S g hI X.length hj
     rw [el,List.take_succ_eq_append_getElem hj,List.map_append,hXS S g hI]
     congr 1
     show [cmX x]=_
     have hd:=hI.1.ok.dt _ (List.getElem_mem hj)
     have hg:=hI.1.gen (List.getElem_mem hj)
     have e1:x.1.nm=S[X.length].id:=by
      have h2:A[X.length]'(by omega)=S[X.length].id:=by
       have h3:=fA S g hI
       simp only [h3,List.getElem_map]
      rw [← h2]
      exact nm_eq.2 hxi
     have e2:x.1.tr=S[X.length].qwe:=by
      rw [hrx.tr]
      have:(nmOf ((xs.drop (a0+1024+20 * i+36 * X.length)).take 20))=S[X.length].qwe:=Nm.ext' (by rw [nmOf_ok hid,← hRe]; exact q1)
      rw [← this]
      rfl
     have e3:x.1.date=S[X.length].date:=by
      rw [hrx.dt,q3]
      omega
     have e4:=hrx.par _ q2
     unfold cmX
     rw [e1,e2,e3,e4]
 · have hXi:X.length=i:=by omega
   have h5:=h.rlen (s:=t10) (f:=ndC) (L:=ndX X)
   rw [qgi] at h5
   unfold qp.j8
   refine hk2 X t10 wL h5.symm (by omega) (by omega) (fun S g hI=>?_) h.sub
   have h1:=hXS S g hI
   have h2:=fN S g hI
   rw [List.take_of_length_le (by omega)] at h1
   exact h1
end
end Go.Proofs.Ytigmbblgfnkpbaa
namespace Go.Proofs.Ytigmbblgfnkpbaa
open Go Go.Proofs
set_option linter.unusedVariables false
set_option linter.unusedSimpArgs false
attribute [local irreducible] apK cpK mkK br qoe
open Classical in
noncomputable def errO (xs:List Int):Int:=if 262144 < xs.length then 5 else if xs.length < 28 then 3 else if xs.take 6=[67,71,80,72,1,1] then (if qoe (xs.take (xs.length - 20))=xs.drop (xs.length - 20) then 2 else 4) else 2
theorem gB_sum {xs:List Int} {S:List Cm} {g:Nm→Int} (h:xs=gB S g):qoe (xs.take (xs.length - 20))=xs.drop (xs.length - 20):=by
 have e:gB S g=qkh (chunkL (S.map (·.id)) g S) ++ qoe (qkh (chunkL (S.map (·.id)) g S)):=rfl
 rw [h,e]
 generalize qkh (chunkL (S.map (·.id)) g S)=X
 have hl:=qye X
 rw [List.length_append,hl,Nat.add_sub_cancel,List.take_left' rfl,List.drop_left' rfl]
theorem gB_congr {S:List Cm} {g g':Nm→Int} (h:∀ c ∈ S,g c.id=g' c.id):gB S g=gB S g':=by
 have hd:∀ A i,i≤S.length→dG A g S i=dG A g' S i:=by
  intro A i
  induction i with
  | zero=>intro _; rfl
  | succ i ih =>
    intro hi
    rw [dG_succ,dG_succ,ih (by omega)]
    congr 1
    unfold drw
    have:S.getD i default ∈ S:=by
     rw [List.getD_eq_getElem?_getD,List.getElem?_eq_getElem (by omega)]
     exact List.getElem_mem _
    rw [h _ this]
 unfold gB chunkL
 rw [hd _ _ (Nat.le_refl _)]
theorem wk_same {S:List Cm} {g g':Nm→Int} {O O':List Nm} (h:Wk (fC S) true O g) (h':Wk (fC S) true O' g') (hl:S.length≤O.length):∀ c ∈ S,g c.id=g' c.id:=fun c hc=>(wk_one h h').2 _ (wk_full h hl _ (List.mem_map.2 ⟨c,hc,rfl⟩))
theorem extract_all (l:List UInt8):ByteArray.extract ⟨⟨l⟩⟩ 0 l.length=⟨⟨l⟩⟩:=by
 apply ByteArray.ext
 rw [ByteArray.data_extract]
 simp
section
variable {F0:List Nat} {w0 w:World} {ps rest:List As} {b s t:Sl} {xs ys:List Int} {K:Ending→World→Prop}
theorem nz_o {a:Addr} {Z:Addr→Prop} (h:nz (some a) Z):Z a:=by
 unfold nz at h
 exact h
theorem prefix6.c (hx:xs.length=6) (hB:qsd xs) (hk:K (.returned (.bool (xs == [67,71,80,72,1,1]))) w):Calls Try.prog 25 ⟨[.string ⟨⟨u8 xs⟩⟩,.string { data:=#[67,71,80,72,1,1] }]⟩ w K:=by
 have hsz:ByteArray.size ⟨⟨u8 xs⟩⟩=6:=by
  show (u8 xs).length=6
  simp [u8,hx]
 have hp:ByteArray.size { data:=#[67,71,80,72,1,1] }=6:=rfl
 refine qnb (qpd.ok _ _ _ _ ?_)
 unfold qpd
 refine qnb (qyb.ok _ _ _ _ ?_)
 unfold qyb
 rw [hsz,hp]
 refine qlc (fun _=>?_) (fun g=>absurd (Int.le_refl _) g)
 refine qyj (n:=6) rfl (Nat.le_refl _) (qtd ?_)
 have e:ByteArray.extract ⟨⟨u8 xs⟩⟩ 0 6=⟨⟨u8 xs⟩⟩:=by
  have:=extract_all (u8 xs)
  rw [show (u8 xs).length=6 from hsz] at this
  exact this
 rw [e]
 have e2:({ data:=#[67,71,80,72,1,1] }:ByteArray)=⟨⟨u8 [67,71,80,72,1,1]⟩⟩:=by kernel_rfl
 rw [e2,u8_beq hB (by intro x hx; simp at hx; omega)]
 exact ⟨_,rfl,hk⟩
theorem qle.c (h:St F0 w0 w ps) [Rdb F0 w0 s ps 1 (u8s xs)] [Rdb F0 w0 t ps 1 (u8s ys)] (hx:qsd xs) (hy:qsd ys) (hk:K (.returned (.bool (xs == ys))) w):Calls Try.prog 28 ⟨[sV s,sV t]⟩ w K:=by
 refine qnb (qle.ok _ _ _ _ ?_)
 unfold qle
 refine h.bt (s:=s) hx (h.bt (s:=t) hy ?_)
 rw [u8_beq hx hy]
 exact hk
theorem Open_0 (h:St F0 w0 w ps) [Rdb F0 w0 b ps 1 (u8s xs)] (hc:b.len≤b.cap) (hB:qsd xs)
 (hkE:∀ w',(¬ xs.length≤262144 ∨ ∀ S g,¬ Isg xs S g)→St F0 w0 w' ps→K (.returned (.tuple ⟨[.pointer none,.int .i64 (errO xs)]⟩)) w')
 (hk1:∀ w',28≤xs.length→xs.length≤262144→errO xs=2→St F0 w0 w' ps→qcb.j1 b (fun v w'=>K (.returned v) w') w') :
 Calls Try.prog 7 ⟨[sV b]⟩ w K:=by
 have hbl:=(h.rdb b).1
 rw [qgb,Nat.mul_one] at hbl
 refine qnb (qcb.ok _ _ _ ?_)
 unfold qcb
 refine qlc (fun g=>?_) (fun g1=>?_)
 · have:=hkE w (Or.inl (by omega)) h
   unfold errO at this
   rw [if_pos (by omega)] at this
   exact this
 refine qlc (fun g=>?_) (fun g2=>?_)
 · have:=hkE w (Or.inr fun S g' hI=>by have:=qok hI.2; omega) h
   unfold errO at this
   rw [if_neg (by omega),if_pos (by omega)] at this
   exact this
 refine qyj (n:=6) rfl (by omega) (qtd ?_)
 haveI i6:Rdb F0 w0 ⟨qvd b.a b.cap 0 1,6 - 0,b.cap - 0⟩ ps 1 (u8s (xs.take 6)):=h.cutR b 0 6 (b.cap - 0) (by omega) (by omega) hc (by rw [List.drop_zero])
 have hB6:qsd (xs.take 6):=fun x hx=>hB x (List.mem_of_mem_take hx)
 refine h.bt (s:=⟨qvd b.a b.cap 0 1,6 - 0,b.cap - 0⟩) hB6 ?_
 refine prefix6.c (by rw [List.length_take]; omega) hB6 ⟨_,rfl,?_⟩
 refine qzc (fun g=>?_) (fun g3=>?_)
 · have g:¬ xs.take 6=[67,71,80,72,1,1]:=by simpa using g
   have:=hkE w (Or.inr fun S g' hI=>g (gB_head hI.2)) h
   unfold errO at this
   rw [if_neg (by omega),if_neg (by omega),if_neg g] at this
   exact this
 have g3:xs.take 6=[67,71,80,72,1,1]:=by simpa using g3
 refine h.drewK fun w h=>?_
 refine qw (e':=((xs.length - 20:Nat):Int)) (by rw [qq (by omega) (by omega)]; omega) ?_
 refine qyj (n:=xs.length - 20) rfl (by omega) (qtd ?_)
 refine qw (e':=((xs.length - 20:Nat):Int)) (by rw [qq (by omega) (by omega)]; omega) ?_
 refine qyj (n:=xs.length - 20) rfl (by omega) (qtd ?_)
 haveI i7:Rdb F0 w0 ⟨qvd b.a b.cap 0 1,xs.length - 20 - 0,b.cap - 0⟩ ps 1 (u8s (xs.take (xs.length - 20))):=h.cutR b 0 (xs.length - 20) (b.cap - 0) (by omega) (by omega) hc (by rw [List.drop_zero]; rfl)
 have i8:Rdb F0 w0 ⟨qvd b.a b.cap (xs.length - 20) 1,b.len - (xs.length - 20),b.cap - (xs.length - 20)⟩ ps 1 (u8s (xs.drop (xs.length - 20))):=h.cutR b (xs.length - 20) b.len _ (Nat.le_refl _) (by omega) hc (List.take_of_length_le (by rw [List.length_drop]; omega))
 have hdl:(xs.drop (xs.length - 20)).length=20:=by rw [List.length_drop]; omega
 refine ⟨by show 20≤b.len - _; omega,?_⟩
 have hBt:qsd (xs.take (xs.length - 20)):=fun x hx=>hB x (List.mem_of_mem_take hx)
 obtain ⟨a0,ha0⟩:∃ a0,qvd b.a b.cap (xs.length - 20) 1=some a0:=by
  obtain ⟨a,ha,_⟩:=(i8.rd h).2 0 (by rw [qgb]; omega)
  exact ⟨a,ha⟩
 have hl20:∀ {w':World} {Z:Array Value→Prop},St F0 w0 w' ps→Z ⟨u8s (xs.drop (xs.length - 20))⟩→ldA w' a0 20 Z:=fun {w' Z} h hz=>by
  have:=(i8.rd h).ldF (n:=20) (by decide) (by omega) (K:=Z) (by rw [List.take_of_length_le (by omega)]; exact hz)
  have e:(⟨qvd b.a b.cap (xs.length - 20) 1,b.len - (xs.length - 20),b.cap - (xs.length - 20)⟩:Sl).a=some a0:=ha0
  rw [e] at this
  exact nz_o this
 have fin:∀ w,St F0 w0 w ps→eqA .u8 20 ⟨u8s (qoe (xs.take (xs.length - 20)))⟩ ⟨u8s (xs.drop (xs.length - 20))⟩ fun x=>br (!x) ((fun v w'=>K (.returned v) w') (.tuple ⟨[.pointer none,.int .i64 4]⟩) w) (qcb.j1 b (fun v w'=>K (.returned v) w') w):=fun w h=>by
  refine eqA_i (qye _) hdl ?_
  refine qzc (fun g=>?_) (fun g4=>?_)
  · have g:¬ qoe (xs.take (xs.length - 20))=xs.drop (xs.length - 20):=by simpa using g
    have:=hkE w (Or.inr fun S g' hI=>g (gB_sum hI.2)) h
    unfold errO at this
    rw [if_neg (by omega),if_neg (by omega),if_pos g3,if_neg g] at this
    exact this
  · have g4:qoe (xs.take (xs.length - 20))=xs.drop (xs.length - 20):=by simpa using g4
    refine hk1 w (by omega) (by omega) ?_ h
    unfold errO
    rw [if_neg (by omega),if_neg (by omega),if_pos g3,if_pos g4]
 have hS:∀ {w':World} {Z:Array Value→World→Prop},St F0 w0 w' ps→(∀ w'',St F0 w0 w'' ps→Z ⟨u8s (qoe (xs.take (xs.length - 20)))⟩ w'')→cr_G 26 [sV ⟨qvd b.a b.cap 0 1,xs.length - 20 - 0,b.cap - 0⟩] w' Z:=fun h hz =>
  qvf.d (s:=⟨qvd b.a b.cap 0 1,xs.length - 20 - 0,b.cap - 0⟩) (xs:=xs.take (xs.length - 20)) h hBt (by rw [List.length_take]; omega) fun w h=>⟨_,rfl,hz w h⟩
 rw [ha0]
 refine qee ⟨?_,?_⟩
 · exact hS h fun w h=>hl20 h (fin w h)
 · exact hl20 h (hS h fun w h=>fin w h)
end
end Go.Proofs.Ytigmbblgfnkpbaa
namespace Go.Proofs.Ytigmbblgfnkpbaa
open Go Go.Proofs
set_option linter.unusedVariables false
set_option linter.unusedSimpArgs false
attribute [local irreducible] apK cpK mkK br qoe
theorem sumB_ok (xs:List Int):qsd (qoe xs):=by
 unfold qoe
 refine qrg fun v _=>?_
 intro x hx
 have m:∀ y:Int,0≤y % 256∧y % 256 < 256:=fun y=>by omega
 unfold word4 at hx
 simp only [List.mem_cons,List.not_mem_nil,or_false] at hx
 rcases hx with rfl | rfl | rfl | rfl <;> exact m _
theorem tb_ok (l:List (List Int)):∀ i≤4,qsd (tb l i):=by
 intro i
 induction i with
 | zero=>intro _ x hx; simp [tb] at hx
 | succ i ih =>
   intro hi
   rw [tb_succ,qqc,qqc]
   refine ⟨ih (by omega),?_,qyh 8 8 _⟩
   have:i=0 ∨ i=1 ∨ i=2 ∨ i=3:=by omega
   rcases this with rfl | rfl | rfl | rfl <;> (intro x hx; simp [wrdB] at hx; omega)
theorem gB_ok (S:List Cm) (g:Nm→Int):qsd (gB S g):=by
 have e:gB S g=qkh (chunkL (S.map (·.id)) g S) ++ qoe (qkh (chunkL (S.map (·.id)) g S)):=rfl
 have hc:(chunkL (S.map (·.id)) g S).length=hcN S:=chunk_len _ _ _
 have h34:=hcN_34 S
 rw [e,qqc]
 refine ⟨?_,sumB_ok _⟩
 unfold qkh
 rw [qtk,hc,qqc,qqc,qqc,qqc,qqc,qqc,qqc]
 refine ⟨⟨⟨⟨?_,tb_ok _ _ (by omega)⟩,by intro x hx; simp at hx; omega⟩,qyh 8 8 _⟩,⟨⟨wB_ok _,nB_ok _⟩,dG_ok _ _ _ _⟩,wB_ok _⟩
 intro x hx
 simp [hdB] at hx
 omega
theorem risC {pr:Nd→List Nm} {S:List Nd} (h:RisN S):(S.map (cmN pr)).Pairwise ltC:=by
 rw [List.pairwise_map]
 exact h
section
variable {F0:List Nat} {w0 w:World} {ps rest:List As} {b s t sa sn sg:Sl} {xs ys:List Int} {L:List Nd} {G:Rws Int} {mb gb:Nat} {K:Ending→World→Prop}
theorem Open_4 (h:St F0 w0 w (qfb gb (grL sa sn ⟨none,0,0⟩) :: ps)) [Rdb F0 w0 sa ps 20 ((L.map Nd.nm).flatMap nmC)] [MpR Int inV mb ps G] (hL:L.length≤1000000)
 (hk:∀ sg w',sg.len=L.length→St F0 w0 w' (qfb gb (grL sa sn sg) :: qbb 1 sg (ivs .i64 (L.map fun n=>gD G n.nm)) :: ps)→K (.returned (.tuple ⟨[.pointer (some ⟨gb,0,none⟩),.int .i64 0]⟩)) w') :
 qcb.j4 (some mb) (some ⟨gb,0,none⟩) (fun v w'=>K (.returned v) w') w:=by
 have lenC:∀ p:Nm,(nmC p).length=20:=fun p=>(inferInstance:Rec nmC 20).len p
 have hla:=h.rlen (s:=sa) (f:=nmC) (L:=L.map Nd.nm)
 rw [List.length_map] at hla
 unfold qcb.j4
 refine qee (h.gL (b:=gb) ?_)
 unfold qcb.j6
 refine loop1 (fun (a:Nat × Sl) (i':Int) w'=>i'=(a.1:Int)∧a.1≤L.length∧St F0 w0 w' (qfb gb (grL sa sn a.2) :: qbb 1 a.2 (ivs .i64 ((L.take a.1).map fun n=>gD G n.nm)) :: ps)) (fun a=>L.length - a.1) (0,⟨none,0,0⟩) ⟨rfl,Nat.zero_le _,(h.nil 1).at1⟩ ?_
 clear h
 rintro ⟨i,sg⟩ _ wL I μ ⟨rfl,hi,h⟩ hin
 simp only at hi h hin ⊢
 unfold qcb.b1
 refine qlc (fun g=>?_) (fun g=>?_)
 · have g:(i:Int) < (sa.len:Int):=g
   have hix:i < L.length:=by omega
   have hix2:i < (L.map Nd.nm).length:=by rw [List.length_map]; exact hix
   refine h.lr (s:=sa) (f:=nmC) (L:=L.map Nd.nm) i rfl hix2 ?_
   have hnm:(L.map Nd.nm)[i]=L[i].nm:=List.getElem_map ..
   rw [hnm]
   have hsn:(L.take (i+1)).map (fun n=>gD G n.nm)=(L.take i).map (fun n=>gD G n.nm) ++ [gD G L[i].nm]:=by rw [List.take_succ_eq_append_getElem hix,List.map_append]; rfl
   generalize L[i].nm=q at hsn ⊢
   rw [zc_id]
   refine h.new fun xb w h=>?_
   have h:St F0 w0 w (qfb xb (ivs .u8 z20) :: qfb gb (grL sa sn sg) :: qbb 1 sg (ivs .i64 ((L.take i).map fun n=>gD G n.nm)) :: ps):=h
   refine ⟨lenC q,?_⟩
   refine h.setR (f:=nmC) (x:=q) (by rw [qt]; rfl) fun w h=>?_
   refine h.drewK fun w h=>?_
   refine qee ?_
   refine h.lA (b:=xb) (lenC q) ?_
   have hb:St F0 w0 w ps:=h.drop.drop.drop
   have h:St F0 w0 w (qfb gb (grL sa sn sg) :: qbb 1 sg (ivs .i64 ((L.take i).map fun n=>gD G n.nm)) :: ps):=h.drop
   have hll:((L.take i).map fun n=>gD G n.nm).length≤1000000:=by rw [List.length_map,List.length_take]; omega
   have fin:∀ (s14:Sl) w,St F0 w0 w (qbb 1 s14 (ivs .i64 ((L.take i).map (fun n=>gD G n.nm) ++ [gD G q])) :: qfb gb (grL sa sn sg) :: ps)→nz (some (⟨gb,0,none⟩:Addr)) fun a16=>Go.Proofs.Ytigmbblgfnkpbaa.st w (Addr.add a16 2) (sV s14) fun w17=>lt (IntKind.i64.wrap ((i:Int)+1)) fun x18=>(some mb=some mb∧(some (⟨gb,0,none⟩:Addr)=some ⟨gb,0,none⟩∧sa=sa∧(sa.len:Int)=(sa.len:Int)))∧I x18 w17∧μ x18 w17 < μ (i:Int) wL:=fun s14 w h=>by
    refine qee ?_
    refine h.gst (b:=gb) trivial fun w h=>?_
    refine qw (e':=((i+1:Nat):Int)) (by rw [qq (by omega) (by omega)]; rfl) ?_
    refine ⟨⟨rfl,rfl,rfl,rfl⟩,hin (i+1,s14) _ _ ⟨rfl,by simp only; omega,?_⟩ (by simp only; omega)⟩
    simp only
    rw [hsn]
    exact h
   have push:∀ {w},St F0 w0 w (qfb gb (grL sa sn sg) :: qbb 1 sg (ivs .i64 ((L.take i).map fun n=>gD G n.nm)) :: ps)→∀ {Z:Sl→World→Prop},(∀ s14 w,St F0 w0 w (qbb 1 s14 (ivs .i64 ((L.take i).map (fun n=>gD G n.nm) ++ [gD G q])) :: qfb gb (grL sa sn sg) :: ps)→Z s14 w)→nw w ⟨[.int .i64 (gD G q)]⟩ 3 fun a11 w12=>rdO w12 (some a11) (1 * 1) fun c13=>apK Try.prog 3 w12 sg.a sg.len sg.cap 1 c13 Z:=fun {w} h {Z} hz=>by
    refine h.pushI (s:=sg) (by omega) fun s14 w h=>hz s14 w h
   refine ⟨?_,_,qif hb mb q,?_,?_⟩
   · refine h.gL (b:=gb) ⟨_,qif hb mb q,?_⟩
     exact push h fun s14 w h=>fin s14 w h
   · refine h.gL (b:=gb) ?_
     exact push h fun s14 w h=>fin s14 w h
   · refine h.new fun nb w h=>?_
     have h:St F0 w0 w (qfb nb (ivs .i64 [gD G q]) :: qfb gb (grL sa sn sg) :: qbb 1 sg (ivs .i64 ((L.take i).map fun n=>gD G n.nm)) :: ps):=h
     refine h.gL (b:=gb) ?_
     haveI:Rdb F0 w0 ⟨some ⟨nb,0,none⟩,1,1⟩ (qfb nb (ivs .i64 [gD G q]) :: qfb gb (grL sa sn sg) :: qbb 1 sg (ivs .i64 ((L.take i).map fun n=>gD G n.nm)) :: ps) 1 (ivs .i64 [gD G q]):=qvj rfl
     refine h.appI (s:=sg) (s2:=⟨some ⟨nb,0,none⟩,1,1⟩) (k:=.i64) (ys:=[gD G q]) (by show _+1≤_; omega) fun s14 w h=>?_
     exact fin s14 w (h.tail fun _ _ _ h=>h.drop)
 · have g:¬ (i:Int) < (sa.len:Int):=g
   have:i=L.length:=by omega
   subst this
   rw [List.take_length] at h
   have hl:=h.drop.len
   rw [qt,List.length_map,Nat.mul_one] at hl
   unfold qcb.j5
   exact hk sg wL hl.symm h
theorem qcb.c (h:St F0 w0 w ps) [Rdb F0 w0 b ps 1 (u8s xs)] (hc:b.len≤b.cap) (hB:qsd xs)
 (hkE:∀ w',(¬ xs.length≤262144 ∨ ∀ S g,¬ Isg xs S g)→St F0 w0 w' ps→K (.returned (.tuple ⟨[.pointer none,.int .i64 (errO xs)]⟩)) w')
 (hkO:∀ X g sa sn sg gb w',xs.length≤262144→Isg xs (X.map cmX) g→(∀ S g',Isg xs S g'→X.map cmX=S)→sa.len=X.length→sn.len=X.length→sg.len=X.length →
   St F0 w0 w' (qfb gb (grL sa sn sg) :: qbb 1 sg (ivs .i64 ((ndX X).map fun n=>g n.nm)) :: qbb 20 sa (((ndX X).map Nd.nm).flatMap nmC) :: qbb 42 sn ((ndX X).flatMap ndC) :: qzd (X.map cxA) :: ps)→K (.returned (.tuple ⟨[.pointer (some ⟨gb,0,none⟩),.int .i64 0]⟩)) w') :
 Calls Try.prog 7 ⟨[sV b]⟩ w K:=by
 refine Open_0 h hc hB hkE fun w hl28 hlx he2 h=>?_
 rw [he2] at hkE
 unfold qcb.j1
 refine qp.c (b:=b) (xs:=xs) h hc hB hl28 (by omega) (fun w hn h=>⟨⟨none,0,0⟩,false,rfl,?_⟩) (fun X t w ht hX hrow hXS h=>⟨t,true,rfl,?_⟩)
 · unfold qcb.j2
   exact qzc (fun _=>hkE w (Or.inr hn) h) (fun g=>by cases g)
 unfold qcb.j2
 refine qzc (fun g=>by cases g) (fun _=>?_)
 obtain ⟨pr,hpr⟩:=h.prX (X:=X) fun x hx=>by
  haveI:=quk (F0:=F0) (w0:=w0) (ps:=ps) hx
  exact inferInstance
 have hcm:=qaj hpr
 have hPX:∀ n ∈ ndX X,Rdb F0 w0 n.par (qbb 42 t ((ndX X).flatMap ndC) :: qzd (X.map cxA) :: ps) 20 ((pr n).flatMap nmC):=fun n hn=>by
  obtain ⟨x,hx,rfl⟩:=List.mem_map.1 hn
  rw [hpr x hx]
  haveI:=quk (F0:=F0) (w0:=w0) (ps:=ps) hx
  exact inferInstance
 have hsum:((ndX X).map fun n=>(pr n).length).sum≤200000:=by
  have:((ndX X).map fun n=>(pr n).length)=X.map fun x:Cx=>x.2.length:=by
   unfold ndX
   rw [List.map_map]
   exact List.map_congr_left fun x hx=>by show (pr x.1).length=_; rw [hpr x hx]
  rw [this]
  omega
 have hXl:=qgi X
 refine Build.c (s:=t) (L:=ndX X) (pr:=pr) h (by omega) hsum hPX (fun hno w h=>⟨⟨none,0,0⟩,_,rfl,?_⟩) (fun hok O g w hW hl h=>⟨⟨none,0,0⟩,_,rfl,?_⟩) (fun hok O g w hW hl hl2 h=>⟨⟨none,0,0⟩,_,rfl,?_⟩) (fun hok O g S r w hW hl hl2 hS hris hr h=>⟨r,_,rfl,?_⟩)
 · refine qzc (fun _=>hkE w (Or.inr fun S g hI=>?_) h.drop.drop) (fun g=>by cases g)
   have:=hXS S g hI
   rw [hcm,this] at hno
   exact hno hI.1.ok
 · refine qzc (fun _=>hkE w (Or.inr fun S g' hI=>?_) h.drop.drop) (fun g=>by cases g)
   have:=hXS S g' hI
   rw [hcm,this] at hW
   obtain ⟨O',hW',hl'⟩:=hI.1.full
   have:=wk_len hW hW'
   have:=congrArg List.length (hXS S g' hI)
   rw [List.length_map] at this
   omega
 · refine qzc (fun _=>hkE w (Or.inr fun S g' hI=>?_) h.drop.drop) (fun g=>by cases g)
   have:=congrArg List.length (hXS S g' hI)
   rw [List.length_map] at this
   have:=hI.1.len
   omega
 refine qzc (fun g=>by cases g) (fun _=>?_)
 have hSl:=hS.length_eq
 have hV:Vg (S.map (cmN pr)) g:=by
  have hCp:((ndX X).map (cmN pr)).Perm (S.map (cmN pr)):=(hS.map _).symm
  refine ⟨risC hris,hok.perm hCp,⟨O,?_,by rw [List.length_map]; omega⟩,by rw [List.length_map]; omega⟩
  rw [← fC_perm hok.nd hCp]
  exact hW
 have hBg:qsd (gB (S.map (cmN pr)) g):=gB_ok _ _
 refine qle.c (s:=r) (t:=b) (xs:=gB (S.map (cmN pr)) g) (ys:=xs) h hBg hB ⟨_,rfl,?_⟩
 refine qzc (fun g2=>?_) (fun g2=>?_)
 · have g2:¬ gB (S.map (cmN pr)) g=xs:=by simpa using g2
   refine hkE w (Or.inr fun S' g' hI=>g2 ?_) h.drop.drop.drop
   have e1:=hXS S' g' hI
   have e2:S.map (cmN pr)=S':=by
    refine ltC_eq (risC hris) hI.1.ris ?_
    rw [← e1,← hcm]
    exact hS.map _
   obtain ⟨O',hW',hl'⟩:=hI.1.full
   rw [hcm,e1] at hW
   have hlS:S'.length≤O.length:=by rw [← e2,List.length_map]; omega
   rw [e2,gB_congr (wk_same hW hW' hlS)]
   exact hI.2.symm
 · have g2:gB (S.map (cmN pr)) g=xs:=by simpa using g2
   have hI:Isg xs (S.map (cmN pr)) g:=⟨hV,g2.symm⟩
   have e1:=hXS _ _ hI
   have hn:((ndX X).map (·.id)).Nodup:=qxf.1 (by have:=hok.nd; rwa [qsj] at this)
   have h:St F0 w0 w (qbb 42 t ((ndX X).flatMap ndC) :: qzd (X.map cxA) :: ps):=h.drop
   unfold qcb.j3
   refine Generations.c (s:=t) (pr:=pr) (L:=ndX X) h (by omega) (by omega) hPX (fun e=>absurd hn e) (fun _ O2 G w hE hl2 h=>?_) (fun _ mb O2 G w hE hl2 h=>⟨some mb,0,rfl,?_⟩)
   · exfalso
     have hW2:=wk_rows hn hE
     have:=wk_len hW hW2
     have:=wkE_le hE
     omega
   · have hW2:=wk_rows hn hE
     refine qrb.c (s:=t) (L:=ndX X) h (by omega) fun sa w hsa h=>⟨sa,rfl,?_⟩
     refine h.new fun gb w h=>?_
     have h:St F0 w0 w (qfb gb (grL sa t ⟨none,0,0⟩) :: qbb 20 sa (((ndX X).map Nd.nm).flatMap nmC) :: tmA inV mb G :: qbb 42 t ((ndX X).flatMap ndC) :: qzd (X.map cxA) :: ps):=h
     refine Open_4 (G:=G) (mb:=mb) (L:=ndX X) h (by omega) fun sg w hsg h=>?_
     refine hkO X (gD G) sa t sg gb w hlx ?_ hXS (by omega) ht (by omega) h.sub
     rw [e1]
     have hWS:=hW
     rw [hcm,e1] at hW hW2
     refine ⟨⟨hV.ris,hV.ok,⟨O2,hW2,?_⟩,hV.len⟩,?_⟩
     · have:=wk_len hW hW2
       rw [List.length_map]
       omega
     · rw [← gB_congr (wk_same hW hW2 (by rw [List.length_map]; omega))]
       exact hI.2
end
end Go.Proofs.Ytigmbblgfnkpbaa
namespace Go.Proofs.Ytigmbblgfnkpbaa
open Go Go.Proofs
set_option linter.unusedVariables false
set_option linter.unusedSimpArgs false
attribute [local irreducible] apK cpK mkK br qoe
theorem qjh.congr {A:List Nm} {f f':Nat→Int} {E:Nat} {P Q:Int} {PP:List Nm} (h:qjh A f E P Q PP) (hf:∀ k,k < E→f' k=f k):qjh A f' E P Q PP:=by
 obtain ⟨e,h1,h2,h3⟩:=h.b
 exact ⟨h.ris,h.mem,h.len,h.a,e,h1,h2,fun j hj=>by rw [hf _ (by omega)]; exact h3 j hj⟩
section
variable {F0:List Nat} {w0 w:World} {ps rest:List As} {b s t:Sl} {xs:List Int} {K:Ending→World→Prop}
end
end Go.Proofs.Ytigmbblgfnkpbaa
namespace Go.Proofs.Ytigmbblgfnkpbaa
open Go Go.Proofs Go.ChangeShapes Go.WideShapes Go.Deep
set_option linter.unusedVariables false
set_option linter.unusedSimpArgs false
inductive Sh where
 | int (k:IntKind)
 | str
 | boo
 | fin
 | more (a b:Sh)
 | arr (n:Nat) (a:Sh)
 | slc (a:Sh)
 | stc (c:Sh)
def Sh.sz:Sh→Nat
 | .int _=>1
 | .str=>1
 | .boo=>1
 | .fin=>0
 | .more a b=>a.sz+b.sz
 | .arr n a=>n * a.sz
 | .slc _=>1
 | .stc c=>c.sz
def Sh.ok (w:World):Sh→List Value→Prop
 | .int k,cs=>∃ n,cs=[.int k n]∧(Lit.int k n).wf=true
 | .str,cs=>∃ s:ByteArray,cs=[.string s]
 | .boo,cs=>∃ b,cs=[.bool b]
 | .fin,cs=>cs=[]
 | .more a b,cs=>∃ x y,cs=x ++ y∧a.ok w x∧b.ok w y
 | .arr n a,cs=>∃ L:List (List Value),L.length=n∧cs=L.flatten∧∀ x ∈ L,a.ok w x
 | .slc a,cs=>∃ (s:Sl) (L:List (List Value)),cs=[.slice s.a s.len s.cap]∧s.len≤s.cap∧L.length=s.len∧Rd w a.sz s L.flatten∧∀ x ∈ L,a.ok w x
 | .stc c,cs=>c.ok w cs
section
variable {H:Type} {enc:TypeId × Value→H} {P:Program} {w:World} {base:Nat} {spare:Nat→Bool} {held:Bool}
end
end Go.Proofs.Ytigmbblgfnkpbaa
namespace Go.Proofs.Ytigmbblgfnkpbaa
open Go Go.Proofs
set_option linter.unusedVariables false
set_option linter.unusedSimpArgs false
attribute [local irreducible] apK cpK mkK br qoe
def Nd.set0 (n:Nd) (v:Int) (hv:0≤v∧v < 256):Nd:={ n with id:=n.id.set 0 v,hid:=by rw [List.length_set]; exact n.hid,bid:=fun x hx=>(List.mem_or_eq_of_mem_set hx).elim (n.bid x) fun h=>h ▸ hv }
theorem qyi (n:Nd) (v:Int) (hv:0≤v∧v < 256):(ndC n).set 0 (.int .u8 v)=ndC (n.set0 v hv):=by
 unfold ndC Nd.set0
 rw [List.set_append_left _ _ (by rw [qt,n.hid]; decide),ivs_set]
theorem few_len {C:List Cm} {g:Nm→Int} (h1:C.length≤42) (h2:(C.map fun c=>c.par.length).sum≤900):(gB C g).length≤8000:=by
 have:=qok (xs:=gB C g) (S:=C) (g:=g) rfl
 have:=sum_eG (C.map (·.id)) C
 have:=hcN_34 C
 omega
theorem isg_gB {C0 C:List Cm} {g:Nm→Int} {O:List Nm} (hok:OkC C0) (hW:Wk (fC C0) true O g) (hl:C0.length≤O.length) (hl2:C0.length≤1024) (hp:C0.Perm C) (hs:C.Pairwise ltC):Isg (gB C g) C g:=by
 have:=hp.length_eq
 refine ⟨⟨hs,hok.perm hp,⟨O,?_,by omega⟩,by omega⟩,rfl⟩
 rw [← fC_perm hok.nd hp]
 exact hW
section
variable {F0:List Nat} {w0 w:World} {ps rest:List As} {s t:Sl} {L:List Nd} {pr:Nd→List Nm} {K:Ending→World→Prop}
theorem Build_ok (h:St F0 w0 w ps) [Rdb F0 w0 s ps 42 (L.flatMap ndC)] (hL:L.length≤42) (hsum:(L.map fun n=>(pr n).length).sum≤900) (hP:∀ n ∈ L,Rdb F0 w0 n.par ps 20 ((pr n).flatMap nmC))
 (hok:OkC (L.map (cmN pr))) (hfull:∀ O g,Wk (fC (L.map (cmN pr))) true O g→L.length≤O.length)
 (hk:∀ O g C t w',Wk (fC (L.map (cmN pr))) true O g→(L.map (cmN pr)).Perm C→Isg (gB C g) C g→(gB C g).length≤8000→t.cap=t.len→St F0 w0 w' (rdA 1 t (u8s (gB C g)) :: ps)→K (.returned (.tuple ⟨[sV t,.int .i64 0]⟩)) w') :
 Calls Try.prog 6 ⟨[sV s]⟩ w K:=by
 refine Build.c (pr:=pr) (L:=L) h (by omega) (by omega) hP (fun e=>absurd hok e) (fun _ O g w hW hl h=>?_) (fun _ O g w hW hl hl2 h=>by exfalso; omega) (fun _ O g S t w hW hl hl2 hS hris ht h=>?_)
 · have:=hfull O g hW
   exfalso; omega
 · have hCp:(L.map (cmN pr)).Perm (S.map (cmN pr)):=(hS.map _).symm
   have hSl:=hS.length_eq
   refine hk O g (S.map (cmN pr)) t w hW hCp (isg_gB hok hW (by rw [List.length_map]; omega) (by rw [List.length_map]; omega) hCp (risC hris)) (few_len (by rw [List.length_map]; omega) ?_) ht.2 h
   have e:((S.map (cmN pr)).map fun c=>c.par.length)=S.map fun n=>(pr n).length:=by rw [List.map_map]; rfl
   rw [e,(hS.map fun n=>(pr n).length).sum_nat]
   exact hsum
def zN:Nm:=⟨z20,by refine ⟨rfl,?_⟩; decide⟩
def oN:Nm:=⟨z20.set 0 1,by refine ⟨rfl,?_⟩; decide⟩
def kA:Nd:=ndZ.setD 5
def kB (s:Sl):Nd:=((ndZ.setP s).setD 9).set0 1 (by decide)
def cA:Cm:=⟨zN,zN,[],5⟩
def cB:Cm:=⟨oN,zN,[zN],9⟩
theorem zo_ne:zN ≠ oN:=fun h=>by
 have:=congrArg Subtype.val h
 revert this
 decide
theorem zo_lt:ltI zN.1 oN.1=true:=by decide
theorem known_ok:OkC [cB,cA]:=by
 refine ⟨List.nodup_cons.2 ⟨?_,List.nodup_cons.2 ⟨List.not_mem_nil,List.nodup_nil⟩⟩,fun c hc=>?_,fun c hc p hp=>?_⟩
 · intro h
   have:oN=zN:=by simpa [cA,cB] using h
   exact zo_ne this.symm
 · rcases List.mem_cons.1 hc with rfl | hc
   · exact ⟨by decide,by decide⟩
   · have:c=cA:=by simpa using hc
     subst this
     exact ⟨by decide,by decide⟩
 · rcases List.mem_cons.1 hc with rfl | hc
   · have:p=zN:=by simpa [cB] using hp
     subst this
     simp [cA]
   · have:c=cA:=by simpa using hc
     subst this
     cases hp
theorem f_z:fC [cB,cA] zN=some []:=by
 unfold fC
 rw [List.find?_cons,List.find?_cons]
 have:¬ cB.id=zN:=fun h=>zo_ne h.symm
 simp only [this,decide_false]
 rfl
theorem f_o:fC [cB,cA] oN=some [zN]:=by
 unfold fC
 rw [List.find?_cons]
 have:cB.id=oN:=rfl
 simp only [this,decide_true]
 rfl
theorem known_wk {O:List Nm} {g:Nm→Int} (h:Wk (fC [cB,cA]) true O g):2≤O.length∧g oN=2:=by
 have hz:zN ∈ O:=h.most zN [] f_z rfl (fun p hp=>by cases hp)
 have ho:oN ∈ O:=h.most oN [zN] f_o rfl (fun p hp _=>by
  have:p=zN:=by simpa using hp
  rw [this]; exact hz)
 refine ⟨?_,?_⟩
 · have:=qaf (O:=[zN,oN]) (S:=O) (List.nodup_cons.2 ⟨by simpa using zo_ne,List.nodup_cons.2 ⟨List.not_mem_nil,List.nodup_nil⟩⟩) fun x hx=>by
    rcases List.mem_cons.1 hx with rfl | hx
    · exact hz
    · have:x=oN:=by simpa using hx
      rw [this]; exact ho
   exact this
 · have e1:=h.gens zN [] hz f_z
   have e2:=h.gens oN [zN] ho f_o
   rw [mxF] at e1
   rw [mxF,if_pos hz,mxF,e1] at e2
   rw [e2]
   decide
end
end Go.Proofs.Ytigmbblgfnkpbaa
namespace Go.Proofs.Ytigmbblgfnkpbaa
open Go Go.Proofs
set_option linter.unusedVariables false
set_option linter.unusedSimpArgs false
attribute [local irreducible] apK cpK mkK br qoe
theorem nilRd {F0:List Nat} {w0:World} {ps:List As}:Rdb F0 w0 ⟨none,0,0⟩ ps 20 (([]:List Nm).flatMap nmC):=⟨fun h=>⟨rfl,fun i hi=>by simp at hi⟩⟩
section
variable {F0:List Nat} {w0 w:World} {ps rest:List As} {K:Ending→World→Prop}
theorem quc.c (h:St F0 w0 w ps) (hk:∀ w',St F0 w0 w' ps→K (.returned (.bool true)) w'):Calls Try.prog 5 ⟨[]⟩ w K:=by
 have lenC:∀ p:Nm,(nmC p).length=20:=fun p=>(inferInstance:Rec nmC 20).len p
 refine qnb (quc.ok _ _ ?_)
 unfold quc
 rw [qmd]
 have ea:List.set (⟨ndC ndZ⟩:Array Value).toList 41 (.int .i64 5)=ndC kA:=qph ndZ 5
 rw [ea]
 refine h.new fun ab w h=>?_
 have h:St F0 w0 w (qfb ab (ndC ndZ) :: ps):=h
 refine ⟨qz _,?_⟩
 refine h.setR (f:=ndC) (x:=kA) (qz _) fun w h=>?_
 refine ⟨rfl,?_⟩
 refine h.new fun zb w h=>?_
 have h:St F0 w0 w (qfb zb (nmC zN) :: qfb ab (ndC kA) :: ps):=h
 refine h.new fun bb w h=>?_
 have h:St F0 w0 w (qfb bb (ndC ndZ) :: qfb zb (nmC zN) :: qfb ab (ndC kA) :: ps):=h
 have eb:List.set (List.set (⟨ndC ndZ⟩:Array Value).toList 40 (.slice (some ⟨zb,0,none⟩) 1 1)) 41 (.int .i64 9)=ndC ((ndZ.setP ⟨some ⟨zb,0,none⟩,1,1⟩).setD 9):=by
  rw [← qph,← qvg]
 rw [eb]
 refine ⟨qz _,?_⟩
 refine h.setR (f:=ndC) (x:=(ndZ.setP ⟨some ⟨zb,0,none⟩,1,1⟩).setD 9) (qz _) fun w h=>?_
 rw [qjc]
 refine qlk (by decide) (by decide) ?_
 refine h.st (by rw [qz]; decide) trivial fun w h=>?_
 have h:St F0 w0 w (qfb bb (ndC (kB ⟨some ⟨zb,0,none⟩,1,1⟩)) :: qfb zb (nmC zN) :: qfb ab (ndC kA) :: ps):=by
  have e:=qyi ((ndZ.setP ⟨some ⟨zb,0,none⟩,1,1⟩).setD 9) 1 (by decide)
  unfold kB
  rw [← e]
  exact h
 refine h.lA (b:=bb) (qz _) ?_
 refine h.lA (b:=ab) (qz _) ⟨qz _,qz _,?_⟩
 have e2:spl (spl (qie 2 (⟨ndC ndZ⟩:Array Value).toList) 0 ⟨ndC (kB ⟨some ⟨zb,0,none⟩,1,1⟩)⟩) 42 ⟨ndC kA⟩=[kB ⟨some ⟨zb,0,none⟩,1,1⟩,kA].flatMap ndC:=by
  have hr:qie 2 (⟨ndC ndZ⟩:Array Value).toList=ndC ndZ ++ ndC ndZ:=by
   show ndC ndZ ++ (ndC ndZ ++ [])=_
   rw [List.append_nil]
  have h1:=qz ndZ
  have h2:=qz (kB ⟨some ⟨zb,0,none⟩,1,1⟩)
  have h3:=qz kA
  rw [hr,spl_eq _ 0 _ (by rw [List.length_append]; omega),List.take_zero,List.nil_append,Nat.zero_add,h2,List.drop_left' h1]
  rw [spl_eq _ 42 _ (by rw [List.length_append]; omega),List.take_left' h2,h3,List.drop_eq_nil_of_le (by rw [List.length_append]; omega),List.append_nil]
  show _=ndC _ ++ (ndC _ ++ [])
  rw [List.append_nil]
 rw [e2]
 refine h.new fun lb w h=>?_
 have h:St F0 w0 w (qfb lb ([kB ⟨some ⟨zb,0,none⟩,1,1⟩,kA].flatMap ndC) :: qfb bb (ndC (kB ⟨some ⟨zb,0,none⟩,1,1⟩)) :: qfb zb (nmC zN) :: qfb ab (ndC kA) :: ps):=h
 have h:St F0 w0 w (qbb 42 ⟨some ⟨lb,0,none⟩,2,2⟩ ([kB ⟨some ⟨zb,0,none⟩,1,1⟩,kA].flatMap ndC) :: qfb bb (ndC (kB ⟨some ⟨zb,0,none⟩,1,1⟩)) :: qfb zb (nmC zN) :: qfb ab (ndC kA) :: ps):=h.ownBR (n:=2) (by rw [qoc]; rfl)
 have h:St F0 w0 w (qbb 20 ⟨some ⟨zb,0,none⟩,1,1⟩ ([zN].flatMap nmC) :: qbb 42 ⟨some ⟨lb,0,none⟩,2,2⟩ ([kB ⟨some ⟨zb,0,none⟩,1,1⟩,kA].flatMap ndC) :: qfb bb (ndC (kB ⟨some ⟨zb,0,none⟩,1,1⟩)) :: ps):=by
  have h2:St F0 w0 w (qfb zb (nmC zN) :: qbb 42 ⟨some ⟨lb,0,none⟩,2,2⟩ ([kB ⟨some ⟨zb,0,none⟩,1,1⟩,kA].flatMap ndC) :: qfb bb (ndC (kB ⟨some ⟨zb,0,none⟩,1,1⟩)) :: ps):=h.sub
  rw [qeh]
  exact h2.ownBR (n:=1) (lenC _)
 obtain ⟨pr,hpr⟩:=h.prX (X:=[(kB ⟨some ⟨zb,0,none⟩,1,1⟩,[zN]),(kA,[])]) fun x hx=>by
  rcases List.mem_cons.1 hx with rfl | hx
  · show Rdb F0 w0 (⟨some ⟨zb,0,none⟩,1,1⟩:Sl) _ 20 ([zN].flatMap nmC)
    infer_instance
  · have:x=(kA,[]):=by simpa using hx
    subst this
    exact nilRd
 have p1:pr (kB ⟨some ⟨zb,0,none⟩,1,1⟩)=[zN]:=hpr (kB ⟨some ⟨zb,0,none⟩,1,1⟩,[zN]) List.mem_cons_self
 have p2:pr kA=[]:=hpr (kA,[]) (List.mem_cons_of_mem _ List.mem_cons_self)
 have hcm:[kB ⟨some ⟨zb,0,none⟩,1,1⟩,kA].map (cmN pr)=[cB,cA]:=by
  show [(⟨_,_,pr _,_⟩:Cm),⟨_,_,pr _,_⟩]=_
  rw [p1,p2]
  rfl
 have hPL:∀ n ∈ [kB ⟨some ⟨zb,0,none⟩,1,1⟩,kA],Rdb F0 w0 n.par (qbb 20 ⟨some ⟨zb,0,none⟩,1,1⟩ ([zN].flatMap nmC) :: qbb 42 ⟨some ⟨lb,0,none⟩,2,2⟩ ([kB ⟨some ⟨zb,0,none⟩,1,1⟩,kA].flatMap ndC) :: qfb bb (ndC (kB ⟨some ⟨zb,0,none⟩,1,1⟩)) :: ps) 20 ((pr n).flatMap nmC):=fun n hn=>by
  rcases List.mem_cons.1 hn with rfl | hn
  · rw [p1]
    show Rdb F0 w0 (⟨some ⟨zb,0,none⟩,1,1⟩:Sl) _ 20 ([zN].flatMap nmC)
    infer_instance
  · have:n=kA:=by simpa using hn
    subst this
    rw [p2]
    exact nilRd
 refine Build_ok (pr:=pr) (s:=⟨some ⟨lb,0,none⟩,2,2⟩) (L:=[kB ⟨some ⟨zb,0,none⟩,1,1⟩,kA]) h (by show 2≤42; decide) (by simp [p1,p2]) hPL (by rw [hcm]; exact known_ok) (fun O g hW=>by rw [hcm] at hW; exact (known_wk hW).1) fun O g C t w hW hp hI hl8 htc h=>⟨t,0,rfl,?_⟩
 rw [hcm] at hW hp
 have hAB:[cA,cB].Pairwise ltC:=by
  refine List.pairwise_cons.2 ⟨fun c hc=>?_,List.pairwise_cons.2 ⟨fun c hc=>(by cases hc),List.Pairwise.nil⟩⟩
  have:c=cB:=by simpa using hc
  subst this
  exact zo_lt
 have eC:C=[cA,cB]:=ltC_eq hI.1.ris hAB (hp.symm.trans (.swap _ _ _))
 subst eC
 have hg:=(known_wk hW).2
 refine qcb.c (b:=t) (xs:=gB [cA,cB] g) h (by omega) (gB_ok _ _) (fun w hE h=>?_) (fun X g2 sa sn sg gb w _ hI2 hone hsa hsn hsg h=>⟨some ⟨gb,0,none⟩,0,rfl,?_⟩)
 · exfalso
   rcases hE with hE | hE
   · omega
   · exact hE _ _ hI
 have hX:=hone _ _ hI
 have hXl:X.length=2:=by
  have:=congrArg List.length hX
  simpa using this
 rw [hX] at hI2
 have hg2:g2 oN=2:=by
  obtain ⟨O2,hW2,_⟩:=hI2.1.full
  have hpe:fC [cB,cA]=fC [cA,cB]:=fC_perm known_ok.nd (.swap _ _ _)
  rw [← hpe] at hW2
  exact (known_wk hW2).2
 obtain ⟨pr2,hpr2⟩:=h.prX (X:=X) fun x hx=>by
  haveI:∀ qs,Rdb F0 w0 x.1.par (qzd (X.map cxA) :: qs) 20 (x.2.flatMap nmC):=fun qs=>quk hx
  exact inferInstance
 have hcm2:=qaj hpr2
 rw [hX] at hcm2
 have hnm:(ndX X).map Nd.nm=[zN,oN]:=by
  rw [← qsj pr2,hcm2]
  rfl
 have hNl:(ndX X).length=2:=by rw [qgi]; exact hXl
 have h1:cmN pr2 ((ndX X)[1]'(by omega))=cB:=by
  have:((ndX X).map (cmN pr2))[1]?=some cB:=by rw [hcm2]; rfl
  rw [List.getElem?_map,List.getElem?_eq_getElem (by omega)] at this
  simpa using this
 have hA:Ris ((ndX X).map Nd.nm):=by
  rw [hnm]
  exact List.pairwise_cons.2 ⟨fun c hc=>(by have:c=oN:=by simpa using hc
                                            subst this
                                            exact zo_lt),List.pairwise_cons.2 ⟨fun c hc=>(by cases hc),List.Pairwise.nil⟩⟩
 have hpl2:∀ n ∈ ndX X,(pr2 n).length≤1000000:=fun n hn=>by
  have:cmN pr2 n ∈ [cA,cB]:=by rw [← hcm2]; exact List.mem_map.2 ⟨n,hn,rfl⟩
  have e:(cmN pr2 n).par=pr2 n:=rfl
  rcases List.mem_cons.1 this with h2 | h2
  · rw [← e,h2]; exact Nat.zero_le _
  · have h2:cmN pr2 n=cB:=by simpa using h2
    rw [← e,h2]; show 1≤_; decide
 have hPX:∀ qs,∀ n ∈ ndX X,Rdb F0 w0 n.par (qzd (X.map cxA) :: qs) 20 ((pr2 n).flatMap nmC):=fun qs n hn=>by
  obtain ⟨x,hx,rfl⟩:=List.mem_map.1 hn
  rw [hpr2 x hx]
  exact quk hx
 refine qw (e':=0) rfl ?_
 refine qzc (fun g=>by cases g) (fun _=>?_)
 refine qzc (fun g=>by cases g) (fun _=>?_)
 refine (h.toB bb).blk.ldIdN ?_
 refine Graph_Find.c (gb:=gb) (sa:=sa) (sn:=sn) (sg:=sg) (L:=ndX X) (q:=oN) h hA (by omega) fun w h=>⟨_,_,rfl,?_⟩
 have hpo:qqe [zN,oN] oN=1:=by
  rw [qqe,zo_lt]
  simp only [if_true]
  rw [qqe,qqf]
  rfl
 rw [hnm,if_pos (by simp),hpo,decide_eq_true (by simp:oN ∈ [zN,oN])]
 refine Graph_Node.c (gb:=gb) (sa:=sa) (sn:=sn) (sg:=sg) (pr:=pr2) (L:=ndX X) (i:=1) h hpl2 (fun n hn=>by haveI:=fun qs=>hPX qs n hn; infer_instance) (fun hno=>absurd ⟨by decide,by omega⟩ hno) (fun hi _ tt w htt h=>⟨_,_,rfl,?_⟩)
 have e1:(ndX X)[(1:Int).toNat]=(ndX X)[1]'(by omega):=rfl
 rw [e1] at htt h ⊢
 generalize hn1:(ndX X)[1]'(by omega)=n1 at h1 htt h ⊢
 have hd1:n1.date=9:=congrArg Cm.date h1
 have hp1:pr2 n1=[zN]:=congrArg Cm.par h1
 refine h.new fun nb w h=>?_
 have h:St F0 w0 w (qfb nb (ndC ndZ) :: rdA 20 tt ((pr2 n1).flatMap nmC) :: qfb gb (grL sa sn sg) :: qbb 1 sg (ivs .i64 ((ndX X).map fun n=>g2 n.nm)) :: qbb 20 sa (((ndX X).map Nd.nm).flatMap nmC) :: qbb 42 sn ((ndX X).flatMap ndC) :: qzd (X.map cxA) :: rdA 1 t (u8s (gB [cA,cB] g)) :: qbb 20 ⟨some ⟨zb,0,none⟩,1,1⟩ ([zN].flatMap nmC) :: qbb 42 ⟨some ⟨lb,0,none⟩,2,2⟩ ([kB ⟨some ⟨zb,0,none⟩,1,1⟩,kA].flatMap ndC) :: qfb bb (ndC (kB ⟨some ⟨zb,0,none⟩,1,1⟩)) :: ps):=h
 refine ⟨qz _,?_⟩
 refine h.setR (f:=ndC) (x:=n1.setP tt) (qz _) fun w h=>?_
 refine Graph_Parents.c (gb:=gb) (sa:=sa) (sn:=sn) (sg:=sg) (pr:=pr2) (L:=ndX X) (i:=1) h hA (by omega) hpl2 (fun n hn=>by haveI:=fun qs=>hPX qs n hn; infer_instance) (fun hno=>absurd ⟨by decide,by omega⟩ hno) (fun hi _ u w hu h=>⟨u,rfl,?_⟩)
 have e1:(ndX X)[(1:Int).toNat]=(ndX X)[1]'(by omega):=rfl
 rw [e1,hn1,hp1] at hu h
 have hpz:qqe [zN,oN] zN=0:=by rw [qqe,qqf]; rfl
 rw [hnm] at h
 have eu:[zN].map (fun p=>(qqe [zN,oN] p:Int))=[0]:=by rw [List.map_cons,List.map_nil,hpz]; rfl
 rw [eu] at h
 refine qzc (fun _=>?_) (fun g=>by cases g)
 refine qzc (fun _=>?_) (fun g=>by cases g)
 refine qzc (fun _=>?_) (fun g=>by cases g)
 refine Graph_Generation.c (gb:=gb) (sa:=sa) (sn:=sn) (sg:=sg) (gl:=(ndX X).map fun n:Nd=>g2 n.nm) (i:=1) h (by rw [List.length_map,hNl]; omega) fun w h=>⟨_,rfl,?_⟩
 have eg:(if 0≤(1:Int)∧(1:Int) < (sn.len:Int) then ((ndX X).map fun n:Nd=>g2 n.nm).getD (1:Int).toNat 0 else 0)=2:=by
  rw [if_pos ⟨by decide,by omega⟩]
  show ((ndX X).map fun n:Nd=>g2 n.nm).getD 1 0=2
  rw [List.getD_eq_getElem?_getD,List.getElem?_map,List.getElem?_eq_getElem (by omega),hn1]
  show g2 n1.nm=2
  have:n1.nm=oN:=congrArg Cm.id h1
  rw [this]; exact hg2
 rw [eg]
 refine qzc (fun _=>?_) (fun g=>by cases g)
 refine (h.toB nb).blk.ldDate ?_
 refine qzc (fun _=>?_) (fun g=>by exfalso; have:(n1.setP tt).date=9:=hd1; rw [this] at g; cases g)
 have hu1:u.len=1:=hu
 refine qzc (fun _=>?_) (fun g=>by exfalso; rw [hu1] at g; cases g)
 refine h.lx (s:=u) (zs:=[0]) 0 rfl (by decide) ?_
 refine qzc (fun _=>?_) (fun g=>by cases g)
 refine Graph_Len.c (gb:=gb) (sa:=sa) (sn:=sn) (sg:=sg) h ⟨_,rfl,?_⟩
 refine qzc (fun _=>?_) (fun g=>by exfalso; rw [hsa,hXl] at g; cases g)
 refine h.lA (b:=bb) (qz _) ⟨qz _,?_⟩
 rw [qde (by rw [qz]; rfl)]
 refine h.new fun cb w h=>?_
 have h:St F0 w0 w (qfb cb (ndC (kB ⟨some ⟨zb,0,none⟩,1,1⟩)) :: _):=h
 have h:=St.mp (p':=qbb 42 ⟨some ⟨cb,0,none⟩,1,1⟩ ([kB ⟨some ⟨zb,0,none⟩,1,1⟩].flatMap ndC)) (h.ownBR (sz:=42) (n:=1) (qz _)) (fun F hF=>by rw [qeh]; exact hF)
 have hfe:qcc [kB ⟨some ⟨zb,0,none⟩,1,1⟩]=rowsN [kB ⟨some ⟨zb,0,none⟩,1,1⟩]:=quh (by simp)
 refine qeb.c (s:=⟨some ⟨cb,0,none⟩,1,1⟩) (L:=[kB ⟨some ⟨zb,0,none⟩,1,1⟩]) (pr:=pr) h (by show 1≤_; decide) (by rw [hfe]; exact own_rows _) (by rw [hfe]; simp [rowsN,p1]) (fun e he=>?_) (by rw [hfe]; show 1≤_; decide) fun O G tw R tR w hE htw hiff hnd hR hs htR h=>⟨tR,rfl,?_⟩
 · rw [hfe] at he
   have:e=((kB ⟨some ⟨zb,0,none⟩,1,1⟩).id,kB ⟨some ⟨zb,0,none⟩,1,1⟩):=by simpa [rowsN] using he
   subst this
   simp only
   rw [p1]
   show Rdb F0 w0 (⟨some ⟨zb,0,none⟩,1,1⟩:Sl) _ 20 ([zN].flatMap nmC)
   infer_instance
 · have hW3:=hE.wk
   have hf3:(fun k:Nm=>(lkE (qcc [kB ⟨some ⟨zb,0,none⟩,1,1⟩]) k.1).map pr)=fC [cB]:=by
    rw [fC_first]
    show fC [(⟨_,_,pr _,_⟩:Cm)]=_
    rw [p1]
    rfl
   rw [hf3] at hW3
   have hO:∀ q,q ∉ O:=fun q hq=>by
    obtain ⟨qs,k1,k2,_⟩:=hW3.en.dom q hq
    have hqo:q=oN:=by
     have:(fC [cB] q).isSome=true:=by rw [k1]; rfl
     rw [qpg] at this
     simpa [cB] using this
    subst hqo
    have e3:fC [cB] oN=some [zN]:=by
     unfold fC
     rw [List.find?_cons]
     have:cB.id=oN:=rfl
     simp only [this,decide_true]
     rfl
    rw [e3] at k1
    injection k1 with k1
    subst k1
    have:(fC [cB] zN).isSome=true:=by
     unfold fineF at k2
     simpa using k2
    rw [qpg] at this
    have:zN=oN:=by simpa [cB] using this
    exact zo_ne this
   have htw0:tw=[]:=by
    cases tw with
    | nil=>rfl
    | cons x tw =>
      exfalso
      have hx:=htw x (by simp)
      have:x.1.nm ∈ O:=(hiff x.1.nm).1 (by simp; exact Or.inl rfl)
      exact hO _ this
   subst htw0
   have hR0:R=[]:=List.Perm.eq_nil hR
   rw [hR0] at htR
   show K (.returned (.bool ((tR.len:Int) == 0))) w
   rw [htR]
   exact hk w h.sub
end
end Go.Proofs.Ytigmbblgfnkpbaa
namespace Go.Proofs.Ytigmbblgfnkpbaa
open Go Go.Proofs
set_option linter.unusedVariables false
set_option linter.unusedSimpArgs false
attribute [local irreducible] apK cpK mkK br qoe
section
variable {F0:List Nat} {w0 w:World} {ps rest:List As} {s t:Sl} {X:List Cx} {K:Ending→World→Prop} {q:Nm} {pr:Nd→List Nm}
theorem bag_pr (h:St F0 w0 w (qzd (X.map cxA) :: ps)):∃ pr:Nd→List Nm,(ndX X).map (cmN pr)=X.map cmX∧(∀ qs,∀ n ∈ ndX X,Rdb F0 w0 n.par (qzd (X.map cxA) :: qs) 20 ((pr n).flatMap nmC)):=by
 obtain ⟨pr,hpr⟩:=h.prX (X:=X) fun x hx=>by
  haveI:=quk (F0:=F0) (w0:=w0) (ps:=ps) hx
  exact inferInstance
 refine ⟨pr,qaj hpr,fun qs n hn=>?_⟩
 obtain ⟨x,hx,rfl⟩:=List.mem_map.1 hn
 rw [hpr x hx]
 exact quk hx
theorem par_sum {L:List Nd} {C:List Cm} (h:L.map (cmN pr)=C):(L.map fun n=>(pr n).length).sum=(C.map fun c=>c.par.length).sum:=by
 rw [← h,List.map_map]
 rfl
end
end Go.Proofs.Ytigmbblgfnkpbaa
namespace Go.Proofs.Ytigmbblgfnkpbaa
open Go Go.Proofs
set_option linter.unusedVariables false
set_option linter.unusedSimpArgs false
attribute [local irreducible] apK cpK mkK br qoe
theorem sum_of {α:Type} {f:α→Nat} {k:Nat}:∀ {L:List α},(∀ n ∈ L,f n≤k)→(L.map f).sum≤L.length * k:=by
 intro L
 induction L with
 | nil=>intro _; simp
 | cons e E ih =>
   intro h
   have h1:=h e List.mem_cons_self
   have h2:=ih fun x hx=>h x (List.mem_cons_of_mem _ hx)
   rw [List.map_cons,List.sum_cons,List.length_cons,Nat.add_mul]
   omega
end Go.Proofs.Ytigmbblgfnkpbaa
namespace Go.Proofs.Ytigmbblgfnkpbaa
open Go Go.Proofs
set_option linter.unusedVariables false
set_option linter.unusedSimpArgs false
attribute [local irreducible] apK cpK mkK br qoe
theorem kN_ok (k:Nat):idOk (z20.set 0 ((k % 256:Nat):Int)):=by
 refine ⟨rfl,fun x hx=>?_⟩
 have hx:x ∈ ((k % 256:Nat):Int) :: List.replicate 19 0:=hx
 rcases List.mem_cons.1 hx with rfl | hx
 · omega
 · have:=List.eq_of_mem_replicate hx
   omega
def kN (k:Nat):Nm:=⟨z20.set 0 ((k % 256:Nat):Int),kN_ok k⟩
theorem kN_val (k:Nat):(kN k).1=((k % 256:Nat):Int) :: List.replicate 19 0:=rfl
theorem kN_inj {a b:Nat} (ha:a < 256) (hb:b < 256) (h:kN a=kN b):a=b:=by
 have:=congrArg Subtype.val h
 rw [kN_val,kN_val] at this
 injection this with h1
 omega
def nmI (j:Nat):Nm:=kN (200 - j)
theorem nmI_inj {a b:Nat} (ha:a≤100) (hb:b≤100) (h:nmI a=nmI b):a=b:=by
 have:=kN_inj (by omega) (by omega) h
 omega
def mxI (gl:List Int):List Nat→Int
 | []=>0
 | p :: ps=>max (gl.getD p 0) (mxI gl ps)
theorem mxI_grow {gl:List Int} {v:Int}:∀ {P:List Nat},(∀ p ∈ P,p < gl.length)→mxI (gl ++ [v]) P=mxI gl P:=by
 intro P
 induction P with
 | nil=>intro _; rfl
 | cons p P ih =>
   intro h
   rw [mxI,ih fun q hq=>h q (List.mem_cons_of_mem _ hq),mxI]
   have:=h p List.mem_cons_self
   rw [List.getD_eq_getElem?_getD,List.getElem?_append_left this,← List.getD_eq_getElem?_getD]
theorem mxI_bd {gl:List Int} {k:Nat}:∀ {P:List Nat},(∀ p ∈ P,0≤gl.getD p 0∧gl.getD p 0≤k)→0≤mxI gl P∧mxI gl P≤k:=by
 intro P
 induction P with
 | nil=>intro _; exact ⟨Int.le_refl _,by simp [mxI]⟩
 | cons p P ih =>
   intro h
   have h1:=h p List.mem_cons_self
   have h2:=ih fun q hq=>h q (List.mem_cons_of_mem _ hq)
   rw [mxI]
   omega
structure Grow (T:List (List Nat)) (gl:List Int):Prop where
 len:gl.length=T.length
 lt:∀ j (h:j < T.length),∀ p ∈ T[j],p < j
 few:∀ j (h:j < T.length),T[j].length≤10
 gen:∀ j (h:j < T.length),gl.getD j 0=mxI gl T[j]+1
 bd:∀ j (h:j < T.length),1≤gl.getD j 0∧gl.getD j 0≤j+1
theorem Grow.nil:Grow [] []:=⟨rfl,fun j h=>by simp at h,fun j h=>by simp at h,fun j h=>by simp at h,fun j h=>by simp at h⟩
theorem qsh {α:Type} {l:List α} {v d:α} {j:Nat} (h:j < l.length):(l ++ [v]).getD j d=l.getD j d:=by
 rw [List.getD_eq_getElem?_getD,List.getElem?_append_left h,← List.getD_eq_getElem?_getD]
theorem qth {α:Type} {l:List α} {v d:α}:(l ++ [v]).getD l.length d=v:=by
 rw [List.getD_eq_getElem?_getD,List.getElem?_append_right (Nat.le_refl _),Nat.sub_self]
 rfl
theorem Grow.snoc {T:List (List Nat)} {gl:List Int} (h:Grow T gl) {P:List Nat} (hP:∀ p ∈ P,p < T.length) (hf:P.length≤10):Grow (T ++ [P]) (gl ++ [mxI gl P+1]):=by
 have hl:=h.len
 have hb:=mxI_bd (gl:=gl) (k:=T.length) (P:=P) fun p hp=>by
  have:=h.bd p (hP p hp)
  have:=hP p hp
  omega
 have sp:∀ j (hj:j < (T ++ [P]).length),(∃ hj':j < T.length,(T ++ [P])[j]=T[j]) ∨ (j=T.length∧(T ++ [P])[j]=P):=fun j hj=>by
  by_cases g:j < T.length
  · exact Or.inl ⟨g,List.getElem_append_left g⟩
  · have:j=T.length:=by simp at hj; omega
    subst this
    exact Or.inr ⟨rfl,by simp⟩
 refine ⟨by simp [hl],fun j hj p hp=>?_,fun j hj=>?_,fun j hj=>?_,fun j hj=>?_⟩
 · rcases sp j hj with ⟨g,e⟩ | ⟨rfl,e⟩
   · rw [e] at hp; exact h.lt j g p hp
   · rw [e] at hp; exact hP p hp
 · rcases sp j hj with ⟨g,e⟩ | ⟨rfl,e⟩
   · rw [e]; exact h.few j g
   · rw [e]; exact hf
 · rcases sp j hj with ⟨g,e⟩ | ⟨rfl,e⟩
   · rw [e,qsh (by omega),mxI_grow fun p hp=>by have:=h.lt j g p hp; omega]
     exact h.gen j g
   · rw [e,← hl,qth,mxI_grow fun p hp=>by have:=hP p hp; omega]
 · rcases sp j hj with ⟨g,e⟩ | ⟨rfl,e⟩
   · rw [qsh (by omega)]; exact h.bd j g
   · rw [← hl,qth]; omega
def rowC (T:List (List Nat)) (j:Nat):Cm:=⟨nmI j,zN,(T.getD j []).map nmI,0⟩
def rowsC (T:List (List Nat)):List Cm:=(List.range T.length).map (rowC T)
theorem rowsC_len (T:List (List Nat)):(rowsC T).length=T.length:=by simp [rowsC]
theorem qej (T:List (List Nat)):(rowsC T).map (·.id)=(List.range T.length).map nmI:=by
 unfold rowsC
 rw [List.map_map]
 rfl
section
variable {T:List (List Nat)} {gl:List Int}
theorem ids_nodup {n:Nat} (h:n≤31):((List.range n).map nmI).Nodup:=by
 unfold List.Nodup
 rw [List.pairwise_map]
 refine List.Pairwise.imp_of_mem ?_ List.nodup_range
 intro a b ha hb hab e
 have h1:=List.mem_range.1 ha
 have h2:=List.mem_range.1 hb
 exact hab (nmI_inj (by omega) (by omega) e)
theorem mem_ids {n j:Nat} (h:j < n):nmI j ∈ (List.range n).map nmI:=List.mem_map.2 ⟨j,List.mem_range.2 h,rfl⟩
theorem Grow.ok (h:Grow T gl) (hn:T.length≤31):OkC (rowsC T):=by
 refine ⟨by rw [qej]; exact ids_nodup hn,fun c hc=>?_,fun c hc p hp=>?_⟩
 · obtain ⟨j,hj,rfl⟩:=List.mem_map.1 hc
   exact ⟨by show (0:Int)≤0; decide,by show (0:Int) < 17179869184; decide⟩
 · obtain ⟨j,hj,rfl⟩:=List.mem_map.1 hc
   have hj:=List.mem_range.1 hj
   have hp:p ∈ (T.getD j []).map nmI:=hp
   rw [List.getD_eq_getElem?_getD,List.getElem?_eq_getElem hj] at hp
   obtain ⟨q,hq,rfl⟩:=List.mem_map.1 hp
   rw [qej]
   exact mem_ids (by have:=h.lt j hj q hq; omega)
theorem Grow.fst (h:Grow T gl) (hn:T.length≤31) {j:Nat} (hj:j < T.length):fC (rowsC T) (nmI j)=some (T[j].map nmI):=by
 have hm:rowC T j ∈ rowsC T:=List.mem_map.2 ⟨j,List.mem_range.2 hj,rfl⟩
 have:=qmj (h.ok hn).nd hm
 rw [qqk]
 have e:(rowC T j).id=nmI j:=rfl
 rw [e] at this
 rw [this]
 show some ((T.getD j []).map nmI)=_
 rw [List.getD_eq_getElem?_getD,List.getElem?_eq_getElem hj]
 rfl
theorem Grow.en (h:Grow T gl) (hn:T.length≤31) (lost:Bool):EnF (fC (rowsC T)) lost ((List.range T.length).map nmI):=by
 have:∀ k,k≤T.length→EnF (fC (rowsC T)) lost ((List.range k).map nmI):=by
  intro k
  induction k with
  | zero=>intro _; exact .nil
  | succ k ih =>
    intro hk
    rw [List.range_succ,List.map_append,List.map_singleton]
    refine .snoc (ih (by omega)) (ps:=T[k].map nmI) (h.fst hn hk) ?_ fun p hp _=>?_
    · unfold fineF
      cases lost with
      | true=>rfl
      | false =>
        rw [Bool.false_or,List.all_eq_true]
        intro p hp
        obtain ⟨q,hq,rfl⟩:=List.mem_map.1 hp
        have:=h.lt k hk q hq
        rw [h.fst hn (j:=q) (by omega)]
        rfl
    · obtain ⟨q,hq,rfl⟩:=List.mem_map.1 hp
      exact mem_ids (h.lt k hk q hq)
 exact this _ (Nat.le_refl _)
def gR (gl:List Int) (q:Nm):Int:=gl.getD (200 - (q.1.headD 0).toNat) 0
theorem gR_nm {j:Nat} (h:j≤100):gR gl (nmI j)=gl.getD j 0:=by
 unfold gR nmI
 rw [kN_val]
 show gl.getD (200 - ((((200 - j) % 256:Nat):Int)).toNat) 0=_
 congr 1
 omega
theorem mx_eq {O:List Nm}:∀ {P:List Nat},(∀ p ∈ P,p≤100∧nmI p ∈ O)→max 1 (mxF (gR gl) O (P.map nmI))=mxI gl P+1:=by
 intro P
 induction P with
 | nil=>intro _; rfl
 | cons p P ih =>
   intro h
   obtain ⟨h1,h2⟩:=h p List.mem_cons_self
   have:=ih fun q hq=>h q (List.mem_cons_of_mem _ hq)
   rw [List.map_cons,mxF,if_pos h2,gR_nm h1,mxI]
   omega
theorem Grow.wk (h:Grow T gl) (hn:T.length≤31):Wk (fC (rowsC T)) true ((List.range T.length).map nmI) (gR gl):=by
 refine ⟨ids_nodup hn,h.en hn true,fun k ps hk _ _=>?_,fun c ps hc hp=>?_⟩
 · have:(fC (rowsC T) k).isSome=true:=by rw [hk]; rfl
   rw [qpg,qej] at this
   exact this
 · obtain ⟨j,hj,rfl⟩:=List.mem_map.1 hc
   have hj:=List.mem_range.1 hj
   rw [h.fst hn hj] at hp
   injection hp with hp
   rw [← hp,gR_nm (by omega),mx_eq (gl:=gl) fun p hp=>by
    have:=h.lt j hj p hp
    exact ⟨by omega,mem_ids (by omega)⟩]
   exact h.gen j hj
theorem Grow.sum (h:Grow T gl) (hn:T.length≤31):((rowsC T).map fun c=>c.par.length).sum≤310:=by
 have:=sum_of (f:=fun c:Cm=>c.par.length) (L:=rowsC T) (k:=10) fun c hc=>by
  obtain ⟨j,hj,rfl⟩:=List.mem_map.1 hc
  have hj:=List.mem_range.1 hj
  show ((T.getD j []).map nmI).length≤10
  rw [List.length_map,List.getD_eq_getElem?_getD,List.getElem?_eq_getElem hj]
  exact h.few j hj
 rw [rowsC_len] at this
 omega
end
end Go.Proofs.Ytigmbblgfnkpbaa
namespace Go.Proofs.Ytigmbblgfnkpbaa
open Go Go.Proofs
set_option linter.unusedVariables false
set_option linter.unusedSimpArgs false
attribute [local irreducible] apK cpK mkK br qoe
def pN (n tn i:Nat):Nm:=kN (2 * ((i+tn % n) % n)+1)
def PN (n tn:Nat):List Nm:=(List.range n).map (pN n tn)
theorem qzh (n tn:Nat):(PN n tn).length=n:=by simp [PN]
def rowM (j:Nat):Cm:=⟨kN (2 * j+1),zN,[],j⟩
def cM (n tn:Nat):Cm:=⟨kN 20,zN,PN n tn,17179869183⟩
def dM (n tn:Nat):Cm:=⟨kN 21,zN,kN 20 :: PN n tn,0⟩
def endM (n tn:Nat):List Cm:=if n < 10 then [dM n tn] else []
def CM (n tn:Nat):List Cm:=(List.range n).map rowM ++ cM n tn :: endM n tn
theorem endM_mem {n tn:Nat} {c:Cm} (h:c ∈ endM n tn):n < 10∧c=dM n tn:=by
 unfold endM at h
 split at h
 · exact ⟨by assumption,by simpa using h⟩
 · cases h
section
variable {n tn:Nat} {O:List Nm} {g:Nm→Int}
theorem CM_mem {c:Cm} (h:c ∈ CM n tn):(∃ j,j < n∧c=rowM j) ∨ c=cM n tn ∨ (n < 10∧c=dM n tn):=by
 rcases List.mem_append.1 h with h | h
 · obtain ⟨j,hj,rfl⟩:=List.mem_map.1 h
   exact Or.inl ⟨j,List.mem_range.1 hj,rfl⟩
 · rcases List.mem_cons.1 h with h | h
   · exact Or.inr (Or.inl h)
   · exact Or.inr (Or.inr (endM_mem h))
theorem CM_row {j:Nat} (h:j < n):rowM j ∈ CM n tn:=List.mem_append_left _ (List.mem_map.2 ⟨j,List.mem_range.2 h,rfl⟩)
theorem CM_c:cM n tn ∈ CM n tn:=List.mem_append_right _ List.mem_cons_self
theorem pN_row {i:Nat} (h:i < n):∃ j,j < n∧pN n tn i=kN (2 * j+1):=⟨(i+tn % n) % n,Nat.mod_lt _ (by omega),rfl⟩
theorem PN_mem {p:Nm} (h:p ∈ PN n tn):∃ j,j < n∧p=kN (2 * j+1):=by
 obtain ⟨i,hi,rfl⟩:=List.mem_map.1 h
 exact pN_row (List.mem_range.1 hi)
theorem CM_len:(CM n tn).length≤n+2∧(10≤n→(CM n tn).length=n+1):=by
 unfold CM endM
 split
 · simp; omega
 · simp
theorem CM_nd (hn:n≤30):((CM n tn).map (·.id)).Nodup:=by
 have h1:((List.range n).map fun j=>kN (2 * j+1)).Nodup:=by
  unfold List.Nodup
  rw [List.pairwise_map]
  refine List.Pairwise.imp_of_mem ?_ List.nodup_range
  intro a b ha hb hab e
  have h1:=List.mem_range.1 ha
  have h2:=List.mem_range.1 hb
  have:=kN_inj (by omega) (by omega) e
  omega
 have e:(CM n tn).map (·.id)=((List.range n).map fun j=>kN (2 * j+1)) ++ (kN 20 :: (endM n tn).map (·.id)):=by
  unfold CM
  rw [List.map_append,List.map_map]
  rfl
 rw [e,List.nodup_append]
 refine ⟨h1,?_,fun a ha b hb hab=>?_⟩
 · rw [List.nodup_cons]
   refine ⟨fun h=>?_,?_⟩
   · obtain ⟨c,hc,e⟩:=List.mem_map.1 h
     obtain ⟨_,rfl⟩:=endM_mem hc
     have e:kN 21=kN 20:=e
     have:=kN_inj (by decide) (by decide) e
     omega
   · unfold endM
     split <;> simp
 · obtain ⟨j,hj,rfl⟩:=List.mem_map.1 ha
   have hj:=List.mem_range.1 hj
   subst hab
   rcases List.mem_cons.1 hb with hb | hb
   · have:=kN_inj (by omega) (by decide) hb
     omega
   · obtain ⟨c,hc,e⟩:=List.mem_map.1 hb
     obtain ⟨h10,rfl⟩:=endM_mem hc
     have e:kN 21=kN (2 * j+1):=e
     have:=kN_inj (by decide) (by omega) e
     omega
theorem CM_ok (hn:n≤30):OkC (CM n tn):=by
 refine ⟨CM_nd hn,fun c hc=>?_,fun c hc p hp=>?_⟩
 · rcases CM_mem hc with ⟨j,hj,rfl⟩ | rfl | ⟨_,rfl⟩
   · show 0≤(j:Int)∧(j:Int) < 17179869184
     omega
   · exact ⟨by show (0:Int)≤17179869183; decide,by show (17179869183:Int) < 17179869184; decide⟩
   · exact ⟨by show (0:Int)≤0; decide,by show (0:Int) < 17179869184; decide⟩
 · have hrow:∀ p ∈ PN n tn,p ∈ (CM n tn).map (·.id):=fun p hp=>by
    obtain ⟨j,hj,rfl⟩:=PN_mem hp
    exact List.mem_map.2 ⟨_,CM_row hj,rfl⟩
   rcases CM_mem hc with ⟨j,hj,rfl⟩ | rfl | ⟨_,rfl⟩
   · cases hp
   · exact hrow p hp
   · rcases List.mem_cons.1 hp with rfl | hp
     · exact List.mem_map.2 ⟨_,CM_c,rfl⟩
     · exact hrow p hp
theorem CM_f (hn:n≤30) {c:Cm} (hc:c ∈ CM n tn):fC (CM n tn) c.id=some c.par:=by
 rw [qqk,qmj (CM_nd hn) hc]
 rfl
theorem CM_all (hn:n≤30) (h:Wk (fC (CM n tn)) true O g):(CM n tn).length≤O.length∧g (kN 20)=if 0 < n then 2 else 1:=by
 have h1:∀ j,j < n→kN (2 * j+1) ∈ O:=fun j hj=>h.most (kN (2 * j+1)) [] (CM_f hn (CM_row hj)) rfl (fun p hp=>by cases hp)
 have hP:∀ p ∈ PN n tn,p ∈ O∧g p=1:=fun p hp=>by
  obtain ⟨j,hj,rfl⟩:=PN_mem hp
  refine ⟨h1 j hj,?_⟩
  have:=h.gens (kN (2 * j+1)) [] (h1 j hj) (CM_f hn (CM_row hj))
  rw [this]
  rfl
 have h2:kN 20 ∈ O:=h.most (kN 20) (PN n tn) (CM_f hn CM_c) rfl fun p hp _=>(hP p hp).1
 have h3:n < 10→kN 21 ∈ O:=fun h10=>by
  have hd:dM n tn ∈ CM n tn:=by
   refine List.mem_append_right _ (List.mem_cons_of_mem _ ?_)
   unfold endM
   rw [if_pos h10]
   exact List.mem_cons_self
  refine h.most (kN 21) (kN 20 :: PN n tn) (CM_f hn hd) rfl fun p hp _=>?_
  rcases List.mem_cons.1 hp with rfl | hp
  · exact h2
  · exact (hP p hp).1
 refine ⟨?_,?_⟩
 · have:=qaf (CM_nd (tn:=tn) hn) (S:=O) fun q hq=>by
    obtain ⟨c,hc,rfl⟩:=List.mem_map.1 hq
    rcases CM_mem hc with ⟨j,hj,rfl⟩ | rfl | ⟨h10,rfl⟩
    · exact h1 j hj
    · exact h2
    · exact h3 h10
   rwa [List.length_map] at this
 · rw [h.gens (kN 20) (PN n tn) h2 (CM_f hn CM_c)]
   have hm:∀ P:List Nm,(∀ p ∈ P,p ∈ O∧g p=1)→mxF g O P=if 0 < P.length then 2 else 0:=by
    intro P
    induction P with
    | nil=>intro _; rfl
    | cons p P ih =>
      intro hp
      obtain ⟨a,b⟩:=hp p List.mem_cons_self
      rw [mxF,if_pos a,b,ih fun q hq=>hp q (List.mem_cons_of_mem _ hq),List.length_cons,if_pos (Nat.succ_pos _)]
      split <;> rfl
   rw [hm _ hP,qzh]
   split <;> rfl
theorem CM_sum (hn:n≤30):((CM n tn).map fun c=>c.par.length).sum≤900:=by
 have h0:(((List.range n).map rowM).map fun c=>c.par.length).sum=0:=by
  have:=sum_of (f:=fun c:Cm=>c.par.length) (L:=(List.range n).map rowM) (k:=0) fun c hc=>by
   obtain ⟨j,_,rfl⟩:=List.mem_map.1 hc
   exact Nat.le_refl 0
  omega
 have e:((CM n tn).map fun c=>c.par.length)=(((List.range n).map rowM).map fun c=>c.par.length) ++ ((PN n tn).length :: (endM n tn).map fun c=>c.par.length):=by
  unfold CM
  rw [List.map_append]
  rfl
 rw [e,List.sum_append,h0,List.sum_cons,qzh]
 unfold endM
 split
 · simp [dM,qzh]; omega
 · simp; omega
end
end Go.Proofs.Ytigmbblgfnkpbaa
namespace Go.Proofs.Ytigmbblgfnkpbaa
open Go Go.Proofs
set_option linter.unusedVariables false
set_option linter.unusedSimpArgs false
attribute [local irreducible] apK cpK mkK br qoe
section
variable {F0:List Nat} {w0 w:World} {ps rest:List As} {t5 t6:Sl} {X:List Cx} {Q:VWP} {n tn cb:Nat} {c:Nd}
theorem many_8 (h:St F0 w0 w ps) [Rdb F0 w0 t5 ps 42 ((ndX X).flatMap ndC)] [Rdb F0 w0 t6 ps 20 ((PN n tn).flatMap nmC)] [PkB cb ps (ndC c) rest] (hc:c.nm=kN 20) (hPX:∀ x ∈ X,Rdb F0 w0 x.1.par ps 20 (x.2.flatMap nmC)) (hX:X.map cmX=CM n tn) (hn:n≤30)
 (hk:∀ w',St F0 w0 w' ps→Q (.bool true) w'):trovelaw19_GraphMany.j8 n t5 t6 ⟨cb,0,none⟩ Q w:=by
 have lenC:∀ p:Nm,(nmC p).length=20:=fun p=>(inferInstance:Rec nmC 20).len p
 obtain ⟨pr,hpr⟩:=h.prX hPX
 have hcm:(ndX X).map (cmN pr)=CM n tn:=by rw [qaj hpr,hX]
 have hP:∀ n ∈ ndX X,Rdb F0 w0 n.par ps 20 ((pr n).flatMap nmC):=fun n hn=>by
  obtain ⟨x,hx,rfl⟩:=List.mem_map.1 hn
  rw [hpr x hx]
  exact hPX x hx
 have hXl:(ndX X).length=(CM n tn).length:=by
  have:=congrArg List.length hcm
  simpa using this
 have hCl:=(CM_len (n:=n) (tn:=tn)).1
 have hl6:=h.rlen (s:=t6) (f:=nmC) (L:=PN n tn)
 rw [qzh] at hl6
 unfold trovelaw19_GraphMany.j8
 refine Build_ok (pr:=pr) (L:=ndX X) h (by omega) (by rw [par_sum hcm]; exact CM_sum hn) hP (by rw [hcm]; exact CM_ok hn) (fun O g hW=>by rw [hcm] at hW; have:=(CM_all hn hW).1; omega) fun O g C t w hW hp hI hl8 htc h=>⟨t,0,rfl,?_⟩
 rw [hcm] at hp
 refine qlc (fun _=>qzc (fun _=>hk w h.drop) (fun g=>by cases g)) (fun g10=>?_)
 have hn10:n≤10:=by omega
 unfold trovelaw19_GraphMany.j9
 refine qcb.c (b:=t) (xs:=gB C g) h (by omega) (gB_ok _ _) (fun w hE h=>?_) (fun X2 g2 sa sn sg gb w _ hI2 hone hsa hsn hsg h=>⟨some ⟨gb,0,none⟩,0,rfl,?_⟩)
 · exfalso
   rcases hE with hE | hE
   · omega
   · exact hE _ _ hI
 have hX2:=hone _ _ hI
 have hg2:g2 (kN 20)=if 0 < n then 2 else 1:=by
  obtain ⟨O2,hW2,_⟩:=hI2.1.full
  rw [hX2,← fC_perm (CM_ok hn).nd hp] at hW2
  exact (CM_all hn hW2).2
 obtain ⟨pr2,hc2,hQ2⟩:=bag_pr (X:=X2) (ps:=rdA 1 t (u8s (gB C g)) :: ps) h.drop.drop.drop.drop
 rw [hX2] at hc2
 have hids2:(ndX X2).map Nd.nm=C.map (·.id):=by rw [← qsj pr2,hc2]
 have hA:Ris ((ndX X2).map Nd.nm):=by
  rw [hids2]
  exact hI.1.nm
 have hmem:∀ {c:Cm},c ∈ CM n tn→c.id ∈ (ndX X2).map Nd.nm:=fun {c} hc=>by
  rw [hids2]
  exact List.mem_map.2 ⟨c,hp.mem_iff.1 hc,rfl⟩
 have hat:∀ {c:Cm},c ∈ CM n tn→∃ hj:qqe ((ndX X2).map Nd.nm) c.id < (ndX X2).length,cmN pr2 ((ndX X2)[qqe ((ndX X2).map Nd.nm) c.id])=c:=fun {c} hc=>by
  obtain ⟨hj,e⟩:=posN_mem hA (hmem hc)
  rw [List.length_map] at hj
  refine ⟨hj,?_⟩
  rw [List.getElem_map] at e
  have h1:cmN pr2 ((ndX X2)[qqe ((ndX X2).map Nd.nm) c.id]) ∈ CM n tn:=by
   rw [hp.mem_iff,← hc2]
   exact List.mem_map.2 ⟨_,List.getElem_mem hj,rfl⟩
  have h2:=qmj (CM_nd hn) h1
  have h3:=qmj (CM_nd hn) hc
  have e2:(cmN pr2 ((ndX X2)[qqe ((ndX X2).map Nd.nm) c.id])).id=c.id:=e
  rw [e2,h3] at h2
  exact (Option.some.inj h2).symm
 have hX2l:(ndX X2).length≤32:=by
  have h1:=congrArg List.length hc2
  have h2:=hp.length_eq
  rw [List.length_map] at h1
  omega
 have hpl2:∀ m ∈ ndX X2,(pr2 m).length≤1000000:=fun m hm=>by
  have h1:cmN pr2 m ∈ CM n tn:=by
   rw [hp.mem_iff,← hc2]
   exact List.mem_map.2 ⟨_,hm,rfl⟩
  have h2:(pr2 m).length≤((CM n tn).map fun c=>c.par.length).sum:=qpf (f:=fun c:Cm=>c.par.length) h1
  have:=CM_sum (n:=n) (tn:=tn) hn
  omega
 have hPX:∀ qs,∀ m ∈ ndX X2,Rdb F0 w0 m.par (qzd (X2.map cxA) :: qs) 20 ((pr2 m).flatMap nmC):=hQ2
 have hat20:∃ hj:qqe ((ndX X2).map Nd.nm) (kN 20) < (ndX X2).length,cmN pr2 ((ndX X2)[qqe ((ndX X2).map Nd.nm) (kN 20)])=cM n tn:=hat (CM_c (n:=n) (tn:=tn))
 obtain ⟨hj,hcat⟩:=hat20
 have hm20:kN 20 ∈ (ndX X2).map Nd.nm:=hmem (CM_c (n:=n) (tn:=tn))
 refine qw (e':=0) rfl ?_
 refine qzc (fun g=>by cases g) (fun _=>?_)
 refine qzc (fun g=>by cases g) (fun _=>?_)
 unfold trovelaw19_GraphMany.j10
 refine (h.toB cb).blk.ldIdN ?_
 refine Graph_Find.c (gb:=gb) (sa:=sa) (sn:=sn) (sg:=sg) (L:=ndX X2) (q:=c.nm) h hA (by omega) fun w h=>⟨_,_,rfl,?_⟩
 rw [hc,if_pos hm20,decide_eq_true hm20]
 generalize hi:qqe ((ndX X2).map Nd.nm) (kN 20)=i at hj hcat
 refine Graph_Node.c (gb:=gb) (sa:=sa) (sn:=sn) (sg:=sg) (pr:=pr2) (L:=ndX X2) (i:=(i:Int)) h hpl2 (fun n hn=>by haveI:=fun qs=>hPX qs n hn; infer_instance) (fun hno=>absurd ⟨by omega,by omega⟩ hno) (fun hi2 _ tt w htt h=>⟨_,_,rfl,?_⟩)
 have e1:(ndX X2)[(i:Int).toNat]=(ndX X2)[i]'hj:=rfl
 rw [e1] at htt h ⊢
 generalize hn1:(ndX X2)[i]'hj=n1 at hcat htt h ⊢
 have hd1:n1.date=17179869183:=congrArg Cm.date hcat
 have hp1:pr2 n1=PN n tn:=congrArg Cm.par hcat
 rw [hp1] at h htt
 rw [qzh] at htt
 rw [qmd]
 refine h.new fun nb w h=>?_
 have h:St F0 w0 w (qfb nb (ndC ndZ) :: rdA 20 tt ((PN n tn).flatMap nmC) :: qfb gb (grL sa sn sg) :: qbb 1 sg (ivs .i64 ((ndX X2).map fun n=>g2 n.nm)) :: qbb 20 sa (((ndX X2).map Nd.nm).flatMap nmC) :: qbb 42 sn ((ndX X2).flatMap ndC) :: qzd (X2.map cxA) :: rdA 1 t (u8s (gB C g)) :: ps):=h
 refine ⟨qz _,?_⟩
 refine h.setR (f:=ndC) (x:=n1.setP tt) (qz _) fun w h=>?_
 unfold trovelaw19_GraphMany.j11
 refine qzc (fun g=>by cases g) (fun _=>?_)
 refine qzc (fun g=>by cases g) (fun _=>?_)
 refine (h.toB nb).blk.ldPar ?_
 have e2:(n1.setP tt).par=tt:=rfl
 rw [e2]
 refine qzc (fun g=>by exfalso; simp at g; omega) (fun _=>?_)
 refine (h.toB nb).blk.ldDate ?_
 have e3:(n1.setP tt).date=17179869183:=hd1
 rw [e3]
 refine qzc (fun g=>by cases g) (fun _=>?_)
 refine Graph_Parents.c (gb:=gb) (sa:=sa) (sn:=sn) (sg:=sg) (pr:=pr2) (L:=ndX X2) (i:=(i:Int)) h hA (by omega) hpl2 (fun n hn=>by haveI:=fun qs=>hPX qs n hn; infer_instance) (fun hno=>absurd ⟨by omega,by omega⟩ hno) (fun hi2 _ u w hu h=>⟨u,rfl,?_⟩)
 have e1:(ndX X2)[(i:Int).toNat]=(ndX X2)[i]'hj:=rfl
 rw [e1,hn1,hp1] at hu h
 rw [qzh] at hu
 generalize hNs:(PN n tn).map (fun p=>(qqe ((ndX X2).map Nd.nm) p:Int))=ns at h
 have hnsl:ns.length=n:=by rw [← hNs,List.length_map,qzh]
 unfold trovelaw19_GraphMany.j12 trovelaw19_GraphMany.j14
 refine loop1 (fun (k:Nat) (i':Int) w'=>i'=(k:Int)∧k≤n∧St F0 w0 w' (qbb 1 u (ivs .i64 ns) :: qfb nb (ndC (n1.setP tt)) :: rdA 20 tt ((PN n tn).flatMap nmC) :: qfb gb (grL sa sn sg) :: qbb 1 sg (ivs .i64 ((ndX X2).map fun n=>g2 n.nm)) :: qbb 20 sa (((ndX X2).map Nd.nm).flatMap nmC) :: qbb 42 sn ((ndX X2).flatMap ndC) :: qzd (X2.map cxA) :: rdA 1 t (u8s (gB C g)) :: ps)) (fun k=>n - k) 0 ⟨rfl,Nat.zero_le _,h⟩ ?_
 clear h
 rintro k _ wL I μ ⟨rfl,hk1,h⟩ hin
 unfold trovelaw19_GraphMany.b1
 refine qlc (fun g1=>?_) (fun g1=>?_)
 · have hkn:k < n:=by omega
   have hkP:k < (PN n tn).length:=by rw [qzh]; exact hkn
   refine h.lx (s:=u) (zs:=ns) k rfl (by omega) ?_
   obtain ⟨j,hjn,hpj⟩:=PN_mem (List.getElem_mem hkP)
   have hns:ns.getD k 0=(qqe ((ndX X2).map Nd.nm) (PN n tn)[k]:Int):=by
    rw [← hNs,List.getD_eq_getElem?_getD,List.getElem?_map,List.getElem?_eq_getElem hkP]
    rfl
   have hatk:∃ hq:qqe ((ndX X2).map Nd.nm) (PN n tn)[k] < (ndX X2).length,cmN pr2 ((ndX X2)[qqe ((ndX X2).map Nd.nm) (PN n tn)[k]])=rowM j:=by
    rw [hpj]
    exact hat (CM_row (tn:=tn) hjn)
   have hidj:(rowM j).id=(PN n tn)[k]:=hpj.symm
   obtain ⟨hq,hqc⟩:=hatk
   rw [hns]
   generalize qqe ((ndX X2).map Nd.nm) (PN n tn)[k]=q at hq hqc
   refine Graph_Node.c (gb:=gb) (sa:=sa) (sn:=sn) (sg:=sg) (pr:=pr2) (L:=ndX X2) (i:=(q:Int)) h hpl2 (fun n hn=>by haveI:=fun qs=>hPX qs n hn; infer_instance) (fun hno=>absurd ⟨by omega,by omega⟩ hno) (fun hi2 _ t2 w ht2 h=>⟨_,_,rfl,?_⟩)
   have e1:(ndX X2)[(q:Int).toNat]=(ndX X2)[q]'hq:=rfl
   rw [e1] at ht2 h ⊢
   have hnq:(ndX X2)[q].nm=(PN n tn)[k]:=by
    have:=congrArg Cm.id hqc
    rw [hidj] at this
    exact this
   generalize (ndX X2)[q]'hq=n2 at hnq ht2 h ⊢
   rw [qmd]
   refine h.new fun yb w h=>?_
   have h:St F0 w0 w (qfb yb (ndC ndZ) :: rdA 20 t2 ((pr2 n2).flatMap nmC) :: qbb 1 u (ivs .i64 ns) :: qfb nb (ndC (n1.setP tt)) :: rdA 20 tt ((PN n tn).flatMap nmC) :: qfb gb (grL sa sn sg) :: qbb 1 sg (ivs .i64 ((ndX X2).map fun n=>g2 n.nm)) :: qbb 20 sa (((ndX X2).map Nd.nm).flatMap nmC) :: qbb 42 sn ((ndX X2).flatMap ndC) :: qzd (X2.map cxA) :: rdA 1 t (u8s (gB C g)) :: ps):=h
   refine ⟨qz _,?_⟩
   refine h.setR (f:=ndC) (x:=n2.setP t2) (qz _) fun w h=>?_
   refine h.drewK fun w h=>?_
   refine (h.toB nb).blk.ldPar ?_
   rw [e2]
   refine h.lr (s:=tt) (f:=nmC) (L:=PN n tn) k rfl hkP ?_
   refine h.lr (s:=t6) (f:=nmC) (L:=PN n tn) k rfl hkP ?_
   refine eqA_s (xs:=((PN n tn)[k]).1) ((PN n tn)[k]).2.1 ?_
   refine qzc (fun g=>by cases g) (fun _=>?_)
   refine qzc (fun g=>by cases g) (fun _=>?_)
   refine (h.toB yb).blk.ldIdN ?_
   refine h.lr (s:=t6) (f:=nmC) (L:=PN n tn) k rfl hkP ?_
   have e5:(n2.setP t2).id=((PN n tn)[k]).1:=congrArg Subtype.val hnq
   rw [e5]
   refine eqA_s (xs:=((PN n tn)[k]).1) ((PN n tn)[k]).2.1 ?_
   refine qzc (fun g=>by cases g) (fun _=>?_)
   refine qw (e':=((k+1:Nat):Int)) (by rw [qq (by omega) (by omega)]; rfl) ?_
   exact ⟨⟨rfl,rfl,rfl,rfl,rfl,rfl⟩,hin (k+1) _ _ ⟨rfl,by omega,h.drop.drop⟩ (by omega)⟩
 · have hgv:((ndX X2).map fun n=>g2 n.nm).getD i 0=if 0 < n then 2 else 1:=by
    rw [← hg2,List.getD_eq_getElem?_getD,List.getElem?_map,List.getElem?_eq_getElem hj,hn1]
    show g2 _=_
    exact congrArg g2 (congrArg Cm.id hcat)
   have hGen:∀ {w':World} {qs:List As} {Z:Int→World→Prop} {rr} [PkB gb qs (grL sa sn sg) rr] [Rdb F0 w0 sg qs 1 (ivs .i64 ((ndX X2).map fun n=>g2 n.nm))],St F0 w0 w' qs→(∀ w'',St F0 w0 w'' qs→Z (if 0 < n then 2 else 1) w'')→qhf 11 [.pointer (some ⟨gb,0,none⟩),.int .i64 (i:Int)] w' Z:=fun h hz=>by
    refine Graph_Generation.c (gb:=gb) (sn:=sn) (sa:=sa) (sg:=sg) (gl:=(ndX X2).map fun n:Nd=>g2 n.nm) h (by rw [List.length_map,qgi]; omega) fun w h=>⟨_,rfl,?_⟩
    have hlt:i < sn.len:=by
     rw [qgi] at hj
     omega
    rw [if_pos ⟨by omega,by omega⟩,Int.toNat_natCast,hgv]
    exact hz w h
   unfold trovelaw19_GraphMany.j13
   refine qlc (fun g0=>?_) (fun g0=>?_)
   · refine hGen h fun w h=>?_
     rw [if_pos (by omega)]
     exact hk w h.drop.drop.drop.drop.drop.drop.drop.drop.drop
   · refine hGen h fun w h=>?_
     rw [if_neg (by omega)]
     exact hk w h.drop.drop.drop.drop.drop.drop.drop.drop.drop
end
end Go.Proofs.Ytigmbblgfnkpbaa
namespace Go.Proofs.Ytigmbblgfnkpbaa
open Go Go.Proofs
set_option linter.unusedVariables false
set_option linter.unusedSimpArgs false
attribute [local irreducible] apK cpK mkK br qoe
theorem b256 (k:Nat):0≤((k % 256:Nat):Int)∧((k % 256:Nat):Int) < 256:=by omega
def Nd.setK (n:Nd) (k:Nat):Nd:=n.set0 ((k % 256:Nat):Int) (b256 k)
def mI (i:Nat):Nd:=(ndZ.setD i).setK (2 * i+1)
def cI (t6:Sl):Nd:=((ndZ.setP t6).setD 17179869183).setK 20
def dI (u:Sl):Nd:=(ndZ.setP u).setK 21
def XR (n:Nat):List Cx:=(List.range n).map fun i=>(mI i,[])
theorem ndX_XR (n:Nat):ndX (XR n)=(List.range n).map mI:=by
 unfold ndX XR
 rw [List.map_map]
 rfl
theorem cmX_XR (n:Nat):(XR n).map cmX=(List.range n).map rowM:=by
 unfold XR
 rw [List.map_map]
 rfl
theorem tmod_nat (a b:Nat):Int.tmod (a:Int) (b:Int)=((a % b:Nat):Int):=rfl
section
variable {F0:List Nat} {w0 w:World} {ps rest:List As} {t5 t6 u:Sl} {Q:VWP} {n tn cb db:Nat}
theorem many_7 (h:St F0 w0 w (qfb db (ndC (dI u)) :: qbb 20 u ((kN 20 :: PN n tn).flatMap nmC) :: qfb cb (ndC (cI t6)) :: qbb 20 t6 ((PN n tn).flatMap nmC) :: qbb 42 t5 ((ndX (XR n)).flatMap ndC) :: ps)) (hn:n≤30)
 (hk:∀ w',St F0 w0 w' ps→Q (.bool true) w'):trovelaw19_GraphMany.j7 n t5 t6 ⟨cb,0,none⟩ ⟨db,0,none⟩ Q w:=by
 have hXl:(ndX (XR n)).length=n:=by rw [ndX_XR]; simp
 have hc20:(cI t6).nm=kN 20:=rfl
 have hrow:∀ qs,∀ x ∈ XR n,Rdb F0 w0 x.1.par qs 20 (x.2.flatMap nmC):=fun qs x hx=>by
  obtain ⟨i,hi,rfl⟩:=List.mem_map.1 hx
  exact nilRd
 unfold trovelaw19_GraphMany.j7
 refine h.lA (b:=cb) (qz _) ⟨qz _,?_⟩
 rw [qmd,qde (l:=qie 1 (⟨ndC ndZ⟩:Array Value).toList) (cs:=ndC (cI t6)) (by rw [qz]; rfl)]
 refine h.pushR (s:=t5) (L:=ndX (XR n)) (x:=cI t6) (by omega) rfl fun s1 w hs h=>?_
 refine qlc (fun g1=>?_) (fun g1=>?_)
 · refine h.lA (b:=db) (qz _) ⟨qz _,?_⟩
   rw [qde (l:=qie 1 (⟨ndC ndZ⟩:Array Value).toList) (cs:=ndC (dI u)) (by rw [qz]; rfl)]
   refine h.pushR (s:=s1) (L:=ndX (XR n) ++ [cI t6]) (x:=dI u) (by rw [List.length_append,hXl,List.length_singleton]; omega) rfl fun s2 w hs2 h=>?_
   have e:ndX (XR n ++ [(cI t6,PN n tn),(dI u,kN 20 :: PN n tn)])=ndX (XR n) ++ [cI t6] ++ [dI u]:=by
    rw [ndX_app,List.append_assoc]
    rfl
   rw [← e] at h
   refine many_8 (X:=XR n ++ [(cI t6,PN n tn),(dI u,kN 20 :: PN n tn)]) (tn:=tn) (cb:=cb) (c:=cI t6) h hc20 (fun x hx=>?_) ?_ hn fun w h=>hk w h.drop.drop.drop.drop.drop
   · rcases List.mem_append.1 hx with hx | hx
     · exact hrow _ x hx
     · rcases List.mem_cons.1 hx with rfl | hx
       · show Rdb F0 w0 t6 _ 20 ((PN n tn).flatMap nmC)
         infer_instance
       · have:x=(dI u,kN 20 :: PN n tn):=by simpa using hx
         subst this
         show Rdb F0 w0 u _ 20 ((kN 20 :: PN n tn).flatMap nmC)
         infer_instance
   · rw [List.map_append,cmX_XR]
     unfold CM endM
     rw [if_pos (by omega)]
     rfl
 · have e:ndX (XR n ++ [(cI t6,PN n tn)])=ndX (XR n) ++ [cI t6]:=by
    rw [ndX_app]
    rfl
   rw [← e] at h
   refine many_8 (X:=XR n ++ [(cI t6,PN n tn)]) (tn:=tn) (cb:=cb) (c:=cI t6) h hc20 (fun x hx=>?_) ?_ hn fun w h=>hk w h.drop.drop.drop.drop.drop
   · rcases List.mem_append.1 hx with hx | hx
     · exact hrow _ x hx
     · have:x=(cI t6,PN n tn):=by simpa using hx
       subst this
       show Rdb F0 w0 t6 _ 20 ((PN n tn).flatMap nmC)
       infer_instance
   · rw [List.map_append,cmX_XR]
     unfold CM endM
     rw [if_neg (by omega)]
     rfl
theorem many_5 (h:St F0 w0 w (qbb 20 t6 ((PN n tn).flatMap nmC) :: qbb 42 t5 ((ndX (XR n)).flatMap ndC) :: ps)) (hn:n≤30)
 (hk:∀ w',St F0 w0 w' ps→Q (.bool true) w'):trovelaw19_GraphMany.j5 n t5 t6 Q w:=by
 have lenC:∀ p:Nm,(nmC p).length=20:=fun p=>(inferInstance:Rec nmC 20).len p
 unfold trovelaw19_GraphMany.j5
 rw [qmd]
 refine h.new fun cb w h=>?_
 have h:St F0 w0 w (qfb cb (ndC ndZ) :: qbb 20 t6 ((PN n tn).flatMap nmC) :: qbb 42 t5 ((ndX (XR n)).flatMap ndC) :: ps):=h
 have eb:List.set (List.set (⟨ndC ndZ⟩:Array Value).toList 40 (sV t6)) 41 (.int .i64 17179869183)=ndC ((ndZ.setP t6).setD 17179869183):=by
  rw [← qph,← qvg]
 rw [eb]
 refine ⟨qz _,?_⟩
 refine h.setR (f:=ndC) (x:=(ndZ.setP t6).setD 17179869183) (qz _) fun w h=>?_
 rw [qjc]
 refine qlk (by decide) (by decide) ?_
 refine h.st (by rw [qz]; decide) trivial fun w h=>?_
 have h:St F0 w0 w (qfb cb (ndC (cI t6)) :: qbb 20 t6 ((PN n tn).flatMap nmC) :: qbb 42 t5 ((ndX (XR n)).flatMap ndC) :: ps):=by
  have e:=qyi ((ndZ.setP t6).setD 17179869183) _ (b256 20)
  have e2:cI t6=((ndZ.setP t6).setD 17179869183).set0 _ (b256 20):=rfl
  rw [e2,← e]
  exact h
 unfold trovelaw19_GraphMany.j6
 refine (h.toB cb).blk.ldIdN ?_
 have e20:(cI t6).id=(kN 20).1:=rfl
 rw [e20]
 refine ⟨lenC (kN 20),?_⟩
 have es:spl [.int .u8 0,.int .u8 0,.int .u8 0,.int .u8 0,.int .u8 0,.int .u8 0,.int .u8 0,.int .u8 0,.int .u8 0,.int .u8 0,.int .u8 0,.int .u8 0,.int .u8 0,.int .u8 0,.int .u8 0,.int .u8 0,.int .u8 0,.int .u8 0,.int .u8 0,.int .u8 0] 0 ⟨ivs .u8 (kN 20).1⟩=nmC (kN 20):=qde (lenC (kN 20))
 rw [es]
 refine h.new fun ib w h=>?_
 have h:St F0 w0 w (qfb ib ([kN 20].flatMap nmC) :: qfb cb (ndC (cI t6)) :: qbb 20 t6 ((PN n tn).flatMap nmC) :: qbb 42 t5 ((ndX (XR n)).flatMap ndC) :: ps):=by
  rw [qeh]
  exact h
 have h:St F0 w0 w (qbb 20 ⟨some ⟨ib,0,none⟩,1,1⟩ ([kN 20].flatMap nmC) :: qfb cb (ndC (cI t6)) :: qbb 20 t6 ((PN n tn).flatMap nmC) :: qbb 42 t5 ((ndX (XR n)).flatMap ndC) :: ps):=h.ownBR (n:=1) (by rw [qoc]; rfl)
 refine h.appR (s:=⟨some ⟨ib,0,none⟩,1,1⟩) (L:=[kN 20]) (s2:=t6) (M:=PN n tn) (by rw [qzh,List.length_singleton]; omega) fun u w hu h=>?_
 have h:St F0 w0 w (qbb 20 u ((kN 20 :: PN n tn).flatMap nmC) :: qfb cb (ndC (cI t6)) :: qbb 20 t6 ((PN n tn).flatMap nmC) :: qbb 42 t5 ((ndX (XR n)).flatMap ndC) :: ps):=h
 rw [qmd]
 refine h.new fun db w h=>?_
 have h:St F0 w0 w (qfb db (ndC ndZ) :: qbb 20 u ((kN 20 :: PN n tn).flatMap nmC) :: qfb cb (ndC (cI t6)) :: qbb 20 t6 ((PN n tn).flatMap nmC) :: qbb 42 t5 ((ndX (XR n)).flatMap ndC) :: ps):=h
 have ed:List.set (⟨ndC ndZ⟩:Array Value).toList 40 (sV u)=ndC (ndZ.setP u):=qvg ndZ u
 rw [ed]
 refine ⟨qz _,?_⟩
 refine h.setR (f:=ndC) (x:=ndZ.setP u) (qz _) fun w h=>?_
 rw [qjc]
 refine qlk (by decide) (by decide) ?_
 refine h.st (by rw [qz]; decide) trivial fun w h=>?_
 have h:St F0 w0 w (qfb db (ndC (dI u)) :: qbb 20 u ((kN 20 :: PN n tn).flatMap nmC) :: qfb cb (ndC (cI t6)) :: qbb 20 t6 ((PN n tn).flatMap nmC) :: qbb 42 t5 ((ndX (XR n)).flatMap ndC) :: ps):=by
  have e:=qyi (ndZ.setP u) _ (b256 21)
  have e2:dI u=(ndZ.setP u).set0 _ (b256 21):=rfl
  rw [e2,← e]
  exact h
 exact many_7 h hn hk
end
theorem trovelaw19_GraphMany.law (a b:Int) (W:World) (ha:(Lit.int .i64 a).wf=true) (hb:(Lit.int .i64 b).wf=true) :
 Calls Try.prog 4 ⟨[.int .i64 a,.int .i64 b]⟩ W fun e w'=>e=.returned (.bool true)∧Mod [] W w':=by
 have h:St [] W W []:=St.start0
 have hb2:=wf_i64 hb
 refine qnb (trovelaw19_GraphMany.ok a b _ _ ?_)
 unfold trovelaw19_GraphMany trovelaw19_GraphMany.j1
 refine quc.c h fun w h=>⟨_,rfl,?_⟩
 refine qzc (fun g=>by cases g) (fun _=>?_)
 refine qlc (fun _=>⟨rfl,h.mod⟩) (fun g1=>?_)
 refine qlc (fun _=>⟨rfl,h.mod⟩) (fun g2=>?_)
 refine qlc (fun _=>⟨rfl,h.mod⟩) (fun g3=>?_)
 obtain ⟨n,rfl⟩:∃ n:Nat,a=n:=⟨a.toNat,by omega⟩
 obtain ⟨tn,rfl⟩:∃ n:Nat,b=n:=⟨b.toNat,by omega⟩
 have hn:n≤30:=by omega
 unfold trovelaw19_GraphMany.j2 trovelaw19_GraphMany.j3 trovelaw19_GraphMany.j16
 have h0:St [] W w (qbb 42 ⟨none,0,0⟩ (((List.range 0).map mI).flatMap ndC) :: []):=h.nilO
 refine loop2 (fun (i:Nat) (t5:Sl) (i':Int) w'=>i'=(i:Int)∧i≤n∧St [] W w' (qbb 42 t5 (((List.range i).map mI).flatMap ndC) :: [])) (fun i=>n - i) 0 ⟨rfl,Nat.zero_le _,h0⟩ ?_
 clear h h0
 rintro i t5 _ wL I μ ⟨rfl,hi,h⟩ hin
 unfold trovelaw19_GraphMany.b3
 refine qlc (fun g=>?_) (fun g=>?_)
 · have hix:i < n:=by omega
   rw [qmd]
   refine h.new fun nb w h=>?_
   have h:St [] W w (qfb nb (ndC ndZ) :: qbb 42 t5 (((List.range i).map mI).flatMap ndC) :: []):=h
   have ed:List.set (⟨ndC ndZ⟩:Array Value).toList 41 (.int .i64 (i:Int))=ndC (ndZ.setD i):=qph ndZ i
   rw [ed]
   refine ⟨qz _,?_⟩
   refine h.setR (f:=ndC) (x:=ndZ.setD i) (qz _) fun w h=>?_
   refine qw (e':=((2 * i:Nat):Int)) (by rw [qq (by omega) (by omega)]; omega) ?_
   refine qw (e':=((2 * i+1:Nat):Int)) (by rw [qq (by omega) (by omega)]; omega) ?_
   refine qw (e':=(((2 * i+1) % 256:Nat):Int)) (by rw [qai]; omega) ?_
   rw [qjc]
   refine qlk (by decide) (by decide) ?_
   refine h.st (by rw [qz]; decide) trivial fun w h=>?_
   have h:St [] W w (qfb nb (ndC (mI i)) :: qbb 42 t5 (((List.range i).map mI).flatMap ndC) :: []):=by
    have e:=qyi (ndZ.setD i) _ (b256 (2 * i+1))
    have e2:mI i=(ndZ.setD i).set0 _ (b256 (2 * i+1)):=rfl
    rw [e2,← e]
    exact h
   refine h.lA (b:=nb) (qz _) ⟨qz _,?_⟩
   rw [qde (l:=qie 1 (⟨ndC ndZ⟩:Array Value).toList) (cs:=ndC (mI i)) (by rw [qz]; rfl)]
   refine h.pushR (s:=t5) (L:=(List.range i).map mI) (x:=mI i) (by rw [List.length_map,List.length_range]; omega) rfl fun s1 w hs h=>?_
   refine qw (e':=((i+1:Nat):Int)) (by rw [qq (by omega) (by omega)]; rfl) ?_
   refine ⟨⟨rfl,rfl,rfl⟩,hin (i+1) _ _ _ ⟨rfl,by omega,?_⟩ (by omega)⟩
   rw [List.range_succ,List.map_append,List.map_singleton]
   exact h.sub
 · have:i=n:=by omega
   subst this
   unfold trovelaw19_GraphMany.j4 trovelaw19_GraphMany.j15
   have h0:St [] W wL (qbb 20 ⟨none,0,0⟩ (((List.range 0).map (pN i tn)).flatMap nmC) :: qbb 42 t5 (((List.range i).map mI).flatMap ndC) :: []):=h.nilO
   refine loop2 (fun (k:Nat) (t6:Sl) (i':Int) w'=>i'=(k:Int)∧k≤i∧St [] W w' (qbb 20 t6 (((List.range k).map (pN i tn)).flatMap nmC) :: qbb 42 t5 (((List.range i).map mI).flatMap ndC) :: [])) (fun k=>i - k) 0 ⟨rfl,Nat.zero_le _,h0⟩ ?_
   clear h h0
   rintro k t6 _ wM I2 μ2 ⟨rfl,hk,h⟩ hnx
   unfold trovelaw19_GraphMany.b2
   refine qlc (fun g=>?_) (fun g=>?_)
   · have hkx:k < i:=by omega
     have hm1:=Nat.mod_lt tn (show 0 < i by omega)
     have hm2:=Nat.mod_lt (k+tn % i) (show 0 < i by omega)
     refine ⟨by omega,?_⟩
     refine qw (e':=((tn % i:Nat):Int)) (tmod_nat tn i) ?_
     refine qw (e':=((k+tn % i:Nat):Int)) (by rw [qq (by omega) (by omega)]; omega) ?_
     refine ⟨by omega,?_⟩
     refine qw (e':=(((k+tn % i) % i:Nat):Int)) (tmod_nat _ i) ?_
     have hjl:(k+tn % i) % i < ((List.range i).map mI).length:=by rw [List.length_map,List.length_range]; exact hm2
     refine h.lrId (s:=t5) (L:=(List.range i).map mI) ((k+tn % i) % i) rfl hjl ?_
     have e1:((List.range i).map mI)[(k+tn % i) % i].id=(pN i tn k).1:=by
      rw [List.getElem_map,List.getElem_range]
      rfl
     rw [e1]
     have lenC:∀ p:Nm,(nmC p).length=20:=fun p=>(inferInstance:Rec nmC 20).len p
     refine ⟨lenC (pN i tn k),?_⟩
     have es:spl [.int .u8 0,.int .u8 0,.int .u8 0,.int .u8 0,.int .u8 0,.int .u8 0,.int .u8 0,.int .u8 0,.int .u8 0,.int .u8 0,.int .u8 0,.int .u8 0,.int .u8 0,.int .u8 0,.int .u8 0,.int .u8 0,.int .u8 0,.int .u8 0,.int .u8 0,.int .u8 0] 0 ⟨ivs .u8 (pN i tn k).1⟩=nmC (pN i tn k):=qde (lenC (pN i tn k))
     rw [es]
     refine h.pushR (s:=t6) (L:=(List.range k).map (pN i tn)) (x:=pN i tn k) (by rw [List.length_map,List.length_range]; omega) rfl fun s1 w hs h=>?_
     refine qw (e':=((k+1:Nat):Int)) (by rw [qq (by omega) (by omega)]; rfl) ?_
     refine ⟨⟨rfl,rfl,rfl⟩,hnx (k+1) _ _ _ ⟨rfl,by omega,?_⟩ (by omega)⟩
     rw [List.range_succ,List.map_append,List.map_singleton]
     exact h.sub
   · have:k=i:=by omega
     subst this
     have h:St [] W wM (qbb 20 t6 ((PN k tn).flatMap nmC) :: qbb 42 t5 ((ndX (XR k)).flatMap ndC) :: []):=by
      rw [ndX_XR]
      exact h
     exact many_5 h hn fun w h=>⟨rfl,h.mod⟩
end Go.Proofs.Ytigmbblgfnkpbaa
