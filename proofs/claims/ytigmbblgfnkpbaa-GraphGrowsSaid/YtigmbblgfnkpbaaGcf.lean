/- Own texts as one, only what is reached (shake.py). -/
import Derived.Test.YtigmbblgfnkpbaaGce
import Derived.OpenShut
set_option linter.unusedSectionVars false
namespace Go.Proofs.Ytigmbblgfnkpbaa
open Go Go.Proofs
set_option linter.unusedVariables false
set_option linter.unusedSimpArgs false
attribute [local irreducible] apK cpK mkK br qne
def Isg (xs:List Int) (S:List Cm) (g:Nm→Int):Prop:=Vg S g∧xs=gB S g
theorem isg_row {xs:List Int} {S:List Cm} {g:Nm→Int} (hI:Isg xs S g) (hxl:xs.length≤1000000) {i:Nat} (hi:i < S.length) {R Eb:List Int} (hR:R=(xs.drop (8+(hcN S+1) * 12+1024+20 * S.length+36 * i)).take 36) (hE:Eb=(xs.drop (8+(hcN S+1) * 12+1024+20 * S.length+36 * S.length)).take (xs.length - 20 - (8+(hcN S+1) * 12+1024+20 * S.length+36 * S.length))) :
 R.take 20=S[i].qve.1∧qlh (S.map (·.id)) (wd Eb) (Eb.length / 4) (be ((R.drop 20).take 4)) (be ((R.drop 24).take 4)) S[i].par∧be ((R.drop 28).take 8)=g S[i].id * 17179869184+S[i].date:=by
 obtain ⟨hV,hx⟩:=hI
 have hSi:=List.getElem_mem hi
 have ht:S[i].qve.1.length=20:=S[i].qve.2.1
 have hg:=hV.gen hSi
 have hd:=hV.ok.dt _ hSi
 have hlen:=qnk hx
 have he:=eG_le (S.map (·.id)) S i
 rw [gB_row hx hi] at hR
 rw [gB_edge hx] at hE
 rw [hR,hE,row_tree ht,row_a ht,row_b ht,row_d ht]
 have hb:=numA_b hV S[i]
 refine ⟨rfl,?_,be_word8 (by omega)⟩
 rw [be_word hb]
 rw [be_word (numB_b hV S[i] (by omega))]
 exact gB_enc hV hi
noncomputable def nmAt (xs:List Int) (a1 N:Nat):List Nm:=(List.range N).map fun j=>nmOf ((xs.drop (a1+20 * j)).take 20)
theorem qrh (xs:List Int) (a1 N:Nat):(nmAt xs a1 N).length=N:=by simp [nmAt]
theorem nmAt_succ (xs:List Int) (a1 N:Nat):nmAt xs a1 (N+1)=nmAt xs a1 N ++ [nmOf ((xs.drop (a1+20 * N)).take 20)]:=by simp [nmAt,List.range_succ]
theorem nmAt_get {xs:List Int} {a1 N j:Nat} (h:j < N):(nmAt xs a1 N)[j]'(by rw [qrh]; exact h)=nmOf ((xs.drop (a1+20 * j)).take 20):=by simp [nmAt]
theorem nmAt_S {xs:List Int} {S:List Cm} {g:Nm→Int} (hx:xs=gB S g):nmAt xs (8+(hcN S+1) * 12+1024) S.length=S.map (·.id):=by
 apply List.ext_getElem (by rw [qrh,List.length_map])
 intro j h1 h2
 rw [qrh] at h1
 rw [nmAt_get h1,gB_name hx h1,nmOf_nm,List.getElem_map]
section
variable {F0:List Nat} {w0 w:World} {ps rest:List As} {b:Sl} {xs:List Int} {K:Ending→World→Prop}
theorem qp.c (h:St F0 w0 w ps) [Rdb F0 w0 b ps 1 (u8s xs)] (hc:b.len≤b.cap) (hB:qpd xs) (hl28:28≤xs.length) (hxl:xs.length≤1000000)
 (hk1:∀ w',(∀ S g,¬ Isg xs S g)→St F0 w0 w' ps→K (.returned (.tuple ⟨[.slice none 0 0,.bool false]⟩)) w')
 (hk2:∀ X t w',t.len=X.length→X.length≤1024→(X.map fun x:Cx=>x.2.length).sum≤xs.length / 4+2048→(∀ S g,Isg xs S g→X.map cmX=S)→St F0 w0 w' (qbb 42 t ((ndX X).flatMap ndC) :: qnd (X.map cxA) :: ps)→K (.returned (.tuple ⟨[sV t,.bool true]⟩)) w') :
 Calls Try.prog 27 ⟨[sV b]⟩ w K:=by
 have lenC:∀ p:Nm,(nmC p).length=20:=fun p=>(inferInstance:Rec nmC 20).len p
 have hbl:=(h.rdb b).1
 rw [qgb,Nat.mul_one] at hbl
 refine qnb (qp.ok _ _ _ ?_)
 unfold qp
 refine h.lx (s:=b) (zs:=xs) 6 rfl (by omega) ?_
 have h6:=hB _ (qgf (xs:=xs) (i:=6) (by omega))
 obtain ⟨c,hc6⟩:∃ c:Nat,xs.getD 6 0=c:=⟨(xs.getD 6 0).toNat,by omega⟩
 rw [hc6] at h6 ⊢
 have fc:∀ S g,Isg xs S g→c=hcN S:=fun S g hI=>by
  have:=gB_6 hI.2
  omega
 refine qw (qq (by omega) (by omega)) ?_
 unfold qp.j1
 refine qw (e':=((c+1:Nat):Int)) (by rw [qq (by omega) (by omega)]; omega) ?_
 refine qw (e':=(((c+1) * 12:Nat):Int)) (by rw [qq (by omega) (by omega)]; omega) ?_
 refine qw (e':=((8+(c+1) * 12:Nat):Int)) (by rw [qq (by omega) (by omega)]; omega) ?_
 refine qjc (fun g=>?_) (fun g3=>?_)
 · exact hk1 w (fun S g' hI=>by have:=fc S g' hI; have:=hcN_34 S; omega) h
 refine qjc (fun g=>?_) (fun g4=>?_)
 · exact hk1 w (fun S g' hI=>by have:=fc S g' hI; have:=hcN_34 S; omega) h
 generalize ha0:8+(c+1) * 12=a0
 have ha0b:a0≤68:=by omega
 have f0:∀ S g,Isg xs S g→8+(hcN S+1) * 12=a0:=fun S g hI=>by have:=fc S g hI; omega
 refine qw (qq (by omega) (by omega)) ?_
 refine qw (qq (by omega) (by omega)) ?_
 refine qjc (fun g=>?_) (fun g5=>?_)
 · exact hk1 w (fun S g' hI=>by have:=f0 S g' hI; have:=qnk hI.2; omega) h
 unfold qp.j2
 refine qw (e':=((a0+1020:Nat):Int)) (by rw [qq (by omega) (by omega)]; omega) ?_
 refine qxj (n:=a0+1020) rfl (by omega) (qtd ?_)
 haveI i1:Rdb F0 w0 ⟨qvd b.a b.cap (a0+1020) 1,b.len - (a0+1020),b.cap - (a0+1020)⟩ ps 1 (u8s (xs.drop (a0+1020))):=h.cutR b (a0+1020) b.len (b.cap - (a0+1020)) (Nat.le_refl _) (by omega) hc (List.take_of_length_le (by rw [List.length_drop]; omega))
 have hBd:qpd (xs.drop (a0+1020)):=fun x hx=>hB x (List.mem_of_mem_drop hx)
 refine qtg.c (s:=⟨qvd b.a b.cap (a0+1020) 1,b.len - (a0+1020),b.cap - (a0+1020)⟩) h hBd (by rw [List.length_drop]; omega) fun rb w h=>⟨_,rfl,?_⟩
 refine qgc.c (rb:=rb) h hBd fun w h=>⟨_,rfl,?_⟩
 have e1:=nu4 hBd 0 0
 have t1:tkS (xs.drop (a0+1020)) 0 0 4=((xs.drop (a0+1020)).take 4,4,0):=tk_in (n:=4) (by rw [List.length_drop]; omega)
 rw [t1] at e1
 rw [e1]
 have hNb:=be4_b (l:=(xs.drop (a0+1020)).take 4) (fun x hx=>hBd x (List.mem_of_mem_take hx)) (by rw [List.length_take]; omega)
 have fN:∀ S g,Isg xs S g→be ((xs.drop (a0+1020)).take 4)=S.length:=fun S g hI=>by
  have:=gB_count hI.2
  rw [f0 S g hI] at this
  rw [this,be_word (by have:=hI.1.len; omega)]
 have h:St F0 w0 w ps:=h.drop
 clear e1 t1 i1
 simp only
 obtain ⟨N,hN⟩:∃ N:Nat,be ((xs.drop (a0+1020)).take 4)=N:=⟨(be ((xs.drop (a0+1020)).take 4)).toNat,by omega⟩
 rw [hN] at hNb fN ⊢
 have fN:∀ S g,Isg xs S g→S.length=N:=fun S g hI=>by have:=fN S g hI; omega
 refine qw (e':=((a0+1024:Nat):Int)) (by rw [qq (by omega) (by omega)]; omega) ?_
 unfold qp.j3
 refine qjc (fun g=>?_) (fun g6=>?_)
 · exact hk1 w (fun S g' hI=>by have:=fN S g' hI; have:=hI.1.len; omega) h
 refine qw (qq (by omega) (by omega)) ?_
 refine qw (qq (by omega) (by omega)) ?_
 refine qw (qq (by omega) (by omega)) ?_
 refine qjc (fun g=>?_) (fun g7=>?_)
 · exact hk1 w (fun S g' hI=>by have:=fN S g' hI; have:=f0 S g' hI; have:=qnk hI.2; omega) h
 unfold qp.j4 qp.j14
 refine loop2 (fun (i:Nat) (t7:Sl) (i':Int) w'=>i'=(i:Int)∧i≤N∧St F0 w0 w' (qbb 20 t7 ((nmAt xs (a0+1024) i).flatMap nmC) :: ps)) (fun i=>N - i) 0 ⟨rfl,Nat.zero_le _,h.nilO⟩ ?_
 clear h
 rintro i t7 _ wL I μ ⟨rfl,hi,h⟩ hin
 unfold qp.b2
 refine qjc (fun g=>?_) (fun g=>?_)
 · have hix:i < N:=by omega
   refine qw (e':=((20 * i:Nat):Int)) (by rw [qq (by omega) (by omega)]; omega) ?_
   refine qw (e':=((a0+1024+20 * i:Nat):Int)) (by rw [qq (by omega) (by omega)]; omega) ?_
   refine qxj (n:=a0+1024+20 * i) rfl (by omega) (qtd ?_)
   have i1:Rdb F0 w0 ⟨qvd b.a b.cap (a0+1024+20 * i) 1,b.len - (a0+1024+20 * i),b.cap - (a0+1024+20 * i)⟩ ps 1 (u8s (xs.drop (a0+1024+20 * i))):=h.drop.cutR b (a0+1024+20 * i) b.len _ (Nat.le_refl _) (by omega) hc (List.take_of_length_le (by rw [List.length_drop]; omega))
   refine ⟨by show 20≤b.len - _; omega,(i1.rd h.drop).ldF (by decide) (by rw [List.length_drop]; omega) ?_⟩
   have hid:=idOk_cut (xs:=xs) (n:=a0+1024+20 * i) hB (by omega)
   have hnm:u8s ((xs.drop (a0+1024+20 * i)).take 20)=nmC (nmOf ((xs.drop (a0+1024+20 * i)).take 20)):=by unfold nmC; rw [nmOf_ok hid]
   rw [hnm]
   refine ⟨lenC _,?_⟩
   rw [qye (by rw [lenC]; rfl)]
   refine h.pushR (s:=t7) (L:=nmAt xs (a0+1024) i) (x:=nmOf ((xs.drop (a0+1024+20 * i)).take 20)) (by rw [qrh]; omega) rfl fun s' w hs h=>?_
   rw [← nmAt_succ] at h
   refine qw (e':=((i+1:Nat):Int)) (by rw [qq (by omega) (by omega)]; rfl) ?_
   exact ⟨⟨rfl,rfl,rfl,rfl⟩,hin (i+1) _ _ _ ⟨rfl,by omega,h⟩ (by omega)⟩
 have:i=N:=by omega
 subst this
 clear hin
 have hAl:=qrh xs (a0+1024) i
 have fA:∀ S g,Isg xs S g→nmAt xs (a0+1024) i=S.map (·.id):=fun S g hI=>by
  have h1:=f0 S g hI
  have h2:=fN S g hI
  have:=nmAt_S hI.2
  rw [h1,h2] at this
  exact this
 unfold qp.j5
 refine qw (e':=((20 * i:Nat):Int)) (by rw [qq (by omega) (by omega)]; omega) ?_
 refine qw (e':=((a0+1024+20 * i:Nat):Int)) (by rw [qq (by omega) (by omega)]; omega) ?_
 refine qw (e':=((36 * i:Nat):Int)) (by rw [qq (by omega) (by omega)]; omega) ?_
 refine qw (e':=((a0+1024+20 * i+36 * i:Nat):Int)) (by rw [qq (by omega) (by omega)]; omega) ?_
 refine qw (e':=((xs.length - 20:Nat):Int)) (by rw [qq (by omega) (by omega)]; omega) ?_
 refine qxj (n:=xs.length - 20) rfl (by omega) ?_
 refine qxj (n:=a0+1024+20 * i+36 * i) rfl (by omega) (qtd ?_)
 generalize hA:nmAt xs (a0+1024) i=A at hAl fA h
 haveI i2:Rdb F0 w0 ⟨qvd b.a b.cap (a0+1024+20 * i+36 * i) 1,xs.length - 20 - (a0+1024+20 * i+36 * i),b.cap - (a0+1024+20 * i+36 * i)⟩ ps 1 (u8s ((xs.drop (a0+1024+20 * i+36 * i)).take (xs.length - 20 - (a0+1024+20 * i+36 * i)))):=h.drop.cutR b (a0+1024+20 * i+36 * i) (xs.length - 20) _ (by omega) (by omega) hc rfl
 have hEBb:qpd ((xs.drop (a0+1024+20 * i+36 * i)).take (xs.length - 20 - (a0+1024+20 * i+36 * i))):=fun x hx=>hB x (List.mem_of_mem_drop (List.mem_of_mem_take hx))
 have hEl:((xs.drop (a0+1024+20 * i+36 * i)).take (xs.length - 20 - (a0+1024+20 * i+36 * i))).length≤xs.length:=by rw [List.length_take,List.length_drop]; omega
 have fR:∀ S g,Isg xs S g→∀ j (hj:j < S.length),((xs.drop (a0+1024+20 * i+36 * j)).take 36).take 20=S[j].qve.1∧qlh A (wd ((xs.drop (a0+1024+20 * i+36 * i)).take (xs.length - 20 - (a0+1024+20 * i+36 * i)))) (((xs.drop (a0+1024+20 * i+36 * i)).take (xs.length - 20 - (a0+1024+20 * i+36 * i))).length / 4) (be ((((xs.drop (a0+1024+20 * i+36 * j)).take 36).drop 20).take 4)) (be ((((xs.drop (a0+1024+20 * i+36 * j)).take 36).drop 24).take 4)) S[j].par∧be ((((xs.drop (a0+1024+20 * i+36 * j)).take 36).drop 28).take 8)=g S[j].id * 17179869184+S[j].date:=fun S g hI j hj=>by
  have h1:=f0 S g hI
  have h2:=fN S g hI
  rw [fA S g hI]
  exact isg_row hI hxl hj (by rw [h1,h2]) (by rw [h1,h2])
 have fE:∀ S g,Isg xs S g→((xs.drop (a0+1024+20 * i+36 * i)).take (xs.length - 20 - (a0+1024+20 * i+36 * i))).length / 4=(eG (S.map (·.id)) S).length:=fun S g hI=>by
  have h1:=f0 S g hI
  have h2:=fN S g hI
  have:=gB_edge hI.2
  rw [h1,h2] at this
  rw [this,qjf]
  omega
 generalize hEb:(xs.drop (a0+1024+20 * i+36 * i)).take (xs.length - 20 - (a0+1024+20 * i+36 * i))=Eb at i2 hEBb hEl fR fE
 unfold qp.j6 qp.j7 qp.j9
 refine loop3 (fun (X:List Cx) (t10:Sl) (r i':Int) w'=>i'=(X.length:Int)∧X.length≤i∧r=(((X.map fun x:Cx=>x.2.length).sum:Nat):Int)∧(X.map fun x:Cx=>x.2.length).sum≤Eb.length / 4+2 * i∧(∀ S g,Isg xs S g→X.map cmX=S.take X.length)∧St F0 w0 w' (qbb 42 t10 ((ndX X).flatMap ndC) :: qnd (X.map cxA) :: qbb 20 t7 (A.flatMap nmC) :: ps)) (fun X=>i - X.length) []
  ⟨rfl,Nat.zero_le _,rfl,Nat.zero_le _,fun S g _=>rfl,h.bag0.nilO⟩ ?_
 clear h
 rintro X t10 _ _ wL I μ ⟨rfl,hX,rfl,hrows,hXS,h⟩ hin
 unfold qp.b1
 refine qjc (fun g=>?_) (fun g=>?_)
 · have hix:X.length < i:=by omega
   unfold qp.j10
   refine read_12 (xs:=xs) (a2:=a0+1024+20 * i) (N:=i) (i:=X.length) (A:=A) (te:=⟨qvd b.a b.cap (a0+1024+20 * i+36 * i) 1,xs.length - 20 - (a0+1024+20 * i+36 * i),b.cap - (a0+1024+20 * i+36 * i)⟩) h hc hB (by omega) (by omega) (by omega) fun rb xb w h=>?_
   have hRl:((xs.drop (a0+1024+20 * i+36 * X.length)).take 36).length=36:=by rw [List.length_take,List.length_drop]; omega
   have hRe:((xs.drop (a0+1024+20 * i+36 * X.length)).take 36).take 20=(xs.drop (a0+1024+20 * i+36 * X.length)).take 20:=by rw [List.take_take]; rfl
   have hid:=idOk_cut (xs:=xs) (n:=a0+1024+20 * i+36 * X.length) hB (by omega)
   refine read_13 (Eb:=Eb) (A:=A) (X:=X) (rows:=(X.map fun x:Cx=>x.2.length).sum) (N:=i) (i:=X.length) h hRl (fun x hx=>hB x (List.mem_of_mem_drop (List.mem_of_mem_take hx))) hEBb (by omega) (by omega) (by omega) (by omega) (by omega) (fun w hn h=>?_) (fun x t' w hrx hxi hro h=>?_) (by omega)
   · refine hk1 w (fun S g hI=>?_) h.drop
     have hN:=fN S g hI
     obtain ⟨q1,q2,q3⟩:=fR S g hI X.length (by omega)
     have hSi:S[X.length]'(by omega) ∈ S:=List.getElem_mem _
     rcases hn with hn | hn | ⟨x,hrx,hn⟩
     · exact hn _ q2
     · have h1:=hI.1.gen hSi
       have h2:=hI.1.ok.dt _ hSi
       rw [q3] at hn
       omega
     · have h1:=hrx.par _ q2
       have h2:=hXS S g hI
       have h3:(X.map fun x:Cx=>x.2.length)=(S.take X.length).map fun c=>c.par.length:=by
        rw [← h2,List.map_map]
        rfl
       have h4:=sum_par (S.take (X.length+1)) (S.map (·.id))
       rw [List.take_succ_eq_append_getElem (by omega),List.map_append,List.sum_append,← h3,← List.take_succ_eq_append_getElem (by omega)] at h4
       have h5:=eG_le (S.map (·.id)) S (X.length+1)
       have h6:=fE S g hI
       rw [h1] at hn
       simp only [List.map_cons,List.map_nil,List.sum_cons,List.sum_nil,List.length_take] at h4
       omega
   · have el:(X ++ [x]).length=X.length+1:=by simp
     have es:((X ++ [x]).map fun x:Cx=>x.2.length).sum=(X.map fun x:Cx=>x.2.length).sum+x.2.length:=by simp
     refine ⟨⟨rfl,rfl,rfl,rfl,rfl,rfl⟩,hin (X ++ [x]) _ _ _ _ ⟨by rw [el],by omega,by rw [es],by omega,fun S g hI=>?_,h.sub⟩ (by rw [el]; omega)⟩
     have hN:=fN S g hI
     have hj:X.length < S.length:=by omega
     obtain ⟨q1,q2,q3⟩:=fR S g hI X.length hj
     rw [el,List.take_succ_eq_append_getElem hj,List.map_append,hXS S g hI]
     congr 1
     show [cmX x]=_
     have hd:=hI.1.ok.dt _ (List.getElem_mem hj)
     have hg:=hI.1.gen (List.getElem_mem hj)
     have e1:x.1.nm=S[X.length].id:=by
      have h2:A[X.length]'(by omega)=S[X.length].id:=by
       have h3:=fA S g hI
       simp only [h3,List.getElem_map]
      rw [← h2]
      exact nm_eq.2 hxi
     have e2:x.1.tr=S[X.length].qve:=by
      rw [hrx.tr]
      have:(nmOf ((xs.drop (a0+1024+20 * i+36 * X.length)).take 20))=S[X.length].qve:=Nm.ext' (by rw [nmOf_ok hid,← hRe]; exact q1)
      rw [← this]
      rfl
     have e3:x.1.date=S[X.length].date:=by
      rw [hrx.dt,q3]
      omega
     have e4:=hrx.par _ q2
     unfold cmX
     rw [e1,e2,e3,e4]
 · have hXi:X.length=i:=by omega
   have h5:=h.rlen (s:=t10) (f:=ndC) (L:=ndX X)
   rw [qhi] at h5
   unfold qp.j8
   refine hk2 X t10 wL h5.symm (by omega) (by omega) (fun S g hI=>?_) h.sub
   have h1:=hXS S g hI
   have h2:=fN S g hI
   rw [List.take_of_length_le (by omega)] at h1
   exact h1
end
end Go.Proofs.Ytigmbblgfnkpbaa
namespace Go.Proofs.Ytigmbblgfnkpbaa
open Go Go.Proofs
set_option linter.unusedVariables false
set_option linter.unusedSimpArgs false
attribute [local irreducible] apK cpK mkK br qne
open Classical in
noncomputable def errO (xs:List Int):Int:=if 262144 < xs.length then 5 else if xs.length < 28 then 3 else if xs.take 6=[67,71,80,72,1,1] then (if qne (xs.take (xs.length - 20))=xs.drop (xs.length - 20) then 2 else 4) else 2
theorem gB_sum {xs:List Int} {S:List Cm} {g:Nm→Int} (h:xs=gB S g):qne (xs.take (xs.length - 20))=xs.drop (xs.length - 20):=by
 have e:gB S g=qmh (chunkL (S.map (·.id)) g S) ++ qne (qmh (chunkL (S.map (·.id)) g S)):=rfl
 rw [h,e]
 generalize qmh (chunkL (S.map (·.id)) g S)=X
 have hl:=qxe X
 rw [List.length_append,hl,Nat.add_sub_cancel,List.take_left' rfl,List.drop_left' rfl]
theorem gB_congr {S:List Cm} {g g':Nm→Int} (h:∀ c ∈ S,g c.id=g' c.id):gB S g=gB S g':=by
 have hd:∀ A i,i≤S.length→dG A g S i=dG A g' S i:=by
  intro A i
  induction i with
  | zero=>intro _; rfl
  | succ i ih =>
    intro hi
    rw [dG_succ,dG_succ,ih (by omega)]
    congr 1
    unfold drw
    have:S.getD i default ∈ S:=by
     rw [List.getD_eq_getElem?_getD,List.getElem?_eq_getElem (by omega)]
     exact List.getElem_mem _
    rw [h _ this]
 unfold gB chunkL
 rw [hd _ _ (Nat.le_refl _)]
theorem wk_same {S:List Cm} {g g':Nm→Int} {O O':List Nm} (h:Wk (fC S) true O g) (h':Wk (fC S) true O' g') (hl:S.length≤O.length):∀ c ∈ S,g c.id=g' c.id:=fun c hc=>(wk_one h h').2 _ (wk_full h hl _ (List.mem_map.2 ⟨c,hc,rfl⟩))
theorem extract_all (l:List UInt8):ByteArray.extract ⟨⟨l⟩⟩ 0 l.length=⟨⟨l⟩⟩:=by
 apply ByteArray.ext
 rw [ByteArray.data_extract]
 simp
section
variable {F0:List Nat} {w0 w:World} {ps rest:List As} {b s t:Sl} {xs ys:List Int} {K:Ending→World→Prop}
theorem nz_o {a:Addr} {Z:Addr→Prop} (h:nz (some a) Z):Z a:=by
 unfold nz at h
 exact h
theorem prefix6.c (hx:xs.length=6) (hB:qpd xs) (hk:K (.returned (.bool (xs == [67,71,80,72,1,1]))) w):Calls Try.prog 25 ⟨[.string ⟨⟨u8 xs⟩⟩,.string { data:=#[67,71,80,72,1,1] }]⟩ w K:=by
 have hsz:ByteArray.size ⟨⟨u8 xs⟩⟩=6:=by
  show (u8 xs).length=6
  simp [u8,hx]
 have hp:ByteArray.size { data:=#[67,71,80,72,1,1] }=6:=rfl
 refine qnb (qqd.ok _ _ _ _ ?_)
 unfold qqd
 refine qnb (qzb.ok _ _ _ _ ?_)
 unfold qzb
 rw [hsz,hp]
 refine qjc (fun _=>?_) (fun g=>absurd (Int.le_refl _) g)
 refine qxj (n:=6) rfl (Nat.le_refl _) (qtd ?_)
 have e:ByteArray.extract ⟨⟨u8 xs⟩⟩ 0 6=⟨⟨u8 xs⟩⟩:=by
  have:=extract_all (u8 xs)
  rw [show (u8 xs).length=6 from hsz] at this
  exact this
 rw [e]
 have e2:({ data:=#[67,71,80,72,1,1] }:ByteArray)=⟨⟨u8 [67,71,80,72,1,1]⟩⟩:=by kernel_rfl
 rw [e2,u8_beq hB (by intro x hx; simp at hx; omega)]
 exact ⟨_,rfl,hk⟩
theorem qke.c (h:St F0 w0 w ps) [Rdb F0 w0 s ps 1 (u8s xs)] [Rdb F0 w0 t ps 1 (u8s ys)] (hx:qpd xs) (hy:qpd ys) (hk:K (.returned (.bool (xs == ys))) w):Calls Try.prog 28 ⟨[sV s,sV t]⟩ w K:=by
 refine qnb (qke.ok _ _ _ _ ?_)
 unfold qke
 refine h.bt (s:=s) hx (h.bt (s:=t) hy ?_)
 rw [u8_beq hx hy]
 exact hk
theorem Open_0 (h:St F0 w0 w ps) [Rdb F0 w0 b ps 1 (u8s xs)] (hc:b.len≤b.cap) (hB:qpd xs)
 (hkE:∀ w',(¬ xs.length≤262144 ∨ ∀ S g,¬ Isg xs S g)→St F0 w0 w' ps→K (.returned (.tuple ⟨[.pointer none,.int .i64 (errO xs)]⟩)) w')
 (hk1:∀ w',28≤xs.length→xs.length≤262144→errO xs=2→St F0 w0 w' ps→qab.j1 b (fun v w'=>K (.returned v) w') w') :
 Calls Try.prog 7 ⟨[sV b]⟩ w K:=by
 have hbl:=(h.rdb b).1
 rw [qgb,Nat.mul_one] at hbl
 refine qnb (qab.ok _ _ _ ?_)
 unfold qab
 refine qjc (fun g=>?_) (fun g1=>?_)
 · have:=hkE w (Or.inl (by omega)) h
   unfold errO at this
   rw [if_pos (by omega)] at this
   exact this
 refine qjc (fun g=>?_) (fun g2=>?_)
 · have:=hkE w (Or.inr fun S g' hI=>by have:=qnk hI.2; omega) h
   unfold errO at this
   rw [if_neg (by omega),if_pos (by omega)] at this
   exact this
 refine qxj (n:=6) rfl (by omega) (qtd ?_)
 haveI i6:Rdb F0 w0 ⟨qvd b.a b.cap 0 1,6 - 0,b.cap - 0⟩ ps 1 (u8s (xs.take 6)):=h.cutR b 0 6 (b.cap - 0) (by omega) (by omega) hc (by rw [List.drop_zero])
 have hB6:qpd (xs.take 6):=fun x hx=>hB x (List.mem_of_mem_take hx)
 refine h.bt (s:=⟨qvd b.a b.cap 0 1,6 - 0,b.cap - 0⟩) hB6 ?_
 refine prefix6.c (by rw [List.length_take]; omega) hB6 ⟨_,rfl,?_⟩
 refine qzc (fun g=>?_) (fun g3=>?_)
 · have g:¬ xs.take 6=[67,71,80,72,1,1]:=by simpa using g
   have:=hkE w (Or.inr fun S g' hI=>g (gB_head hI.2)) h
   unfold errO at this
   rw [if_neg (by omega),if_neg (by omega),if_neg g] at this
   exact this
 have g3:xs.take 6=[67,71,80,72,1,1]:=by simpa using g3
 refine h.drewK fun w h=>?_
 refine qw (e':=((xs.length - 20:Nat):Int)) (by rw [qq (by omega) (by omega)]; omega) ?_
 refine qxj (n:=xs.length - 20) rfl (by omega) (qtd ?_)
 refine qw (e':=((xs.length - 20:Nat):Int)) (by rw [qq (by omega) (by omega)]; omega) ?_
 refine qxj (n:=xs.length - 20) rfl (by omega) (qtd ?_)
 haveI i7:Rdb F0 w0 ⟨qvd b.a b.cap 0 1,xs.length - 20 - 0,b.cap - 0⟩ ps 1 (u8s (xs.take (xs.length - 20))):=h.cutR b 0 (xs.length - 20) (b.cap - 0) (by omega) (by omega) hc (by rw [List.drop_zero]; rfl)
 have i8:Rdb F0 w0 ⟨qvd b.a b.cap (xs.length - 20) 1,b.len - (xs.length - 20),b.cap - (xs.length - 20)⟩ ps 1 (u8s (xs.drop (xs.length - 20))):=h.cutR b (xs.length - 20) b.len _ (Nat.le_refl _) (by omega) hc (List.take_of_length_le (by rw [List.length_drop]; omega))
 have hdl:(xs.drop (xs.length - 20)).length=20:=by rw [List.length_drop]; omega
 refine ⟨by show 20≤b.len - _; omega,?_⟩
 have hBt:qpd (xs.take (xs.length - 20)):=fun x hx=>hB x (List.mem_of_mem_take hx)
 obtain ⟨a0,ha0⟩:∃ a0,qvd b.a b.cap (xs.length - 20) 1=some a0:=by
  obtain ⟨a,ha,_⟩:=(i8.rd h).2 0 (by rw [qgb]; omega)
  exact ⟨a,ha⟩
 have hl20:∀ {w':World} {Z:Array Value→Prop},St F0 w0 w' ps→Z ⟨u8s (xs.drop (xs.length - 20))⟩→ldA w' a0 20 Z:=fun {w' Z} h hz=>by
  have:=(i8.rd h).ldF (n:=20) (by decide) (by omega) (K:=Z) (by rw [List.take_of_length_le (by omega)]; exact hz)
  have e:(⟨qvd b.a b.cap (xs.length - 20) 1,b.len - (xs.length - 20),b.cap - (xs.length - 20)⟩:Sl).a=some a0:=ha0
  rw [e] at this
  exact nz_o this
 have fin:∀ w,St F0 w0 w ps→eqA .u8 20 ⟨u8s (qne (xs.take (xs.length - 20)))⟩ ⟨u8s (xs.drop (xs.length - 20))⟩ fun x=>br (!x) ((fun v w'=>K (.returned v) w') (.tuple ⟨[.pointer none,.int .i64 4]⟩) w) (qab.j1 b (fun v w'=>K (.returned v) w') w):=fun w h=>by
  refine eqA_i (qxe _) hdl ?_
  refine qzc (fun g=>?_) (fun g4=>?_)
  · have g:¬ qne (xs.take (xs.length - 20))=xs.drop (xs.length - 20):=by simpa using g
    have:=hkE w (Or.inr fun S g' hI=>g (gB_sum hI.2)) h
    unfold errO at this
    rw [if_neg (by omega),if_neg (by omega),if_pos g3,if_neg g] at this
    exact this
  · have g4:qne (xs.take (xs.length - 20))=xs.drop (xs.length - 20):=by simpa using g4
    refine hk1 w (by omega) (by omega) ?_ h
    unfold errO
    rw [if_neg (by omega),if_neg (by omega),if_pos g3,if_pos g4]
 have hS:∀ {w':World} {Z:Array Value→World→Prop},St F0 w0 w' ps→(∀ w'',St F0 w0 w'' ps→Z ⟨u8s (qne (xs.take (xs.length - 20)))⟩ w'')→cr_G 26 [sV ⟨qvd b.a b.cap 0 1,xs.length - 20 - 0,b.cap - 0⟩] w' Z:=fun h hz =>
  qxf.d (s:=⟨qvd b.a b.cap 0 1,xs.length - 20 - 0,b.cap - 0⟩) (xs:=xs.take (xs.length - 20)) h hBt (by rw [List.length_take]; omega) fun w h=>⟨_,rfl,hz w h⟩
 rw [ha0]
 refine qde ⟨?_,?_⟩
 · exact hS h fun w h=>hl20 h (fin w h)
 · exact hl20 h (hS h fun w h=>fin w h)
end
end Go.Proofs.Ytigmbblgfnkpbaa
namespace Go.Proofs.Ytigmbblgfnkpbaa
open Go Go.Proofs
set_option linter.unusedVariables false
set_option linter.unusedSimpArgs false
attribute [local irreducible] apK cpK mkK br qne
theorem sumB_ok (xs:List Int):qpd (qne xs):=by
 unfold qne
 refine qug fun v _=>?_
 intro x hx
 have m:∀ y:Int,0≤y % 256∧y % 256 < 256:=fun y=>by omega
 unfold word4 at hx
 simp only [List.mem_cons,List.not_mem_nil,or_false] at hx
 rcases hx with rfl | rfl | rfl | rfl <;> exact m _
theorem tb_ok (l:List (List Int)):∀ i≤4,qpd (tb l i):=by
 intro i
 induction i with
 | zero=>intro _ x hx; simp [tb] at hx
 | succ i ih =>
   intro hi
   rw [tb_succ,qpc,qpc]
   refine ⟨ih (by omega),?_,qzh 8 8 _⟩
   have:i=0 ∨ i=1 ∨ i=2 ∨ i=3:=by omega
   rcases this with rfl | rfl | rfl | rfl <;> (intro x hx; simp [wrdB] at hx; omega)
theorem gB_ok (S:List Cm) (g:Nm→Int):qpd (gB S g):=by
 have e:gB S g=qmh (chunkL (S.map (·.id)) g S) ++ qne (qmh (chunkL (S.map (·.id)) g S)):=rfl
 have hc:(chunkL (S.map (·.id)) g S).length=hcN S:=chunk_len _ _ _
 have h34:=hcN_34 S
 rw [e,qpc]
 refine ⟨?_,sumB_ok _⟩
 unfold qmh
 rw [qrk,hc,qpc,qpc,qpc,qpc,qpc,qpc,qpc]
 refine ⟨⟨⟨⟨?_,tb_ok _ _ (by omega)⟩,by intro x hx; simp at hx; omega⟩,qzh 8 8 _⟩,⟨⟨wB_ok _,nB_ok _⟩,dG_ok _ _ _ _⟩,wB_ok _⟩
 intro x hx
 simp [hdB] at hx
 omega
theorem risC {pr:Nd→List Nm} {S:List Nd} (h:RisN S):(S.map (cmN pr)).Pairwise ltC:=by
 rw [List.pairwise_map]
 exact h
section
variable {F0:List Nat} {w0 w:World} {ps rest:List As} {b s t sa sn sg:Sl} {xs ys:List Int} {L:List Nd} {G:Rws Int} {mb gb:Nat} {K:Ending→World→Prop}
theorem Open_4 (h:St F0 w0 w (qfb gb (grL sa sn ⟨none,0,0⟩) :: ps)) [Rdb F0 w0 sa ps 20 ((L.map Nd.nm).flatMap nmC)] [MpR Int inV mb ps G] (hL:L.length≤1000000)
 (hk:∀ sg w',sg.len=L.length→St F0 w0 w' (qfb gb (grL sa sn sg) :: qbb 1 sg (ivs .i64 (L.map fun n=>gD G n.nm)) :: ps)→K (.returned (.tuple ⟨[.pointer (some ⟨gb,0,none⟩),.int .i64 0]⟩)) w') :
 qab.j4 (some mb) (some ⟨gb,0,none⟩) (fun v w'=>K (.returned v) w') w:=by
 have lenC:∀ p:Nm,(nmC p).length=20:=fun p=>(inferInstance:Rec nmC 20).len p
 have hla:=h.rlen (s:=sa) (f:=nmC) (L:=L.map Nd.nm)
 rw [List.length_map] at hla
 unfold qab.j4
 refine qde (h.gL (b:=gb) ?_)
 unfold qab.j6
 refine loop1 (fun (a:Nat × Sl) (i':Int) w'=>i'=(a.1:Int)∧a.1≤L.length∧St F0 w0 w' (qfb gb (grL sa sn a.2) :: qbb 1 a.2 (ivs .i64 ((L.take a.1).map fun n=>gD G n.nm)) :: ps)) (fun a=>L.length - a.1) (0,⟨none,0,0⟩) ⟨rfl,Nat.zero_le _,(h.nil 1).at1⟩ ?_
 clear h
 rintro ⟨i,sg⟩ _ wL I μ ⟨rfl,hi,h⟩ hin
 simp only at hi h hin ⊢
 unfold qab.b1
 refine qjc (fun g=>?_) (fun g=>?_)
 · have g:(i:Int) < (sa.len:Int):=g
   have hix:i < L.length:=by omega
   have hix2:i < (L.map Nd.nm).length:=by rw [List.length_map]; exact hix
   refine h.lr (s:=sa) (f:=nmC) (L:=L.map Nd.nm) i rfl hix2 ?_
   have hnm:(L.map Nd.nm)[i]=L[i].nm:=List.getElem_map ..
   rw [hnm]
   have hsn:(L.take (i+1)).map (fun n=>gD G n.nm)=(L.take i).map (fun n=>gD G n.nm) ++ [gD G L[i].nm]:=by rw [List.take_succ_eq_append_getElem hix,List.map_append]; rfl
   generalize L[i].nm=q at hsn ⊢
   rw [zc_id]
   refine h.new fun xb w h=>?_
   have h:St F0 w0 w (qfb xb (ivs .u8 z20) :: qfb gb (grL sa sn sg) :: qbb 1 sg (ivs .i64 ((L.take i).map fun n=>gD G n.nm)) :: ps):=h
   refine ⟨lenC q,?_⟩
   refine h.setR (f:=nmC) (x:=q) (by rw [qt]; rfl) fun w h=>?_
   refine h.drewK fun w h=>?_
   refine qde ?_
   refine h.lA (b:=xb) (lenC q) ?_
   have hb:St F0 w0 w ps:=h.drop.drop.drop
   have h:St F0 w0 w (qfb gb (grL sa sn sg) :: qbb 1 sg (ivs .i64 ((L.take i).map fun n=>gD G n.nm)) :: ps):=h.drop
   have hll:((L.take i).map fun n=>gD G n.nm).length≤1000000:=by rw [List.length_map,List.length_take]; omega
   have fin:∀ (s14:Sl) w,St F0 w0 w (qbb 1 s14 (ivs .i64 ((L.take i).map (fun n=>gD G n.nm) ++ [gD G q])) :: qfb gb (grL sa sn sg) :: ps)→nz (some (⟨gb,0,none⟩:Addr)) fun a16=>Go.Proofs.Ytigmbblgfnkpbaa.st w (Addr.add a16 2) (sV s14) fun w17=>lt (IntKind.i64.wrap ((i:Int)+1)) fun x18=>(some mb=some mb∧(some (⟨gb,0,none⟩:Addr)=some ⟨gb,0,none⟩∧sa=sa∧(sa.len:Int)=(sa.len:Int)))∧I x18 w17∧μ x18 w17 < μ (i:Int) wL:=fun s14 w h=>by
    refine qde ?_
    refine h.gst (b:=gb) trivial fun w h=>?_
    refine qw (e':=((i+1:Nat):Int)) (by rw [qq (by omega) (by omega)]; rfl) ?_
    refine ⟨⟨rfl,rfl,rfl,rfl⟩,hin (i+1,s14) _ _ ⟨rfl,by simp only; omega,?_⟩ (by simp only; omega)⟩
    simp only
    rw [hsn]
    exact h
   have push:∀ {w},St F0 w0 w (qfb gb (grL sa sn sg) :: qbb 1 sg (ivs .i64 ((L.take i).map fun n=>gD G n.nm)) :: ps)→∀ {Z:Sl→World→Prop},(∀ s14 w,St F0 w0 w (qbb 1 s14 (ivs .i64 ((L.take i).map (fun n=>gD G n.nm) ++ [gD G q])) :: qfb gb (grL sa sn sg) :: ps)→Z s14 w)→nw w ⟨[.int .i64 (gD G q)]⟩ 3 fun a11 w12=>rdO w12 (some a11) (1 * 1) fun c13=>apK Try.prog 3 w12 sg.a sg.len sg.cap 1 c13 Z:=fun {w} h {Z} hz=>by
    refine h.pushI (s:=sg) (by omega) fun s14 w h=>hz s14 w h
   refine ⟨?_,_,qhf hb mb q,?_,?_⟩
   · refine h.gL (b:=gb) ⟨_,qhf hb mb q,?_⟩
     exact push h fun s14 w h=>fin s14 w h
   · refine h.gL (b:=gb) ?_
     exact push h fun s14 w h=>fin s14 w h
   · refine h.new fun nb w h=>?_
     have h:St F0 w0 w (qfb nb (ivs .i64 [gD G q]) :: qfb gb (grL sa sn sg) :: qbb 1 sg (ivs .i64 ((L.take i).map fun n=>gD G n.nm)) :: ps):=h
     refine h.gL (b:=gb) ?_
     haveI:Rdb F0 w0 ⟨some ⟨nb,0,none⟩,1,1⟩ (qfb nb (ivs .i64 [gD G q]) :: qfb gb (grL sa sn sg) :: qbb 1 sg (ivs .i64 ((L.take i).map fun n=>gD G n.nm)) :: ps) 1 (ivs .i64 [gD G q]):=quj rfl
     refine h.appI (s:=sg) (s2:=⟨some ⟨nb,0,none⟩,1,1⟩) (k:=.i64) (ys:=[gD G q]) (by show _+1≤_; omega) fun s14 w h=>?_
     exact fin s14 w (h.tail fun _ _ _ h=>h.drop)
 · have g:¬ (i:Int) < (sa.len:Int):=g
   have:i=L.length:=by omega
   subst this
   rw [List.take_length] at h
   have hl:=h.drop.len
   rw [qt,List.length_map,Nat.mul_one] at hl
   unfold qab.j5
   exact hk sg wL hl.symm h
theorem qab.c (h:St F0 w0 w ps) [Rdb F0 w0 b ps 1 (u8s xs)] (hc:b.len≤b.cap) (hB:qpd xs)
 (hkE:∀ w',(¬ xs.length≤262144 ∨ ∀ S g,¬ Isg xs S g)→St F0 w0 w' ps→K (.returned (.tuple ⟨[.pointer none,.int .i64 (errO xs)]⟩)) w')
 (hkO:∀ X g sa sn sg gb w',xs.length≤262144→Isg xs (X.map cmX) g→(∀ S g',Isg xs S g'→X.map cmX=S)→sa.len=X.length→sn.len=X.length→sg.len=X.length →
   St F0 w0 w' (qfb gb (grL sa sn sg) :: qbb 1 sg (ivs .i64 ((ndX X).map fun n=>g n.nm)) :: qbb 20 sa (((ndX X).map Nd.nm).flatMap nmC) :: qbb 42 sn ((ndX X).flatMap ndC) :: qnd (X.map cxA) :: ps)→K (.returned (.tuple ⟨[.pointer (some ⟨gb,0,none⟩),.int .i64 0]⟩)) w') :
 Calls Try.prog 7 ⟨[sV b]⟩ w K:=by
 refine Open_0 h hc hB hkE fun w hl28 hlx he2 h=>?_
 rw [he2] at hkE
 unfold qab.j1
 refine qp.c (b:=b) (xs:=xs) h hc hB hl28 (by omega) (fun w hn h=>⟨⟨none,0,0⟩,false,rfl,?_⟩) (fun X t w ht hX hrow hXS h=>⟨t,true,rfl,?_⟩)
 · unfold qab.j2
   exact qzc (fun _=>hkE w (Or.inr hn) h) (fun g=>by cases g)
 unfold qab.j2
 refine qzc (fun g=>by cases g) (fun _=>?_)
 obtain ⟨pr,hpr⟩:=h.prX (X:=X) fun x hx=>by
  haveI:=bag_rd (F0:=F0) (w0:=w0) (ps:=ps) hx
  exact inferInstance
 have hcm:=cm_of_pr hpr
 have hPX:∀ n ∈ ndX X,Rdb F0 w0 n.par (qbb 42 t ((ndX X).flatMap ndC) :: qnd (X.map cxA) :: ps) 20 ((pr n).flatMap nmC):=fun n hn=>by
  obtain ⟨x,hx,rfl⟩:=List.mem_map.1 hn
  rw [hpr x hx]
  haveI:=bag_rd (F0:=F0) (w0:=w0) (ps:=ps) hx
  exact inferInstance
 have hsum:((ndX X).map fun n=>(pr n).length).sum≤200000:=by
  have:((ndX X).map fun n=>(pr n).length)=X.map fun x:Cx=>x.2.length:=by
   unfold ndX
   rw [List.map_map]
   exact List.map_congr_left fun x hx=>by show (pr x.1).length=_; rw [hpr x hx]
  rw [this]
  omega
 have hXl:=qhi X
 refine Build.c (s:=t) (L:=ndX X) (pr:=pr) h (by omega) hsum hPX (fun hno w h=>⟨⟨none,0,0⟩,_,rfl,?_⟩) (fun hok O g w hW hl h=>⟨⟨none,0,0⟩,_,rfl,?_⟩) (fun hok O g w hW hl hl2 h=>⟨⟨none,0,0⟩,_,rfl,?_⟩) (fun hok O g S r w hW hl hl2 hS hris hr h=>⟨r,_,rfl,?_⟩)
 · refine qzc (fun _=>hkE w (Or.inr fun S g hI=>?_) h.drop.drop) (fun g=>by cases g)
   have:=hXS S g hI
   rw [hcm,this] at hno
   exact hno hI.1.ok
 · refine qzc (fun _=>hkE w (Or.inr fun S g' hI=>?_) h.drop.drop) (fun g=>by cases g)
   have:=hXS S g' hI
   rw [hcm,this] at hW
   obtain ⟨O',hW',hl'⟩:=hI.1.full
   have:=wk_len hW hW'
   have:=congrArg List.length (hXS S g' hI)
   rw [List.length_map] at this
   omega
 · refine qzc (fun _=>hkE w (Or.inr fun S g' hI=>?_) h.drop.drop) (fun g=>by cases g)
   have:=congrArg List.length (hXS S g' hI)
   rw [List.length_map] at this
   have:=hI.1.len
   omega
 refine qzc (fun g=>by cases g) (fun _=>?_)
 have hSl:=hS.length_eq
 have hV:Vg (S.map (cmN pr)) g:=by
  have hCp:((ndX X).map (cmN pr)).Perm (S.map (cmN pr)):=(hS.map _).symm
  refine ⟨risC hris,hok.perm hCp,⟨O,?_,by rw [List.length_map]; omega⟩,by rw [List.length_map]; omega⟩
  rw [← fC_perm hok.nd hCp]
  exact hW
 have hBg:qpd (gB (S.map (cmN pr)) g):=gB_ok _ _
 refine qke.c (s:=r) (t:=b) (xs:=gB (S.map (cmN pr)) g) (ys:=xs) h hBg hB ⟨_,rfl,?_⟩
 refine qzc (fun g2=>?_) (fun g2=>?_)
 · have g2:¬ gB (S.map (cmN pr)) g=xs:=by simpa using g2
   refine hkE w (Or.inr fun S' g' hI=>g2 ?_) h.drop.drop.drop
   have e1:=hXS S' g' hI
   have e2:S.map (cmN pr)=S':=by
    refine ltC_eq (risC hris) hI.1.ris ?_
    rw [← e1,← hcm]
    exact hS.map _
   obtain ⟨O',hW',hl'⟩:=hI.1.full
   rw [hcm,e1] at hW
   have hlS:S'.length≤O.length:=by rw [← e2,List.length_map]; omega
   rw [e2,gB_congr (wk_same hW hW' hlS)]
   exact hI.2.symm
 · have g2:gB (S.map (cmN pr)) g=xs:=by simpa using g2
   have hI:Isg xs (S.map (cmN pr)) g:=⟨hV,g2.symm⟩
   have e1:=hXS _ _ hI
   have hn:((ndX X).map (·.id)).Nodup:=qzf.1 (by have:=hok.nd; rwa [qrj] at this)
   have h:St F0 w0 w (qbb 42 t ((ndX X).flatMap ndC) :: qnd (X.map cxA) :: ps):=h.drop
   unfold qab.j3
   refine Generations.c (s:=t) (pr:=pr) (L:=ndX X) h (by omega) (by omega) hPX (fun e=>absurd hn e) (fun _ O2 G w hE hl2 h=>?_) (fun _ mb O2 G w hE hl2 h=>⟨some mb,0,rfl,?_⟩)
   · exfalso
     have hW2:=wk_rows hn hE
     have:=wk_len hW hW2
     have:=wkE_le hE
     omega
   · have hW2:=wk_rows hn hE
     refine qrb.c (s:=t) (L:=ndX X) h (by omega) fun sa w hsa h=>⟨sa,rfl,?_⟩
     refine h.new fun gb w h=>?_
     have h:St F0 w0 w (qfb gb (grL sa t ⟨none,0,0⟩) :: qbb 20 sa (((ndX X).map Nd.nm).flatMap nmC) :: tmA inV mb G :: qbb 42 t ((ndX X).flatMap ndC) :: qnd (X.map cxA) :: ps):=h
     refine Open_4 (G:=G) (mb:=mb) (L:=ndX X) h (by omega) fun sg w hsg h=>?_
     refine hkO X (gD G) sa t sg gb w hlx ?_ hXS (by omega) ht (by omega) h.sub
     rw [e1]
     have hWS:=hW
     rw [hcm,e1] at hW hW2
     refine ⟨⟨hV.ris,hV.ok,⟨O2,hW2,?_⟩,hV.len⟩,?_⟩
     · have:=wk_len hW hW2
       rw [List.length_map]
       omega
     · rw [← gB_congr (wk_same hW hW2 (by rw [List.length_map]; omega))]
       exact hI.2
end
end Go.Proofs.Ytigmbblgfnkpbaa
namespace Go.Proofs.Ytigmbblgfnkpbaa
open Go Go.Proofs
set_option linter.unusedVariables false
set_option linter.unusedSimpArgs false
attribute [local irreducible] apK cpK mkK br qne
theorem qlh.congr {A:List Nm} {f f':Nat→Int} {E:Nat} {P Q:Int} {PP:List Nm} (h:qlh A f E P Q PP) (hf:∀ k,k < E→f' k=f k):qlh A f' E P Q PP:=by
 obtain ⟨e,h1,h2,h3⟩:=h.b
 exact ⟨h.ris,h.mem,h.len,h.a,e,h1,h2,fun j hj=>by rw [hf _ (by omega)]; exact h3 j hj⟩
section
variable {F0:List Nat} {w0 w:World} {ps rest:List As} {b s t:Sl} {xs:List Int} {K:Ending→World→Prop}
end
end Go.Proofs.Ytigmbblgfnkpbaa
namespace Go.Proofs.Ytigmbblgfnkpbaa
open Go Go.Proofs Go.ChangeShapes Go.WideShapes Go.Deep
set_option linter.unusedVariables false
set_option linter.unusedSimpArgs false
inductive Sh where
 | int (k:IntKind)
 | str
 | boo
 | fin
 | more (a b:Sh)
 | arr (n:Nat) (a:Sh)
 | slc (a:Sh)
 | stc (c:Sh)
def Sh.sz:Sh→Nat
 | .int _=>1
 | .str=>1
 | .boo=>1
 | .fin=>0
 | .more a b=>a.sz+b.sz
 | .arr n a=>n * a.sz
 | .slc _=>1
 | .stc c=>c.sz
def Sh.ok (w:World):Sh→List Value→Prop
 | .int k,cs=>∃ n,cs=[.int k n]∧(Lit.int k n).wf=true
 | .str,cs=>∃ s:ByteArray,cs=[.string s]
 | .boo,cs=>∃ b,cs=[.bool b]
 | .fin,cs=>cs=[]
 | .more a b,cs=>∃ x y,cs=x ++ y∧a.ok w x∧b.ok w y
 | .arr n a,cs=>∃ L:List (List Value),L.length=n∧cs=L.flatten∧∀ x ∈ L,a.ok w x
 | .slc a,cs=>∃ (s:Sl) (L:List (List Value)),cs=[.slice s.a s.len s.cap]∧s.len≤s.cap∧L.length=s.len∧Rd w a.sz s L.flatten∧∀ x ∈ L,a.ok w x
 | .stc c,cs=>c.ok w cs
section
variable {H:Type} {enc:TypeId × Value→H} {P:Program} {w:World} {base:Nat} {spare:Nat→Bool} {held:Bool}
end
end Go.Proofs.Ytigmbblgfnkpbaa
namespace Go.Proofs.Ytigmbblgfnkpbaa
open Go Go.Proofs
set_option linter.unusedVariables false
set_option linter.unusedSimpArgs false
attribute [local irreducible] apK cpK mkK br qne
def Nd.set0 (n:Nd) (v:Int) (hv:0≤v∧v < 256):Nd:={ n with id:=n.id.set 0 v,hid:=by rw [List.length_set]; exact n.hid,bid:=fun x hx=>(List.mem_or_eq_of_mem_set hx).elim (n.bid x) fun h=>h ▸ hv }
theorem ndC_set0 (n:Nd) (v:Int) (hv:0≤v∧v < 256):(ndC n).set 0 (.int .u8 v)=ndC (n.set0 v hv):=by
 unfold ndC Nd.set0
 rw [List.set_append_left _ _ (by rw [qt,n.hid]; decide),ivs_set]
theorem few_len {C:List Cm} {g:Nm→Int} (h1:C.length≤42) (h2:(C.map fun c=>c.par.length).sum≤900):(gB C g).length≤8000:=by
 have:=qnk (xs:=gB C g) (S:=C) (g:=g) rfl
 have:=sum_eG (C.map (·.id)) C
 have:=hcN_34 C
 omega
theorem isg_gB {C0 C:List Cm} {g:Nm→Int} {O:List Nm} (hok:OkC C0) (hW:Wk (fC C0) true O g) (hl:C0.length≤O.length) (hl2:C0.length≤1024) (hp:C0.Perm C) (hs:C.Pairwise ltC):Isg (gB C g) C g:=by
 have:=hp.length_eq
 refine ⟨⟨hs,hok.perm hp,⟨O,?_,by omega⟩,by omega⟩,rfl⟩
 rw [← fC_perm hok.nd hp]
 exact hW
section
variable {F0:List Nat} {w0 w:World} {ps rest:List As} {s t:Sl} {L:List Nd} {pr:Nd→List Nm} {K:Ending→World→Prop}
theorem Build_ok (h:St F0 w0 w ps) [Rdb F0 w0 s ps 42 (L.flatMap ndC)] (hL:L.length≤42) (hsum:(L.map fun n=>(pr n).length).sum≤900) (hP:∀ n ∈ L,Rdb F0 w0 n.par ps 20 ((pr n).flatMap nmC))
 (hok:OkC (L.map (cmN pr))) (hfull:∀ O g,Wk (fC (L.map (cmN pr))) true O g→L.length≤O.length)
 (hk:∀ O g C t w',Wk (fC (L.map (cmN pr))) true O g→(L.map (cmN pr)).Perm C→Isg (gB C g) C g→(gB C g).length≤8000→t.cap=t.len→St F0 w0 w' (rdA 1 t (u8s (gB C g)) :: ps)→K (.returned (.tuple ⟨[sV t,.int .i64 0]⟩)) w') :
 Calls Try.prog 6 ⟨[sV s]⟩ w K:=by
 refine Build.c (pr:=pr) (L:=L) h (by omega) (by omega) hP (fun e=>absurd hok e) (fun _ O g w hW hl h=>?_) (fun _ O g w hW hl hl2 h=>by exfalso; omega) (fun _ O g S t w hW hl hl2 hS hris ht h=>?_)
 · have:=hfull O g hW
   exfalso; omega
 · have hCp:(L.map (cmN pr)).Perm (S.map (cmN pr)):=(hS.map _).symm
   have hSl:=hS.length_eq
   refine hk O g (S.map (cmN pr)) t w hW hCp (isg_gB hok hW (by rw [List.length_map]; omega) (by rw [List.length_map]; omega) hCp (risC hris)) (few_len (by rw [List.length_map]; omega) ?_) ht.2 h
   have e:((S.map (cmN pr)).map fun c=>c.par.length)=S.map fun n=>(pr n).length:=by rw [List.map_map]; rfl
   rw [e,(hS.map fun n=>(pr n).length).sum_nat]
   exact hsum
def zN:Nm:=⟨z20,by refine ⟨rfl,?_⟩; decide⟩
def oN:Nm:=⟨z20.set 0 1,by refine ⟨rfl,?_⟩; decide⟩
def kA:Nd:=ndZ.setD 5
def kB (s:Sl):Nd:=((ndZ.setP s).setD 9).set0 1 (by decide)
def cA:Cm:=⟨zN,zN,[],5⟩
def cB:Cm:=⟨oN,zN,[zN],9⟩
theorem zo_ne:zN ≠ oN:=fun h=>by
 have:=congrArg Subtype.val h
 revert this
 decide
theorem zo_lt:ltI zN.1 oN.1=true:=by decide
theorem known_ok:OkC [cB,cA]:=by
 refine ⟨List.nodup_cons.2 ⟨?_,List.nodup_cons.2 ⟨List.not_mem_nil,List.nodup_nil⟩⟩,fun c hc=>?_,fun c hc p hp=>?_⟩
 · intro h
   have:oN=zN:=by simpa [cA,cB] using h
   exact zo_ne this.symm
 · rcases List.mem_cons.1 hc with rfl | hc
   · exact ⟨by decide,by decide⟩
   · have:c=cA:=by simpa using hc
     subst this
     exact ⟨by decide,by decide⟩
 · rcases List.mem_cons.1 hc with rfl | hc
   · have:p=zN:=by simpa [cB] using hp
     subst this
     simp [cA]
   · have:c=cA:=by simpa using hc
     subst this
     cases hp
theorem f_z:fC [cB,cA] zN=some []:=by
 unfold fC
 rw [List.find?_cons,List.find?_cons]
 have:¬ cB.id=zN:=fun h=>zo_ne h.symm
 simp only [this,decide_false]
 rfl
theorem f_o:fC [cB,cA] oN=some [zN]:=by
 unfold fC
 rw [List.find?_cons]
 have:cB.id=oN:=rfl
 simp only [this,decide_true]
 rfl
theorem known_wk {O:List Nm} {g:Nm→Int} (h:Wk (fC [cB,cA]) true O g):2≤O.length∧g oN=2:=by
 have hz:zN ∈ O:=h.most zN [] f_z rfl (fun p hp=>by cases hp)
 have ho:oN ∈ O:=h.most oN [zN] f_o rfl (fun p hp _=>by
  have:p=zN:=by simpa using hp
  rw [this]; exact hz)
 refine ⟨?_,?_⟩
 · have:=qie (O:=[zN,oN]) (S:=O) (List.nodup_cons.2 ⟨by simpa using zo_ne,List.nodup_cons.2 ⟨List.not_mem_nil,List.nodup_nil⟩⟩) fun x hx=>by
    rcases List.mem_cons.1 hx with rfl | hx
    · exact hz
    · have:x=oN:=by simpa using hx
      rw [this]; exact ho
   exact this
 · have e1:=h.gens zN [] hz f_z
   have e2:=h.gens oN [zN] ho f_o
   rw [mxF] at e1
   rw [mxF,if_pos hz,mxF,e1] at e2
   rw [e2]
   decide
end
end Go.Proofs.Ytigmbblgfnkpbaa
namespace Go.Proofs.Ytigmbblgfnkpbaa
open Go Go.Proofs
set_option linter.unusedVariables false
set_option linter.unusedSimpArgs false
attribute [local irreducible] apK cpK mkK br qne
theorem nilRd {F0:List Nat} {w0:World} {ps:List As}:Rdb F0 w0 ⟨none,0,0⟩ ps 20 (([]:List Nm).flatMap nmC):=⟨fun h=>⟨rfl,fun i hi=>by simp at hi⟩⟩
section
variable {F0:List Nat} {w0 w:World} {ps rest:List As} {K:Ending→World→Prop}
theorem quc.c (h:St F0 w0 w ps) (hk:∀ w',St F0 w0 w' ps→K (.returned (.bool true)) w'):Calls Try.prog 5 ⟨[]⟩ w K:=by
 have lenC:∀ p:Nm,(nmC p).length=20:=fun p=>(inferInstance:Rec nmC 20).len p
 refine qnb (quc.ok _ _ ?_)
 unfold quc
 rw [qce]
 have ea:List.set (⟨ndC ndZ⟩:Array Value).toList 41 (.int .i64 5)=ndC kA:=ndC_setD ndZ 5
 rw [ea]
 refine h.new fun ab w h=>?_
 have h:St F0 w0 w (qfb ab (ndC ndZ) :: ps):=h
 refine ⟨qcb _,?_⟩
 refine h.setR (f:=ndC) (x:=kA) (qcb _) fun w h=>?_
 refine ⟨rfl,?_⟩
 refine h.new fun zb w h=>?_
 have h:St F0 w0 w (qfb zb (nmC zN) :: qfb ab (ndC kA) :: ps):=h
 refine h.new fun bb w h=>?_
 have h:St F0 w0 w (qfb bb (ndC ndZ) :: qfb zb (nmC zN) :: qfb ab (ndC kA) :: ps):=h
 have eb:List.set (List.set (⟨ndC ndZ⟩:Array Value).toList 40 (.slice (some ⟨zb,0,none⟩) 1 1)) 41 (.int .i64 9)=ndC ((ndZ.setP ⟨some ⟨zb,0,none⟩,1,1⟩).setD 9):=by
  rw [← ndC_setD,← qsh]
 rw [eb]
 refine ⟨qcb _,?_⟩
 refine h.setR (f:=ndC) (x:=(ndZ.setP ⟨some ⟨zb,0,none⟩,1,1⟩).setD 9) (qcb _) fun w h=>?_
 rw [qmc]
 refine ixA_b' (by decide) (by decide) ?_
 refine h.st (by rw [qcb]; decide) trivial fun w h=>?_
 have h:St F0 w0 w (qfb bb (ndC (kB ⟨some ⟨zb,0,none⟩,1,1⟩)) :: qfb zb (nmC zN) :: qfb ab (ndC kA) :: ps):=by
  have e:=ndC_set0 ((ndZ.setP ⟨some ⟨zb,0,none⟩,1,1⟩).setD 9) 1 (by decide)
  unfold kB
  rw [← e]
  exact h
 refine h.lA (b:=bb) (qcb _) ?_
 refine h.lA (b:=ab) (qcb _) ⟨qcb _,qcb _,?_⟩
 have e2:spl (spl (qpe 2 (⟨ndC ndZ⟩:Array Value).toList) 0 ⟨ndC (kB ⟨some ⟨zb,0,none⟩,1,1⟩)⟩) 42 ⟨ndC kA⟩=[kB ⟨some ⟨zb,0,none⟩,1,1⟩,kA].flatMap ndC:=by
  have hr:qpe 2 (⟨ndC ndZ⟩:Array Value).toList=ndC ndZ ++ ndC ndZ:=by
   show ndC ndZ ++ (ndC ndZ ++ [])=_
   rw [List.append_nil]
  have h1:=qcb ndZ
  have h2:=qcb (kB ⟨some ⟨zb,0,none⟩,1,1⟩)
  have h3:=qcb kA
  rw [hr,spl_eq _ 0 _ (by rw [List.length_append]; omega),List.take_zero,List.nil_append,Nat.zero_add,h2,List.drop_left' h1]
  rw [spl_eq _ 42 _ (by rw [List.length_append]; omega),List.take_left' h2,h3,List.drop_eq_nil_of_le (by rw [List.length_append]; omega),List.append_nil]
  show _=ndC _ ++ (ndC _ ++ [])
  rw [List.append_nil]
 rw [e2]
 refine h.new fun lb w h=>?_
 have h:St F0 w0 w (qfb lb ([kB ⟨some ⟨zb,0,none⟩,1,1⟩,kA].flatMap ndC) :: qfb bb (ndC (kB ⟨some ⟨zb,0,none⟩,1,1⟩)) :: qfb zb (nmC zN) :: qfb ab (ndC kA) :: ps):=h
 have h:St F0 w0 w (qbb 42 ⟨some ⟨lb,0,none⟩,2,2⟩ ([kB ⟨some ⟨zb,0,none⟩,1,1⟩,kA].flatMap ndC) :: qfb bb (ndC (kB ⟨some ⟨zb,0,none⟩,1,1⟩)) :: qfb zb (nmC zN) :: qfb ab (ndC kA) :: ps):=h.ownBR (n:=2) (by rw [qqc]; rfl)
 have h:St F0 w0 w (qbb 20 ⟨some ⟨zb,0,none⟩,1,1⟩ ([zN].flatMap nmC) :: qbb 42 ⟨some ⟨lb,0,none⟩,2,2⟩ ([kB ⟨some ⟨zb,0,none⟩,1,1⟩,kA].flatMap ndC) :: qfb bb (ndC (kB ⟨some ⟨zb,0,none⟩,1,1⟩)) :: ps):=by
  have h2:St F0 w0 w (qfb zb (nmC zN) :: qbb 42 ⟨some ⟨lb,0,none⟩,2,2⟩ ([kB ⟨some ⟨zb,0,none⟩,1,1⟩,kA].flatMap ndC) :: qfb bb (ndC (kB ⟨some ⟨zb,0,none⟩,1,1⟩)) :: ps):=h.sub
  rw [qei]
  exact h2.ownBR (n:=1) (lenC _)
 obtain ⟨pr,hpr⟩:=h.prX (X:=[(kB ⟨some ⟨zb,0,none⟩,1,1⟩,[zN]),(kA,[])]) fun x hx=>by
  rcases List.mem_cons.1 hx with rfl | hx
  · show Rdb F0 w0 (⟨some ⟨zb,0,none⟩,1,1⟩:Sl) _ 20 ([zN].flatMap nmC)
    infer_instance
  · have:x=(kA,[]):=by simpa using hx
    subst this
    exact nilRd
 have p1:pr (kB ⟨some ⟨zb,0,none⟩,1,1⟩)=[zN]:=hpr (kB ⟨some ⟨zb,0,none⟩,1,1⟩,[zN]) List.mem_cons_self
 have p2:pr kA=[]:=hpr (kA,[]) (List.mem_cons_of_mem _ List.mem_cons_self)
 have hcm:[kB ⟨some ⟨zb,0,none⟩,1,1⟩,kA].map (cmN pr)=[cB,cA]:=by
  show [(⟨_,_,pr _,_⟩:Cm),⟨_,_,pr _,_⟩]=_
  rw [p1,p2]
  rfl
 have hPL:∀ n ∈ [kB ⟨some ⟨zb,0,none⟩,1,1⟩,kA],Rdb F0 w0 n.par (qbb 20 ⟨some ⟨zb,0,none⟩,1,1⟩ ([zN].flatMap nmC) :: qbb 42 ⟨some ⟨lb,0,none⟩,2,2⟩ ([kB ⟨some ⟨zb,0,none⟩,1,1⟩,kA].flatMap ndC) :: qfb bb (ndC (kB ⟨some ⟨zb,0,none⟩,1,1⟩)) :: ps) 20 ((pr n).flatMap nmC):=fun n hn=>by
  rcases List.mem_cons.1 hn with rfl | hn
  · rw [p1]
    show Rdb F0 w0 (⟨some ⟨zb,0,none⟩,1,1⟩:Sl) _ 20 ([zN].flatMap nmC)
    infer_instance
  · have:n=kA:=by simpa using hn
    subst this
    rw [p2]
    exact nilRd
 refine Build_ok (pr:=pr) (s:=⟨some ⟨lb,0,none⟩,2,2⟩) (L:=[kB ⟨some ⟨zb,0,none⟩,1,1⟩,kA]) h (by show 2≤42; decide) (by simp [p1,p2]) hPL (by rw [hcm]; exact known_ok) (fun O g hW=>by rw [hcm] at hW; exact (known_wk hW).1) fun O g C t w hW hp hI hl8 htc h=>⟨t,0,rfl,?_⟩
 rw [hcm] at hW hp
 have hAB:[cA,cB].Pairwise ltC:=by
  refine List.pairwise_cons.2 ⟨fun c hc=>?_,List.pairwise_cons.2 ⟨fun c hc=>(by cases hc),List.Pairwise.nil⟩⟩
  have:c=cB:=by simpa using hc
  subst this
  exact zo_lt
 have eC:C=[cA,cB]:=ltC_eq hI.1.ris hAB (hp.symm.trans (.swap _ _ _))
 subst eC
 have hg:=(known_wk hW).2
 refine qab.c (b:=t) (xs:=gB [cA,cB] g) h (by omega) (gB_ok _ _) (fun w hE h=>?_) (fun X g2 sa sn sg gb w _ hI2 hone hsa hsn hsg h=>⟨some ⟨gb,0,none⟩,0,rfl,?_⟩)
 · exfalso
   rcases hE with hE | hE
   · omega
   · exact hE _ _ hI
 have hX:=hone _ _ hI
 have hXl:X.length=2:=by
  have:=congrArg List.length hX
  simpa using this
 rw [hX] at hI2
 have hg2:g2 oN=2:=by
  obtain ⟨O2,hW2,_⟩:=hI2.1.full
  have hpe:fC [cB,cA]=fC [cA,cB]:=fC_perm known_ok.nd (.swap _ _ _)
  rw [← hpe] at hW2
  exact (known_wk hW2).2
 obtain ⟨pr2,hpr2⟩:=h.prX (X:=X) fun x hx=>by
  haveI:∀ qs,Rdb F0 w0 x.1.par (qnd (X.map cxA) :: qs) 20 (x.2.flatMap nmC):=fun qs=>bag_rd hx
  exact inferInstance
 have hcm2:=cm_of_pr hpr2
 rw [hX] at hcm2
 have hnm:(ndX X).map Nd.nm=[zN,oN]:=by
  rw [← qrj pr2,hcm2]
  rfl
 have hNl:(ndX X).length=2:=by rw [qhi]; exact hXl
 have h1:cmN pr2 ((ndX X)[1]'(by omega))=cB:=by
  have:((ndX X).map (cmN pr2))[1]?=some cB:=by rw [hcm2]; rfl
  rw [List.getElem?_map,List.getElem?_eq_getElem (by omega)] at this
  simpa using this
 have hA:Ris ((ndX X).map Nd.nm):=by
  rw [hnm]
  exact List.pairwise_cons.2 ⟨fun c hc=>(by have:c=oN:=by simpa using hc
                                            subst this
                                            exact zo_lt),List.pairwise_cons.2 ⟨fun c hc=>(by cases hc),List.Pairwise.nil⟩⟩
 have hpl2:∀ n ∈ ndX X,(pr2 n).length≤1000000:=fun n hn=>by
  have:cmN pr2 n ∈ [cA,cB]:=by rw [← hcm2]; exact List.mem_map.2 ⟨n,hn,rfl⟩
  have e:(cmN pr2 n).par=pr2 n:=rfl
  rcases List.mem_cons.1 this with h2 | h2
  · rw [← e,h2]; exact Nat.zero_le _
  · have h2:cmN pr2 n=cB:=by simpa using h2
    rw [← e,h2]; show 1≤_; decide
 have hPX:∀ qs,∀ n ∈ ndX X,Rdb F0 w0 n.par (qnd (X.map cxA) :: qs) 20 ((pr2 n).flatMap nmC):=fun qs n hn=>by
  obtain ⟨x,hx,rfl⟩:=List.mem_map.1 hn
  rw [hpr2 x hx]
  exact bag_rd hx
 refine qw (e':=0) rfl ?_
 refine qzc (fun g=>by cases g) (fun _=>?_)
 refine qzc (fun g=>by cases g) (fun _=>?_)
 refine (h.toB bb).blk.ldIdN ?_
 refine Graph_Find.c (gb:=gb) (sa:=sa) (sn:=sn) (sg:=sg) (L:=ndX X) (q:=oN) h hA (by omega) fun w h=>⟨_,_,rfl,?_⟩
 have hpo:qvf [zN,oN] oN=1:=by
  rw [qvf,zo_lt]
  simp only [if_true]
  rw [qvf,qqf]
  rfl
 rw [hnm,if_pos (by simp),hpo,decide_eq_true (by simp:oN ∈ [zN,oN])]
 refine Graph_Node.c (gb:=gb) (sa:=sa) (sn:=sn) (sg:=sg) (pr:=pr2) (L:=ndX X) (i:=1) h hpl2 (fun n hn=>by haveI:=fun qs=>hPX qs n hn; infer_instance) (fun hno=>absurd ⟨by decide,by omega⟩ hno) (fun hi _ tt w htt h=>⟨_,_,rfl,?_⟩)
 have e1:(ndX X)[(1:Int).toNat]=(ndX X)[1]'(by omega):=rfl
 rw [e1] at htt h ⊢
 generalize hn1:(ndX X)[1]'(by omega)=n1 at h1 htt h ⊢
 have hd1:n1.date=9:=congrArg Cm.date h1
 have hp1:pr2 n1=[zN]:=congrArg Cm.par h1
 refine h.new fun nb w h=>?_
 have h:St F0 w0 w (qfb nb (ndC ndZ) :: rdA 20 tt ((pr2 n1).flatMap nmC) :: qfb gb (grL sa sn sg) :: qbb 1 sg (ivs .i64 ((ndX X).map fun n=>g2 n.nm)) :: qbb 20 sa (((ndX X).map Nd.nm).flatMap nmC) :: qbb 42 sn ((ndX X).flatMap ndC) :: qnd (X.map cxA) :: rdA 1 t (u8s (gB [cA,cB] g)) :: qbb 20 ⟨some ⟨zb,0,none⟩,1,1⟩ ([zN].flatMap nmC) :: qbb 42 ⟨some ⟨lb,0,none⟩,2,2⟩ ([kB ⟨some ⟨zb,0,none⟩,1,1⟩,kA].flatMap ndC) :: qfb bb (ndC (kB ⟨some ⟨zb,0,none⟩,1,1⟩)) :: ps):=h
 refine ⟨qcb _,?_⟩
 refine h.setR (f:=ndC) (x:=n1.setP tt) (qcb _) fun w h=>?_
 refine Graph_Parents.c (gb:=gb) (sa:=sa) (sn:=sn) (sg:=sg) (pr:=pr2) (L:=ndX X) (i:=1) h hA (by omega) hpl2 (fun n hn=>by haveI:=fun qs=>hPX qs n hn; infer_instance) (fun hno=>absurd ⟨by decide,by omega⟩ hno) (fun hi _ u w hu h=>⟨u,rfl,?_⟩)
 have e1:(ndX X)[(1:Int).toNat]=(ndX X)[1]'(by omega):=rfl
 rw [e1,hn1,hp1] at hu h
 have hpz:qvf [zN,oN] zN=0:=by rw [qvf,qqf]; rfl
 rw [hnm] at h
 have eu:[zN].map (fun p=>(qvf [zN,oN] p:Int))=[0]:=by rw [List.map_cons,List.map_nil,hpz]; rfl
 rw [eu] at h
 refine qzc (fun _=>?_) (fun g=>by cases g)
 refine qzc (fun _=>?_) (fun g=>by cases g)
 refine qzc (fun _=>?_) (fun g=>by cases g)
 refine Graph_Generation.c (gb:=gb) (sa:=sa) (sn:=sn) (sg:=sg) (gl:=(ndX X).map fun n:Nd=>g2 n.nm) (i:=1) h (by rw [List.length_map,hNl]; omega) fun w h=>⟨_,rfl,?_⟩
 have eg:(if 0≤(1:Int)∧(1:Int) < (sn.len:Int) then ((ndX X).map fun n:Nd=>g2 n.nm).getD (1:Int).toNat 0 else 0)=2:=by
  rw [if_pos ⟨by decide,by omega⟩]
  show ((ndX X).map fun n:Nd=>g2 n.nm).getD 1 0=2
  rw [List.getD_eq_getElem?_getD,List.getElem?_map,List.getElem?_eq_getElem (by omega),hn1]
  show g2 n1.nm=2
  have:n1.nm=oN:=congrArg Cm.id h1
  rw [this]; exact hg2
 rw [eg]
 refine qzc (fun _=>?_) (fun g=>by cases g)
 refine (h.toB nb).blk.ldDate ?_
 refine qzc (fun _=>?_) (fun g=>by exfalso; have:(n1.setP tt).date=9:=hd1; rw [this] at g; cases g)
 have hu1:u.len=1:=hu
 refine qzc (fun _=>?_) (fun g=>by exfalso; rw [hu1] at g; cases g)
 refine h.lx (s:=u) (zs:=[0]) 0 rfl (by decide) ?_
 refine qzc (fun _=>?_) (fun g=>by cases g)
 refine Graph_Len.c (gb:=gb) (sa:=sa) (sn:=sn) (sg:=sg) h ⟨_,rfl,?_⟩
 refine qzc (fun _=>?_) (fun g=>by exfalso; rw [hsa,hXl] at g; cases g)
 refine h.lA (b:=bb) (qcb _) ⟨qcb _,?_⟩
 rw [qye (by rw [qcb]; rfl)]
 refine h.new fun cb w h=>?_
 have h:St F0 w0 w (qfb cb (ndC (kB ⟨some ⟨zb,0,none⟩,1,1⟩)) :: _):=h
 have h:=St.mp (p':=qbb 42 ⟨some ⟨cb,0,none⟩,1,1⟩ ([kB ⟨some ⟨zb,0,none⟩,1,1⟩].flatMap ndC)) (h.ownBR (sz:=42) (n:=1) (qcb _)) (fun F hF=>by rw [qei]; exact hF)
 have hfe:qwb [kB ⟨some ⟨zb,0,none⟩,1,1⟩]=rowsN [kB ⟨some ⟨zb,0,none⟩,1,1⟩]:=qvh (by simp)
 refine qeb.c (s:=⟨some ⟨cb,0,none⟩,1,1⟩) (L:=[kB ⟨some ⟨zb,0,none⟩,1,1⟩]) (pr:=pr) h (by show 1≤_; decide) (by rw [hfe]; exact own_rows _) (by rw [hfe]; simp [rowsN,p1]) (fun e he=>?_) (by rw [hfe]; show 1≤_; decide) fun O G tw R tR w hE htw hiff hnd hR hs htR h=>⟨tR,rfl,?_⟩
 · rw [hfe] at he
   have:e=((kB ⟨some ⟨zb,0,none⟩,1,1⟩).id,kB ⟨some ⟨zb,0,none⟩,1,1⟩):=by simpa [rowsN] using he
   subst this
   simp only
   rw [p1]
   show Rdb F0 w0 (⟨some ⟨zb,0,none⟩,1,1⟩:Sl) _ 20 ([zN].flatMap nmC)
   infer_instance
 · have hW3:=hE.wk
   have hf3:(fun k:Nm=>(lkE (qwb [kB ⟨some ⟨zb,0,none⟩,1,1⟩]) k.1).map pr)=fC [cB]:=by
    rw [fC_first]
    show fC [(⟨_,_,pr _,_⟩:Cm)]=_
    rw [p1]
    rfl
   rw [hf3] at hW3
   have hO:∀ q,q ∉ O:=fun q hq=>by
    obtain ⟨qs,k1,k2,_⟩:=hW3.en.dom q hq
    have hqo:q=oN:=by
     have:(fC [cB] q).isSome=true:=by rw [k1]; rfl
     rw [qsg] at this
     simpa [cB] using this
    subst hqo
    have e3:fC [cB] oN=some [zN]:=by
     unfold fC
     rw [List.find?_cons]
     have:cB.id=oN:=rfl
     simp only [this,decide_true]
     rfl
    rw [e3] at k1
    injection k1 with k1
    subst k1
    have:(fC [cB] zN).isSome=true:=by
     unfold fineF at k2
     simpa using k2
    rw [qsg] at this
    have:zN=oN:=by simpa [cB] using this
    exact zo_ne this
   have htw0:tw=[]:=by
    cases tw with
    | nil=>rfl
    | cons x tw =>
      exfalso
      have hx:=htw x (by simp)
      have:x.1.nm ∈ O:=(hiff x.1.nm).1 (by simp; exact Or.inl rfl)
      exact hO _ this
   subst htw0
   have hR0:R=[]:=List.Perm.eq_nil hR
   rw [hR0] at htR
   show K (.returned (.bool ((tR.len:Int) == 0))) w
   rw [htR]
   exact hk w h.sub
end
end Go.Proofs.Ytigmbblgfnkpbaa
namespace Go.Proofs.Ytigmbblgfnkpbaa
open Go Go.Proofs
set_option linter.unusedVariables false
set_option linter.unusedSimpArgs false
attribute [local irreducible] apK cpK mkK br qne
section
variable {F0:List Nat} {w0 w:World} {ps rest:List As} {s t:Sl} {X:List Cx} {K:Ending→World→Prop} {q:Nm} {pr:Nd→List Nm}
theorem par_sum {L:List Nd} {C:List Cm} (h:L.map (cmN pr)=C):(L.map fun n=>(pr n).length).sum=(C.map fun c=>c.par.length).sum:=by
 rw [← h,List.map_map]
 rfl
theorem par_one {L:List Nd} {n:Nd} (hn:n ∈ L) {k:Nat} (h:(L.map fun n=>(pr n).length).sum≤k):(pr n).length≤k :=
 Nat.le_trans (qpf (f:=fun n=>(pr n).length) hn) h
end
end Go.Proofs.Ytigmbblgfnkpbaa
namespace Go.Proofs.Ytigmbblgfnkpbaa
open Go Go.Proofs
set_option linter.unusedVariables false
set_option linter.unusedSimpArgs false
attribute [local irreducible] apK cpK mkK br qne
theorem kys_firstE (L:List Nd):∀ E:Rws Nd,(kys E).Nodup→(kys (L.foldl addE E)).Nodup:=by
 induction L with
 | nil=>intro E h; exact h
 | cons n L ih =>
   intro E h
   refine ih _ ?_
   rw [kys_addE]
   split
   · exact h
   · rename_i g
     rw [List.nodup_append]
     refine ⟨h,by simp,fun a ha b hb e=>?_⟩
     have:b=n.id:=by simpa using hb
     subst this
     subst e
     exact g ha
theorem qzg {L:List Nd} {e:List Int × Nd} (h:e ∈ qwb L):e.2 ∈ L∧e.1=e.2.id∧fndN L e.1=some e.2:=by
 have h1:lkE (qwb L) e.1=some e.2:=qtf (kys_firstE L [] (by simp [kys])) h
 rw [lk_firstE] at h1
 exact ⟨List.mem_of_find?_eq_some h1,(by have:=List.find?_some h1; exact (of_decide_eq_true this).symm),h1⟩
theorem ownFirst (L:List Nd):ownN (qwb L):=fun e he=>(qzg he).2.1
theorem firstE_sum {L:List Nd} {f:Nd→Nat} {k:Nat} (h:∀ n ∈ L,f n≤k):((qwb L).map fun e=>f e.2).sum≤(qwb L).length * k:=by
 have:∀ E:Rws Nd,(∀ e ∈ E,f e.2≤k)→(E.map fun e=>f e.2).sum≤E.length * k:=by
  intro E
  induction E with
  | nil=>intro _; simp
  | cons e E ih =>
    intro h
    have h1:=h e List.mem_cons_self
    have h2:=ih fun x hx=>h x (List.mem_cons_of_mem _ hx)
    rw [List.map_cons,List.sum_cons,List.length_cons,Nat.add_mul]
    omega
 exact this _ fun e he=>h _ (qzg he).1
theorem sum_of {α:Type} {f:α→Nat} {k:Nat}:∀ {L:List α},(∀ n ∈ L,f n≤k)→(L.map f).sum≤L.length * k:=by
 intro L
 induction L with
 | nil=>intro _; simp
 | cons e E ih =>
   intro h
   have h1:=h e List.mem_cons_self
   have h2:=ih fun x hx=>h x (List.mem_cons_of_mem _ hx)
   rw [List.map_cons,List.sum_cons,List.length_cons,Nat.add_mul]
   omega
end Go.Proofs.Ytigmbblgfnkpbaa
namespace Go.Proofs.Ytigmbblgfnkpbaa
open Go Go.Proofs
set_option linter.unusedVariables false
set_option linter.unusedSimpArgs false
attribute [local irreducible] apK cpK mkK br qne
theorem kN_ok (k:Nat):idOk (z20.set 0 ((k % 256:Nat):Int)):=by
 refine ⟨rfl,fun x hx=>?_⟩
 have hx:x ∈ ((k % 256:Nat):Int) :: List.replicate 19 0:=hx
 rcases List.mem_cons.1 hx with rfl | hx
 · omega
 · have:=List.eq_of_mem_replicate hx
   omega
def kN (k:Nat):Nm:=⟨z20.set 0 ((k % 256:Nat):Int),kN_ok k⟩
theorem kN_val (k:Nat):(kN k).1=((k % 256:Nat):Int) :: List.replicate 19 0:=rfl
theorem kN_inj {a b:Nat} (ha:a < 256) (hb:b < 256) (h:kN a=kN b):a=b:=by
 have:=congrArg Subtype.val h
 rw [kN_val,kN_val] at this
 injection this with h1
 omega
theorem kN_lt {a b:Nat} (hb:b < 256) (h:a < b):ltI (kN a).1 (kN b).1=true:=by
 rw [kN_val,kN_val]
 unfold ltI
 rw [cmpI,if_pos (by omega)]
 rfl
def nmI (j:Nat):Nm:=kN (200 - j)
theorem nmI_inj {a b:Nat} (ha:a≤100) (hb:b≤100) (h:nmI a=nmI b):a=b:=by
 have:=kN_inj (by omega) (by omega) h
 omega
def mxI (gl:List Int):List Nat→Int
 | []=>0
 | p :: ps=>max (gl.getD p 0) (mxI gl ps)
theorem mxI_snoc (gl:List Int) (p:Nat):∀ P,mxI gl (P ++ [p])=max (mxI gl P) (gl.getD p 0):=by
 intro P
 induction P with
 | nil=>show max _ (0:Int)=max (0:Int) _; omega
 | cons q P ih=>rw [List.cons_append,mxI,ih,mxI]; omega
theorem mxI_grow {gl:List Int} {v:Int}:∀ {P:List Nat},(∀ p ∈ P,p < gl.length)→mxI (gl ++ [v]) P=mxI gl P:=by
 intro P
 induction P with
 | nil=>intro _; rfl
 | cons p P ih =>
   intro h
   rw [mxI,ih fun q hq=>h q (List.mem_cons_of_mem _ hq),mxI]
   have:=h p List.mem_cons_self
   rw [List.getD_eq_getElem?_getD,List.getElem?_append_left this,← List.getD_eq_getElem?_getD]
theorem mxI_bd {gl:List Int} {k:Nat}:∀ {P:List Nat},(∀ p ∈ P,0≤gl.getD p 0∧gl.getD p 0≤k)→0≤mxI gl P∧mxI gl P≤k:=by
 intro P
 induction P with
 | nil=>intro _; exact ⟨Int.le_refl _,by simp [mxI]⟩
 | cons p P ih =>
   intro h
   have h1:=h p List.mem_cons_self
   have h2:=ih fun q hq=>h q (List.mem_cons_of_mem _ hq)
   rw [mxI]
   omega
structure Grow (T:List (List Nat)) (gl:List Int):Prop where
 len:gl.length=T.length
 lt:∀ j (h:j < T.length),∀ p ∈ T[j],p < j
 few:∀ j (h:j < T.length),T[j].length≤10
 gen:∀ j (h:j < T.length),gl.getD j 0=mxI gl T[j]+1
 bd:∀ j (h:j < T.length),1≤gl.getD j 0∧gl.getD j 0≤j+1
theorem Grow.nil:Grow [] []:=⟨rfl,fun j h=>by simp at h,fun j h=>by simp at h,fun j h=>by simp at h,fun j h=>by simp at h⟩
theorem qfg {α:Type} {l:List α} {v d:α} {j:Nat} (h:j < l.length):(l ++ [v]).getD j d=l.getD j d:=by
 rw [List.getD_eq_getElem?_getD,List.getElem?_append_left h,← List.getD_eq_getElem?_getD]
theorem qgg {α:Type} {l:List α} {v d:α}:(l ++ [v]).getD l.length d=v:=by
 rw [List.getD_eq_getElem?_getD,List.getElem?_append_right (Nat.le_refl _),Nat.sub_self]
 rfl
theorem Grow.snoc {T:List (List Nat)} {gl:List Int} (h:Grow T gl) {P:List Nat} (hP:∀ p ∈ P,p < T.length) (hf:P.length≤10):Grow (T ++ [P]) (gl ++ [mxI gl P+1]):=by
 have hl:=h.len
 have hb:=mxI_bd (gl:=gl) (k:=T.length) (P:=P) fun p hp=>by
  have:=h.bd p (hP p hp)
  have:=hP p hp
  omega
 have sp:∀ j (hj:j < (T ++ [P]).length),(∃ hj':j < T.length,(T ++ [P])[j]=T[j]) ∨ (j=T.length∧(T ++ [P])[j]=P):=fun j hj=>by
  by_cases g:j < T.length
  · exact Or.inl ⟨g,List.getElem_append_left g⟩
  · have:j=T.length:=by simp at hj; omega
    subst this
    exact Or.inr ⟨rfl,by simp⟩
 refine ⟨by simp [hl],fun j hj p hp=>?_,fun j hj=>?_,fun j hj=>?_,fun j hj=>?_⟩
 · rcases sp j hj with ⟨g,e⟩ | ⟨rfl,e⟩
   · rw [e] at hp; exact h.lt j g p hp
   · rw [e] at hp; exact hP p hp
 · rcases sp j hj with ⟨g,e⟩ | ⟨rfl,e⟩
   · rw [e]; exact h.few j g
   · rw [e]; exact hf
 · rcases sp j hj with ⟨g,e⟩ | ⟨rfl,e⟩
   · rw [e,qfg (by omega),mxI_grow fun p hp=>by have:=h.lt j g p hp; omega]
     exact h.gen j g
   · rw [e,← hl,qgg,mxI_grow fun p hp=>by have:=hP p hp; omega]
 · rcases sp j hj with ⟨g,e⟩ | ⟨rfl,e⟩
   · rw [qfg (by omega)]; exact h.bd j g
   · rw [← hl,qgg]; omega
def rowC (T:List (List Nat)) (j:Nat):Cm:=⟨nmI j,zN,(T.getD j []).map nmI,0⟩
def rowsC (T:List (List Nat)):List Cm:=(List.range T.length).map (rowC T)
theorem qph (T:List (List Nat)):(rowsC T).length=T.length:=by simp [rowsC]
theorem rowsC_snoc (T:List (List Nat)) (P:List Nat):rowsC (T ++ [P])=rowsC T ++ [⟨nmI T.length,zN,P.map nmI,0⟩]:=by
 unfold rowsC
 rw [List.length_append,List.length_singleton,List.range_succ,List.map_append]
 congr 1
 · refine List.map_congr_left fun j hj=>?_
   unfold rowC
   rw [qfg (List.mem_range.1 hj)]
 · unfold rowC
   rw [List.map_singleton,qgg]
theorem qmf (T:List (List Nat)):(rowsC T).map (·.id)=(List.range T.length).map nmI:=by
 unfold rowsC
 rw [List.map_map]
 rfl
section
variable {T:List (List Nat)} {gl:List Int}
theorem qlj {n:Nat} (h:n≤31):((List.range n).map nmI).Nodup:=by
 unfold List.Nodup
 rw [List.pairwise_map]
 refine List.Pairwise.imp_of_mem ?_ List.nodup_range
 intro a b ha hb hab e
 have h1:=List.mem_range.1 ha
 have h2:=List.mem_range.1 hb
 exact hab (nmI_inj (by omega) (by omega) e)
theorem qii {n j:Nat} (h:j < n):nmI j ∈ (List.range n).map nmI:=List.mem_map.2 ⟨j,List.mem_range.2 h,rfl⟩
theorem Grow.ok (h:Grow T gl) (hn:T.length≤31):OkC (rowsC T):=by
 refine ⟨by rw [qmf]; exact qlj hn,fun c hc=>?_,fun c hc p hp=>?_⟩
 · obtain ⟨j,hj,rfl⟩:=List.mem_map.1 hc
   exact ⟨by show (0:Int)≤0; decide,by show (0:Int) < 17179869184; decide⟩
 · obtain ⟨j,hj,rfl⟩:=List.mem_map.1 hc
   have hj:=List.mem_range.1 hj
   have hp:p ∈ (T.getD j []).map nmI:=hp
   rw [List.getD_eq_getElem?_getD,List.getElem?_eq_getElem hj] at hp
   obtain ⟨q,hq,rfl⟩:=List.mem_map.1 hp
   rw [qmf]
   exact qii (by have:=h.lt j hj q hq; omega)
theorem Grow.fst (h:Grow T gl) (hn:T.length≤31) {j:Nat} (hj:j < T.length):fC (rowsC T) (nmI j)=some (T[j].map nmI):=by
 have hm:rowC T j ∈ rowsC T:=List.mem_map.2 ⟨j,List.mem_range.2 hj,rfl⟩
 have:=fst_mem (h.ok hn).nd hm
 rw [fC_fst]
 have e:(rowC T j).id=nmI j:=rfl
 rw [e] at this
 rw [this]
 show some ((T.getD j []).map nmI)=_
 rw [List.getD_eq_getElem?_getD,List.getElem?_eq_getElem hj]
 rfl
theorem Grow.en (h:Grow T gl) (hn:T.length≤31) (lost:Bool):EnF (fC (rowsC T)) lost ((List.range T.length).map nmI):=by
 have:∀ k,k≤T.length→EnF (fC (rowsC T)) lost ((List.range k).map nmI):=by
  intro k
  induction k with
  | zero=>intro _; exact .nil
  | succ k ih =>
    intro hk
    rw [List.range_succ,List.map_append,List.map_singleton]
    refine .snoc (ih (by omega)) (ps:=T[k].map nmI) (h.fst hn hk) ?_ fun p hp _=>?_
    · unfold fineF
      cases lost with
      | true=>rfl
      | false =>
        rw [Bool.false_or,List.all_eq_true]
        intro p hp
        obtain ⟨q,hq,rfl⟩:=List.mem_map.1 hp
        have:=h.lt k hk q hq
        rw [h.fst hn (j:=q) (by omega)]
        rfl
    · obtain ⟨q,hq,rfl⟩:=List.mem_map.1 hp
      exact qii (h.lt k hk q hq)
 exact this _ (Nat.le_refl _)
def gR (gl:List Int) (q:Nm):Int:=gl.getD (200 - (q.1.headD 0).toNat) 0
theorem gR_nm {j:Nat} (h:j≤100):gR gl (nmI j)=gl.getD j 0:=by
 unfold gR nmI
 rw [kN_val]
 show gl.getD (200 - ((((200 - j) % 256:Nat):Int)).toNat) 0=_
 congr 1
 omega
theorem mx_eq {O:List Nm}:∀ {P:List Nat},(∀ p ∈ P,p≤100∧nmI p ∈ O)→max 1 (mxF (gR gl) O (P.map nmI))=mxI gl P+1:=by
 intro P
 induction P with
 | nil=>intro _; rfl
 | cons p P ih =>
   intro h
   obtain ⟨h1,h2⟩:=h p List.mem_cons_self
   have:=ih fun q hq=>h q (List.mem_cons_of_mem _ hq)
   rw [List.map_cons,mxF,if_pos h2,gR_nm h1,mxI]
   omega
theorem Grow.wk (h:Grow T gl) (hn:T.length≤31):Wk (fC (rowsC T)) true ((List.range T.length).map nmI) (gR gl):=by
 refine ⟨qlj hn,h.en hn true,fun k ps hk _ _=>?_,fun c ps hc hp=>?_⟩
 · have:(fC (rowsC T) k).isSome=true:=by rw [hk]; rfl
   rw [qsg,qmf] at this
   exact this
 · obtain ⟨j,hj,rfl⟩:=List.mem_map.1 hc
   have hj:=List.mem_range.1 hj
   rw [h.fst hn hj] at hp
   injection hp with hp
   rw [← hp,gR_nm (by omega),mx_eq (gl:=gl) fun p hp=>by
    have:=h.lt j hj p hp
    exact ⟨by omega,qii (by omega)⟩]
   exact h.gen j hj
theorem Grow.one (h:Grow T gl) (hn:T.length≤31) {O:List Nm} {g:Nm→Int} (hW:Wk (fC (rowsC T)) true O g):O.length=T.length∧∀ j,j < T.length→g (nmI j)=gl.getD j 0:=by
 have h1:=wk_len hW (h.wk hn)
 rw [List.length_map,List.length_range] at h1
 refine ⟨h1,fun j hj=>?_⟩
 have:=(wk_one (h.wk hn) hW).2 (nmI j) (qii hj)
 rw [← this,gR_nm (by omega)]
theorem Grow.sum (h:Grow T gl) (hn:T.length≤31):((rowsC T).map fun c=>c.par.length).sum≤310:=by
 have:=sum_of (f:=fun c:Cm=>c.par.length) (L:=rowsC T) (k:=10) fun c hc=>by
  obtain ⟨j,hj,rfl⟩:=List.mem_map.1 hc
  have hj:=List.mem_range.1 hj
  show ((T.getD j []).map nmI).length≤10
  rw [List.length_map,List.getD_eq_getElem?_getD,List.getElem?_eq_getElem hj]
  exact h.few j hj
 rw [qph] at this
 omega
theorem ris_rev {n:Nat} (hn:n≤31):Ris ((List.range n).map fun j=>nmI (n - 1 - j)):=by
 unfold Ris
 rw [List.pairwise_map]
 refine List.Pairwise.imp_of_mem ?_ List.pairwise_lt_range
 intro a b ha hb hab
 have h1:=List.mem_range.1 ha
 have h2:=List.mem_range.1 hb
 exact kN_lt (by omega) (by omega)
theorem qlk {A:List Nm} {n:Nat} (hn:n≤31) (hA:Ris A) (hm:∀ q,q ∈ A ↔ q ∈ (List.range n).map nmI):A=(List.range n).map fun j=>nmI (n - 1 - j):=by
 refine srt_eq (r:=fun a b:Nm=>ltI a.1 b.1=true) (fun a b h e=>by have:=ltI_asymm h; rw [this] at e; cases e) hA (ris_rev hn) fun q=>?_
 rw [hm]
 constructor
 · intro h
   obtain ⟨j,hj,rfl⟩:=List.mem_map.1 h
   have hj:=List.mem_range.1 hj
   exact List.mem_map.2 ⟨n - 1 - j,List.mem_range.2 (by omega),by show nmI (n - 1 - (n - 1 - j))=_; congr 1; omega⟩
 · intro h
   obtain ⟨j,hj,rfl⟩:=List.mem_map.1 h
   have hj:=List.mem_range.1 hj
   exact qii (by omega)
theorem pos_sorted {A:List Nm} {n:Nat} (hn:n≤31) (hA:Ris A) (hm:∀ q,q ∈ A ↔ q ∈ (List.range n).map nmI) {i:Nat} (hi:i < n):nmI i ∈ A∧qvf A (nmI i)=n - 1 - i:=by
 refine ⟨(hm _).2 (qii hi),?_⟩
 have e:=qlk hn hA hm
 have hl:A.length=n:=by rw [e]; simp
 have:=pos_at hA (i:=n - 1 - i) (by omega)
 have e2:A[n - 1 - i]'(by omega)=nmI i:=by
  have:A[n - 1 - i]?=some (nmI i):=by
   rw [e,List.getElem?_map,List.getElem?_range (by omega)]
   show some (nmI (n - 1 - (n - 1 - i)))=_
   congr 2
   omega
  rw [List.getElem?_eq_getElem (by omega)] at this
  injection this
 rw [e2] at this
 exact this
end
end Go.Proofs.Ytigmbblgfnkpbaa
namespace Go.Proofs.Ytigmbblgfnkpbaa
open Go Go.Proofs
set_option linter.unusedVariables false
set_option linter.unusedSimpArgs false
attribute [local irreducible] apK cpK mkK br qne
section
variable {F0:List Nat} {w0 w:World} {ps rest:List As} {s t3 t4:Sl} {X:List Cx} {T:List (List Nat)} {gl:List Int} {Q:VWP}
theorem grows_4 (h:St F0 w0 w ps) [Rdb F0 w0 t3 ps 42 ((ndX X).flatMap ndC)] [Rdb F0 w0 t4 ps 1 (ivs .i64 gl)] (hPX:∀ x ∈ X,Rdb F0 w0 x.1.par ps 20 (x.2.flatMap nmC)) (hX:X.map cmX=rowsC T) (hG:Grow T gl) (hn:T.length≤30)
 (hk:∀ w',St F0 w0 w' ps→Q (.bool true) w'):trovelaw19_GraphGrows.j4 t3 t4 Q w:=by
 obtain ⟨pr,hpr⟩:=h.prX hPX
 have hcm:(ndX X).map (cmN pr)=rowsC T:=by rw [cm_of_pr hpr,hX]
 have hP:∀ n ∈ ndX X,Rdb F0 w0 n.par ps 20 ((pr n).flatMap nmC):=fun n hn=>by
  obtain ⟨x,hx,rfl⟩:=List.mem_map.1 hn
  rw [hpr x hx]
  exact hPX x hx
 have hXl:(ndX X).length=T.length:=by
  have:=congrArg List.length hcm
  rw [qph] at this
  simpa using this
 have hl3:=h.rlen (s:=t3) (f:=ndC) (L:=ndX X)
 have hl4:gl.length=t4.len:=by
  have:=(h.rdb t4).1
  rw [qt] at this
  omega
 have hnm:(ndX X).map Nd.nm=(List.range T.length).map nmI:=by rw [← qrj pr,hcm,qmf]
 have hnmi:∀ i (hi:i < (ndX X).length),(ndX X)[i].nm=nmI i:=fun i hi=>by
  have:((ndX X).map Nd.nm)[i]?=some (nmI i):=by rw [hnm,List.getElem?_map,List.getElem?_range (by omega)]; rfl
  rw [List.getElem?_map,List.getElem?_eq_getElem hi] at this
  simpa using this
 have hsum:((ndX X).map fun n=>(pr n).length).sum≤310:=by
  rw [par_sum hcm]
  exact hG.sum (by omega)
 have hpl:∀ n ∈ ndX X,(pr n).length≤310:=fun n hn=>par_one (pr:=pr) hn hsum
 unfold trovelaw19_GraphGrows.j4
 refine Build_ok (pr:=pr) (L:=ndX X) h (by omega) (by omega) hP (by rw [hcm]; exact hG.ok (by omega)) (fun O g hW=>by rw [hcm] at hW; rw [(hG.one (by omega) hW).1]; omega) fun O g C t w hW hp hI hl8 htc h=>⟨t,0,rfl,?_⟩
 rw [hcm] at hp
 unfold trovelaw19_GraphGrows.j5
 refine qab.c (b:=t) (xs:=gB C g) h (by omega) (gB_ok _ _) (fun w hE h=>?_) (fun X2 g2 sa sn sg gb w _ hI2 hone hsa hsn hsg h=>⟨some ⟨gb,0,none⟩,0,rfl,?_⟩)
 · exfalso
   rcases hE with hE | hE
   · omega
   · exact hE _ _ hI
 have hX2:=hone _ _ hI
 have hg2:∀ j,j < T.length→g2 (nmI j)=gl.getD j 0:=by
  obtain ⟨O2,hW2,_⟩:=hI2.1.full
  rw [hX2,← fC_perm (hG.ok (by omega)).nd hp] at hW2
  exact (hG.one (by omega) hW2).2
 have hX2l:X2.length=T.length:=by
  have h1:=congrArg List.length hX2
  have h2:=hp.length_eq
  rw [qph] at h2
  rw [List.length_map] at h1
  omega
 have hN2:(ndX X2).length=T.length:=by rw [qhi]; exact hX2l
 have hids2:(ndX X2).map Nd.nm=C.map (·.id):=by
  rw [← hX2]
  unfold ndX
  rw [List.map_map,List.map_map]
  rfl
 have hA:Ris ((ndX X2).map Nd.nm):=by
  rw [hids2]
  exact hI.1.nm
 have hmA:∀ q,q ∈ (ndX X2).map Nd.nm ↔ q ∈ (List.range T.length).map nmI:=fun q=>by
  rw [hids2,← qmf]
  exact (hp.map (·.id)).mem_iff.symm
 have hAl:((ndX X2).map Nd.nm).length=T.length:=by rw [List.length_map]; exact hN2
 refine qw (e':=0) rfl ?_
 refine qzc (fun g=>by cases g) (fun _=>?_)
 refine qzc (fun g=>by cases g) (fun _=>?_)
 refine Graph_Len.c (gb:=gb) (sn:=sn) (sa:=sa) (sg:=sg) h ⟨_,rfl,?_⟩
 refine qzc (fun g=>by exfalso; simp at g; omega) (fun _=>?_)
 have hfl:(qwb (ndX X)).length≤30:=by
  have:=firstE_le (ndX X) []
  simp only [List.length_nil] at this
  show ((ndX X).foldl addE []).length≤30
  omega
 have hfs:((qwb (ndX X)).map fun e=>(pr e.2).length).sum≤1000000:=by
  have:=firstE_sum (f:=fun n=>(pr n).length) hpl
  have h2:=Nat.mul_le_mul_right 310 hfl
  omega
 refine qeb.c (s:=t3) (L:=ndX X) (pr:=pr) h (by omega) (ownFirst _) hfs (fun e he=>by haveI:=hP _ (qzg he).1; infer_instance) (by omega) fun O1 G1 tw R1 t1 w hWE htw hO1 htn hRp hRs ht1 h=>⟨t1,rfl,?_⟩
 have hW1:=hWE.wk
 rw [fC_first,hcm] at hW1
 have hRl:R1.length=T.length:=by
  have e1:=hRp.length_eq
  rw [List.length_map] at e1
  have h1:=qie (O:=(List.range T.length).map nmI) (S:=O1) (qlj (by omega)) fun q hq=>enF_sub (hG.en (by omega) false) hW1.most q hq
  have h2:=qie (O:=O1.map (·.1)) (S:=tw.map fun x=>x.1.id) (by
   have:=hW1.nd
   unfold List.Nodup at this ⊢
   rw [List.pairwise_map]
   exact this.imp fun hab e=>hab (Nm.ext' e)) fun k hk=>by
    obtain ⟨q,hq,rfl⟩:=List.mem_map.1 hk
    exact (hO1 q).2 hq
  have h3:=qie (O:=tw.map fun x=>x.1.id) (S:=(ndX X).map (·.id)) htn fun k hk=>by
   obtain ⟨x,hx,rfl⟩:=List.mem_map.1 hk
   exact List.mem_map.2 ⟨x.1,(qzg (htw x hx)).1,rfl⟩
  simp only [List.length_map,List.length_range] at h1 h2 h3
  omega
 refine qzc (fun g=>by exfalso; simp at g; omega) (fun _=>?_)
 have h:St F0 w0 w (qfb gb (grL sa sn sg) :: qbb 1 sg (ivs .i64 ((ndX X2).map fun n=>g2 n.nm)) :: qbb 20 sa (((ndX X2).map Nd.nm).flatMap nmC) :: qbb 42 sn ((ndX X2).flatMap ndC) :: qnd (X2.map cxA) :: rdA 1 t (u8s (gB C g)) :: ps):=h.drop.drop
 unfold trovelaw19_GraphGrows.j6 trovelaw19_GraphGrows.j8
 refine loop1 (fun (i:Nat) (i':Int) w'=>i'=(i:Int)∧i≤T.length∧St F0 w0 w' (qfb gb (grL sa sn sg) :: qbb 1 sg (ivs .i64 ((ndX X2).map fun n=>g2 n.nm)) :: qbb 20 sa (((ndX X2).map Nd.nm).flatMap nmC) :: qbb 42 sn ((ndX X2).flatMap ndC) :: qnd (X2.map cxA) :: rdA 1 t (u8s (gB C g)) :: ps)) (fun i=>T.length - i) 0 ⟨rfl,Nat.zero_le _,h⟩ ?_
 clear h
 rintro i _ wL I μ ⟨rfl,hi,h⟩ hin
 unfold trovelaw19_GraphGrows.b1
 refine qjc (fun gi=>?_) (fun gi=>?_)
 · have hix:i < (ndX X).length:=by
    have gi:(i:Int) < (t3.len:Int):=gi
    omega
   have hixT:i < T.length:=by omega
   refine h.lrId (s:=t3) (L:=ndX X) i rfl hix ?_
   refine Graph_Find.c (gb:=gb) (sa:=sa) (sn:=sn) (sg:=sg) (L:=ndX X2) (q:=(ndX X)[i].nm) h hA (by omega) fun w h=>⟨_,_,rfl,?_⟩
   rw [hnmi i hix]
   obtain ⟨hmem,hpos⟩:=pos_sorted (n:=T.length) (by omega) hA hmA hixT
   rw [if_pos hmem,decide_eq_true hmem,hpos]
   refine h.drewK fun w h=>?_
   refine qzc (fun g=>by cases g) (fun _=>?_)
   refine qw (e':=(T.length:Int) - 1) (by rw [qq (by omega) (by omega)]; omega) ?_
   refine qw (e':=((T.length - 1 - i:Nat):Int)) (by rw [qq (by omega) (by omega)]; omega) ?_
   refine qzc (fun g=>by exfalso; simp at g) (fun _=>?_)
   have hcell:(ivs .i64 gl)[i * 1]?=some (.int .i64 (gl.getD i 0)):=by
    rw [Nat.mul_one,ivs_get (by have:=hG.len; omega)]
   have hgv:((ndX X2).map fun n=>g2 n.nm).getD (T.length - 1 - i) 0=gl.getD i 0:=by
    rw [← hg2 i hixT,List.getD_eq_getElem?_getD,List.getElem?_map,List.getElem?_eq_getElem (by omega)]
    show g2 _=_
    have hs:=qlk (n:=T.length) (by omega) hA hmA
    have:((ndX X2).map Nd.nm)[T.length - 1 - i]?=some (nmI i):=by
     rw [hs,List.getElem?_map,List.getElem?_range (by omega)]
     show some (nmI (T.length - 1 - (T.length - 1 - i)))=_
     congr 2
     omega
    rw [List.getElem?_map,List.getElem?_eq_getElem (by omega)] at this
    have this:=Option.some.inj this
    rw [this]
   have hGen:∀ {w':World} {qs:List As} {Z:Int→World→Prop} {rr} [PkB gb qs (grL sa sn sg) rr] [Rdb F0 w0 sg qs 1 (ivs .i64 ((ndX X2).map fun n=>g2 n.nm))],St F0 w0 w' qs→(∀ w'',St F0 w0 w'' qs→Z (gl.getD i 0) w'')→qaf 11 [.pointer (some ⟨gb,0,none⟩),.int .i64 ((T.length - 1 - i:Nat):Int)] w' Z:=fun h hz=>by
    refine Graph_Generation.c (gb:=gb) (sn:=sn) (sa:=sa) (sg:=sg) (gl:=(ndX X2).map fun n:Nd=>g2 n.nm) h (by rw [List.length_map]; omega) fun w h=>⟨_,rfl,?_⟩
    rw [if_pos ⟨by omega,by omega⟩,Int.toNat_natCast,hgv]
    exact hz w h
   refine (h.rdb t4).ix (by decide) (by omega) (by have:=hG.len; omega) fun a0 ha=>⟨hGen h fun w h=>(h.rdb t4).ldI ha hcell ?_,(h.rdb t4).ldI ha hcell (hGen h fun w h=>?_)⟩
   · refine qzc (fun g=>by simp at g) (fun _=>?_)
     refine qw (e':=((i+1:Nat):Int)) (by rw [qq (by omega) (by omega)]; rfl) ?_
     exact ⟨⟨rfl,rfl,rfl⟩,hin (i+1) _ _ ⟨rfl,by omega,h⟩ (by omega)⟩
   · refine qzc (fun g=>by simp at g) (fun _=>?_)
     refine qw (e':=((i+1:Nat):Int)) (by rw [qq (by omega) (by omega)]; rfl) ?_
     exact ⟨⟨rfl,rfl,rfl⟩,hin (i+1) _ _ ⟨rfl,by omega,h⟩ (by omega)⟩
 · unfold trovelaw19_GraphGrows.j7
   exact hk _ h.drop.drop.drop.drop.drop.drop
end
end Go.Proofs.Ytigmbblgfnkpbaa
namespace Go.Proofs.Ytigmbblgfnkpbaa
open Go Go.Proofs
set_option linter.unusedVariables false
set_option linter.unusedSimpArgs false
attribute [local irreducible] apK cpK mkK br qne
theorem Rd.lsG {w:World} {s:Sl} {L:List (Sl × List Int)} {i:Int} {K:Sl→Prop} (h:Rd w 1 s (sls L)) (j:Nat) (hi:i=j) (hj:j < L.length) (hk:K L[j].1):ixS s.a s.len i 1 fun a=>ldL w a K:=by
 subst hi
 have hl:=h.1
 have hl2:(sls L).length=L.length:=by simp [sls]
 refine h.ix (by decide) (by omega) (by omega) fun a ha=>?_
 rw [show ((j:Int)).toNat * 1=j by omega]
 exact ldL_c (n:=L[j].1) (by rw [h.cell ha (by omega)]; simp [sls,hj]) hk
section
variable {F0:List Nat} {w0 w:World} {ps rest:List As} {s t3 t4 sp:Sl} {X:List Cx} {T:List (List Nat)} {gl:List Int} {Q:VWP} {nb:Nat} {m:Nd} {P:List Nat} {i k v:Nat}
 {nx2:Sl→Sl→Sl→Int→World→Prop} {nx3:Sl→Sl→Sl→Int→Addr→Int→Int→World→Prop}
theorem grows_18 (h:St F0 w0 w (qfb nb (ndC (m.setP sp)) :: qbb 20 sp ((P.map nmI).flatMap nmC) :: ps)) [Rdb F0 w0 t3 ps 42 ((ndX X).flatMap ndC)] [Rdb F0 w0 t4 ps 1 (ivs .i64 gl)]
 (hnm:∀ j (hj:j < (ndX X).length),(ndX X)[j].nm=nmI j) (hXl:(ndX X).length=i) (hgl:gl.length=i) (hi:i≤30) (hk1:k≤1000) (hP:∀ p ∈ P,p < i) (hPl:P.length≤1000)
 (hk:∀ P' sp' w',(∀ p ∈ P',p < i)→P'.length≤P.length+1→St F0 w0 w' (qfb nb (ndC (m.setP sp')) :: qbb 20 sp' ((P'.map nmI).flatMap nmC) :: ps)→nx3 s t3 t4 i ⟨nb,0,none⟩ (mxI gl P') ((k+1:Nat):Int) w') :
 trovelaw19_GraphGrows.j18 s t3 t4 i ⟨nb,0,none⟩ (mxI gl P) k v Q nx2 nx3 w:=by
 have lenC:∀ p:Nm,(nmC p).length=20:=fun p=>(inferInstance:Rec nmC 20).len p
 have j17:∀ P' sp' w',(∀ p ∈ P',p < i)→P'.length≤P.length+1→St F0 w0 w' (qfb nb (ndC (m.setP sp')) :: qbb 20 sp' ((P'.map nmI).flatMap nmC) :: ps)→trovelaw19_GraphGrows.j17 s t3 t4 i ⟨nb,0,none⟩ (mxI gl P') k Q nx2 nx3 w':=fun P' sp' w' h1 h2 h=>by
  unfold trovelaw19_GraphGrows.j17
  refine qw (e':=((k+1:Nat):Int)) (by rw [qq (by omega) (by omega)]; rfl) ?_
  exact hk P' sp' w' h1 h2 h
 have hl3:=h.rlen (s:=t3) (f:=ndC) (L:=ndX X)
 have hlp:=h.rlen (s:=sp) (f:=nmC) (L:=P.map nmI)
 rw [List.length_map] at hlp
 unfold trovelaw19_GraphGrows.j18
 refine qjc (fun g1=>j17 P sp w hP (by omega) h) (fun g1=>?_)
 have hv:v < i:=by omega
 have hvX:v < (ndX X).length:=by omega
 unfold trovelaw19_GraphGrows.j19 trovelaw19_GraphGrows.j21
 refine loop2 (fun (j:Nat) (b:Bool) (j':Int) w'=>j'=(j:Int)∧j≤P.length∧b=decide (nmI v ∈ (P.take j).map nmI)∧St F0 w0 w' (qfb nb (ndC (m.setP sp)) :: qbb 20 sp ((P.map nmI).flatMap nmC) :: ps)) (fun j=>P.length - j) 0 ⟨rfl,Nat.zero_le _,by simp,h⟩ ?_
 clear h
 rintro j _ _ wL I μ ⟨rfl,hj,rfl,h⟩ hin
 unfold trovelaw19_GraphGrows.b4
 refine (h.toB nb).blk.ldPar ?_
 refine qjc (fun g2=>?_) (fun g2=>?_)
 · have hjx:j < P.length:=by
    have g2:(j:Int) < (sp.len:Int):=g2
    omega
   have hsn:(P.take (j+1)).map nmI=(P.take j).map nmI ++ [nmI P[j]]:=by rw [List.take_succ_eq_append_getElem hjx,List.map_append]; rfl
   refine h.drewK fun w h=>?_
   refine qjc (fun g3=>?_) (fun g3=>?_)
   · refine qw (e':=((j+1:Nat):Int)) (by rw [qq (by omega) (by omega)]; rfl) ?_
     refine ⟨⟨rfl,rfl,rfl,rfl,rfl,rfl,rfl,rfl⟩,hin (j+1) _ _ _ ⟨rfl,by omega,?_,h⟩ (by omega)⟩
     rw [hsn]
     exact (decide_eq_true (List.mem_append_left _ g3)).symm
   · refine (h.toB nb).blk.ldPar ?_
     refine h.lr (s:=sp) (f:=nmC) (L:=P.map nmI) j rfl (by rw [List.length_map]; exact hjx) ?_
     refine h.lrId (s:=t3) (L:=ndX X) v rfl hvX ?_
     refine eqA_i (xs:=((P.map nmI)[j]'(by rw [List.length_map]; exact hjx)).1) (ys:=(ndX X)[v].id) ((P.map nmI)[j]'(by rw [List.length_map]; exact hjx)).2.1 ((ndX X)[v].hid) ?_
     refine qw (e':=((j+1:Nat):Int)) (by rw [qq (by omega) (by omega)]; rfl) ?_
     refine ⟨⟨rfl,rfl,rfl,rfl,rfl,rfl,rfl,rfl⟩,hin (j+1) _ _ _ ⟨rfl,by omega,?_,h⟩ (by omega)⟩
     rw [hsn]
     have e1:(P.map nmI)[j]'(by rw [List.length_map]; exact hjx)=nmI P[j]:=by simp
     have e2:(ndX X)[v].id=(nmI v).1:=congrArg Subtype.val (hnm v hvX)
     rw [e1,e2]
     by_cases g4:nmI v=nmI P[j]
     · rw [g4,beq_self_eq_true]
       exact (decide_eq_true (by simp)).symm
     · rw [decide_eq_false (by
        intro hm
        rcases List.mem_append.1 hm with hm | hm
        · exact g3 hm
        · exact g4 (by simpa using hm))]
       exact beq_eq_false_iff_ne.2 fun e=>g4 (Nm.ext' e.symm)
 · have hjP:j=P.length:=by
    have g2:¬ (j:Int) < (sp.len:Int):=g2
    omega
   subst hjP
   rw [List.take_length]
   unfold trovelaw19_GraphGrows.j20
   refine qjc (fun g3=>j17 P sp _ hP (by omega) h) (fun g3=>?_)
   refine h.drewK fun w h=>?_
   refine (h.toB nb).blk.ldPar ?_
   refine h.lrId (s:=t3) (L:=ndX X) v rfl hvX ?_
   have e2:(ndX X)[v].id=(nmI v).1:=congrArg Subtype.val (hnm v hvX)
   rw [e2]
   refine ⟨lenC (nmI v),?_⟩
   have es:spl [.int .u8 0,.int .u8 0,.int .u8 0,.int .u8 0,.int .u8 0,.int .u8 0,.int .u8 0,.int .u8 0,.int .u8 0,.int .u8 0,.int .u8 0,.int .u8 0,.int .u8 0,.int .u8 0,.int .u8 0,.int .u8 0,.int .u8 0,.int .u8 0,.int .u8 0,.int .u8 0] 0 ⟨ivs .u8 (nmI v).1⟩=nmC (nmI v):=qye (lenC (nmI v))
   rw [es]
   refine h.pushR (s:=sp) (L:=P.map nmI) (x:=nmI v) (by rw [List.length_map]; omega) rfl fun s' w hs h=>?_
   have h:St F0 w0 w (qfb nb (ndC (m.setP sp)) :: qbb 20 s' (((P ++ [v]).map nmI).flatMap nmC) :: ps):=by
    have e:(P ++ [v]).map nmI=P.map nmI ++ [nmI v]:=by rw [List.map_append]; rfl
    rw [e]
    exact h.sub
   rw [qmc]
   refine h.st (by rw [qcb]; decide) trivial fun w h=>?_
   have h:St F0 w0 w (qfb nb (ndC (m.setP s')) :: qbb 20 s' (((P ++ [v]).map nmI).flatMap nmC) :: ps):=by
    have e:=qsh (m.setP sp) s'
    have e2:(m.setP sp).setP s'=m.setP s':=rfl
    rw [e2] at e
    rw [← e]
    exact h
   have hnew:∀ p ∈ P ++ [v],p < i:=fun p hp=>by
    rcases List.mem_append.1 hp with hp | hp
    · exact hP p hp
    · have:p=v:=by simpa using hp
      omega
   have hln:(P ++ [v]).length≤P.length+1:=by simp
   have hmx:=mxI_snoc gl v P
   refine h.lx (s:=t4) (zs:=gl) v rfl (by omega) ?_
   refine qjc (fun g4=>?_) (fun g4=>?_)
   · refine h.lx (s:=t4) (zs:=gl) v rfl (by omega) ?_
     have e:gl.getD v 0=mxI gl (P ++ [v]):=by rw [hmx]; omega
     rw [e]
     exact j17 _ _ _ hnew hln h
   · have e:mxI gl P=mxI gl (P ++ [v]):=by rw [hmx]; omega
     rw [e]
     exact j17 _ _ _ hnew hln h
theorem grows_13 {L:List (Sl × List Int)} (h:St F0 w0 w (qfb nb (ndC (m.setP ⟨none,0,0⟩)) :: qbb 42 t3 ((ndX X).flatMap ndC) :: qbb 1 t4 (ivs .i64 gl) :: qnd (X.map cxA) :: ps)) [Rdb F0 w0 s ps 1 (sls L)] (hLi:i < L.length) [Rdb F0 w0 L[i].1 ps 1 (u8s L[i].2)]
 (hB:qpd L[i].2) (h10:L[i].1.len≤10)
 (hnm:∀ j (hj:j < (ndX X).length),(ndX X)[j].nm=nmI j) (hXl:(ndX X).length=i) (hgl:gl.length=i) (hi:i≤29) (hm:m.nm=nmI i) (hbd:∀ j,j < i→0≤gl.getD j 0∧gl.getD j 0≤31)
 (hk:∀ P sp t3' t4' w',(∀ p ∈ P,p < i)→P.length≤10→St F0 w0 w' (qbb 42 t3' ((ndX (X ++ [(m.setP sp,P.map nmI)])).flatMap ndC) :: qbb 1 t4' (ivs .i64 (gl ++ [mxI gl P+1])) :: qnd ((X ++ [(m.setP sp,P.map nmI)]).map cxA) :: ps)→nx2 s t3' t4' ((i+1:Nat):Int) w') :
 trovelaw19_GraphGrows.j13 s t3 t4 i ⟨nb,0,none⟩ 0 Q nx2 w:=by
 have hly:L[i].2.length=L[i].1.len:=by
  have:=(h.rdb L[i].1).1
  rw [qt] at this
  omega
 unfold trovelaw19_GraphGrows.j13 trovelaw19_GraphGrows.j15
 have h0:St F0 w0 w (qfb nb (ndC (m.setP ⟨none,0,0⟩)) :: qbb 20 ⟨none,0,0⟩ ((([]:List Nat).map nmI).flatMap nmC) :: qbb 42 t3 ((ndX X).flatMap ndC) :: qbb 1 t4 (ivs .i64 gl) :: qnd (X.map cxA) :: ps):=by
  have h1:St F0 w0 w (qbb 20 ⟨none,0,0⟩ ((([]:List Nat).map nmI).flatMap nmC) :: qfb nb (ndC (m.setP ⟨none,0,0⟩)) :: qbb 42 t3 ((ndX X).flatMap ndC) :: qbb 1 t4 (ivs .i64 gl) :: qnd (X.map cxA) :: ps):=h.nilO
  exact h1.sub
 refine loop2 (fun (a:Nat × List Nat × Sl) (t7 t8:Int) w'=>t8=(a.1:Int)∧a.1≤L[i].2.length∧t7=mxI gl a.2.1∧a.2.1.length≤a.1∧(∀ p ∈ a.2.1,p < i)∧St F0 w0 w' (qfb nb (ndC (m.setP a.2.2)) :: qbb 20 a.2.2 ((a.2.1.map nmI).flatMap nmC) :: qbb 42 t3 ((ndX X).flatMap ndC) :: qbb 1 t4 (ivs .i64 gl) :: qnd (X.map cxA) :: ps)) (fun a=>L[i].2.length - a.1) (0,[],⟨none,0,0⟩) ⟨rfl,Nat.zero_le _,rfl,Nat.le_refl _,fun p hp=>(by cases hp),h0⟩ ?_
 clear h h0
 rintro ⟨k,P,sp⟩ _ _ wL I μ ⟨rfl,hk1,rfl,hPk,hP,h⟩ hin
 simp only at hk1 hPk hP h hin ⊢
 unfold trovelaw19_GraphGrows.b3
 refine (h.rdb s).lsG i rfl hLi ?_
 refine qjc (fun g1=>?_) (fun g1=>?_)
 · have hkx:k < L[i].2.length:=by
    have g1:(k:Int) < (L[i].1.len:Int):=g1
    omega
   unfold trovelaw19_GraphGrows.j16
   refine (h.rdb s).lsG i rfl hLi ?_
   refine h.lx (s:=L[i].1) (zs:=L[i].2) k rfl hkx ?_
   have hb:=hB _ (List.getElem_mem hkx)
   have eg:L[i].2.getD k 0=L[i].2[k]:=by rw [List.getD_eq_getElem?_getD,List.getElem?_eq_getElem hkx]; rfl
   obtain ⟨v,hv⟩:∃ v:Nat,L[i].2.getD k 0=(v:Int):=⟨(L[i].2.getD k 0).toNat,by rw [eg]; omega⟩
   rw [hv]
   refine qw (e':=(v:Int)) (by rw [qq (by omega) (by rw [← hv,eg]; omega)]) ?_
   refine grows_18 (X:=X) (gl:=gl) (i:=i) (k:=k) (v:=v) (P:=P) (sp:=sp) h hnm hXl hgl (by omega) (by omega) hP (by omega) fun P' sp' w' h1 h2 h=>?_
   exact ⟨⟨rfl,rfl,rfl,rfl,rfl⟩,hin (k+1,P',sp') _ _ _ ⟨rfl,by simp only; omega,rfl,by simp only; omega,h1,h⟩ (by simp only; omega)⟩
 · have hP10:P.length≤10:=by omega
   have hmb:=mxI_bd (gl:=gl) (k:=31) (P:=P) fun p hp=>hbd p (hP p hp)
   unfold trovelaw19_GraphGrows.j14
   refine h.lA (b:=nb) (qcb _) ⟨qcb _,?_⟩
   rw [qce,qye (l:=qpe 1 (⟨ndC ndZ⟩:Array Value).toList) (cs:=ndC (m.setP sp)) (by rw [qcb]; rfl)]
   refine h.pushR (s:=t3) (L:=ndX X) (x:=m.setP sp) (by omega) rfl fun s' w hs h=>?_
   refine qw (e':=mxI gl P+1) (by rw [qq (by omega) (by omega)]) ?_
   refine h.pushI (s:=t4) (zs:=gl) (x:=mxI gl P+1) (by omega) fun s4 w h=>?_
   unfold trovelaw19_GraphGrows.j11
   refine qw (e':=((i+1:Nat):Int)) (by rw [qq (by omega) (by omega)]; rfl) ?_
   refine hk P sp s' s4 w hP hP10 ?_
   have h2:St F0 w0 w (qbb 20 sp ((P.map nmI).flatMap nmC) :: qnd (X.map cxA) :: qbb 42 s' ((ndX X ++ [m.setP sp]).flatMap ndC) :: qbb 1 s4 (ivs .i64 (gl ++ [mxI gl P+1])) :: ps):=h.sub
   have h3:St F0 w0 w (qnd (((m.setP sp,P.map nmI) :: X).map cxA) :: qbb 42 s' ((ndX X ++ [m.setP sp]).flatMap ndC) :: qbb 1 s4 (ivs .i64 (gl ++ [mxI gl P+1])) :: ps):=h2.ro.bagIn
   have h4:=h3.bagP (l':=(X ++ [(m.setP sp,P.map nmI)]).map cxA) ((List.perm_append_singleton _ X).symm.map _)
   have e:ndX (X ++ [(m.setP sp,P.map nmI)])=ndX X ++ [m.setP sp]:=by rw [ndX_app]; rfl
   rw [e]
   exact h4.sub
end
end Go.Proofs.Ytigmbblgfnkpbaa
namespace Go.Proofs.Ytigmbblgfnkpbaa
open Go Go.Proofs
set_option linter.unusedVariables false
set_option linter.unusedSimpArgs false
attribute [local irreducible] apK cpK mkK br qne
theorem trovelaw19_GraphGrows.law (s:Sl) (L:List (Sl × List Int)) (W:World) (hr:Rd W 1 s (sls L)) (hL:∀ y ∈ L,Rd W 1 y.1 (u8s y.2)∧(∀ n ∈ y.2,(Lit.int .u8 n).wf=true)∧y.1.len≤y.1.cap) (hc:s.len≤s.cap) :
 Calls Try.prog 3 ⟨[.slice s.a s.len s.cap]⟩ W fun e w'=>e=.returned (.bool true)∧Mod [] W w':=by
 haveI:∀ ps,Rdb [] W s ps 1 (sls L):=fun ps=>Rdb.start hr
 have h:St [] W W []:=St.start0
 have hsl:L.length=s.len:=by
  have:=hr.1
  simp [sls] at this
  exact this
 refine qnb (trovelaw19_GraphGrows.ok s _ _ ?_)
 unfold trovelaw19_GraphGrows trovelaw19_GraphGrows.j1
 refine quc.c h fun w h=>⟨_,rfl,?_⟩
 refine qzc (fun g=>by cases g) (fun _=>?_)
 refine qjc (fun _=>⟨rfl,h.mod⟩) (fun g30=>?_)
 have h30:L.length≤30:=by omega
 unfold trovelaw19_GraphGrows.j2 trovelaw19_GraphGrows.j3 trovelaw19_GraphGrows.j9
 have h0:St [] W w (qbb 42 ⟨none,0,0⟩ ((ndX []).flatMap ndC) :: qbb 1 ⟨none,0,0⟩ (ivs .i64 []) :: qnd (([]:List Cx).map cxA) :: []):=by
  have h1:St [] W w (qnd [] :: []):=h.bag0
  have h2:St [] W w (qbb 1 ⟨none,0,0⟩ [] :: qnd [] :: []):=h1.nilO
  exact h2.nilO
 refine loop3 (fun (a:Nat × List Cx × List (List Nat) × List Int) (t3 t4:Sl) (i':Int) w'=>i'=(a.1:Int)∧a.1≤L.length∧a.2.2.1.length=a.1∧a.2.1.map cmX=rowsC a.2.2.1∧Grow a.2.2.1 a.2.2.2∧St [] W w' (qbb 42 t3 ((ndX a.2.1).flatMap ndC) :: qbb 1 t4 (ivs .i64 a.2.2.2) :: qnd (a.2.1.map cxA) :: [])) (fun a=>L.length - a.1) (0,[],[],[]) ⟨rfl,Nat.zero_le _,rfl,rfl,Grow.nil,h0⟩ ?_
 clear h h0
 rintro ⟨i,X,T,gl⟩ t3 t4 _ wL I μ ⟨rfl,hi,hTl,hX,hG,h⟩ hin
 simp only at hi hTl hX hG h hin ⊢
 have hgl:=hG.len
 have hXl:(ndX X).length=i:=by
  have:=congrArg List.length hX
  rw [qph,List.length_map] at this
  rw [qhi]
  omega
 unfold trovelaw19_GraphGrows.b2
 refine qjc (fun g1=>?_) (fun g1=>?_)
 · have hix:i < L.length:=by omega
   obtain ⟨hLr,hLw,hLc⟩:=hL _ (List.getElem_mem hix)
   haveI:∀ ps,Rdb [] W L[i].1 ps 1 (u8s L[i].2):=fun ps=>Rdb.start hLr
   have hnm:∀ j (hj:j < (ndX X).length),(ndX X)[j].nm=nmI j:=fun j hj=>by
    have e:(ndX X).map Nd.nm=(rowsC T).map (·.id):=by
     rw [← hX]
     unfold ndX
     rw [List.map_map,List.map_map]
     rfl
    have:((ndX X).map Nd.nm)[j]?=some (nmI j):=by rw [e,qmf,List.getElem?_map,List.getElem?_range (by omega)]; rfl
    rw [List.getElem?_map,List.getElem?_eq_getElem hj] at this
    simpa using this
   unfold trovelaw19_GraphGrows.j10
   refine (h.rdb s).lsG i rfl hix ?_
   refine qjc (fun _=>⟨rfl,h.mod⟩) (fun g10=>?_)
   have h10:L[i].1.len≤10:=by omega
   rw [qce]
   refine h.new fun nb w h=>?_
   have h:St [] W w (qfb nb (ndC ndZ) :: qbb 42 t3 ((ndX X).flatMap ndC) :: qbb 1 t4 (ivs .i64 gl) :: qnd (X.map cxA) :: []):=h
   refine ⟨qcb _,?_⟩
   refine h.setR (f:=ndC) (x:=ndZ) (qcb _) fun w h=>?_
   unfold trovelaw19_GraphGrows.j12
   refine qw (e':=((200 - i:Nat):Int)) (by rw [qq (by omega) (by omega)]; omega) ?_
   refine qw (e':=(((200 - i) % 256:Nat):Int)) (by rw [qai]; omega) ?_
   rw [qmc]
   refine ixA_b' (by decide) (by decide) ?_
   refine h.st (by rw [qcb]; decide) trivial fun w h=>?_
   have hv:0≤((((200 - i) % 256:Nat)):Int)∧((((200 - i) % 256:Nat)):Int) < 256:=by omega
   have h:St [] W w (qfb nb (ndC ((ndZ.set0 _ hv).setP ⟨none,0,0⟩)) :: qbb 42 t3 ((ndX X).flatMap ndC) :: qbb 1 t4 (ivs .i64 gl) :: qnd (X.map cxA) :: []):=by
    have e:=ndC_set0 ndZ _ hv
    have e2:(ndZ.set0 _ hv).setP ⟨none,0,0⟩=ndZ.set0 _ hv:=rfl
    rw [e2,← e]
    exact h
   refine grows_13 (L:=L) (X:=X) (gl:=gl) (i:=i) (m:=ndZ.set0 _ hv) h hix (fun n hn=>wf_u8 (hLw n hn)) h10 hnm hXl (by omega) (by omega) rfl (fun j hj=>?_) fun P sp t3' t4' w' hP hP10 h=>?_
   · have:=hG.bd j (by omega)
     omega
   · refine ⟨rfl,hin (i+1,X ++ [((ndZ.set0 _ hv).setP sp,P.map nmI)],T ++ [P],gl ++ [mxI gl P+1]) _ _ _ _ ⟨rfl,by simp only; omega,by simp only [List.length_append,List.length_singleton]; omega,?_,hG.snoc (fun p hp=>by have:=hP p hp; omega) hP10,h⟩ (by simp only; omega)⟩
     simp only
     rw [List.map_append,hX,rowsC_snoc,hTl]
     rfl
 · refine grows_4 (X:=X) (T:=T) (gl:=gl) h (fun x hx=>?_) hX hG (by omega) fun w h=>⟨rfl,h.mod⟩
   haveI:∀ qs,Rdb [] W x.1.par (qnd (X.map cxA) :: qs) 20 (x.2.flatMap nmC):=fun qs=>bag_rd hx
   infer_instance
end Go.Proofs.Ytigmbblgfnkpbaa
