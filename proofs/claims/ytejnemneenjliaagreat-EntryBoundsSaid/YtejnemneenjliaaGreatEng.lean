/- Own texts as one, only what is reached (shake.py). -/
import Derived.Test.YtejnemneenjliaaGreatEnf
import Derived.Test.YtejnemneenjliaaGreatProg
namespace Go.Proofs.YtejnemneenjliaaGreat
open Go Go.Proofs
set_option linter.unusedVariables false
set_option linter.unusedSimpArgs false
attribute [local irreducible] apK cpK mkK br
section
variable {F0:List Nat} {w0 w:World} {ps rest:List As} {s:Sl} {xs:List Int}
theorem qbp.c {L:List Ep} {K:Ending→World→Prop} (h:St F0 w0 w ps) [Rdb F0 w0 s ps 2 (L.flatMap eC)] (hlen:L.length≤1000000)
 (hk:∀ t w',t.len=L.length→St F0 w0 w' (qcc 2 t (L.flatMap eC) :: ps)→K (.returned (.slice t.a t.len t.cap)) w'):Calls Tryz.prog 295 ⟨[.slice s.a s.len s.cap]⟩ w K:=by
 refine qfc (qqf.ok _ _ _ ?_)
 unfold qqf
 refine qne (fun g=>?_) (fun g=>?_)
 · have:L=[]:=h.isnil (s:=s) (by simpa using g)
   subst this
   exact hk ⟨none,0,0⟩ w rfl (h.nil 2)
 · refine h.cloneR (s2:=s) (by omega) fun t w ht h=>hk t w ht h
def we (x:Ep):Int:=x.1
theorem ssortE (M:List Ep):pks (qrd wt (M.map pkE))=(qrd we M).flatMap eC:=by
 rw [← pks_eC,ssort_map (k:=we) (k':=wt) (f:=pkE) (fun _=>rfl)]
theorem qcr {l:List Nat} {k:Nat} (h:k < l.length):(l.map fun n:Nat=>(n:Int)).getD k 0=l[k]:=by
 simp [List.getD,h]
theorem qm.count {t6 t7 t85:Sl} {R:List Ep} {T:List (Sl × List Nat)} {N:Nat} {K:Ending→World→Prop} (h:St F0 w0 w (qcc 1 t7 (ivs .i64 (List.replicate N 0)) :: tabA T :: ps)) [Rdb F0 w0 t85 ps 2 (R.flatMap eC)]
 (hT:∀ x ∈ R,(x.2.1,x.2.2) ∈ T) (hN:∀ x ∈ R,∀ s ∈ x.2.2,s < N) (hNl:N≤1000) (hn:∀ x ∈ R,x.2.2.length≤100000) (hR:R.length≤1000)
 (hk:∀ w',St F0 w0 w' (qcc 1 t7 (ivs .i64 (qfj N fun i=>((qyf (R.map erE)).count i:Int))) :: ps)→K (.returned (.tuple ⟨[.slice t7.a t7.len t7.cap,.int .i64 0]⟩)) w') :
 qm.j7 t7 t85 ((R.length:Nat):Int) 0 (fun v w'=>K (.returned v) w') w:=by
 have hcnt:∀ (l:List Ep),(∀ x ∈ l,x.2.2.length≤100000)→∀ i,(qyf (l.map erE)).count i≤l.length * 100000:=by
  intro l
  induction l with
  | nil=>intro _ i; simp [qyf]
  | cons a l ih =>
    intro h i
    have:=ih (fun x hx=>h x (by simp [hx])) i
    have h1:=h a (by simp)
    have h2:=List.count_le_length (a:=i) (l:=a.2.2)
    rw [List.map_cons,qgj,List.count_append,List.length_cons]
    show (a.2.2).count i+_≤_
    omega
 unfold qm.j7
 refine qmg (fun (j:Nat) (j':Int) w'=>j'=j∧j≤R.length∧St F0 w0 w' (qcc 1 t7 (ivs .i64 (qfj N fun i=>((qyf ((R.take j).map erE)).count i:Int))) :: tabA T :: ps)) (fun j=>R.length - j) 0 ⟨rfl,by omega,by
  rw [qpk] at h
  simpa [qyf] using h⟩ ?_
 clear h
 rintro j j' wL I μ ⟨rfl,hj,h⟩ hin
 unfold qm.b1
 refine qnc (fun g=>?_) (fun g=>?_)
 · have hjR:j < R.length:=by omega
   have hmem:=List.getElem_mem hjR
   have hsl:=hn _ hmem
   have hcj:∀ i,(qyf ((R.take j).map erE)).count i≤100000000:=fun i=>by
    have h1:=hcnt (R.take j) (fun x hx=>hn x (List.mem_of_mem_take hx)) i
    have h2:(R.take j).length≤1000:=by rw [List.length_take]; omega
    have h3:=Nat.mul_le_mul_right 100000 h2
    omega
   unfold qm.j8
   refine h.lr (s:=t85) j rfl hjR ?_
   refine h.new fun nb w h=>?_
   refine ⟨rfl,?_⟩
   refine h.setR (x:=R[j]) (by rw [elt_pack.zc]; rfl) fun w h=>?_
   have h:St F0 w0 w (qzc nb [.int .i64 (R[j]).1,.slice (R[j]).2.1.a (R[j]).2.1.len (R[j]).2.1.cap] :: qcc 1 t7 (ivs .i64 (qfj N fun i=>((qyf ((R.take j).map erE)).count i:Int))) :: tabA T :: ps):=h
   rw [qvf]
   refine h.fL (b:=nb) (o:=0+1) ?_
   dsimp only
   have h:St F0 w0 w (qcc 1 t7 (ivs .i64 (qfj N fun i=>((qyf ((R.take j).map erE)).count i:Int))) :: tabA T :: ps):=h.drop
   haveI:Rdb F0 w0 (R[j]).2.1 (tabA T :: ps) 1 (nvs (R[j]).2.2):=tab_rdb (hT _ hmem)
   have hl5:=(h.rdb (R[j]).2.1).1
   rw [ql,List.length_map] at hl5
   unfold qm.j10
   refine qmg (fun (k:Nat) (k':Int) w'=>k'=k∧k≤(R[j]).2.2.length∧St F0 w0 w' (qcc 1 t7 (ivs .i64 (qfj N fun i=>((qyf ((R.take j).map erE) ++ (R[j]).2.2.take k).count i:Int))) :: tabA T :: ps)) (fun k=>(R[j]).2.2.length - k) 0 ⟨rfl,by omega,by simpa using h⟩ ?_
   clear h
   rintro k k' wL2 I2 μ2 ⟨rfl,hk2,h⟩ hin2
   unfold qm.b2
   refine qnc (fun g2=>?_) (fun g2=>?_)
   · have hks:k < (R[j]).2.2.length:=by
      omega
     have hsN:=hN _ hmem _ (List.getElem_mem hks)
     have hck:(qyf ((R.take j).map erE) ++ (R[j]).2.2.take k).count ((R[j]).2.2[k])≤200000000:=by
      have h1:=hcj ((R[j]).2.2[k])
      have h2:=List.count_le_length (a:=(R[j]).2.2[k]) (l:=(R[j]).2.2.take k)
      rw [List.count_append]
      rw [List.length_take] at h2
      omega
     refine h.lx (s:=(R[j]).2.1) k rfl (by rw [List.length_map]; exact hks) ?_
     rw [qcr hks]
     refine h.lx (s:=t7) ((R[j]).2.2[k]) rfl (by rw [qad]; exact hsN) ?_
     rw [qbf hsN]
     refine qn (qd (by omega) (by omega)) ?_
     refine h.sx (s:=t7) ((R[j]).2.2[k]) rfl (by rw [qad]; exact hsN) fun w h=>?_
     refine qn (qd (by omega) (by omega)) ?_
     refine ⟨⟨rfl,rfl,rfl,rfl,rfl,rfl⟩,hin2 (k+1) _ _ ⟨by omega,by omega,?_⟩ (by omega)⟩
     rw [qpj] at h
     have e:(qfj N fun m=>if m=(R[j]).2.2[k] then ((qyf ((R.take j).map erE) ++ (R[j]).2.2.take k).count ((R[j]).2.2[k]):Int)+1 else ((qyf ((R.take j).map erE) ++ (R[j]).2.2.take k).count m:Int))=qfj N fun i=>((qyf ((R.take j).map erE) ++ (R[j]).2.2.take (k+1)).count i:Int):=by
      refine qpd fun i _=>?_
      rw [List.take_succ_eq_append_getElem hks,← List.append_assoc,List.count_append (l₁:=qyf ((R.take j).map erE) ++ (R[j]).2.2.take k),List.count_singleton]
      by_cases e:i=(R[j]).2.2[k]
      · rw [if_pos e,e]; simp
      · rw [if_neg e]
        have:((R[j]).2.2[k] == i)=false:=by simpa using fun h=>e h.symm
        rw [this]; simp
     rw [e] at h
     exact h
   · have:k=(R[j]).2.2.length:=by
      omega
     subst this
     unfold qm.j9
     refine qn (qd (by omega) (by omega)) ?_
     refine ⟨⟨rfl,rfl,rfl⟩,hin (j+1) _ _ ⟨by omega,by omega,?_⟩ (by omega)⟩
     rw [List.take_length] at h
     have e:qyf ((R.take (j+1)).map erE)=qyf ((R.take j).map erE) ++ (R[j]).2.2:=by
      rw [List.take_succ_eq_append_getElem hjR,List.map_append,qxr]
      congr 1
      simp [qyf,erE]
     rw [e]
     exact h
 · have:j=R.length:=by omega
   subst this
   rw [List.take_length] at h
   unfold qm.j6
   exact hk wL (h.tail fun _ _ _ h=>h.drop)
theorem okE_sort {T:List (Sl × List Nat)} {M:Int} {n:Nat} {L:List Ep} (h:okE T M n L):okE T M n (qrd we L):=fun x hx=>h x ((qoi _).mem_iff.1 hx)
theorem qm.rows {t6 t7 t8:Sl} {C:List Ep} {T0:List (Sl × List Nat)} {cs:List Pg} {m:Nat} {K:Ending→World→Prop}
 (h:St F0 w0 w (qcc 2 t8 (C.flatMap eC) :: tabA T0 :: ps)) (hC:C.map erE=cs) (hok0:okE T0 16777216 1 C) (hm:m≤15) (hc1:1≤cs.length) (hc:cs.length≤300)
 (hk:∀ (t9:Sl) (R:List Ep) (T:List (Sl × List Nat)) (w':World),R.map erE=qqj cs m→(∀ x ∈ R,(x.2.1,x.2.2) ∈ T∧x.2.2.length≤100000)→St F0 w0 w' (qcc 2 t9 (R.flatMap eC) :: tabA T :: ps)→qm.j5 t6 t7 t9 (fun v w'=>K (.returned v) w') w') :
 qm.j4 (m:Int) t6 t7 t8 ⟨none,0,0⟩ (fun v w'=>K (.returned v) w') w:=by
 have hCl:C.length=cs.length:=by rw [← hC,List.length_map]
 unfold qm.j4 qm.j11
 refine qkg (fun (a:Nat × List Ep × List (Sl × List Nat)) (o:Sl) (i':Int) w'=>i'=a.1∧a.1≤m∧a.2.1.map erE=qqj cs a.1∧okE a.2.2 (16777216 * 2 ^ a.1) (2 ^ a.1) a.2.1∧okE a.2.2 16777216 1 C∧St F0 w0 w' (qcc 2 o (a.2.1.flatMap eC) :: tabA a.2.2 :: qcc 2 t8 (C.flatMap eC) :: ps)) (fun a=>m - a.1) (0,[],T0)
  ⟨rfl,by omega,rfl,fun x hx=>(by cases hx),hok0,(h.at1).nil 2⟩ ?_
 clear h
 rintro ⟨r,R,T⟩ o i' wL I μ ⟨rfl,hr,hR,hok,hokC,h⟩ hin
 simp only at hr hR hok hokC h hin ⊢
 have hRl:R.length < 2 * cs.length:=by
  have:=congrArg List.length hR
  rw [List.length_map] at this
  rw [this]
  exact rowP_lt hc1 r
 have h15:2 ^ r≤2 ^ 15:=Nat.pow_le_pow_right (by decide) (by omega)
 rw [show (2:Nat) ^ 15=32768 from rfl] at h15
 unfold qm.b3
 refine qnc (fun g=>?_) (fun g=>?_)
 · refine qbp.c (s:=t8) h (by omega) fun t w ht h=>⟨t,rfl,?_⟩
   have h:St F0 w0 w (tabA T :: qcc 2 t (C.flatMap eC) :: qcc 2 o (R.flatMap eC) :: qcc 2 t8 (C.flatMap eC) :: ps):=h.sub
   have e2:((2:Int) ^ r)=((2 ^ r:Nat):Int):=by simp
   rw [e2] at hok
   have h1p:1≤2 ^ r:=Nat.one_le_two_pow
   have ep:2 ^ (r+1)=2 * 2 ^ r:=by rw [Nat.pow_succ,Nat.mul_comm]
   have e3:((2:Int) ^ (r+1))=((2 ^ (r+1):Nat):Int):=by simp
   refine qgd.c (s:=o) (L:=R) h hok (by omega) (by omega) (by omega) fun t2 w L2 T2 hL2 hT2 hok2 h=>⟨t2,rfl,?_⟩
   have hL2l:L2.length≤600:=by
    have:=congrArg List.length hL2
    rw [List.length_map,qfk,List.length_map] at this
    omega
   refine h.appR (s:=t) (s2:=t2) (by omega) fun t3 w ht3 h=>?_
   rw [← pks_eC] at h
   refine SortStable.c (s:=t3) h (by rw [List.length_map,List.length_append]; omega) fun w h=>⟨rfl,?_⟩
   rw [ssortE] at h
   refine qn (qd (by omega) (by omega)) ?_
   refine ⟨⟨rfl,rfl,rfl,rfl⟩,hin (r+1,qrd we (C ++ L2),T2) _ _ _ ⟨by simp only; omega,by simp only; omega,?_,?_,?_,?_⟩ (by simp only; omega)⟩
   · simp only
     rw [ssort_map (k:=we) (k':=gw) (f:=erE) (fun _=>rfl),List.map_append,hC,hL2,hR,qqj]
   · simp only
     rw [e3]
     refine okE_sort fun x hx=>?_
     rcases List.mem_append.1 hx with hx | hx
     · exact hokC.mono hT2 (by omega) (by omega) x hx
     · exact hok2.mono (fun _ h=>h) (by omega) (by omega) x hx
   · exact hokC.mono hT2 (Int.le_refl _) (Nat.le_refl _)
   · exact h.sub
 · have:r=m:=by omega
   subst this
   have h:St F0 w0 wL (qcc 2 o (R.flatMap eC) :: tabA T :: ps):=h.sub
   exact hk o R T wL hR (fun x hx=>⟨(hok x hx).1,by have:=(hok x hx).2.2.2; omega⟩) h
theorem qm.coins {t6 t7:Sl} {m:Int} {K:Ending→World→Prop} (h:St F0 w0 w ps) [Rdb F0 w0 s ps 1 (ivs .i64 xs)] [Rdb F0 w0 t6 ps 1 (nvs (qhe xs))] (hg:goodX xs)
 (hk:∀ (t8:Sl) (C:List Ep) (T:List (Sl × List Nat)) (w':World),C.map erE=coinsP xs→okE T 16777216 1 C→St F0 w0 w' (qcc 2 t8 (C.flatMap eC) :: tabA T :: ps)→qm.j4 m t6 t7 t8 ⟨none,0,0⟩ (fun v w'=>K (.returned v) w') w') :
 qm.j3 s m t6 t7 ⟨none,0,0⟩ ⟨none,0,0⟩ (fun v w'=>K (.returned v) w') w:=by
 have hl6:=(h.rdb t6).1
 rw [ql,List.length_map] at hl6
 have hcl:=qmp xs
 have hlg:=hg.1
 unfold qm.j3 qm.j12
 have h:St F0 w0 w (tabA [] :: ps):=h.add (f':=[]) (p':=noA) (Mod.refl _ _) rfl (Gr.refl _ _)
 refine qkg (fun (a:Nat × List Ep × List (Sl × List Nat)) (o:Sl) (i':Int) w'=>i'=a.1∧a.1≤(qhe xs).length∧a.2.1.map erE=(coinsP xs).take a.1∧okE a.2.2 16777216 1 a.2.1∧St F0 w0 w' (qcc 2 o (a.2.1.flatMap eC) :: tabA a.2.2 :: ps)) (fun a=>(qhe xs).length - a.1) (0,[],[])
  ⟨rfl,by omega,rfl,fun x hx=>(by cases hx),h.nil 2⟩ ?_
 clear h
 rintro ⟨i,L,T⟩ o i' wL I μ ⟨rfl,hi,hL,hok,h⟩ hin
 simp only at hi hL hok h hin ⊢
 have hLl:L.length=i:=by
  have:=congrArg List.length hL
  rw [List.length_map,List.length_take,qce] at this
  omega
 unfold qm.b4
 refine qnc (fun g=>?_) (fun g=>?_)
 · have hic:i < (qhe xs).length:=by omega
   have hcm:=qgi.1 (List.getElem_mem hic)
   have hv:=hg.2 _ (qee hcm.1)
   unfold badN at hv
   refine h.lx (s:=t6) i rfl (by rw [List.length_map]; exact hic) ?_
   rw [qcr hic]
   refine h.lx (s:=s) ((qhe xs)[i]) rfl hcm.1 ?_
   refine h.new fun nb w h=>⟨rfl,?_⟩
   have h:St F0 w0 w (qzc nb (nvs [(qhe xs)[i]]) :: qcc 2 o (L.flatMap eC) :: tabA T :: ps):=h
   refine h.pushR (s:=o) (x:=((xs.getD ((qhe xs)[i]) 0,⟨some ⟨nb,0,none⟩,1,1⟩,[(qhe xs)[i]]):Ep)) (by omega) rfl fun o2 w _ h=>?_
   refine qn (qd (by omega) (by omega)) ?_
   refine ⟨⟨rfl,rfl,rfl,rfl,rfl,rfl,rfl⟩,hin (i+1,L ++ [(xs.getD ((qhe xs)[i]) 0,⟨some ⟨nb,0,none⟩,1,1⟩,[(qhe xs)[i]])],(⟨some ⟨nb,0,none⟩,1,1⟩,[(qhe xs)[i]]) :: T) _ _ _ ⟨by simp only; omega,by simp only; omega,?_,?_,?_⟩ (by simp only; omega)⟩
   · simp only
     rw [List.map_append,hL,List.take_succ_eq_append_getElem (by rw [qce]; exact hic)]
     congr 1
     simp [coinsP,erE]
   · intro x hx
     rcases List.mem_append.1 hx with hx | hx
     · exact hok.mono (fun x hx=>List.mem_cons_of_mem _ hx) (Int.le_refl _) (Nat.le_refl _) x hx
     · rw [List.mem_singleton] at hx
       subst hx
       refine ⟨by simp,?_,?_,?_⟩
       · show 0≤xs.getD _ 0; omega
       · show xs.getD _ 0≤_; omega
       · show 1≤1; omega
   · exact h.tail fun _ _ _ h=>(h.ownB (n:=1) rfl).ro.tabI
 · have:i=(qhe xs).length:=by omega
   subst this
   rw [List.take_of_length_le (by rw [qce]; omega)] at hL
   exact hk o L T wL hL hok h
theorem qm.c {m:Int} {K:Ending→World→Prop} (h:St F0 w0 w ps) [Rdb F0 w0 s ps 1 (ivs .i64 xs)]
 (hk0:∀ t w',leastE xs m=0→t.len=xs.length→St F0 w0 w' (qcc 1 t (ivs .i64 (lenP xs m.toNat)) :: ps)→K (.returned (.tuple ⟨[.slice t.a t.len t.cap,.int .i64 0]⟩)) w')
 (hk1:∀ w',leastE xs m ≠ 0→St F0 w0 w' ps→K (.returned (.tuple ⟨[.slice none 0 0,.int .i64 (leastE xs m)]⟩)) w'):Calls Tryz.prog 261 ⟨[.slice s.a s.len s.cap,.int .i64 m]⟩ w K:=by
 have hl:=(h.rdb s).1
 rw [ql] at hl
 refine qfc (qm.ok _ _ _ _ ?_)
 unfold qm
 have no1:∀ w,(¬ goodX xs ∨ m < 1 ∨ 15 < m)→St F0 w0 w ps→K (.returned (.tuple ⟨[.slice none 0 0,.int .i64 1]⟩)) w:=by
  intro w e h
  have e1:leastE xs m=1:=by unfold leastE; rw [if_pos e]
  have:=hk1 w (by omega) h
  rw [e1] at this
  exact this
 refine qfl.c (s:=s) h fun b w hg hb h=>⟨b,rfl,?_⟩
 refine qne (fun g=>?_) (fun g=>?_)
 · refine no1 w (Or.inl fun hgd=>?_) h
   rcases hb g with e | ⟨x,hx,e⟩
   · have:=hgd.1; omega
   · exact hgd.2 x hx e
 have hgood:goodX xs:=hg g
 have hlg:=hgood.1
 have hcl:=qmp xs
 refine qnc (fun g1=>no1 w (by omega) h) (fun g1=>?_)
 refine qnc (fun g2=>no1 w (by omega) h) (fun g2=>?_)
 obtain ⟨M,rfl⟩:∃ M:Nat,m=M:=⟨m.toNat,by omega⟩
 have eL:leastE xs M=if 2 ^ M < (qhe xs).length then 7 else 0:=by
  unfold leastE
  rw [if_neg (fun e=>by
   rcases e with e | e | e
   · exact e hgood
   · omega
   · omega),Int.toNat_natCast]
 unfold qm.j1
 refine qqd.c (s:=s) h (by omega) fun t6 w ht6 h=>⟨t6,rfl,?_⟩
 refine h.makeI (n:=xs.length) (by omega) (by omega) (by omega) fun t7 w ht7 hc7 h=>?_
 unfold qm.j2
 have h15:2 ^ M≤2 ^ 15:=Nat.pow_le_pow_right (by decide) (by omega)
 have hM:qqi .i64 1 (M:Int)=((2 ^ M:Nat):Int):=by
  rw [shlV_lit .i64 (t:=M) rfl (by show M≤64; omega) (by decide) (by
   have e:((1:Int) * 2 ^ M)=((2 ^ M:Nat):Int):=by simp
   rw [e]
   show ((2 ^ M:Nat):Int) < 9223372036854775808
   have:(2:Nat) ^ 15=32768:=rfl
   omega)]
  simp
 refine ⟨by omega,qn hM ?_⟩
 refine qnc (fun g3=>?_) (fun g3=>?_)
 · have e7:leastE xs M=7:=by rw [eL,if_pos (by omega)]
   have:=hk1 w (by omega) h.drop.drop
   rw [e7] at this
   exact this
 have e0:leastE xs M=0:=by rw [eL,if_neg (by omega)]
 have hk0:=fun t w'=>hk0 t w' e0
 simp only [Int.toNat_natCast] at hk0
 have few:(qhe xs).length < 2→lenP xs M=qfj xs.length fun i=>if 0 < xs.getD i 0 then 1 else 0:=by
  intro hf
  refine qpd fun i hi=>?_
  unfold lenF
  rw [if_pos hf]
  split <;> rfl
 refine qne (fun g4=>?_) (fun g4=>?_)
 · have g4:(t6.len:Int)=0:=by simpa using g4
   refine hk0 t7 w ht7 ?_
   have e:lenP xs M=List.replicate xs.length 0:=by
    rw [few (by omega),qpk]
    refine qpd fun i hi=>?_
    rw [if_neg (fun h0=>?_)]
    have:=List.length_pos_of_mem (qgi.2 ⟨hi,h0⟩)
    omega
   rw [e]
   exact h.tail fun _ _ _ h=>h.drop
 have g4:(t6.len:Int) ≠ 0:=by simpa using g4
 refine qne (fun g5=>?_) (fun g5=>?_)
 · have g5:(t6.len:Int)=1:=by simpa using g5
   have hc0:0 < (qhe xs).length:=by omega
   have hcm:=qgi.1 (List.getElem_mem hc0)
   refine h.lx (s:=t6) 0 rfl (by rw [List.length_map]; exact hc0) ?_
   rw [qcr hc0]
   refine h.sx (s:=t7) ((qhe xs)[0]) rfl (by rw [List.length_replicate]; exact hcm.1) fun w h=>?_
   refine hk0 t7 w ht7 ?_
   have e:(List.replicate xs.length (0:Int)).set ((qhe xs)[0]) 1=lenP xs M:=by
    rw [few (by omega),qpk,qpj]
    refine qpd fun i hi=>?_
    by_cases h0:0 < xs.getD i 0
    · have hm:=qgi.2 ⟨hi,h0⟩
      obtain ⟨k,hk,rfl⟩:=List.mem_iff_getElem.1 hm
      have:k=0:=by omega
      subst this
      rw [if_pos rfl,if_pos h0]
    · rw [if_neg h0,if_neg (fun e:i=(qhe xs)[0]=>h0 (by rw [e]; exact hcm.2))]
   rw [e] at h
   exact h.tail fun _ _ _ h=>h.drop
 have g5:(t6.len:Int) ≠ 1:=by simpa using g5
 refine qm.coins (s:=s) (xs:=xs) h hgood fun t8 C T w hC hok h=>?_
 refine qm.rows (cs:=coinsP xs) h hC hok (by omega) (by rw [qce]; omega) (by rw [qce]; omega) fun t9 R T w hR hRT h=>?_
 have hen:=qir (cs:=coinsP xs) (by rw [qce]; omega) (L:=M) (by rw [qce]; omega)
 have hRl:R.length=(qqj (coinsP xs) M).length:=by rw [← hR,List.length_map]
 have hRlt:=rowP_lt (cs:=coinsP xs) (by rw [qce]; omega) M
 rw [qce] at hen hRlt
 have h9:=h.rlen (s:=t9)
 have hcap:=h.cap (by decide)
 unfold qm.j5
 refine qn (qd (by omega) (by omega)) ?_
 refine qn (qd (by omega) (by omega)) ?_
 refine qvk (n:=2 * (qhe xs).length - 2) (by omega) (by omega) (que ?_)
 have h:St F0 w0 w (qcc 1 t7 (ivs .i64 (List.replicate xs.length 0)) :: tabA T :: qcc 2 t9 (R.flatMap eC) :: ps):=h.sub
 haveI:=h.drop.drop.cutRR t9 0 (2 * (qhe xs).length - 2) (t9.cap - 0) (by omega) (by omega) hcap
 rw [List.drop_zero,Nat.sub_zero] at this
 have hRt:(R.take (2 * (qhe xs).length - 2)).map erE=(qqj (coinsP xs) M).take (2 * (qhe xs).length - 2):=by rw [List.map_take,hR]
 have hlen:(R.take (2 * (qhe xs).length - 2)).length=2 * (qhe xs).length - 2:=by rw [List.length_take]; omega
 have hfin:=qm.count (t6:=t6) (t7:=t7) (t85:=⟨qgf t9.a t9.cap 0 2,2 * (qhe xs).length - 2,t9.cap - 0⟩) (R:=R.take (2 * (qhe xs).length - 2)) (T:=T) (N:=xs.length) (K:=K) h (fun x hx=>(hRT x (List.mem_of_mem_take hx)).1) (fun x hx s hs=>?_) (by omega) (fun x hx=>(hRT x (List.mem_of_mem_take hx)).2) (by omega) fun w h=>?_
 · rw [hlen] at hfin
   exact hfin
 · have hx':erE x ∈ qqj (coinsP xs) M:=by rw [← hR]; exact List.mem_map_of_mem (List.mem_of_mem_take hx)
   refine flat_lt (cs:=coinsP xs) (n:=xs.length) ?_ M (erE x) hx' s hs
   intro y hy s hs
   obtain ⟨i,hi,rfl⟩:=List.mem_map.1 hy
   have:s=i:=by simpa using hs
   subst this
   exact (qgi.1 hi).1
 · refine hk0 t7 w ht7 ?_
   rw [hRt] at h
   have e:lenP xs M=qfj xs.length fun i=>((qyf ((qqj (coinsP xs) M).take (2 * (qhe xs).length - 2))).count i:Int):=by
    refine qpd fun i hi=>?_
    unfold lenF
    rw [if_neg (by omega)]
   rw [e]
   exact h.tail fun _ _ _ h=>h.drop
end
end Go.Proofs.YtejnemneenjliaaGreat
namespace Go.Proofs.YtejnemneenjliaaGreat
open Go Go.Proofs
set_option linter.unusedVariables false
set_option linter.unusedSimpArgs false
attribute [local irreducible] apK cpK mkK br
section
variable {α β:Type} {k:α→Int}
def hless (k:α→Int) (H:List α) (i j:Nat):Bool:=match H[i]?,H[j]? with
 | some x,some y=>decide (k x < k y)
 | _,_=>false
def hswap (H:List α) (i j:Nat):List α:=match H[i]?,H[j]? with
 | some x,some y=>(H.set i y).set j x
 | _,_=>H
def hup (k:α→Int):Nat→List α→Nat→List α
 | 0,H,_=>H
 | f+1,H,j=>if (j - 1) / 2=j then H else if hless k H j ((j - 1) / 2) then hup k f (hswap H ((j - 1) / 2) j) ((j - 1) / 2) else H
def hkid (k:α→Int) (H:List α) (i n:Nat):Nat:=if 2 * i+2 < n∧hless k H (2 * i+2) (2 * i+1)=true then 2 * i+2 else 2 * i+1
def hdown (k:α→Int):Nat→List α→Nat→Nat→List α
 | 0,H,_,_=>H
 | f+1,H,i,n=>if n≤2 * i+1 then H else if hless k H (hkid k H i n) i then hdown k f (hswap H i (hkid k H i n)) (hkid k H i n) n else H
def hpush (k:α→Int) (H:List α) (x:α):List α:=hup k (H.length+1) (H ++ [x]) H.length
def hmid (k:α→Int) (H:List α):List α:=hdown k (H.length - 1) (hswap H 0 (H.length - 1)) 0 (H.length - 1)
def hrest (k:α→Int) (H:List α):List α:=(hmid k H).take (H.length - 1)
variable {k':β→Int} {g:α→β}
end
inductive Tr where
 | leaf (s:Nat)
 | nd (a b:Tr)
def Tr.size:Tr→Nat
 | leaf _=>1
 | nd a b=>a.size+b.size+1
abbrev HE:=Nat × Int × Tr
abbrev Nd:=Nat × Int × Int × Option Nat × Option Nat
abbrev WT:=Int × Tr
def kW (x:WT):Int:=x.1
section
variable {F0:List Nat} {w0 w:World} {ps rest:List As} {s:Sl} {hb:Nat} {H:List HE} {N:List Nd} {M:Int}
end
end Go.Proofs.YtejnemneenjliaaGreat
namespace Go.Proofs.YtejnemneenjliaaGreat
open Go Go.Proofs
set_option linter.unusedVariables false
set_option linter.unusedSimpArgs false
attribute [local irreducible] apK cpK mkK br
def Tr.ok (n:Nat):Tr→Prop
 | .leaf s=>s < n
 | .nd l r=>l.ok n∧r.ok n
def dT:WT:=(0,.leaf 0)
def hlast (H:List WT):WT:=(hmid kW H).getD (H.length - 1) dT
def hstep (H:List WT):List WT:=hpush kW (hrest kW (hrest kW H)) ((hlast H).1+(hlast (hrest kW H)).1,.nd (hlast H).2 (hlast (hrest kW H)).2)
section
variable {F0:List Nat} {w0 w:World} {ps rest:List As} {s:Sl} {hb:Nat} {H:List HE} {N:List Nd} {M:Int} {xs:List Int}
end
end Go.Proofs.YtejnemneenjliaaGreat
namespace Go.Proofs.YtejnemneenjliaaGreat
open Go Go.Proofs
set_option linter.unusedVariables false
set_option linter.unusedSimpArgs false
attribute [local irreducible] apK cpK mkK br
section
variable {xs:List Int} {M:Nat}
theorem lenP_ok (h:(qhe xs).length≤2 ^ M) (h1:1≤M) (hM:M≤15):okL (lenP xs M):=by
 intro x hx
 obtain ⟨i,hi,rfl⟩:=List.mem_iff_getElem.1 hx
 have e:(lenP xs M)[i]=(lenP xs M).getD i 0:=by rw [List.getD,List.getElem?_eq_getElem hi]; rfl
 rw [qaj] at hi
 rw [e,qmr hi]
 have:=lenF_ok h h1 hi
 omega
theorem kr_sum (h:(qhe xs).length≤2 ^ M) (h1:1≤M):kr (lenP xs M)=((qhe xs).map fun i=>2 ^ (15 - lenF xs M i)).sum:=by
 unfold kr lenP qfj
 rw [List.map_map]
 have:=come_sum xs (fun i=>decide (0 < xs.getD i 0)) (fun i=>2 ^ (15 - lenF xs M i)) xs.length
 unfold qhe
 rw [← this]
 congr 1
 refine List.map_congr_left fun i hi=>?_
 have h2:=lenF_ok h h1 (List.mem_range.1 hi)
 show (if 0 < ((lenF xs M i:Nat):Int) then 2 ^ (15 - ((lenF xs M i:Nat):Int).toNat) else 0)=_
 rw [Int.toNat_natCast]
 by_cases h0:0 < xs.getD i 0
 · rw [if_pos (by omega),if_pos (by simpa using h0)]
 · rw [if_neg (by omega),if_neg (by simpa using h0)]
theorem few_sum {g:Nat→Nat} (h:(qhe xs).length=1):((qhe xs).map fun i=>g (lenF xs M i)).sum=g 1:=by
 obtain ⟨c,hc⟩:=List.length_eq_one_iff.1 h
 have hm:c ∈ qhe xs:=by rw [hc]; exact List.mem_singleton.2 rfl
 have:lenF xs M c=1:=by
  unfold lenF
  rw [if_pos (by omega),if_pos (qgi.1 hm).2]
 rw [hc]
 simp [this]
theorem kr_lenP (h:(qhe xs).length≤2 ^ M) (h1:1≤M) (hM:M≤15):kr (lenP xs M)≤32768∧(2≤(qhe xs).length→kr (lenP xs M)=32768):=by
 rw [kr_sum h h1]
 rcases Nat.lt_or_ge (qhe xs).length 2 with h2 | h2
 · refine ⟨?_,fun h=>by omega⟩
   rcases Nat.lt_or_ge 0 (qhe xs).length with h3 | h3
   · rw [few_sum (g:=fun x=>2 ^ (15 - x)) (by omega)]; decide
   · rw [List.length_eq_zero_iff.1 (show (qhe xs).length=0 by omega)]; simp
 · have:=lenF_full h h2 15 hM
   rw [this]
   exact ⟨by decide,fun _=>by decide⟩
theorem lenP_chk (hg:xs.length≤288) (h:(qhe xs).length≤2 ^ M) (h1:1≤M) (hM:M≤15):(qwl (lenP xs M)).2=0∧(qwl (lenP xs M)).1=decide (kr (lenP xs M)=32768):=by
 have hk:=(kr_lenP h h1 hM).1
 unfold qwl
 rw [if_neg (by rw [qaj]; omega),if_neg (fun e=>e (lenP_ok h h1 hM)),if_neg (by omega)]
 exact ⟨rfl,rfl⟩
theorem lenP_new (hg:xs.length≤288) (h:(qhe xs).length≤2 ^ M) (h1:1≤M) (hM:M≤15):qcj (lenP xs M) true=0:=by
 obtain ⟨hc,hc2⟩:=lenP_chk hg h h1 hM
 unfold qcj
 rw [if_neg (fun e=>e hc),hc2]
 rcases Nat.lt_or_ge (qhe xs).length 2 with h2 | h2
 · rw [if_neg]
   rintro ⟨_,e⟩
   rw [Bool.true_and,qfq (lenP_ok h h1 hM)] at e
   have e:=of_decide_eq_false e
   have e2:(lenP xs M).filter (0 < ·)=(qhe xs).map fun _=>(1:Int):=by
    unfold lenP qfj
    rw [List.filter_map]
    unfold qhe
    have e3:∀ l:List Nat,(∀ i ∈ l,i < xs.length)→(l.filter ((fun x=>decide ((0:Int) < x)) ∘ fun i=>(lenF xs M i:Int))).map (fun i=>(lenF xs M i:Int))=(l.filter fun i=>decide (0 < xs.getD i 0)).map fun _=>(1:Int):=by
     intro l
     induction l with
     | nil=>intro _; rfl
     | cons a l ih =>
       intro hl
       rw [List.filter_cons,List.filter_cons]
       have:lenF xs M a=if 0 < xs.getD a 0 then 1 else 0:=by unfold lenF; rw [if_pos h2]
       have ih:=ih (fun i hi=>hl i (by simp [hi]))
       by_cases h0:0 < xs.getD a 0
       · rw [if_pos h0] at this
         rw [if_pos (by simp [this]),if_pos (by simpa using h0),List.map_cons,List.map_cons,ih,this]; rfl
       · rw [if_neg h0] at this
         rw [if_neg (by simp [this]),if_neg (by simpa using h0),ih]
    exact e3 _ (fun i hi=>List.mem_range.1 hi)
   rw [e2] at e
   have e4:∀ l:List Nat,(l.map fun _=>(1:Int)).sum=l.length:=by
    intro l
    induction l with
    | nil=>rfl
    | cons a l ih=>rw [List.map_cons,List.sum_cons,ih,List.length_cons]; omega
   rw [e4] at e
   omega
 · rw [if_neg]
   rintro ⟨e,_⟩
   have:=of_decide_eq_false e
   exact this ((kr_lenP h h1 hM).2 h2)
end
section
variable {F0:List Nat} {w0 w:World} {ps rest:List As} {s t:Sl} {xs:List Int} {M:Nat}
end
end Go.Proofs.YtejnemneenjliaaGreat
namespace Go.Proofs.YtejnemneenjliaaGreat
open Go Go.Proofs
set_option linter.unusedVariables false
set_option linter.unusedSimpArgs false
attribute [local irreducible] apK cpK mkK br
def pcC (p:Pc):List Value:=[.int .i64 p.1,.int .i64 p.2.1,.int .i64 p.2.2]
theorem qai (p:Pc):∀ v ∈ (⟨pcC p⟩:Array Value),storable v:=by
 intro v hv
 have:v ∈ pcC p:=by simpa using hv
 rcases List.mem_cons.1 this with rfl | this
 · trivial
 · rcases List.mem_cons.1 this with rfl | this
   · trivial
   · rcases List.mem_cons.1 this with rfl | this
     · trivial
     · cases this
theorem qkk:zc Tryz.prog 353=⟨pcC (0,0,0)⟩:=by kernel_rfl
section
variable {F0:List Nat} {w0 w:World} {ps rest rest2 rest3:List As}
theorem qye.c {v:Int} {K:Ending→World→Prop} (h:St F0 w0 w ps) (h3:0≤v) (h258:v≤100000) (hk:∀ w',St F0 w0 w' ps→K (.returned (.agg ⟨pcC (ofLen v)⟩)) w') :
 Calls Tryz.prog 285 ⟨[.int .i64 v,.int .i64 257,.func (.func 286) ⟨[]⟩ ⟨[]⟩]⟩ w K:=by
 refine qfc (qye.ok _ _ _ _ ?_)
 unfold qye
 rw [qkk]
 refine h.new fun tb w h=>?_
 unfold qye.j1
 rw [qkk]
 refine h.new fun pb w h=>⟨rfl,?_⟩
 have h:St F0 w0 w (qzc pb (pcC (0,0,0)) :: qzc tb (pcC (0,0,0)) :: ps):=h
 refine h.sA (l':=pcC (0,0,0)) rfl rfl (qai _) fun w h=>?_
 unfold qye.j2
 refine qmg (fun (a:Nat × Pc) (k':Int) w'=>k'=257+((40 - a.1:Nat):Int)∧a.1≤40∧11≤a.1∧ofG qlj v a.1 k' a.2=ofLen v∧St F0 w0 w' (qzc pb (pcC a.2) :: qzc tb (pcC (0,0,0)) :: ps)) (fun a=>a.1) (40,(0,0,0)) ⟨rfl,Nat.le_refl _,by decide,rfl,h⟩ ?_
 clear h
 rintro ⟨f,p⟩ k' wL I μ ⟨hk',hf,hf2,hof,h⟩ hin
 simp only at hk' hf hf2 hof h hin ⊢
 unfold qye.b1
 refine qvc.c h ⟨_,_,_,rfl,?_⟩
 obtain ⟨f,rfl⟩:∃ g,f=g+1:=⟨f - 1,by omega⟩
 rw [ofG] at hof
 have done:p=ofLen v→ldA wL ⟨pb,0,none⟩ 3 fun c6=>c6.size=3∧stA wL ⟨tb,0,none⟩ c6 fun w7=>ldA w7 ⟨tb,0,none⟩ 3 fun c8=>K (.returned (.agg c8)) w7:=by
  intro e
  refine h.lA (b:=pb) rfl ⟨rfl,?_⟩
  refine St.sA (b:=tb) (l:=pcC (0,0,0)) h (l':=pcC p) rfl rfl (qai _) fun w h=>?_
  refine h.lA (b:=tb) rfl ?_
  rw [e]
  exact hk w h.drop.drop
 refine qne (fun g=>?_) (fun g=>?_)
 · have g:(qlj k').2.2=false:=by simpa using g
   rw [if_pos (Or.inl g)] at hof
   exact done hof
 have g:(qlj k').2.2=true:=by simpa using g
 refine qnc (fun g2=>?_) (fun g2=>?_)
 · rw [if_pos (Or.inr g2)] at hof
   exact done hof
 rw [if_neg (by rintro (e | e); rw [e] at g; cases g; exact g2 e)] at hof
 have hle:k'≤285:=by
  rcases Int.lt_or_le 285 k' with e | e
  · unfold qlj at g
    rw [if_pos (Or.inr e)] at g
    cases g
  · exact e
 have hb:=zlen_b k'
 refine qn (qd (by omega) (by omega)) ⟨rfl,?_⟩
 refine h.sA (b:=pb) (l':=pcC (k',v - (qlj k').1,(qlj k').2.1)) rfl rfl (qai _) fun w h=>?_
 refine qn (qd (by omega) (by omega)) ?_
 exact ⟨⟨rfl,rfl,rfl⟩,hin (f,(k',v - (qlj k').1,(qlj k').2.1)) _ _ ⟨by omega,by omega,by omega,hof,h⟩ (by simp only; omega)⟩
theorem qze.c {v:Int} {K:Ending→World→Prop} (h:St F0 w0 w ps) (h3:0≤v) (h258:v≤100000) (hk:∀ w',St F0 w0 w' ps→K (.returned (.agg ⟨pcC (ofDis v)⟩)) w') :
 Calls Tryz.prog 285 ⟨[.int .i64 v,.int .i64 0,.func (.func 287) ⟨[]⟩ ⟨[]⟩]⟩ w K:=by
 refine qfc (qze.ok _ _ _ _ ?_)
 unfold qze
 rw [qkk]
 refine h.new fun tb w h=>?_
 unfold qze.j1
 rw [qkk]
 refine h.new fun pb w h=>⟨rfl,?_⟩
 have h:St F0 w0 w (qzc pb (pcC (0,0,0)) :: qzc tb (pcC (0,0,0)) :: ps):=h
 refine h.sA (l':=pcC (0,0,0)) rfl rfl (qai _) fun w h=>?_
 unfold qze.j2
 refine qmg (fun (a:Nat × Pc) (k':Int) w'=>k'=((40 - a.1:Nat):Int)∧a.1≤40∧10≤a.1∧ofG qyi v a.1 k' a.2=ofDis v∧St F0 w0 w' (qzc pb (pcC a.2) :: qzc tb (pcC (0,0,0)) :: ps)) (fun a=>a.1) (40,(0,0,0)) ⟨rfl,Nat.le_refl _,by decide,rfl,h⟩ ?_
 clear h
 rintro ⟨f,p⟩ k' wL I μ ⟨hk',hf,hf2,hof,h⟩ hin
 simp only at hk' hf hf2 hof h hin ⊢
 unfold qze.b1
 refine qrc.c h ⟨_,_,_,rfl,?_⟩
 obtain ⟨f,rfl⟩:∃ g,f=g+1:=⟨f - 1,by omega⟩
 rw [ofG] at hof
 have done:p=ofDis v→ldA wL ⟨pb,0,none⟩ 3 fun c6=>c6.size=3∧stA wL ⟨tb,0,none⟩ c6 fun w7=>ldA w7 ⟨tb,0,none⟩ 3 fun c8=>K (.returned (.agg c8)) w7:=by
  intro e
  refine h.lA (b:=pb) rfl ⟨rfl,?_⟩
  refine St.sA (b:=tb) (l:=pcC (0,0,0)) h (l':=pcC p) rfl rfl (qai _) fun w h=>?_
  refine h.lA (b:=tb) rfl ?_
  rw [e]
  exact hk w h.drop.drop
 refine qne (fun g=>?_) (fun g=>?_)
 · have g:(qyi k').2.2=false:=by simpa using g
   rw [if_pos (Or.inl g)] at hof
   exact done hof
 have g:(qyi k').2.2=true:=by simpa using g
 refine qnc (fun g2=>?_) (fun g2=>?_)
 · rw [if_pos (Or.inr g2)] at hof
   exact done hof
 rw [if_neg (by rintro (e | e); rw [e] at g; cases g; exact g2 e)] at hof
 have hle:k'≤29:=by
  rcases Int.lt_or_le 29 k' with e | e
  · unfold qyi at g
    rw [if_pos (Or.inr (show 30≤k' by omega))] at g
    cases g
  · exact e
 have hb:=zdis_b k'
 refine qn (qd (by omega) (by omega)) ⟨rfl,?_⟩
 refine h.sA (b:=pb) (l':=pcC (k',v - (qyi k').1,(qyi k').2.1)) rfl rfl (qai _) fun w h=>?_
 refine qn (qd (by omega) (by omega)) ?_
 exact ⟨⟨rfl,rfl,rfl⟩,hin (f,(k',v - (qyi k').1,(qyi k').2.1)) _ _ ⟨by omega,by omega,by omega,hof,h⟩ (by simp only; omega)⟩
def qek (t:Tk):Pc × Pc × Bool:=if t.2.1=0 then ((t.1,0,0),(0,0,0),false) else (ofLen t.2.1,ofDis t.2.2,true)
def tkOk (t:Tk):Prop:=(0≤t.1∧t.1 < 256)∧(t.2.1 ≠ 0→(3≤t.2.1∧t.2.1≤258)∧1≤t.2.2∧t.2.2≤32768)
theorem qng.tkOk {b:List Int} (hb:∀ x ∈ b,0≤x∧x < 256) {n m:Nat} {L:List Tk} (h:qng b n L m):∀ t ∈ L,tkOk t:=by
 induction h with
 | nil n=>intro t ht; cases ht
 | @lit n m r h _ ih =>
   intro t ht
   rcases List.mem_cons.1 ht with rfl | ht
   · exact ⟨hb _ (qee h),fun e=>absurd rfl e⟩
   · exact ih t ht
 | @copy n m k d r h3 h258 hd hdn hdf hk hs _ ih =>
   intro t ht
   rcases List.mem_cons.1 ht with rfl | ht
   · exact ⟨⟨Int.le_refl _,by show (0:Int) < 256; decide⟩,fun _=>⟨⟨by show (3:Int)≤(k:Int); omega,by show (k:Int)≤258; omega⟩,by show (1:Int)≤(d:Int); omega,by show (d:Int)≤32768; omega⟩⟩
   · exact ih t ht
theorem qzi.c {t:Tk} {K:Ending→World→Prop} (h:St F0 w0 w ps) (ht:tkOk t)
 (hk:∀ w',St F0 w0 w' ps→K (.returned (.tuple ⟨[.agg ⟨pcC (qek t).1⟩,.agg ⟨pcC (qek t).2.1⟩,.bool (qek t).2.2]⟩)) w'):Calls Tryz.prog 249 ⟨[.agg ⟨tkC t⟩]⟩ w K:=by
 refine qfc (qzi.ok _ _ _ ?_)
 unfold qzi
 refine h.new fun tb w h=>?_
 have h:St F0 w0 w (qzc tb (tkC t) :: ps):=h
 rw [qkk]
 refine h.new fun ab w h=>?_
 refine h.new fun bb w h=>?_
 have h:St F0 w0 w (qzc bb (pcC (0,0,0)) :: qzc ab (pcC (0,0,0)) :: qzc tb [.int .u8 t.1,.int .i64 t.2.1,.int .i64 t.2.2] :: ps):=h
 simp only [qvf,Nat.zero_add]
 refine h.fI (b:=tb) ?_
 unfold qek at hk
 refine qne (fun g=>?_) (fun g=>?_)
 · have g:t.2.1=0:=by simpa using g
   rw [if_pos g] at hk
   refine h.fI (b:=tb) ?_
   refine qn (qd (by have:=ht.1; omega) (by have:=ht.1; omega)) ⟨rfl,?_⟩
   refine h.sA (b:=ab) (l':=pcC (t.1,0,0)) rfl rfl (qai _) fun w h=>⟨rfl,?_⟩
   refine h.sA (b:=bb) (l':=pcC (0,0,0)) rfl rfl (qai _) fun w h=>?_
   refine h.lA (b:=ab) rfl ?_
   refine h.lA (b:=bb) rfl ?_
   exact hk w h.sub
 · have g:t.2.1 ≠ 0:=by simpa using g
   rw [if_neg g] at hk
   obtain ⟨_,ht2⟩:=ht
   have ht2:=ht2 g
   refine h.drewK fun w h=>?_
   refine h.fI (b:=tb) ⟨?_,?_⟩
   · refine qye.c h (by omega) (by omega) fun w h=>⟨_,rfl,?_⟩
     refine h.fI (b:=tb) ?_
     refine qze.c h (by omega) (by omega) fun w h=>⟨_,rfl,rfl,?_⟩
     refine h.sA (b:=ab) (l':=pcC (ofLen t.2.1)) rfl rfl (qai _) fun w h=>⟨rfl,?_⟩
     refine h.sA (b:=bb) (l':=pcC (ofDis t.2.2)) rfl rfl (qai _) fun w h=>?_
     refine h.lA (b:=ab) rfl ?_
     refine h.lA (b:=bb) rfl ?_
     exact hk w h.sub
   · refine h.fI (b:=tb) ?_
     refine qye.c h (by omega) (by omega) fun w h=>⟨_,rfl,?_⟩
     refine qze.c h (by omega) (by omega) fun w h=>⟨_,rfl,rfl,?_⟩
     refine h.sA (b:=ab) (l':=pcC (ofLen t.2.1)) rfl rfl (qai _) fun w h=>⟨rfl,?_⟩
     refine h.sA (b:=bb) (l':=pcC (ofDis t.2.2)) rfl rfl (qai _) fun w h=>?_
     refine h.lA (b:=ab) rfl ?_
     refine h.lA (b:=bb) rfl ?_
     exact hk w h.sub
end
end Go.Proofs.YtejnemneenjliaaGreat
namespace Go.Proofs.YtejnemneenjliaaGreat
open Go Go.Proofs
set_option linter.unusedVariables false
set_option linter.unusedSimpArgs false
attribute [local irreducible] apK cpK mkK br
def qwm (n:Nat) (S:List Nat):List Int:=qfj n fun i=>(S.count i:Int)
theorem qvd (n:Nat) (S:List Nat):(qwm n S).length=n:=qad _ _
theorem qlq {n i:Nat} (S:List Nat) (h:i < n):(qwm n S).getD i 0=(S.count i:Int):=qbf (f:=fun i=>(S.count i:Int)) h
theorem cntL_nil (n:Nat):qwm n []=List.replicate n 0:=by
 rw [qpk]
 exact qpd fun i _=>by simp
theorem qvm {n s:Nat} (S:List Nat) (hs:s < n):(qwm n S).set s ((qwm n S).getD s 0+1)=qwm n (S ++ [s]):=by
 rw [qlq S hs]
 unfold qwm
 rw [qpj]
 refine qpd fun i hi=>?_
 rw [List.count_append]
 by_cases e:i=s
 · rw [if_pos e,e]; simp
 · rw [if_neg e]
   have:[s].count i=0:=List.count_eq_zero.2 (by simpa using e)
   rw [this]; simp
theorem qzj {n:Nat} {S:List Nat} (i:Nat):0≤(qwm n S).getD i 0∧(qwm n S).getD i 0≤S.length:=by
 rcases Nat.lt_or_ge i n with h | h
 · rw [qlq S h]
   have:=List.count_le_length (a:=i) (l:=S)
   omega
 · have e:(qwm n S).getD i 0=0:=by
    rw [List.getD_eq_getElem?_getD,List.getElem?_eq_none (by rw [qvd]; exact h)]; rfl
   rw [e]; omega
theorem qis {n:Nat} {S:List Nat} (hn:n≤288) (hS:S.length≤16777216):goodX (qwm n S):=by
 refine ⟨by rw [qvd]; exact hn,fun x hx=>?_⟩
 obtain ⟨i,hi,rfl⟩:=List.mem_iff_getElem.1 hx
 have e:(qwm n S)[i]=(qwm n S).getD i 0:=by rw [List.getD,List.getElem?_eq_getElem hi]; rfl
 rw [e]
 have:=qzj (n:=n) (S:=S) i
 unfold badN
 omega
theorem qjn {n i:Nat} {S:List Nat} (h:i < n):0 < (qwm n S).getD i 0 ↔ i ∈ S:=by
 rw [qlq S h,← List.count_pos_iff (a:=i) (l:=S)]
 omega
def litS (t:Tk):Nat:=(qek t).1.1.toNat
def disS (t:Tk):List Nat:=if (qek t).2.2 then [(qek t).2.1.1.toNat] else []
def litC (L:List Tk):List Int:=qwm 286 (L.map litS ++ [256])
def disC (L:List Tk):List Int:=qwm 30 (L.flatMap disS)
theorem lit_lt {t:Tk} (h:tkOk t):0≤(qek t).1.1∧(qek t).1.1 < 286:=by
 unfold qek
 by_cases g:t.2.1=0
 · rw [if_pos g]
   have:=h.1
   simp only; omega
 · rw [if_neg g]
   have:=qbn (qen (h.2 g).1.1 (h.2 g).1.2)
   simp only; omega
theorem symP_dis {n s e x:Int} (h:symP n true s e x):0≤s∧s < 30:=by
 rcases h with ⟨_,h1,h2,_⟩ | ⟨h1,_⟩
 · exact ⟨h1,h2⟩
 · cases h1
theorem dis_lt {t:Tk} (h:tkOk t) (hc:(qek t).2.2=true):0≤(qek t).2.1.1∧(qek t).2.1.1 < 30:=by
 unfold qek at hc ⊢
 by_cases g:t.2.1=0
 · rw [if_pos g] at hc; cases hc
 · rw [if_neg g]
   exact symP_dis (qdl (h.2 g).2.1 (h.2 g).2.2)
theorem disS_len (L:List Tk):(L.flatMap disS).length≤L.length:=by
 induction L with
 | nil=>exact Nat.le_refl _
 | cons t L ih =>
   rw [List.flatMap_cons,List.length_append,List.length_cons]
   have:(disS t).length≤1:=by unfold disS; split <;> simp
   omega
section
variable {F0:List Nat} {w0 w:World} {ps rest rest2 rest3:List As} {L:List Tk}
theorem St.pcN {p q:Pc} {K:Addr→Addr→World→Prop} (h:St F0 w0 w ps) (hk:∀ a b w',St F0 w0 w' (qzc b (pcC q) :: qzc a (pcC p) :: ps)→K ⟨a,0,none⟩ ⟨b,0,none⟩ w') :
 lt (⟨World.heapSize w,0,none⟩:Addr) fun a=>lt (World.alloc w (.cells (zc Tryz.prog 353) 353)) fun w1 =>
 lt (⟨World.heapSize w1,0,none⟩:Addr) fun b=>lt (World.alloc w1 (.cells (zc Tryz.prog 353) 353)) fun w2 =>
 (⟨pcC p⟩:Array Value).size=3∧Go.Proofs.YtejnemneenjliaaGreat.stA w2 a ⟨pcC p⟩ fun w3=>(⟨pcC q⟩:Array Value).size=3∧Go.Proofs.YtejnemneenjliaaGreat.stA w3 b ⟨pcC q⟩ fun w4=>K a b w4:=by
 rw [qkk]
 refine h.new fun a w h=>?_
 refine h.new fun b w h=>⟨rfl,?_⟩
 have h:St F0 w0 w (qzc b (pcC (0,0,0)) :: qzc a (pcC (0,0,0)) :: ps):=h
 refine h.sA (b:=a) (l':=pcC p) rfl rfl (qai _) fun w h=>⟨rfl,?_⟩
 refine h.sA (b:=b) (l':=pcC q) rfl rfl (qai _) fun w h=>?_
 exact hk a b w h.sub
theorem qnd.go {s A B:Sl} {kb:Nat} {K:Ending→World→Prop} (h:St F0 w0 w (qzc kb [.slice s.a s.len s.cap,.slice A.a A.len A.cap,.slice B.a B.len B.cap] :: qcc 1 A (ivs .i64 (List.replicate 286 0)) :: qcc 1 B (ivs .i64 (List.replicate 30 0)) :: ps))
 [Rdb F0 w0 s ps 3 (tks L)] (hok:∀ t ∈ L,tkOk t) (hL:L.length≤1000000)
 (hk:∀ w',St F0 w0 w' (qzc kb [.slice s.a s.len s.cap,.slice A.a A.len A.cap,.slice B.a B.len B.cap] :: qcc 1 A (ivs .i64 (litC L)) :: qcc 1 B (ivs .i64 (disC L)) :: ps)→K (.returned (.pointer (some ⟨kb,0,none⟩))) w') :
 qnd.j1 s (some ⟨kb,0,none⟩) (fun v w'=>K (.returned v) w') w:=by
 have hl:=(h.rdb s).1
 rw [qmi] at hl
 rw [← cntL_nil,← cntL_nil] at h
 unfold litC disC at hk
 unfold qnd.j1 qnd.j3
 refine qmg (fun (i:Nat) (i':Int) w'=>i'=i∧i≤L.length∧St F0 w0 w' (qzc kb [.slice s.a s.len s.cap,.slice A.a A.len A.cap,.slice B.a B.len B.cap] :: qcc 1 A (ivs .i64 (qwm 286 ((L.take i).map litS))) :: qcc 1 B (ivs .i64 (qwm 30 ((L.take i).flatMap disS))) :: ps)) (fun i=>L.length - i) 0 ⟨rfl,by omega,by simpa using h⟩ ?_
 clear h
 rintro i i' wL I μ ⟨rfl,hi,h⟩ hin
 have s1:=qzj (n:=286) (S:=(L.take i).map litS)
 have s2:=qzj (n:=30) (S:=(L.take i).flatMap disS)
 have s3:=disS_len (L.take i)
 simp only [List.length_map,List.length_take] at s1 s2 s3
 unfold qnd.b1
 refine qnc (fun g=>?_) (fun g=>?_)
 · have hi2:i < L.length:=by omega
   have htk:=hok _ (List.getElem_mem hi2)
   have et:L.take (i+1)=L.take i ++ [L[i]]:=List.take_succ_eq_append_getElem hi2
   refine h.ltok (s:=s) i rfl hi2 ?_
   refine h.tokN (t:=L[i]) fun nb w h=>?_
   refine h.lA (b:=nb) rfl ?_
   refine qzi.c h htk fun w h=>⟨_,_,_,rfl,?_⟩
   refine h.pcN (p:=(qek L[i]).1) (q:=(qek L[i]).2.1) fun a b w h=>?_
   have h:St F0 w0 w (qzc b [.int .i64 (qek L[i]).2.1.1,.int .i64 (qek L[i]).2.1.2.1,.int .i64 (qek L[i]).2.1.2.2] :: qzc a [.int .i64 (qek L[i]).1.1,.int .i64 (qek L[i]).1.2.1,.int .i64 (qek L[i]).1.2.2] :: qzc nb (tkC L[i]) :: qzc kb [.slice s.a s.len s.cap,.slice A.a A.len A.cap,.slice B.a B.len B.cap] :: qcc 1 A (ivs .i64 (qwm 286 ((L.take i).map litS))) :: qcc 1 B (ivs .i64 (qwm 30 ((L.take i).flatMap disS))) :: ps):=h
   refine h.drewK fun w h=>?_
   refine qtd ?_
   simp only [qvf,Nat.zero_add]
   have hs:=lit_lt htk
   have es:(qek L[i]).1.1=((litS L[i]:Nat):Int):=by unfold litS; omega
   have hls:litS L[i] < 286:=by unfold litS; omega
   have hc1:=s1 (litS L[i])
   refine h.fL (b:=kb) ?_
   refine h.fI (b:=a) ?_
   refine h.lx (s:=A) (litS L[i]) es (by rw [qvd]; exact hls) ?_
   refine qn (qd (by omega) (by omega)) ?_
   refine h.sx (s:=A) (litS L[i]) es (by rw [qvd]; exact hls) fun w h=>?_
   rw [qvm _ hls] at h
   have e1:(L.take i).map litS ++ [litS L[i]]=(L.take (i+1)).map litS:=by rw [et,List.map_append]; rfl
   rw [e1] at h
   refine qne (fun gc=>?_) (fun gc=>?_)
   · refine h.drewK fun w h=>?_
     refine qtd ?_
     have hd:=dis_lt htk gc
     have ed:(qek L[i]).2.1.1=(((qek L[i]).2.1.1.toNat:Nat):Int):=by omega
     generalize hD:(qek L[i]).2.1.1.toNat=D at ed
     have hc2:=s2 D
     refine h.fL (b:=kb) ?_
     refine h.fI (b:=b) ?_
     refine h.lx (s:=B) D ed (by rw [qvd]; omega) ?_
     refine qn (qd (by omega) (by omega)) ?_
     refine h.sx (s:=B) D ed (by rw [qvd]; omega) fun w h=>?_
     rw [qvm _ (by omega)] at h
     have e2:(L.take i).flatMap disS ++ [D]=(L.take (i+1)).flatMap disS:=by
      rw [et,List.flatMap_append]
      congr 1
      simp only [List.flatMap_cons,List.flatMap_nil,List.append_nil]
      unfold disS
      rw [if_pos gc,hD]
     rw [e2] at h
     refine qn (qd (by omega) (by omega)) ?_
     exact ⟨⟨by trivial,by trivial,by trivial⟩,hin (i+1) _ _ ⟨by omega,by omega,h.sub⟩ (by omega)⟩
   · have e2:(L.take i).flatMap disS=(L.take (i+1)).flatMap disS:=by
      rw [et,List.flatMap_append]
      simp only [List.flatMap_cons,List.flatMap_nil,List.append_nil]
      unfold disS
      rw [if_neg (by rw [gc]; decide),List.append_nil]
     rw [e2] at h
     refine qn (qd (by omega) (by omega)) ?_
     exact ⟨⟨by trivial,by trivial,by trivial⟩,hin (i+1) _ _ ⟨by omega,by omega,h.sub⟩ (by omega)⟩
 · have:i=L.length:=by omega
   subst this
   rw [List.take_length] at h s1
   unfold qnd.j2
   refine qtd ?_
   simp only [qvf,Nat.zero_add]
   have hc1:=s1 256
   refine h.fL (b:=kb) ?_
   refine h.lx (s:=A) 256 rfl (by rw [qvd]; decide) ?_
   refine qn (qd (by omega) (by omega)) ?_
   refine h.sx (s:=A) 256 rfl (by rw [qvd]; decide) fun w h=>?_
   rw [qvm _ (by decide)] at h
   exact hk w h.sub
theorem qnd.c {s:Sl} {K:Ending→World→Prop} (h:St F0 w0 w ps) [Rdb F0 w0 s ps 3 (tks L)] (hok:∀ t ∈ L,tkOk t) (hL:L.length≤1000000)
 (hk:∀ kb A B w',A.len=286→B.len=30→St F0 w0 w' (qzc kb [.slice s.a s.len s.cap,.slice A.a A.len A.cap,.slice B.a B.len B.cap] :: rdA 1 A (ivs .i64 (litC L)) :: rdA 1 B (ivs .i64 (disC L)) :: ps)→K (.returned (.pointer (some ⟨kb,0,none⟩))) w') :
 Calls Tryz.prog 224 ⟨[.slice s.a s.len s.cap]⟩ w K:=by
 refine qfc (qnd.ok _ _ _ ?_)
 unfold qnd
 have fin:∀ (kb:Nat) (A B:Sl) w',St F0 w0 w' (qzc kb [.slice s.a s.len s.cap,.slice A.a A.len A.cap,.slice B.a B.len B.cap] :: qcc 1 A (ivs .i64 (litC L)) :: qcc 1 B (ivs .i64 (disC L)) :: ps)→K (.returned (.pointer (some ⟨kb,0,none⟩))) w':=by
  intro kb A B w' h
  have l1:=h.drop.len
  have l2:=h.drop.drop.len
  rw [ql,litC,qvd] at l1
  rw [ql,disC,qvd] at l2
  exact hk kb A B w' (by omega) (by omega) (h.tail fun _ _ _ h=>(h.tail fun _ _ _ h=>h.ro).ro)
 refine h.drewK fun w h=>⟨?_,?_⟩
 · refine h.makeI (k:=.i64) (n:=286) rfl rfl (by decide) fun A w _ _ h=>?_
   refine h.makeI (k:=.i64) (n:=30) rfl rfl (by decide) fun B w _ _ h=>?_
   refine h.new fun kb w h=>?_
   have h:St F0 w0 w (qzc kb [.slice s.a s.len s.cap,.slice A.a A.len A.cap,.slice B.a B.len B.cap] :: qcc 1 B (ivs .i64 (List.replicate 30 0)) :: qcc 1 A (ivs .i64 (List.replicate 286 0)) :: ps):=h
   exact qnd.go (A:=A) (B:=B) h.sub hok hL (fin kb A B)
 · refine h.makeI (k:=.i64) (n:=30) rfl rfl (by decide) fun B w _ _ h=>?_
   refine h.makeI (k:=.i64) (n:=286) rfl rfl (by decide) fun A w _ _ h=>?_
   refine h.new fun kb w h=>?_
   have h:St F0 w0 w (qzc kb [.slice s.a s.len s.cap,.slice A.a A.len A.cap,.slice B.a B.len B.cap] :: qcc 1 A (ivs .i64 (List.replicate 286 0)) :: qcc 1 B (ivs .i64 (List.replicate 30 0)) :: ps):=h
   exact qnd.go (A:=A) (B:=B) h hok hL (fin kb A B)
theorem qqr {ls:List Int} {s:Int} (h0:0≤s) (h:inC ls s.toNat):hput ls s=qcd ls s.toNat:=by
 unfold hput
 rw [if_pos ⟨h0,by have:=h.1; omega,by have:=h.2; omega⟩]
 rfl
theorem qph {ls:List Int} (h:okL ls) (s:Nat):(qcd ls s).length≤15:=by
 rw [qej]
 rcases Nat.lt_or_ge s ls.length with e | e
 · have:=(h _ (qee e)).2
   omega
 · rw [List.getD_eq_getElem?_getD,List.getElem?_eq_none e]
   decide
theorem ofLen_x {v:Int} (h1:3≤v) (h2:v≤258):0≤(ofLen v).2.2∧(ofLen v).2.2≤14:=symP_x (qen h1 h2)
theorem ofDis_x {v:Int} (h1:1≤v) (h2:v≤32768):0≤(ofDis v).2.2∧(ofDis v).2.2≤14:=symP_x (qdl h1 h2)
theorem tkB_len {ll dl:List Int} (h1:okL ll) (h2:okL dl) {t:Tk} (h:tkOk t):(tkB ll dl t).length≤60:=by
 unfold tkB
 have a1:=qph h1
 have a2:=qph h2
 split
 · have:=a1 t.1.toNat; omega
 · rename_i g
   have b1:=a1 (ofLen t.2.1).1.toNat
   have b2:=a2 (ofDis t.2.2).1.toNat
   have b3:=ofLen_x (h.2 g).1.1 (h.2 g).1.2
   have b4:=ofDis_x (h.2 g).2.1 (h.2 g).2.2
   simp only [List.length_append,qk]
   omega
theorem tksB_len {ll dl:List Int} (h1:okL ll) (h2:okL dl) (h:∀ t ∈ L,tkOk t):(tksB ll dl L).length≤60 * L.length:=by
 induction L with
 | nil=>exact Nat.le_refl _
 | cons t L ih =>
   have:=tkB_len h1 h2 (h t (by simp))
   have:=ih fun t ht=>h t (by simp [ht])
   unfold tksB at this ⊢
   rw [List.flatMap_cons,List.length_append,List.length_cons]
   omega
theorem tksB_snoc (ll dl:List Int) (L:List Tk) (t:Tk):tksB ll dl (L ++ [t])=tksB ll dl L ++ tkB ll dl t:=by simp [tksB]
theorem qkc.c {kb wb lb db:Nat} {s A B:Sl} {ll dl:List Int} {l:List Bool} {K:Ending→World→Prop} (h:St F0 w0 w (wrL wb l :: ps)) [PkB kb ps [.slice s.a s.len s.cap,.slice A.a A.len A.cap,.slice B.a B.len B.cap] rest] [PkF hcA lb ps ll rest2] [PkF hcA db ps dl rest3]
 [Rdb F0 w0 s ps 3 (tks L)] (hok:∀ t ∈ L,tkOk t) (hL:L.length≤1000000) (hin:∀ t ∈ L,tkIn ll dl t) (hi:inC ll 256) (h1:okL ll) (h2:okL dl) (hl:l.length≤1000000)
 (hk:∀ w',St F0 w0 w' (wrL wb (l ++ (tksB ll dl L ++ qcd ll 256)) :: ps)→K (.returned (.tuple ⟨[]⟩)) w') :
 Calls Tryz.prog 260 ⟨[.pointer (some ⟨kb,0,none⟩),.pointer (some ⟨wb,0,none⟩),.pointer (some ⟨lb,0,none⟩),.pointer (some ⟨db,0,none⟩)]⟩ w K:=by
 have hls:=(h.rdb s).1
 rw [qmi] at hls
 refine qfc (qkc.ok _ _ _ _ _ _ ?_)
 unfold qkc
 refine qtd ?_
 simp only [qvf,Nat.zero_add]
 refine h.fL (b:=kb) ?_
 unfold qkc.j2
 refine qmg (fun (i:Nat) (i':Int) w'=>i'=i∧i≤L.length∧St F0 w0 w' (wrL wb (l ++ tksB ll dl (L.take i)) :: ps)) (fun i=>L.length - i) 0 ⟨rfl,by omega,by simpa [tksB] using h⟩ ?_
 clear h
 rintro i i' wL I μ ⟨rfl,hi3,h⟩ hnx
 have hbl:=tksB_len (L:=L.take i) h1 h2 (fun t ht=>hok t (List.mem_of_mem_take ht))
 rw [List.length_take] at hbl
 unfold qkc.b1
 refine qnc (fun g=>?_) (fun g=>?_)
 · have g:(i:Int) < (s.len:Int):=g
   have hi2:i < L.length:=by omega
   have htk:=hok _ (List.getElem_mem hi2)
   have hti:=hin _ (List.getElem_mem hi2)
   have et:L.take (i+1)=L.take i ++ [L[i]]:=List.take_succ_eq_append_getElem hi2
   refine h.ltok (s:=s) i rfl hi2 ?_
   refine h.tokN (t:=L[i]) fun nb w h=>?_
   refine h.lA (b:=nb) rfl ?_
   refine qzi.c h htk fun w h=>⟨_,_,_,rfl,?_⟩
   refine h.pcN (p:=(qek L[i]).1) (q:=(qek L[i]).2.1) fun a b w h=>?_
   have h:St F0 w0 w (qzc b [.int .i64 (qek L[i]).2.1.1,.int .i64 (qek L[i]).2.1.2.1,.int .i64 (qek L[i]).2.1.2.2] :: qzc a [.int .i64 (qek L[i]).1.1,.int .i64 (qek L[i]).1.2.1,.int .i64 (qek L[i]).1.2.2] :: qzc nb (tkC L[i]) :: wrL wb (l ++ tksB ll dl (L.take i)) :: ps):=h
   have h:St F0 w0 w (wrL wb (l ++ tksB ll dl (L.take i)) :: qzc b [.int .i64 (qek L[i]).2.1.1,.int .i64 (qek L[i]).2.1.2.1,.int .i64 (qek L[i]).2.1.2.2] :: qzc a [.int .i64 (qek L[i]).1.1,.int .i64 (qek L[i]).1.2.1,.int .i64 (qek L[i]).1.2.2] :: ps):=h.sub
   simp only [qvf,Nat.zero_add]
   refine h.fI (b:=a) ?_
   refine qrf.c (cb:=lb) (ls:=ll) h (by rw [List.length_append]; omega) fun w h=>⟨_,rfl,?_⟩
   have hsl:=lit_lt htk
   have h15:=qph h1
   have h15d:=qph h2
   unfold qek at h hsl ⊢
   unfold tkIn at hti
   by_cases gz:L[i].2.1=0
   · rw [if_pos gz] at h hsl hti ⊢
     simp only at h hsl hti ⊢
     refine qsj (qn (qd (by omega) (by omega)) ?_)
     rw [qqr hsl.1 hti] at h
     refine ⟨⟨by trivial,by trivial,by trivial,by trivial⟩,hnx (i+1) _ _ ⟨by omega,by omega,?_⟩ (by omega)⟩
     rw [et,tksB_snoc,← List.append_assoc]
     unfold tkB
     rw [if_pos gz]
     exact h.sub
   · rw [if_neg gz] at h hsl hti ⊢
     simp only at h hsl hti ⊢
     have x1:=ofLen_x (htk.2 gz).1.1 (htk.2 gz).1.2
     have x2:=ofDis_x (htk.2 gz).2.1 (htk.2 gz).2.2
     have hd:=symP_dis (qdl (htk.2 gz).2.1 (htk.2 gz).2.2)
     rw [qqr hsl.1 hti.1] at h
     refine qym ?_
     refine h.fI (b:=a) (h.fI (b:=a) ?_)
     have b1:=h15 (ofLen L[i].2.1).1.toNat
     have b2:=h15d (ofDis L[i].2.2).1.toNat
     refine qhb.cl h (by simp only [List.length_append]; omega) fun w h=>⟨rfl,?_⟩
     rw [qql x1.1 (by omega)] at h
     refine h.fI (b:=b) ?_
     refine qrf.c (cb:=db) (ls:=dl) h (by simp only [List.length_append,qk]; omega) fun w h=>⟨_,rfl,?_⟩
     rw [qqr hd.1 hti.2] at h
     refine h.fI (b:=b) (h.fI (b:=b) ?_)
     refine qhb.cl h (by simp only [List.length_append,qk]; omega) fun w h=>⟨rfl,?_⟩
     rw [qql x2.1 (by omega)] at h
     refine qn (qd (by omega) (by omega)) ?_
     refine ⟨⟨by trivial,by trivial,by trivial,by trivial⟩,hnx (i+1) _ _ ⟨by omega,by omega,?_⟩ (by omega)⟩
     rw [et,tksB_snoc]
     unfold tkB
     rw [if_neg gz]
     simp only [List.append_assoc] at h ⊢
     exact h.sub
 · have g:¬ (i:Int) < (s.len:Int):=g
   have:i=L.length:=by omega
   subst this
   rw [List.take_length] at h hbl
   unfold qkc.j1
   refine qrf.c (cb:=lb) (ls:=ll) h (by rw [List.length_append]; omega) fun w h=>⟨_,rfl,?_⟩
   rw [qqr (by decide) hi] at h
   rw [List.append_assoc] at h
   exact hk w h
end
end Go.Proofs.YtejnemneenjliaaGreat
namespace Go.Proofs.YtejnemneenjliaaGreat
open Go Go.Proofs
set_option linter.unusedVariables false
set_option linter.unusedSimpArgs false
attribute [local irreducible] apK cpK mkK br
instance rec_pcC:Rec pcC 3:=⟨fun _=>rfl,fun x v hv=>by
 simp [pcC] at hv
 rcases hv with rfl | rfl | rfl <;> trivial,by decide⟩
instance elt_piece:EltR Tryz.prog 353 3 (pcC (0,0,0)):=⟨⟨Tryz.t353,by kernel_rfl,rfl,by decide,by decide⟩,by kernel_rfl,rfl,by decide⟩
theorem fx_in {t:Tk} (h:tkOk t):tkIn qzh qve t:=by
 unfold tkIn
 split
 · have:=h.1
   exact qvr (by omega)
 · rename_i g
   have h1:=qbn (qen (h.2 g).1.1 (h.2 g).1.2)
   have h2:=symP_dis (qdl (h.2 g).2.1 (h.2 g).2.2)
   exact ⟨qvr (by omega),fdist_in (by omega)⟩
section
variable {F0:List Nat} {w0 w:World} {ps rest rest2 rest3:List As} {s:Sl} {xs:List Int}
theorem qjb.step {i:Nat} {o:Sl} {out:List Pc} {Q:VWP} {nx1:Sl→Sl→Int→World→Prop} (h:St F0 w0 w (qcc 3 o (out.flatMap pcC) :: ps)) [Rdb F0 w0 s ps 1 (ivs .i64 xs)] (hL:xs.length≤1000000) (hi:i < xs.length) (ho:out.length≤1000000)
 (hk:∀ o' w',o'.len=o.len+1→St F0 w0 w' (qcc 3 o' ((out ++ [(runP xs i).1]).flatMap pcC) :: ps)→nx1 s o' ((i+(runP xs i).2:Nat):Int) w'):qjb.j4 s o (i:Int) Q nx1 w:=by
 have hl:=(h.rdb s).1
 rw [ql] at hl
 unfold qjb.j4 qjb.j5
 refine qmg (fun (n:Nat) (n':Int) w'=>n'=n∧1≤n∧i+n≤xs.length∧(∀ j,j < n→xs.getD (i+j) 0=xs.getD i 0)∧St F0 w0 w' (qcc 3 o (out.flatMap pcC) :: ps)) (fun n=>xs.length - n) 1 ⟨rfl,by decide,by omega,fun j hj=>by rw [show j=0 by omega]; rfl,h⟩ ?_
 clear h
 rintro n n' wL I μ ⟨rfl,hn1,hn2,hsm,h⟩ hin
 have done:∀ w,(i+n < xs.length→xs.getD (i+n) 0 ≠ xs.getD i 0)→St F0 w0 w (qcc 3 o (out.flatMap pcC) :: ps)→qjb.j6 s o (i:Int) (n:Int) Q nx1 w:=by
  intro w hstop h
  have hn:=runK_eq hi hn2 hsm hstop
  subst hn
  have fin:∀ (p:Pc) (n2:Nat) (x:Int) (c:Array Value) w,c=⟨pcC p⟩→runP xs i=(p,n2)→x=n2→n2≤1000000→St F0 w0 w (qcc 3 o (out.flatMap pcC) :: ps) →
   lt (⟨World.heapSize w,0,none⟩:Addr) fun a=>lt (World.alloc w (.cells c 353)) fun w1=>rdO w1 (some a) (1 * 3) fun c=>apK Tryz.prog 353 w1 o.a o.len o.cap 1 c fun s20 w21=>qjb.j7 s s20 (i:Int) x Q nx1 w21:=by
   rintro p n2 x c w hc hp rfl hn2 h
   refine h.pushR (s:=o) (x:=p) (by omega) hc fun o2 w h2 h=>?_
   unfold qjb.j7
   refine qn (show IntKind.i64.wrap ((i:Int)+(n2:Int))=((i+n2:Nat):Int) by rw [qd (by omega) (by omega)]; omega) ?_
   rw [hp] at hk
   exact hk o2 w h2 h
  have hk1:=runK_pos xs i
  unfold qjb.j6
  refine h.lx (s:=s) i rfl hi ?_
  unfold runP at fin
  have j10:∀ (b:Bool) w,(b=true ↔ ((0 < i∧xs.getD i 0=xs.getD (i - 1) 0)∧3≤qok xs i))→¬ (xs.getD i 0=0∧11≤qok xs i)→¬ (xs.getD i 0=0∧3≤qok xs i)→St F0 w0 w (qcc 3 o (out.flatMap pcC) :: ps) →
   qjb.j10 s o (i:Int) (qok xs i:Int) b Q nx1 w:=by
   intro b w hb g1 g2 h
   rw [if_neg g1,if_neg g2] at fin
   unfold qjb.j10
   refine qne (fun g=>?_) (fun g=>?_)
   · have g3:=hb.1 g
     rw [if_pos g3] at fin
     refine qn (show (if (6:Int) < (qok xs i:Int) then (6:Int) else (qok xs i:Int))=((min (qok xs i) 6:Nat):Int) by split <;> omega) ?_
     refine qn (qd (by omega) (by omega)) ⟨rfl,?_⟩
     exact fin (16,((min (qok xs i) 6:Nat):Int) - 3,2) (min (qok xs i) 6) _ _ w (by kernel_rfl) rfl rfl (by omega) h
   · have g3:¬ ((0 < i∧xs.getD i 0=xs.getD (i - 1) 0)∧3≤qok xs i):=fun e=>by rw [hb.2 e] at g; cases g
     rw [if_neg g3] at fin
     refine h.lx (s:=s) i rfl hi ⟨rfl,?_⟩
     exact fin (xs.getD i 0,0,0) 1 _ _ w (by kernel_rfl) rfl rfl (by omega) h
  have j9:∀ (b:Bool) w,(b=true ↔ (xs.getD i 0=0∧3≤qok xs i))→¬ (xs.getD i 0=0∧11≤qok xs i)→St F0 w0 w (qcc 3 o (out.flatMap pcC) :: ps)→qjb.j9 s o (i:Int) (qok xs i:Int) b Q nx1 w:=by
   intro b w hb g1 h
   unfold qjb.j9
   refine qne (fun g=>?_) (fun g=>?_)
   · have g3:=hb.1 g
     rw [if_neg g1,if_pos g3] at fin
     refine qn (qd (by omega) (by omega)) ⟨rfl,?_⟩
     exact fin (17,(qok xs i:Int) - 3,3) (qok xs i) _ _ w (by kernel_rfl) rfl rfl (by omega) h
   · have g3:¬ (xs.getD i 0=0∧3≤qok xs i):=fun e=>by rw [hb.2 e] at g; cases g
     refine h.drewK fun w h=>?_
     refine qnc (fun g4=>?_) (fun g4=>?_)
     · refine h.lx (s:=s) i rfl hi ?_
       refine qn (show IntKind.i64.wrap ((i:Int) - 1)=((i - 1:Nat):Int) by rw [qd (by omega) (by omega)]; omega) ?_
       refine h.lx (s:=s) (i - 1) rfl (by omega) ?_
       refine qne (fun g5=>?_) (fun g5=>?_)
       · have g5:xs.getD i 0=xs.getD (i - 1) 0:=by simpa using g5
         exact j10 _ w ⟨fun e=>⟨⟨by omega,g5⟩,by have:=of_decide_eq_true e; omega⟩,fun e=>decide_eq_true (by have:=e.2; omega)⟩ g1 g3 h
       · have g5:¬ xs.getD i 0=xs.getD (i - 1) 0:=by simpa using g5
         exact j10 _ w ⟨fun e=>(by cases e),fun e=>absurd e.1.2 g5⟩ g1 g3 h
     · exact j10 _ w ⟨fun e=>(by cases e),fun e=>absurd e.1.1 (by omega)⟩ g1 g3 h
  have j8:∀ (b:Bool) w,(b=true ↔ (xs.getD i 0=0∧11≤qok xs i))→St F0 w0 w (qcc 3 o (out.flatMap pcC) :: ps)→qjb.j8 s o (i:Int) (qok xs i:Int) b Q nx1 w:=by
   intro b w hb h
   unfold qjb.j8
   refine qne (fun g=>?_) (fun g=>?_)
   · have g3:=hb.1 g
     rw [if_pos g3] at fin
     refine qn (show (if (138:Int) < (qok xs i:Int) then (138:Int) else (qok xs i:Int))=((min (qok xs i) 138:Nat):Int) by split <;> omega) ?_
     refine qn (qd (by omega) (by omega)) ⟨rfl,?_⟩
     exact fin (18,((min (qok xs i) 138:Nat):Int) - 11,7) (min (qok xs i) 138) _ _ w (by kernel_rfl) rfl rfl (by omega) h
   · have g3:¬ (xs.getD i 0=0∧11≤qok xs i):=fun e=>by rw [hb.2 e] at g; cases g
     refine h.lx (s:=s) i rfl hi ?_
     refine qne (fun g5=>?_) (fun g5=>?_)
     · have g5:xs.getD i 0=0:=by simpa using g5
       exact j9 _ w ⟨fun e=>⟨g5,by have:=of_decide_eq_true e; omega⟩,fun e=>decide_eq_true (by have:=e.2; omega)⟩ g3 h
     · have g5:¬ xs.getD i 0=0:=by simpa using g5
       exact j9 _ w ⟨fun e=>(by cases e),fun e=>absurd e.1 g5⟩ g3 h
  refine qne (fun g5=>?_) (fun g5=>?_)
  · have g5:xs.getD i 0=0:=by simpa using g5
    exact j8 _ w ⟨fun e=>⟨g5,by have:=of_decide_eq_true e; omega⟩,fun e=>decide_eq_true (by have:=e.2; omega)⟩ h
  · have g5:¬ xs.getD i 0=0:=by simpa using g5
    exact j8 _ w ⟨fun e=>(by cases e),fun e=>absurd e.1 g5⟩ h
 unfold qjb.b2
 refine h.drewK fun w h=>?_
 have e:IntKind.i64.wrap ((i:Int)+(n:Int))=((i+n:Nat):Int):=by rw [qd (by omega) (by omega)]; omega
 refine qn e ?_
 refine qnc (fun g=>?_) (fun g=>?_)
 · refine qn e ?_
   refine h.lx (s:=s) (i+n) rfl (by omega) ?_
   refine h.lx (s:=s) i rfl hi ?_
   refine qne (fun g2=>?_) (fun g2=>?_)
   · have g2:xs.getD (i+n) 0=xs.getD i 0:=by simpa using g2
     refine qn (qd (by omega) (by omega)) ?_
     exact ⟨⟨rfl,rfl,rfl⟩,hin (n+1) _ _ ⟨by omega,by omega,by omega,fun j hj=>by
      rcases Nat.lt_or_ge j n with hjn | hjn
      · exact hsm j hjn
      · rw [show j=n by omega]; exact g2,h⟩ (by omega)⟩
   · have g2:¬ xs.getD (i+n) 0=xs.getD i 0:=by simpa using g2
     exact done w (fun _=>g2) h
 · exact done w (fun e=>by omega) h
theorem qjb.c {K:Ending→World→Prop} (h:St F0 w0 w ps) [Rdb F0 w0 s ps 1 (ivs .i64 xs)] (hL:xs.length≤1000000)
 (hk:∀ t w',t.len=(runsL xs).length→St F0 w0 w' (qcc 3 t ((runsL xs).flatMap pcC) :: ps)→K (.returned (.slice t.a t.len t.cap)) w'):Calls Tryz.prog 263 ⟨[.slice s.a s.len s.cap]⟩ w K:=by
 have hl:=(h.rdb s).1
 rw [ql] at hl
 refine qfc (qjb.ok _ _ _ ?_)
 unfold qjb qjb.j1 qjb.j3
 refine qkg (fun (a:Nat × Nat × List Pc) (o:Sl) (i':Int) w'=>i'=a.2.1∧a.2.1≤xs.length∧xs.length≤a.2.1+a.1∧a.2.2.length≤a.2.1∧a.2.2 ++ runsF xs a.1 a.2.1=runsL xs∧o.len=a.2.2.length∧St F0 w0 w' (qcc 3 o (a.2.2.flatMap pcC) :: ps)) (fun a=>xs.length - a.2.1) (xs.length,0,[])
  ⟨rfl,by simp,by simp,by simp,rfl,rfl,h.nil 3⟩ ?_
 clear h
 rintro ⟨f,i,out⟩ o i' wL I μ ⟨rfl,hi,hf,ho,hr,hol,h⟩ hin
 simp only at hi hf ho hr hol h hin ⊢
 unfold qjb.b1
 refine qnc (fun g=>?_) (fun g=>?_)
 · have hi2:i < xs.length:=by omega
   obtain ⟨f,rfl⟩:∃ k,f=k+1:=⟨f - 1,by omega⟩
   rw [runsF,if_neg (by omega)] at hr
   have hp:=runP_pos xs i
   have hle:=runP_le hi2
   refine qjb.step (o:=o) (out:=out) h hL hi2 (by omega) fun o' w' h1 h=>?_
   refine ⟨rfl,hin (f,i+(runP xs i).2,out ++ [(runP xs i).1]) _ _ _ ⟨rfl,hle,by simp only; omega,by simp only [List.length_append,List.length_singleton]; omega,by rw [List.append_assoc]; exact hr,by simp only [List.length_append,List.length_singleton]; omega,h⟩ (by simp only; omega)⟩
 · have:i=xs.length:=by omega
   subst this
   have e:out=runsL xs:=by
    rw [← hr]
    cases f with
    | zero=>simp [runsF]
    | succ f=>rw [runsF,if_pos (Nat.le_refl _)]; simp
   subst e
   unfold qjb.j2
   exact hk o wL hol h
theorem qxd.c {m:Nat} {K:Ending→World→Prop} (h:St F0 w0 w ps) [hr:Rdb F0 w0 s ps 1 (ivs .i64 xs)] (hL:xs.length≤1000000) (hc:s.len≤s.cap)
 (hk:∀ t w',Rdb F0 w0 t ps 1 (ivs .i64 (xs.take (qbi xs m xs.length)))→t.len=qbi xs m xs.length→t.len≤t.cap→St F0 w0 w' ps→K (.returned (.slice t.a t.len t.cap)) w'):Calls Tryz.prog 262 ⟨[.slice s.a s.len s.cap,.int .i64 (m:Int)]⟩ w K:=by
 have hl:=(h.rdb s).1
 rw [ql] at hl
 refine qfc (qxd.ok _ _ _ _ ?_)
 unfold qxd qxd.j1
 refine qmg (fun (n:Nat) (o:Sl) w'=>o.len=n∧n≤xs.length∧o.len≤o.cap∧qbi xs m n=qbi xs m xs.length∧Rdb F0 w0 o ps 1 (ivs .i64 (xs.take n))∧St F0 w0 w' ps) (fun n=>n) xs.length ⟨by omega,Nat.le_refl _,hc,rfl,by rw [List.take_length]; exact hr,h⟩ ?_
 clear h
 rintro n o wL I μ ⟨rfl,hn,hoc,ht,hrd,h⟩ hin
 have done:∀ w,qbi xs m o.len=o.len→St F0 w0 w ps→qxd.j2 o (fun v w'=>K (.returned v) w') w:=by
  intro w e h
  rw [e] at ht
  unfold qxd.j2
  rw [← ht] at hk
  exact hk o w hrd rfl hoc h
 unfold qxd.b1
 refine qnc (fun g=>?_) (fun g=>?_)
 · obtain ⟨k,hk2⟩:∃ k,o.len=k+1:=⟨o.len - 1,by omega⟩
   have e:IntKind.i64.wrap ((o.len:Int) - 1)=(k:Int):=by rw [qd (by omega) (by omega)]; omega
   refine qn e ?_
   have hx:xs.getD k 0=(xs.take o.len).getD k 0:=(qan (by omega)).symm
   refine h.lx (s:=o) k rfl (by rw [List.length_take]; omega) ?_
   rw [← hx]
   refine qne (fun g2=>?_) (fun g2=>?_)
   · have g2:xs.getD k 0=0:=by simpa using g2
     refine qn e ?_
     refine qvk (n:=k) rfl (by omega) (que ?_)
     have hr2:Rdb F0 w0 ⟨qgf o.a o.cap 0 1,k - 0,o.cap - 0⟩ ps 1 (ivs .i64 (xs.take k)):=hrd.cutAs 0 k (o.cap - 0) (by omega) (by omega) hoc (by
      rw [List.drop_zero,List.take_take]
      congr 1; omega)
     refine ⟨rfl,hin k _ _ ⟨rfl,by omega,by show k - 0≤o.cap - 0; omega,?_,hr2,h⟩ (by omega)⟩
     rw [← ht,hk2,qbi,if_pos ⟨by omega,g2⟩]
   · have g2:¬ xs.getD k 0=0:=by simpa using g2
     refine done wL ?_ h
     rw [hk2,qbi,if_neg fun e=>g2 e.2]
 · refine done wL ?_ h
   cases hm:o.len with
   | zero=>rfl
   | succ k=>rw [qbi,if_neg (by omega)]
def maxF (xs:List Int):Nat→Int
 | 0=>xs.getD 0 0
 | n+1=>if xs.getD (n+1) 0 > maxF xs n then xs.getD (n+1) 0 else maxF xs n
theorem maxF_le (xs:List Int):∀ n j,j≤n→xs.getD j 0≤maxF xs n:=by
 intro n
 induction n with
 | zero=>intro j hj; rw [show j=0 by omega]; exact Int.le_refl _
 | succ n ih =>
   intro j hj
   rw [maxF]
   rcases Nat.lt_or_ge j (n+1) with h | h
   · have:=ih j (by omega)
     split <;> omega
   · rw [show j=n+1 by omega]
     split <;> omega
theorem maxF_in (xs:List Int):∀ n,∃ j,j≤n∧maxF xs n=xs.getD j 0:=by
 intro n
 induction n with
 | zero=>exact ⟨0,Nat.le_refl _,rfl⟩
 | succ n ih =>
   obtain ⟨j,h1,h2⟩:=ih
   rw [maxF]
   split
   · exact ⟨n+1,Nat.le_refl _,rfl⟩
   · exact ⟨j,by omega,h2⟩
theorem qac.c {K:Ending→World→Prop} (h:St F0 w0 w ps) [Rdb F0 w0 s ps 1 (ivs .i64 xs)] (hL:xs.length≤1000000) (h0:1≤xs.length)
 (hk:∀ w',St F0 w0 w' ps→K (.returned (.int .i64 (maxF xs (xs.length - 1)))) w'):Calls Tryz.prog 265 ⟨[.slice s.a s.len s.cap]⟩ w K:=by
 have hl:=(h.rdb s).1
 rw [ql] at hl
 refine qfc (qac.ok _ _ _ ?_)
 unfold qac qac.j1
 refine qnc (fun g=>by omega) (fun g=>?_)
 refine h.lx (s:=s) 0 rfl (by omega) ?_
 unfold qac.j2 qac.j4
 refine qkg (fun (n:Nat) (m':Int) (i':Int) w'=>i'=((n+1:Nat):Int)∧n+1≤xs.length∧m'=maxF xs n∧St F0 w0 w' ps) (fun n=>xs.length - n) 0 ⟨rfl,by omega,rfl,h⟩ ?_
 clear h
 rintro n m' i' wL I μ ⟨rfl,hn,rfl,h⟩ hin
 unfold qac.b1
 refine qnc (fun g=>?_) (fun g=>?_)
 · refine h.lx (s:=s) (n+1) rfl (by omega) ?_
   refine que ?_
   refine qn (qd (by omega) (by omega)) ?_
   exact ⟨rfl,hin (n+1) _ _ _ ⟨by omega,by omega,by rw [maxF],h⟩ (by omega)⟩
 · unfold qac.j3
   rw [show xs.length - 1=n by omega] at hk
   exact hk wL h
theorem qcg.c {kb:Nat} {A B:Sl} {L:List Tk} {K:Ending→World→Prop} (h:St F0 w0 w ps) [PkB kb ps [.slice s.a s.len s.cap,.slice A.a A.len A.cap,.slice B.a B.len B.cap] rest] [Rdb F0 w0 s ps 3 (tks L)] (hok:∀ t ∈ L,tkOk t) (hL:L.length≤1000000)
 (hk:∀ t w',t.len=((fxB L).length+7) / 8→t.cap=t.len→St F0 w0 w' (rdA 1 t (u8s (bytes (fxB L))) :: ps)→K (.returned (.slice t.a t.len t.cap)) w'):Calls Tryz.prog 227 ⟨[.pointer (some ⟨kb,0,none⟩)]⟩ w K:=by
 refine qfc (qcg.ok _ _ _ ?_)
 unfold qcg
 refine quf.c h fun wb w h=>⟨_,rfl,?_⟩
 refine qhb.cl h (by simp) fun w h=>⟨rfl,?_⟩
 rw [show ([] ++ pb 3 3:List Bool)=[true,true,false] by decide +kernel] at h
 refine qu.c h fun a b w h1 h2 h=>⟨a,b,rfl,?_⟩
 refine qhc.c (s:=a) (ls:=qzh) h (fun lb w hn h=>⟨_,_,rfl,?_⟩) (fun w hn _=>absurd flit_new hn)
 refine qhc.c (s:=b) (ls:=qve) h (fun db w hn h=>⟨_,_,rfl,?_⟩) (fun w hn _=>absurd qbs hn)
 have h:St F0 w0 w (wrL wb [true,true,false] :: hcA db qve :: hcA lb qzh :: ps):=h.sub
 refine qkc.c (kb:=kb) (wb:=wb) (lb:=lb) (db:=db) (s:=s) (A:=A) (B:=B) (L:=L) (ll:=qzh) (dl:=qve) h hok hL (fun t ht=>fx_in (hok t ht)) (qvr (by decide)) qqo.1 qro.1 (by simp) fun w h=>⟨rfl,?_⟩
 have hb:=tksB_len qqo.1 qro.1 hok
 have hs:=qph qqo.1 256
 refine qwe.c h (by simp only [List.length_append,List.length_cons,List.length_nil]; omega) fun t w h1 h2 h=>⟨t,rfl,?_⟩
 exact hk t w h1 h2 (St.sub (ps:=rdA 1 t (u8s (bytes (fxB L))) :: wrL wb (fxB L) :: hcA db qve :: hcA lb qzh :: ps) h)
end
end Go.Proofs.YtejnemneenjliaaGreat
namespace Go.Proofs.YtejnemneenjliaaGreat
open Go Go.Proofs
set_option linter.unusedVariables false
set_option linter.unusedSimpArgs false
def dA0 (L:List Tk):List Int:=lenP (litC L) 15
def dB0 (L:List Tk):List Int:=lenP (disC L) 15
def dA (L:List Tk):List Int:=(dA0 L).take (qbi (dA0 L) 257 (dA0 L).length)
def dB (L:List Tk):List Int:=(dB0 L).take (qbi (dB0 L) 1 (dB0 L).length)
def dPs (L:List Tk):List Pc:=runsL (dA L ++ dB L)
def dS0 (L:List Tk):List Nat:=(dPs L).map fun p=>p.1.toNat
def dK (L:List Tk):Nat:=((dS0 L).headD 0+1) % 2
def dS (L:List Tk):List Nat:=if maxF (qwm 19 (dS0 L)) 18=(dPs L).length then dS0 L ++ [dK L] else dS0 L
def dC (L:List Tk):List Int:=qwm 19 (dS L)
def dCl (L:List Tk):List Int:=lenP (dC L) 7
def dOc (L:List Tk):List Int:=qmh.map fun s=>(dCl L).getD s.toNat 0
def dN (L:List Tk):Nat:=qbi (dOc L) 4 19
def dynB (L:List Tk):List Bool:=dyB (dA L) (dB L) (dCl L) (dN L) (dPs L) L
theorem dA0_def (L:List Tk):lenP (litC L) (15:Int).toNat=dA0 L:=rfl
theorem dB0_def (L:List Tk):lenP (disC L) (15:Int).toNat=dB0 L:=rfl
theorem dA_def (L:List Tk):(dA0 L).take (qbi (dA0 L) 257 (dA0 L).length)=dA L:=rfl
theorem dB_def (L:List Tk):(dB0 L).take (qbi (dB0 L) 1 (dB0 L).length)=dB L:=rfl
theorem dPs_def (L:List Tk):runsL (dA L ++ dB L)=dPs L:=rfl
theorem dC_def (L:List Tk):qwm 19 (dS L)=dC L:=rfl
theorem dCl_def (L:List Tk):lenP (dC L) (7:Int).toNat=dCl L:=rfl
theorem dN_def (L:List Tk):qbi (dOc L) 4 19=dN L:=rfl
theorem dynB_def (L:List Tk):dyB (dA L) (dB L) (dCl L) (dN L) (dPs L) L=dynB L:=rfl
theorem dS0_at {L:List Tk} {i:Nat} (h:i < (dPs L).length):(dS0 L).take (i+1)=(dS0 L).take i ++ [(dPs L)[i].1.toNat]:=by
 have hl:i < ((dPs L).map fun p=>p.1.toNat).length:=by rw [List.length_map]; exact h
 have:=List.take_succ_eq_append_getElem hl
 rw [List.getElem_map] at this
 exact this
theorem dK_at {L:List Tk} (h:0 < (dPs L).length):dK L=((dPs L)[0].1.toNat+1) % 2:=by
 have:∀ P:List Pc,(h:0 < P.length)→((P.map fun p=>p.1.toNat).headD 0+1) % 2=(P[0].1.toNat+1) % 2:=by
  intro P h
  cases P with
  | nil=>cases h
  | cons p P=>rfl
 exact this _ h
theorem dS_yes {L:List Tk} (h:maxF (qwm 19 (dS0 L)) 18=((dPs L).length:Int)):dS L=dS0 L ++ [dK L]:=if_pos h
theorem dS_no {L:List Tk} (h:¬ maxF (qwm 19 (dS0 L)) 18=((dPs L).length:Int)):dS L=dS0 L:=if_neg h
theorem qsk {xs:List Int} {M:Nat} (h:xs.length≤2 ^ M):(qhe xs).length≤2 ^ M:=Nat.le_trans (qmp xs) h
theorem lenP_in {xs:List Int} {M s:Nat} (h:xs.length≤2 ^ M) (h1:1≤M):inC (lenP xs M) s ↔ s < xs.length∧0 < xs.getD s 0:=by
 unfold inC
 rw [qaj]
 refine and_congr_right fun hs=>?_
 rw [qmr hs]
 have:=(lenF_ok (qsk h) h1 hs).2
 omega
theorem lenP_okC {xs:List Int} {M:Nat} (h:xs.length≤2 ^ M) (h1:1≤M) (hM:M≤15):okC (lenP xs M):=⟨lenP_ok (qsk h) h1 hM,(kr_lenP (qsk h) h1 hM).1⟩
section
variable {L:List Tk}
theorem qqk (L:List Tk):(litC L).length=286:=qvd _ _
theorem qrk (L:List Tk):(disC L).length=30:=qvd _ _
theorem dA0_len (L:List Tk):(dA0 L).length=286:=by unfold dA0; rw [qaj,qqk]
theorem dB0_len (L:List Tk):(dB0 L).length=30:=by unfold dB0; rw [qaj,qrk]
theorem dA0_okC (L:List Tk):okC (dA0 L):=lenP_okC (by rw [qqk]; decide) (by decide) (by decide)
theorem dB0_okC (L:List Tk):okC (dB0 L):=lenP_okC (by rw [qrk]; decide) (by decide) (by decide)
theorem dA0_new (L:List Tk):qcj (dA0 L) true=0:=lenP_new (by rw [qqk]; decide) (qsk (by rw [qqk]; decide)) (by decide) (by decide)
theorem dB0_new (L:List Tk):qcj (dB0 L) true=0:=lenP_new (by rw [qrk]; decide) (qsk (by rw [qrk]; decide)) (by decide) (by decide)
theorem dA0_in {s:Nat} (h:s < 286) (hs:s ∈ L.map litS ++ [256]):inC (dA0 L) s:=by
 unfold dA0
 rw [lenP_in (by rw [qqk]; decide) (by decide),qqk]
 exact ⟨h,(qjn h).2 hs⟩
theorem dB0_in {s:Nat} (h:s < 30) (hs:s ∈ L.flatMap disS):inC (dB0 L) s:=by
 unfold dB0
 rw [lenP_in (by rw [qrk]; decide) (by decide),qrk]
 exact ⟨h,(qjn h).2 hs⟩
theorem d_tkIn (hok:∀ t ∈ L,tkOk t):∀ t ∈ L,tkIn (dA0 L) (dB0 L) t:=by
 intro t ht
 have h1:=lit_lt (hok t ht)
 have hl:inC (dA0 L) (litS t):=dA0_in (by unfold litS; omega) (List.mem_append_left _ (List.mem_map_of_mem ht))
 unfold litS qek at hl
 unfold tkIn
 by_cases g:t.2.1=0
 · rw [if_pos g] at hl ⊢
   exact hl
 · rw [if_neg g] at hl ⊢
   refine ⟨hl,?_⟩
   have hc:(qek t).2.2=true:=by unfold qek; rw [if_neg g]
   have h2:=dis_lt (hok t ht) hc
   have hm:(qek t).2.1.1.toNat ∈ disS t:=by unfold disS; rw [if_pos hc]; exact List.mem_singleton.2 rfl
   have:=dB0_in (L:=L) (s:=(qek t).2.1.1.toNat) (by omega) (List.mem_flatMap.2 ⟨t,ht,hm⟩)
   unfold qek at this
   rwa [if_neg g] at this
theorem qhs (L:List Tk):okC (dA L)∧qcj (dA L) true=0∧∀ s,inC (dA0 L) s→inC (dA L) s∧qcd (dA L) s=qcd (dA0 L) s:=by
 have:=trim_code (l:=dA0 L) 257 (dA0 L).length (Nat.le_refl _) (by rw [List.take_length]; exact dA0_okC L) (by rw [List.take_length]; exact dA0_new L)
 rw [List.take_length] at this
 exact this
theorem dB_trim (L:List Tk):okC (dB L)∧qcj (dB L) true=0∧∀ s,inC (dB0 L) s→inC (dB L) s∧qcd (dB L) s=qcd (dB0 L) s:=by
 have:=trim_code (l:=dB0 L) 1 (dB0 L).length (Nat.le_refl _) (by rw [List.take_length]; exact dB0_okC L) (by rw [List.take_length]; exact dB0_new L)
 rw [List.take_length] at this
 exact this
theorem dA_len (L:List Tk):257≤(dA L).length∧(dA L).length≤286:=by
 have h1:=trimN_le (dA0 L) 257 (dA0 L).length
 have h2:=trimN_ge (dA0 L) 257 (dA0 L).length (by rw [dA0_len]; decide)
 unfold dA
 rw [List.length_take]
 have:=dA0_len L
 omega
theorem dB_len (L:List Tk):1≤(dB L).length∧(dB L).length≤30:=by
 have h1:=trimN_le (dB0 L) 1 (dB0 L).length
 have h2:=trimN_ge (dB0 L) 1 (dB0 L).length (by rw [dB0_len]; decide)
 unfold dB
 rw [List.length_take]
 have:=dB0_len L
 omega
theorem tk_swap {a a0 b b0:List Int} (hA:∀ s,inC a0 s→inC a s∧qcd a s=qcd a0 s) (hB:∀ s,inC b0 s→inC b s∧qcd b s=qcd b0 s) {t:Tk} (h:tkIn a0 b0 t):tkIn a b t∧tkB a b t=tkB a0 b0 t:=by
 unfold tkIn at h
 unfold tkIn tkB
 by_cases g:t.2.1=0
 · rw [if_pos g] at h
   rw [if_pos g,if_pos g,if_pos g]
   exact hA _ h
 · rw [if_neg g] at h
   rw [if_neg g,if_neg g,if_neg g]
   refine ⟨⟨(hA _ h.1).1,(hB _ h.2).1⟩,?_⟩
   rw [(hA _ h.1).2,(hB _ h.2).2]
theorem tks_swap {a a0 b b0:List Int} (hA:∀ s,inC a0 s→inC a s∧qcd a s=qcd a0 s) (hB:∀ s,inC b0 s→inC b s∧qcd b s=qcd b0 s):∀ {M:List Tk},(∀ t ∈ M,tkIn a0 b0 t)→(∀ t ∈ M,tkIn a b t)∧tksB a b M=tksB a0 b0 M:=by
 intro M
 induction M with
 | nil=>intro _; exact ⟨fun t ht=>(by cases ht),rfl⟩
 | cons t M ih =>
   intro h
   have h1:=tk_swap hA hB (h t (by simp))
   have h2:=ih fun t ht=>h t (by simp [ht])
   refine ⟨fun u hu=>?_,?_⟩
   · rcases List.mem_cons.1 hu with rfl | hu
     · exact h1.1
     · exact h2.1 u hu
   · unfold tksB at h2 ⊢
     rw [List.flatMap_cons,List.flatMap_cons,h1.2,h2.2]
theorem d_tkB (hok:∀ t ∈ L,tkOk t):(∀ t ∈ L,tkIn (dA L) (dB L) t)∧tksB (dA L) (dB L) L=tksB (dA0 L) (dB0 L) L:=tks_swap (qhs L).2.2 (dB_trim L).2.2 (d_tkIn hok)
theorem d_256 (L:List Tk):inC (dA0 L) 256∧inC (dA L) 256∧qcd (dA L) 256=qcd (dA0 L) 256:=by
 have h:=dA0_in (L:=L) (s:=256) (by decide) (by simp)
 exact ⟨h,(qhs L).2.2 _ h⟩
theorem qfs (L:List Tk):Runs (dA L ++ dB L) 0 (dPs L):=by
 refine runsL_runs fun x hx=>?_
 rcases List.mem_append.1 hx with h | h
 · have:=(qhs L).1.1 x h; omega
 · have:=(dB_trim L).1.1 x h; omega
theorem d_ps (L:List Tk):∀ s ∈ dS0 L,s < 19:=by
 intro s hs
 obtain ⟨p,hp,rfl⟩:=List.mem_map.1 hs
 have:=(qfs L).ok p hp
 have:=this.1
 have:=((qfs L).ok p hp).2.1
 omega
theorem d_ps_pos (L:List Tk):1≤(dPs L).length:=by
 have h:(dA L ++ dB L).length ≠ 0:=by rw [List.length_append]; have:=dA_len L; omega
 unfold dPs runsL
 obtain ⟨n,hn⟩:∃ n,(dA L ++ dB L).length=n+1:=⟨(dA L ++ dB L).length - 1,by omega⟩
 rw [hn,runsF,if_neg (by omega),List.length_cons]
 omega
theorem qkq (L:List Tk):(dPs L).length≤316:=by
 have:=(qfs L).le
 rw [List.length_append] at this
 have:=dA_len L
 have:=dB_len L
 omega
theorem qgs (L:List Tk):(dS0 L).length=(dPs L).length:=List.length_map ..
theorem dS_len (L:List Tk):(dS L).length≤317:=by
 have:=qkq L
 have:=qgs L
 unfold dS
 split
 · rw [List.length_append,List.length_singleton]; omega
 · omega
theorem d_head (L:List Tk):(dS0 L).headD 0 ∈ dS0 L:=by
 have h1:=d_ps_pos L
 have h2:=qgs L
 cases h:dS0 L with
 | nil=>rw [h] at h2; simp at h2; omega
 | cons x l=>simp
theorem dS0_sub (L:List Tk):∀ s ∈ dS0 L,s ∈ dS L:=by
 intro s hs
 unfold dS
 split
 · exact List.mem_append_left _ hs
 · exact hs
theorem two_mem {l:List Nat} {a b:Nat} (h1:a ∈ l) (h2:b ∈ l) (h:a ≠ b):2≤l.length:=by
 cases l with
 | nil=>cases h1
 | cons x l =>
   cases l with
   | nil =>
     rw [List.mem_singleton] at h1 h2
     exact absurd (h1.trans h2.symm) h
   | cons y l=>simp
theorem dK_lt (L:List Tk):dK L < 2:=Nat.mod_lt _ (by decide)
theorem qam (L:List Tk):(dC L).length=19:=qvd _ _
theorem d_two (L:List Tk):2≤(qhe (dC L)).length:=by
 have hh:=d_head L
 have h19:=d_ps L _ hh
 have m1:(dS0 L).headD 0 ∈ qhe (dC L):=qgi.2 ⟨by rw [qam]; exact h19,(qjn h19).2 (dS0_sub L _ hh)⟩
 by_cases hm:maxF (qwm 19 (dS0 L)) 18=(dPs L).length
 · have hk:=dK_lt L
   have m2:dK L ∈ qhe (dC L):=qgi.2 ⟨by rw [qam]; omega,(qjn (by omega)).2 (by unfold dS; rw [if_pos hm]; exact List.mem_append_right _ (List.mem_singleton.2 rfl))⟩
   refine two_mem m1 m2 ?_
   unfold dK
   omega
 · by_cases ha:∀ s ∈ dS0 L,(dS0 L).headD 0=s
   · exfalso
     have hc:(dS0 L).count ((dS0 L).headD 0)=(dS0 L).length:=List.count_eq_length.2 ha
     have h1:=maxF_le (qwm 19 (dS0 L)) 18 ((dS0 L).headD 0) (by omega)
     obtain ⟨j,_,h2⟩:=maxF_in (qwm 19 (dS0 L)) 18
     have h3:=qzj (n:=19) (S:=dS0 L) j
     rw [qlq _ h19,hc] at h1
     rw [← h2] at h3
     have:=qgs L
     omega
   · obtain ⟨s,hs,hne⟩:∃ s ∈ dS0 L,(dS0 L).headD 0 ≠ s:=by
      refine Classical.byContradiction fun hno=>ha fun s hs=>Classical.byContradiction fun hne=>hno ⟨s,hs,hne⟩
     have hs19:=d_ps L s hs
     exact two_mem m1 (qgi.2 ⟨by rw [qam]; exact hs19,(qjn hs19).2 (dS0_sub L s hs)⟩) hne
theorem dCl_len (L:List Tk):(dCl L).length=19:=by unfold dCl; rw [qaj,qam]
theorem dCl_okC (L:List Tk):okC (dCl L):=lenP_okC (by rw [qam]; decide) (by decide) (by decide)
theorem dCl_new (L:List Tk):qcj (dCl L) false=0:=by
 have hl:=qam L
 obtain ⟨h1,h2⟩:=lenP_chk (xs:=dC L) (M:=7) (by omega) (qsk (by rw [hl]; decide)) (by decide) (by decide)
 have h3:=(kr_lenP (xs:=dC L) (M:=7) (qsk (by rw [hl]; decide)) (by decide) (by decide)).2 (d_two L)
 rw [h3] at h2
 unfold qcj dCl
 rw [if_neg (fun e=>e h1),if_neg (by rw [h2]; simp)]
theorem dCl_b (L:List Tk) (j:Nat):0≤(dCl L).getD j 0∧(dCl L).getD j 0 < 8:=by
 rcases Nat.lt_or_ge j 19 with h | h
 · have hj:j < (dC L).length:=by rw [qam]; exact h
   unfold dCl
   rw [qmr hj]
   have:=(lenF_ok (xs:=dC L) (m:=7) (qsk (by rw [qam]; decide)) (by decide) hj).1
   omega
 · rw [List.getD_eq_getElem?_getD,List.getElem?_eq_none (by rw [dCl_len]; exact h)]
   decide
theorem dCl_in (L:List Tk):∀ q ∈ dPs L,inC (dCl L) q.1.toNat:=by
 intro q hq
 have hm:q.1.toNat ∈ dS0 L:=List.mem_map.2 ⟨q,hq,rfl⟩
 have h19:=d_ps L _ hm
 unfold dCl
 rw [lenP_in (by rw [qam]; decide) (by decide),qam]
 exact ⟨h19,(qjn h19).2 (dS0_sub L _ hm)⟩
theorem dOc_get (L:List Tk) {j:Nat} (h:j < 19):(dOc L).getD j 0=(dCl L).getD (qmh.getD j 0).toNat 0:=by
 have hz:j < qmh.length:=h
 unfold dOc
 simp [List.getD,hz]
theorem dN_b (L:List Tk):4≤dN L∧dN L≤19:=⟨trimN_ge _ _ _ (by decide),trimN_le _ _ _⟩
theorem dynB_ok {xs:List Int} (hb:∀ x ∈ xs,0≤x∧x < 256) (hL:qng xs 0 L xs.length):Dfl xs (dynB L):=by
 have hok:=hL.tkOk hb
 have h1:=dA_len L
 have h2:=dB_len L
 have h3:=dN_b L
 exact Dfl.dynamic hb hL (d_tkB hok).1 h1.1 h1.2 h2.1 h2.2 (dCl_len L) (dCl_b L) h3.1 h3.2 (fun j hj hj2=>by
  rw [← dOc_get L hj2]
  exact trimN_no _ _ _ _ hj hj2) (dCl_okC L) (dCl_new L) (qfs L) (dCl_in L) (qhs L).1 (dB_trim L).1 (qhs L).2.1 (dB_trim L).2.1 (d_256 L).2.1
end
end Go.Proofs.YtejnemneenjliaaGreat
namespace Go.Proofs.YtejnemneenjliaaGreat
open Go Go.Proofs
set_option linter.unusedVariables false
set_option linter.unusedSimpArgs false
attribute [local irreducible] apK cpK mkK br
theorem pcB_len {cl:List Int} (h:okL cl) {p:Pc} (hp:pcOk p):(pcB cl p).length≤22:=by
 have h1:=qph h p.1.toNat
 have h2:=hp.2.2
 unfold pcB
 rw [List.length_append,qk]
 omega
theorem pcsB_len {cl:List Int} (h:okL cl):∀ {P:List Pc},(∀ p ∈ P,pcOk p)→(pcsB cl P).length≤22 * P.length:=by
 intro P
 induction P with
 | nil=>intro _; exact Nat.le_refl _
 | cons p P ih =>
   intro hp
   have h1:=pcB_len h (hp p (by simp))
   have h2:=ih fun q hq=>hp q (by simp [hq])
   unfold pcsB at h2 ⊢
   rw [List.flatMap_cons,List.length_append,List.length_cons]
   omega
theorem pcsB_snoc (cl:List Int) (P:List Pc) (p:Pc):pcsB cl (P ++ [p])=pcsB cl P ++ pcB cl p:=by simp [pcsB]
section
variable {F0:List Nat} {w0 w:World} {ps r1 r2 r3 r4:List As} {kb wb lb db cb:Nat} {s A B t11 t15 t19:Sl} {ll dl cl:List Int} {L:List Tk} {P:List Pc} {l:List Bool} {K:Ending→World→Prop}
structure DynOk (ll dl cl:List Int) (L:List Tk) (P:List Pc):Prop where
 tk:∀ t ∈ L,tkOk t
 len:L.length≤1000000
 tin:∀ t ∈ L,tkIn ll dl t
 i256:inC ll 256
 ll:okL ll
 dl:okL dl
 pc:∀ p ∈ P,pcOk p
 pin:∀ p ∈ P,inC cl p.1.toNat
 plen:P.length≤1000
 cl:okL cl
theorem qc.pcs (h:St F0 w0 w (wrL wb l :: ps)) [PkB kb ps [.slice s.a s.len s.cap,.slice A.a A.len A.cap,.slice B.a B.len B.cap] r1] [PkF hcA lb ps ll r2] [PkF hcA db ps dl r3] [PkF hcA cb ps cl r4]
 [Rdb F0 w0 t11 ps 3 (P.flatMap pcC)] [Rdb F0 w0 s ps 3 (tks L)] (o:DynOk ll dl cl L P) (hl:l.length≤10000)
 (hk:∀ t w',t.len=((l ++ (pcsB cl P ++ (tksB ll dl L ++ qcd ll 256))).length+7) / 8→t.cap=t.len→St F0 w0 w' (rdA 1 t (u8s (bytes (l ++ (pcsB cl P ++ (tksB ll dl L ++ qcd ll 256))))) :: ps)→K (.returned (.slice t.a t.len t.cap)) w') :
 qc.j13 (some ⟨kb,0,none⟩) (some ⟨lb,0,none⟩) (some ⟨db,0,none⟩) t11 (some ⟨cb,0,none⟩) (some ⟨wb,0,none⟩) (fun v w'=>K (.returned v) w') w:=by
 have hpl:P.length=t11.len:=h.rlen (f:=pcC)
 have h15:=o.plen
 unfold qc.j13 qc.j15
 refine qmg (fun (i:Nat) (i':Int) w'=>i'=i∧i≤P.length∧St F0 w0 w' (wrL wb (l ++ pcsB cl (P.take i)) :: ps)) (fun i=>P.length - i) 0 ⟨rfl,by omega,by simpa [pcsB] using h⟩ ?_
 clear h
 rintro i i' wL I μ ⟨rfl,hi,h⟩ hnx
 have hbl:=pcsB_len o.cl (P:=P.take i) (fun p hp=>o.pc p (List.mem_of_mem_take hp))
 rw [List.length_take] at hbl
 unfold qc.b1
 refine qnc (fun g=>?_) (fun g=>?_)
 · have hi2:i < P.length:=by omega
   have hpc:=o.pc _ (List.getElem_mem hi2)
   have hpi:=o.pin _ (List.getElem_mem hi2)
   have et:P.take (i+1)=P.take i ++ [P[i]]:=List.take_succ_eq_append_getElem hi2
   refine h.lr (s:=t11) (f:=pcC) i rfl hi2 ?_
   rw [qkk]
   refine h.new fun a w h=>⟨rfl,?_⟩
   have h:St F0 w0 w (qzc a (pcC (0,0,0)) :: wrL wb (l ++ pcsB cl (P.take i)) :: ps):=h
   refine h.sA (b:=a) (l':=pcC P[i]) rfl rfl (qai _) fun w h=>?_
   have h:St F0 w0 w (qzc a [.int .i64 P[i].1,.int .i64 P[i].2.1,.int .i64 P[i].2.2] :: wrL wb (l ++ pcsB cl (P.take i)) :: ps):=h
   have h:=h.at1
   simp only [qvf,Nat.zero_add]
   refine h.fI (b:=a) ?_
   refine qrf.c (cb:=cb) (ls:=cl) h (by rw [List.length_append]; omega) fun w h=>⟨_,rfl,?_⟩
   rw [qqr hpc.1 hpi] at h
   have hs:=qph o.cl P[i].1.toNat
   refine h.fI (b:=a) (h.fI (b:=a) ?_)
   refine qhb.cl h (by simp only [List.length_append]; omega) fun w h=>⟨rfl,?_⟩
   rw [qql hpc.2.2.1 (by have:=hpc.2.2.2; omega)] at h
   refine qn (qd (by omega) (by omega)) ?_
   refine ⟨⟨by trivial,by trivial,by trivial,by trivial,by trivial,by trivial,by trivial⟩,hnx (i+1) _ _ ⟨by omega,by omega,?_⟩ (by omega)⟩
   rw [et,pcsB_snoc]
   unfold pcB
   simp only [List.append_assoc] at h ⊢
   exact h.sub
 · have:i=P.length:=by omega
   subst this
   rw [List.take_length] at h hbl
   unfold qc.j14
   refine qkc.c (kb:=kb) (wb:=wb) (lb:=lb) (db:=db) (s:=s) (A:=A) (B:=B) (L:=L) (ll:=ll) (dl:=dl) h o.tk o.len o.tin o.i256 o.ll o.dl (by rw [List.length_append]; omega) fun w h=>⟨rfl,?_⟩
   have hb:=tksB_len o.ll o.dl o.tk
   have hs:=qph o.ll 256
   have hlen:=o.len
   rw [List.append_assoc] at h
   refine qwe.c h (by simp only [List.length_append]; omega) fun t w h1 h2 h=>⟨t,rfl,?_⟩
   exact hk t w h1 h2 h.sub
theorem qc.cls {n:Nat} (h:St F0 w0 w (wrL wb l :: ps)) [PkB kb ps [.slice s.a s.len s.cap,.slice A.a A.len A.cap,.slice B.a B.len B.cap] r1] [PkF hcA lb ps ll r2] [PkF hcA db ps dl r3] [PkF hcA cb ps cl r4]
 [Rdb F0 w0 t11 ps 3 (P.flatMap pcC)] [Rdb F0 w0 s ps 3 (tks L)] [Rdb F0 w0 t15 ps 1 (ivs .i64 cl)] [Rdb F0 w0 t19 ps 1 (ivs .i64 qmh)] (h19:t19.len≤t19.cap) (hcl:cl.length=19) (hn:n≤19) (o:DynOk ll dl cl L P) (hl:l.length≤1000)
 (hk:∀ t w',t.len=((l ++ ((qmh.take n).flatMap (fun s=>qi (cl.getD s.toNat 0) 3) ++ (pcsB cl P ++ (tksB ll dl L ++ qcd ll 256)))).length+7) / 8→t.cap=t.len→St F0 w0 w' (rdA 1 t (u8s (bytes (l ++ ((qmh.take n).flatMap (fun s=>qi (cl.getD s.toNat 0) 3) ++ (pcsB cl P ++ (tksB ll dl L ++ qcd ll 256)))))) :: ps)→K (.returned (.slice t.a t.len t.cap)) w') :
 qc.j12 (some ⟨kb,0,none⟩) (some ⟨lb,0,none⟩) (some ⟨db,0,none⟩) t11 t15 (some ⟨cb,0,none⟩) t19 (n:Int) (some ⟨wb,0,none⟩) (fun v w'=>K (.returned v) w') w:=by
 have hl19:=(h.rdb t19).1
 rw [ql,show qmh.length=19 from rfl] at hl19
 unfold qc.j12
 refine qvk (n:=n) rfl (by omega) (que ?_)
 haveI:Rdb F0 w0 ⟨qgf t19.a t19.cap 0 1,n - 0,t19.cap - 0⟩ ps 1 (ivs .i64 (qmh.take n)):=St.cutR h.drop t19 0 n _ (by omega) (by omega) h19 rfl
 generalize hq:(⟨qgf t19.a t19.cap 0 1,n - 0,t19.cap - 0⟩:Sl)=q at *
 have hql:q.len=n:=by rw [← hq]; rfl
 have hll:(qmh.take n).length=n:=by rw [List.length_take]; exact Nat.min_eq_left hn
 unfold qc.j16
 refine qmg (fun (i:Nat) (i':Int) w'=>i'=i∧i≤n∧St F0 w0 w' (wrL wb (l ++ ((qmh.take n).take i).flatMap (fun s=>qi (cl.getD s.toNat 0) 3)) :: ps)) (fun i=>n - i) 0 ⟨rfl,by omega,by simpa using h⟩ ?_
 clear h
 rintro i i' wL I μ ⟨rfl,hi,h⟩ hnx
 have hbl:=qyr (S:=(qmh.take n).take i) (f:=fun s=>qi (cl.getD s.toNat 0) 3) (fun s=>qk _ _)
 rw [List.length_take,hll] at hbl
 unfold qc.b2
 refine qnc (fun g=>?_) (fun g=>?_)
 · have hi2:i < n:=by omega
   refine h.lx (s:=q) i rfl (by omega) ?_
   have hz:=zord_lt i (by omega)
   have et:(qmh.take n).take (i+1)=(qmh.take n).take i ++ [qmh.getD i 0]:=by
    rw [← qan (l:=qmh) hi2]
    exact qfh (by omega)
   rw [qan hi2]
   refine h.lx (s:=t15) (qmh.getD i 0).toNat (by omega) (by omega) ?_
   refine qhb.cl h (by simp only [List.length_append]; omega) fun w h=>⟨rfl,?_⟩
   rw [qql (by decide) (by decide),show (3:Int).toNat=3 from rfl] at h
   refine qn (qd (by omega) (by omega)) ?_
   refine ⟨⟨rfl,rfl,rfl,rfl,rfl,rfl,rfl,rfl,rfl⟩,hnx (i+1) _ _ ⟨by omega,by omega,?_⟩ (by omega)⟩
   rw [et,List.flatMap_append]
   rw [List.append_assoc] at h
   simpa using h
 · have:i=n:=by omega
   subst this
   rw [List.take_of_length_le (by omega)] at h hbl
   refine qc.pcs (kb:=kb) (wb:=wb) (lb:=lb) (db:=db) (cb:=cb) (s:=s) (A:=A) (B:=B) (ll:=ll) (dl:=dl) (cl:=cl) (t11:=t11) h o (by rw [List.length_append]; omega) fun t w h1 h2 h=>?_
   simp only [List.append_assoc] at h1 h
   exact hk t w h1 h2 h
theorem qc.hdr {n:Nat} {t3 t5:Sl} (h:St F0 w0 w ps) [PkB kb ps [.slice s.a s.len s.cap,.slice A.a A.len A.cap,.slice B.a B.len B.cap] r1] [PkF hcA lb ps ll r2] [PkF hcA db ps dl r3] [PkF hcA cb ps cl r4]
 [Rdb F0 w0 t11 ps 3 (P.flatMap pcC)] [Rdb F0 w0 s ps 3 (tks L)] [Rdb F0 w0 t15 ps 1 (ivs .i64 cl)] [Rdb F0 w0 t19 ps 1 (ivs .i64 qmh)] (h19:t19.len≤t19.cap) (hcl:cl.length=19) (hn:n≤19) (hn4:4≤n) (o:DynOk ll dl cl L P) {a b:List Int}
 (h3:t3.len=a.length) (h5:t5.len=b.length) (ha:a.length≤286) (hb:b.length≤30) (hab:qcd a 256=qcd ll 256) (htk:tksB a b L=tksB ll dl L)
 (hk:∀ t w',t.len=((dyB a b cl n P L).length+7) / 8→t.cap=t.len→St F0 w0 w' (rdA 1 t (u8s (bytes (dyB a b cl n P L))) :: ps)→K (.returned (.slice t.a t.len t.cap)) w') :
 qc.j9 (some ⟨kb,0,none⟩) t3 t5 (some ⟨lb,0,none⟩) (some ⟨db,0,none⟩) t11 t15 (some ⟨cb,0,none⟩) t19 (n:Int) (fun v w'=>K (.returned v) w') w:=by
 unfold qc.j9
 refine quf.c h fun wb w h=>⟨_,rfl,?_⟩
 unfold qc.j10
 refine qhb.cl h (by simp) fun w h=>⟨rfl,?_⟩
 rw [show ([] ++ pb 5 3:List Bool)=[true,false,true] by decide +kernel] at h
 refine qn (qd (by omega) (by omega)) ?_
 refine qn (show IntKind.i64.wrap ((t3.len:Int) - 256 - 1)=(a.length:Int) - 257 by rw [qd (by omega) (by omega)]; omega) ?_
 refine qhb.cl h (by simp) fun w h=>⟨rfl,?_⟩
 rw [qql (by decide) (by decide),show (5:Int).toNat=5 from rfl] at h
 unfold qc.j11
 refine qn (show IntKind.i64.wrap ((t5.len:Int) - 1)=(b.length:Int) - 1 by rw [qd (by omega) (by omega)]; omega) ?_
 refine qhb.cl h (by simp [qk]) fun w h=>⟨rfl,?_⟩
 rw [qql (by decide) (by decide),show (5:Int).toNat=5 from rfl] at h
 refine qn (qd (by omega) (by omega)) ?_
 refine qhb.cl h (by simp [qk]) fun w h=>⟨rfl,?_⟩
 rw [qql (by decide) (by decide),show (4:Int).toNat=4 from rfl] at h
 refine qc.cls (kb:=kb) (wb:=wb) (lb:=lb) (db:=db) (cb:=cb) (s:=s) (A:=A) (B:=B) (ll:=ll) (dl:=dl) (cl:=cl) (t11:=t11) (t15:=t15) (t19:=t19) (P:=P) (L:=L) h h19 hcl hn o (by simp [qk]) fun t w h1 h2 h=>?_
 have e:[true,false,true] ++ qi ((a.length:Int) - 257) 5 ++ qi ((b.length:Int) - 1) 5 ++ qi ((n:Int) - 4) 4 ++ ((qmh.take n).flatMap (fun s=>qi (cl.getD s.toNat 0) 3) ++ (pcsB cl P ++ (tksB ll dl L ++ qcd ll 256)))=dyB a b cl n P L:=by
  unfold dyB hdB
  rw [htk,hab]
  simp only [List.append_assoc]
 rw [e] at h1 h
 exact hk t w h1 h2 h
end
end Go.Proofs.YtejnemneenjliaaGreat
namespace Go.Proofs.YtejnemneenjliaaGreat
open Go Go.Proofs
set_option linter.unusedVariables false
set_option linter.unusedSimpArgs false
attribute [local irreducible] apK cpK mkK br dA dB dA0 dB0 dPs dS0 dK dS dC dCl dOc dN dynB lenP qbi runsL maxF
section
variable {F0:List Nat} {w0 w:World} {ps r1:List As} {kb:Nat} {s A B:Sl} {L:List Tk} {K:Ending→World→Prop}
theorem litC_least (hL:L.length≤1000000):leastE (litC L) 15=0:=by
 have hg:goodX (litC L):=qis (by decide) (by rw [List.length_append,List.length_map,List.length_singleton]; omega)
 have hc:=qmp (litC L)
 rw [qqk] at hc
 unfold leastE
 rw [if_neg (by rintro (e | e | e); exact e hg; omega; omega),if_neg (by show ¬ 32768 < _; omega)]
theorem disC_least (hL:L.length≤1000000):leastE (disC L) 15=0:=by
 have hg:goodX (disC L):=qis (by decide) (by have:=disS_len L; omega)
 have hc:=qmp (disC L)
 rw [qrk] at hc
 unfold leastE
 rw [if_neg (by rintro (e | e | e); exact e hg; omega; omega),if_neg (by show ¬ 32768 < _; omega)]
theorem dC_least (L:List Tk):leastE (dC L) 7=0:=by
 have hg:goodX (dC L):=by
  rw [← dC_def]
  exact qis (by decide) (by have:=dS_len L; omega)
 have hc:=qmp (dC L)
 rw [qam] at hc
 unfold leastE
 rw [if_neg (by rintro (e | e | e); exact e hg; omega; omega),if_neg (by show ¬ 128 < _; omega)]
theorem dyn_ok (hok:∀ t ∈ L,tkOk t) (hL:L.length≤1000000):DynOk (dA0 L) (dB0 L) (dCl L) L (dPs L) :=
 ⟨hok,hL,d_tkIn hok,(d_256 L).1,(dA0_okC L).1,(dB0_okC L).1,(qfs L).ok,dCl_in L,by have:=qkq L; omega,(dCl_okC L).1⟩
theorem qc.j8c {qs r2 r3:List As} {lb db:Nat} {ta tb t11 t12:Sl} (hq:∀ (F0:List Nat) (w0 w:World),St F0 w0 w qs→St F0 w0 w ps) [PkB kb qs [.slice s.a s.len s.cap,.slice A.a A.len A.cap,.slice B.a B.len B.cap] r1] [PkF hcA lb qs (dA0 L) r2] [PkF hcA db qs (dB0 L) r3] [Rdb F0 w0 s qs 3 (tks L)]
 (hok:∀ t ∈ L,tkOk t) (hL:L.length≤1000000) (hta:ta.len=(dA L).length) (htb:tb.len=(dB L).length) (h11:t11.len=(dPs L).length)
 (hk:∀ t w',t.len=((dynB L).length+7) / 8→t.cap=t.len→St F0 w0 w' (rdA 1 t (u8s (bytes (dynB L))) :: ps)→K (.returned (.slice t.a t.len t.cap)) w') {cb:Nat} {t15 t19:Sl} (h19:t19.len=19∧t19.cap=19) (h15:t15.len=19)
 (h:St F0 w0 w (rdA 1 t19 (ivs .i64 qmh) :: hcA cb (dCl L) :: qcc 1 t15 (ivs .i64 (dCl L)) :: qcc 1 t12 (ivs .i64 (dC L)) :: qcc 3 t11 ((dPs L).flatMap pcC) :: qs)) :
 qc.j8 (some ⟨kb,0,none⟩) ta tb (some ⟨lb,0,none⟩) (some ⟨db,0,none⟩) t11 t15 (some ⟨cb,0,none⟩) t19 ((19:Nat):Int) (fun v w'=>K (.returned v) w') w:=by
 have la:=dA_len L
 have lb':=dB_len L
 unfold qc.j8
 refine qmg (fun (n:Nat) (n':Int) w'=>n'=n∧n≤19∧4≤n∧qbi (dOc L) 4 n=dN L∧St F0 w0 w' (rdA 1 t19 (ivs .i64 qmh) :: hcA cb (dCl L) :: qcc 1 t15 (ivs .i64 (dCl L)) :: qcc 1 t12 (ivs .i64 (dC L)) :: qcc 3 t11 ((dPs L).flatMap pcC) :: qs)) (fun n=>n) 19 ⟨rfl,Nat.le_refl _,by decide,dN_def L,h⟩ ?_
 clear h
 rintro n n' wL I μ ⟨rfl,hn,hn4,htr,h⟩ hnx
 have done:∀ w,qbi (dOc L) 4 n=n→St F0 w0 w (rdA 1 t19 (ivs .i64 qmh) :: hcA cb (dCl L) :: qcc 1 t15 (ivs .i64 (dCl L)) :: qcc 1 t12 (ivs .i64 (dC L)) :: qcc 3 t11 ((dPs L).flatMap pcC) :: qs)→qc.j9 (some ⟨kb,0,none⟩) ta tb (some ⟨lb,0,none⟩) (some ⟨db,0,none⟩) t11 t15 (some ⟨cb,0,none⟩) t19 (n:Int) (fun v w'=>K (.returned v) w') w:=by
  intro w e h
  rw [e] at htr
  have hd:=d_tkB hok
  refine qc.hdr (kb:=kb) (lb:=lb) (db:=db) (cb:=cb) (s:=s) (A:=A) (B:=B) (ll:=dA0 L) (dl:=dB0 L) (cl:=dCl L) (t11:=t11) (t15:=t15) (t19:=t19) (P:=dPs L) (L:=L) (a:=dA L) (b:=dB L) h (by omega) (dCl_len L) hn hn4 (dyn_ok hok hL) hta htb la.2 lb'.2 (d_256 L).2.2 hd.2 fun t w h1 h2 h=>?_
  rw [htr,dynB_def] at h1 h
  exact hk t w h1 h2 (h.tail fun _ _ _ h=>hq _ _ _ h.drop.drop.drop.drop.drop)
 unfold qc.b3
 refine qnc (fun g=>?_) (fun g=>?_)
 · obtain ⟨k,rfl⟩:∃ k,n=k+1:=⟨n - 1,by omega⟩
   have e:IntKind.i64.wrap (((k+1:Nat):Int) - 1)=(k:Int):=by rw [qd (by omega) (by omega)]; omega
   refine qn e ?_
   refine h.lx (s:=t19) k rfl (by show k < 19; omega) ?_
   have hz:=zord_lt k (by omega)
   refine h.lx (s:=t15) (qmh.getD k 0).toNat (by omega) (by rw [dCl_len]; omega) ?_
   rw [← dOc_get L (show k < 19 by omega)]
   refine qne (fun g2=>?_) (fun g2=>?_)
   · have g2:(dOc L).getD k 0=0:=by simpa using g2
     refine qn e ?_
     refine ⟨⟨rfl,rfl,rfl,rfl,rfl,rfl,rfl,rfl,rfl⟩,hnx k _ _ ⟨rfl,by omega,by omega,?_,h⟩ (by omega)⟩
     rw [← htr,qbi,if_pos ⟨by omega,g2⟩]
   · have g2:¬ (dOc L).getD k 0=0:=by simpa using g2
     refine done wL ?_ h
     rw [qbi,if_neg fun e=>g2 e.2]
 · refine done wL ?_ h
   obtain ⟨k,rfl⟩:∃ k,n=k+1:=⟨n - 1,by omega⟩
   rw [qbi,if_neg (by omega)]
theorem qc.j6c {qs r2 r3:List As} {lb db:Nat} {ta tb t11 t12:Sl} (hq:∀ (F0:List Nat) (w0 w:World),St F0 w0 w qs→St F0 w0 w ps) [PkB kb qs [.slice s.a s.len s.cap,.slice A.a A.len A.cap,.slice B.a B.len B.cap] r1] [PkF hcA lb qs (dA0 L) r2] [PkF hcA db qs (dB0 L) r3] [Rdb F0 w0 s qs 3 (tks L)]
 (hok:∀ t ∈ L,tkOk t) (hL:L.length≤1000000) (hta:ta.len=(dA L).length) (htb:tb.len=(dB L).length) (h11:t11.len=(dPs L).length)
 (hk:∀ t w',t.len=((dynB L).length+7) / 8→t.cap=t.len→St F0 w0 w' (rdA 1 t (u8s (bytes (dynB L))) :: ps)→K (.returned (.slice t.a t.len t.cap)) w')
 (h:St F0 w0 w (qcc 1 t12 (ivs .i64 (dC L)) :: qcc 3 t11 ((dPs L).flatMap pcC) :: qs)):qc.j6 (some ⟨kb,0,none⟩) ta tb (some ⟨lb,0,none⟩) (some ⟨db,0,none⟩) t11 t12 (fun v w'=>K (.returned v) w') w:=by
 unfold qc.j6
 refine qm.c (s:=t12) (xs:=dC L) (m:=7) h (fun t15 w _ h15 h=>⟨t15,_,rfl,?_⟩) (fun w he _=>absurd (dC_least L) he)
 rw [dCl_def] at h
 rw [qam] at h15
 refine qhc.c (s:=t15) (ls:=dCl L) h (fun cb w hn h=>⟨_,_,rfl,?_⟩) (fun w hn _=>absurd (dCl_new L) hn)
 unfold qc.j7
 refine h.new fun ob w h=>?_
 have h:St F0 w0 w (qzc ob (ivs .i64 qmh) :: hcA cb (dCl L) :: qcc 1 t15 (ivs .i64 (dCl L)) :: qcc 1 t12 (ivs .i64 (dC L)) :: qcc 3 t11 ((dPs L).flatMap pcC) :: qs):=h
 have h:=h.blkrd (n:=19) rfl
 generalize hob:(⟨some ⟨ob,0,none⟩,19,19⟩:Sl)=t19 at h
 have h19:t19.len=19∧t19.cap=19:=by rw [← hob]; exact ⟨rfl,rfl⟩
 have go:=qc.j8c (kb:=kb) (lb:=lb) (db:=db) (s:=s) (A:=A) (B:=B) (L:=L) (ta:=ta) (tb:=tb) hq hok hL hta htb h11 hk h19 h15 h
 exact go
theorem qc.j5c {qs r2 r3:List As} {lb db:Nat} {ta tb t11 t12:Sl} (hq:∀ (F0:List Nat) (w0 w:World),St F0 w0 w qs→St F0 w0 w ps) [PkB kb qs [.slice s.a s.len s.cap,.slice A.a A.len A.cap,.slice B.a B.len B.cap] r1] [PkF hcA lb qs (dA0 L) r2] [PkF hcA db qs (dB0 L) r3] [Rdb F0 w0 s qs 3 (tks L)]
 (hok:∀ t ∈ L,tkOk t) (hL:L.length≤1000000) (hta:ta.len=(dA L).length) (htb:tb.len=(dB L).length) (h11:t11.len=(dPs L).length)
 (hk:∀ t w',t.len=((dynB L).length+7) / 8→t.cap=t.len→St F0 w0 w' (rdA 1 t (u8s (bytes (dynB L))) :: ps)→K (.returned (.slice t.a t.len t.cap)) w')
 (h:St F0 w0 w (qcc 1 t12 (ivs .i64 (qwm 19 (dS0 L))) :: qcc 3 t11 ((dPs L).flatMap pcC) :: qs)):qc.j5 (some ⟨kb,0,none⟩) ta tb (some ⟨lb,0,none⟩) (some ⟨db,0,none⟩) t11 t12 (fun v w'=>K (.returned v) w') w:=by
 have lp:=qkq L
 have lp1:=d_ps_pos L
 have lS:=qgs L
 have hm0:=maxF_in (qwm 19 (dS0 L)) 18
 unfold qc.j5
 refine qac.c (s:=t12) h (by rw [qvd]; decide) (by rw [qvd]; decide) fun w h=>⟨_,rfl,?_⟩
 rw [qvd,show 19 - 1=18 from rfl]
 refine qne (fun g=>?_) (fun g=>?_)
 · have g:maxF (qwm 19 (dS0 L)) 18=(t11.len:Int):=by simpa using g
   have hdS:=dS_yes (L:=L) (by omega)
   have hpc:=(qfs L).ok _ (List.getElem_mem lp1)
   have hk2:=dK_lt L
   have ek:(dK L:Int)=Int.tmod ((dPs L)[0].1+1) 2:=by
    have:=hpc.1
    have e0:=dK_at (L:=L) (by omega)
    rw [Int.tmod_eq_emod_of_nonneg (by omega)]
    omega
   refine h.lrI (s:=t11) (f:=pcC) (o:=0) 0 rfl lp1 (by decide) rfl ?_
   have:=hpc.1
   have:=hpc.2.1
   refine qn (qd (by omega) (by omega)) ⟨by decide,?_⟩
   have hc1:=qzj (n:=19) (S:=dS0 L) (dK L)
   refine qn ek.symm ?_
   refine h.lx (s:=t12) (dK L) rfl (by rw [qvd]; omega) ?_
   refine qn (qd (by omega) (by omega)) ?_
   refine h.sx (s:=t12) (dK L) rfl (by rw [qvd]; omega) fun w h=>?_
   rw [qvm _ (by omega),← hdS,dC_def] at h
   exact qc.j6c (kb:=kb) (lb:=lb) (db:=db) (s:=s) (A:=A) (B:=B) (L:=L) (ta:=ta) (tb:=tb) hq hok hL hta htb h11 hk h
 · have g:¬ maxF (qwm 19 (dS0 L)) 18=(t11.len:Int):=by simpa using g
   have hdS:=dS_no (L:=L) (by omega)
   rw [← hdS,dC_def] at h
   exact qc.j6c (kb:=kb) (lb:=lb) (db:=db) (s:=s) (A:=A) (B:=B) (L:=L) (ta:=ta) (tb:=tb) hq hok hL hta htb h11 hk h
theorem qc.c (h:St F0 w0 w ps) [PkB kb ps [.slice s.a s.len s.cap,.slice A.a A.len A.cap,.slice B.a B.len B.cap] r1] [Rdb F0 w0 A ps 1 (ivs .i64 (litC L))] [Rdb F0 w0 B ps 1 (ivs .i64 (disC L))] [Rdb F0 w0 s ps 3 (tks L)] (hok:∀ t ∈ L,tkOk t) (hL:L.length≤1000000)
 (hk:∀ t w',t.len=((dynB L).length+7) / 8→t.cap=t.len→St F0 w0 w' (rdA 1 t (u8s (bytes (dynB L))) :: ps)→K (.returned (.slice t.a t.len t.cap)) w'):Calls Tryz.prog 228 ⟨[.pointer (some ⟨kb,0,none⟩)]⟩ w K:=by
 have la:=dA_len L
 have lb':=dB_len L
 have lp:=qkq L
 have lp1:=d_ps_pos L
 refine qfc (qc.ok _ _ _ ?_)
 unfold qc
 refine qtd ?_
 simp only [qvf,Nat.zero_add]
 refine h.fL (b:=kb) ?_
 refine qm.c (s:=A) (xs:=litC L) (m:=15) h (fun t3 w _ h3 h=>⟨t3,_,rfl,?_⟩) (fun w he _=>absurd (litC_least hL) he)
 rw [dA0_def] at h
 rw [qqk] at h3
 unfold qc.j1
 refine qtd ?_
 simp only [qvf,Nat.zero_add]
 refine h.fL (b:=kb) ?_
 refine qm.c (s:=B) (xs:=disC L) (m:=15) h (fun t5 w _ h5 h=>⟨t5,_,rfl,?_⟩) (fun w he _=>absurd (disC_least hL) he)
 rw [dB0_def] at h
 rw [qrk] at h5
 have c5:=h.cap (by decide)
 have c3:=h.drop.cap (by decide)
 refine qhc.c (s:=t3) (ls:=dA0 L) h (fun lb w hn h=>⟨_,_,rfl,?_⟩) (fun w hn _=>absurd (dA0_new L) hn)
 unfold qc.j2
 refine qhc.c (s:=t5) (ls:=dB0 L) h (fun db w hn h=>⟨_,_,rfl,?_⟩) (fun w hn _=>absurd (dB0_new L) hn)
 refine qxd.c (s:=t3) (xs:=dA0 L) (m:=257) h (by rw [dA0_len]; decide) c3 fun ta w ra hta hca h=>⟨ta,rfl,?_⟩
 refine qxd.c (s:=t5) (xs:=dB0 L) (m:=1) h (by rw [dB0_len]; decide) c5 fun tb w rb htb hcb h=>⟨tb,rfl,?_⟩
 rw [dA_def] at ra
 rw [dB_def] at rb
 have hta:ta.len=(dA L).length:=by
  have:=(h.rdb ta).1
  rw [ql] at this; omega
 have htb:tb.len=(dB L).length:=by
  have:=(h.rdb tb).1
  rw [ql] at this; omega
 generalize hps:hcA db (dB0 L) :: hcA lb (dA0 L) :: qcc 1 t5 (ivs .i64 (dB0 L)) :: qcc 1 t3 (ivs .i64 (dA0 L)) :: ps=qs at h ra rb
 have i1:∃ r,PkB kb qs [.slice s.a s.len s.cap,.slice A.a A.len A.cap,.slice B.a B.len B.cap] r:=⟨_,by rw [← hps]; infer_instance⟩
 have i2:∃ r,PkF hcA lb qs (dA0 L) r:=⟨_,by rw [← hps]; infer_instance⟩
 have i3:∃ r,PkF hcA db qs (dB0 L) r:=⟨_,by rw [← hps]; infer_instance⟩
 have i4:Rdb F0 w0 s qs 3 (tks L):=by rw [← hps]; infer_instance
 have hq:∀ (F0:List Nat) (w0 w:World),St F0 w0 w qs→St F0 w0 w ps:=fun F0 w0 w h=>by rw [← hps] at h; exact h.drop.drop.drop.drop
 clear hps
 obtain ⟨r1,i1⟩:=i1
 obtain ⟨r2,i2⟩:=i2
 obtain ⟨r3,i3⟩:=i3
 unfold qc.j3
 refine h.new fun nb w h=>?_
 have h:St F0 w0 w (qzc nb [.slice ta.a ta.len ta.cap,.slice tb.a tb.len tb.cap] :: qs):=h
 refine qt.c2 (A:=ta) (B:=tb) (xs:=dA L) (ys:=dB L) h (by omega) fun tc w htc h=>⟨tc,rfl,?_⟩
 refine qjb.c (s:=tc) (xs:=dA L ++ dB L) h (by rw [List.length_append]; omega) fun t11 w h11 h=>⟨t11,rfl,?_⟩
 rw [dPs_def] at h h11
 have h:St F0 w0 w (qcc 3 t11 ((dPs L).flatMap pcC) :: qs):=h.tail fun _ _ _ h=>h.drop.drop
 refine h.makeI (k:=.i64) (n:=19) rfl rfl (by decide) fun t12 w h12 _ h=>?_
 unfold qc.j4 qc.j17
 have hS:(dS0 L).length=(dPs L).length:=qgs L
 refine qmg (fun (i:Nat) (i':Int) w'=>i'=i∧i≤(dPs L).length∧St F0 w0 w' (qcc 1 t12 (ivs .i64 (qwm 19 ((dS0 L).take i))) :: qcc 3 t11 ((dPs L).flatMap pcC) :: qs)) (fun i=>(dPs L).length - i) 0 ⟨rfl,by omega,by rw [List.take_zero,cntL_nil]; exact h⟩ ?_
 clear h
 rintro i i' wL I μ ⟨rfl,hi,h⟩ hnx
 unfold qc.b4
 refine qnc (fun g=>?_) (fun g=>?_)
 · have hi2:i < (dPs L).length:=by omega
   have hpc:=(qfs L).ok _ (List.getElem_mem hi2)
   have es:=dS0_at hi2
   refine h.lr (s:=t11) (f:=pcC) i rfl hi2 ?_
   generalize (dPs L)[i]=q at hpc es ⊢
   rw [qkk]
   refine h.new fun a w h=>⟨rfl,?_⟩
   have h:St F0 w0 w (qzc a (pcC (0,0,0)) :: qcc 1 t12 (ivs .i64 (qwm 19 ((dS0 L).take i))) :: qcc 3 t11 ((dPs L).flatMap pcC) :: qs):=h
   refine h.sA (b:=a) (l':=pcC q) rfl rfl (qai _) fun w h=>?_
   have h:St F0 w0 w (qzc a [.int .i64 q.1,.int .i64 q.2.1,.int .i64 q.2.2] :: qcc 1 t12 (ivs .i64 (qwm 19 ((dS0 L).take i))) :: qcc 3 t11 ((dPs L).flatMap pcC) :: qs):=h
   simp only [qvf,Nat.zero_add]
   have h0:=hpc.1
   have h19:=hpc.2.1
   have hc1:=qzj (n:=19) (S:=(dS0 L).take i) q.1.toNat
   rw [List.length_take] at hc1
   refine h.fI (b:=a) ?_
   refine h.lx (s:=t12) q.1.toNat (by omega) (by rw [qvd]; omega) ?_
   refine qn (qd (by omega) (by omega)) ?_
   refine h.sx (s:=t12) q.1.toNat (by omega) (by rw [qvd]; omega) fun w h=>?_
   rw [qvm _ (by omega),← es] at h
   refine qn (qd (by omega) (by omega)) ?_
   exact ⟨⟨by trivial,by trivial,by trivial,by trivial,by trivial,by trivial,by trivial,by trivial,by trivial⟩,hnx (i+1) _ _ ⟨by omega,by omega,h.sub⟩ (by omega)⟩
 · have:i=(dPs L).length:=by omega
   subst this
   rw [List.take_of_length_le (by omega)] at h
   clear hnx
   exact qc.j5c (kb:=kb) (lb:=lb) (db:=db) (s:=s) (A:=A) (B:=B) (L:=L) (ta:=ta) (tb:=tb) hq hok hL hta htb h11 hk h
end
end Go.Proofs.YtejnemneenjliaaGreat
namespace Go.Proofs.YtejnemneenjliaaGreat
open Go Go.Proofs
set_option linter.unusedVariables false
set_option linter.unusedSimpArgs false
attribute [local irreducible] apK cpK mkK br dynB
theorem xor_sub {k:Nat} (h:k < 65536):65535 ^^^ k=65535 - k:=by
 apply Nat.eq_of_testBit_eq
 intro i
 have e1:65535 - k=2 ^ 16 - (k+1):=by omega
 rw [e1,Nat.testBit_two_pow_sub_succ (by omega),Nat.testBit_xor,show (65535:Nat)=2 ^ 16 - 1 from rfl,Nat.testBit_two_pow_sub_one]
 by_cases hi:i < 16
 · simp [hi]
 · have:k.testBit i=false:=Nat.testBit_lt_two_pow (Nat.lt_of_lt_of_le h (Nat.pow_le_pow_right (n:=2) (i:=16) (by decide) (show 16≤i by omega)))
   simp [hi,this]
theorem not_bits {k:Nat} (h:k < 65536):qi (qyl .i64 (-1) (k:Int)) 16=qi ((65535 ^^^ k:Nat):Int) 16:=by
 refine val_inj (by rw [qk,qk]) ?_
 have h1:=qxk (qyl .i64 (-1) (k:Int)) 16
 have h2:=qxk ((65535 ^^^ k:Nat):Int) 16
 rw [xor_sub h] at h2 ⊢
 have e:(BitVec.ofInt 64 (-1) ^^^ BitVec.ofInt 64 (k:Int)).toNat=18446744073709551615 - k:=by
  rw [show BitVec.ofInt 64 (-1)=BitVec.allOnes 64 by decide,BitVec.allOnes_xor,BitVec.toNat_not,BitVec.ofInt_natCast,BitVec.toNat_ofNat,Nat.mod_eq_of_lt (by omega)]
 have hx:qyl .i64 (-1) (k:Int)=IntKind.i64.wrap (((18446744073709551615 - k:Nat)):Int):=by
  show IntKind.i64.wrap (((BitVec.ofInt 64 (-1) ^^^ BitVec.ofInt 64 (k:Int)).toNat:Nat):Int)=_
  rw [e]
 have hw:=wrap_mod .i64 (((18446744073709551615 - k:Nat)):Int)
 rw [← hx,show (2:Int) ^ IntKind.i64.bits=18446744073709551616 by decide] at hw
 rw [show (2:Int) ^ 16=65536 by decide] at h1 h2
 omega
def byN (D:List Bool):Nat:=(D.length+7) / 8
def pickB (D E:List Bool):List Bool:=if byN E < byN D then E else D
def dfB (xs:List Int) (L:List Tk):List Bool:=pickB (pickB (sdB xs) (fxB L)) (dynB L)
theorem pick_or (D E:List Bool):(pickB D E=D ∨ pickB D E=E)∧byN (pickB D E)≤byN D:=by
 unfold pickB
 split
 · exact ⟨Or.inr rfl,by omega⟩
 · exact ⟨Or.inl rfl,Nat.le_refl _⟩
theorem sdB_len (xs:List Int):(sdB xs).length=40+8 * xs.length:=by
 unfold sdB
 simp only [List.length_append,List.length_cons,List.length_nil,List.length_replicate,qk,qxo]
 omega
theorem dfB_len (xs:List Int) (L:List Tk):byN (dfB xs L)≤5+xs.length:=by
 have h1:=(pick_or (sdB xs) (fxB L)).2
 have h2:=(pick_or (pickB (sdB xs) (fxB L)) (dynB L)).2
 have h3:=sdB_len xs
 unfold dfB
 unfold byN at *
 omega
theorem dfB_ok {xs:List Int} {L:List Tk} (hb:∀ x ∈ xs,0≤x∧x < 256) (hl:xs.length < 65536) (hL:qng xs 0 L xs.length):Dfl xs (dfB xs L):=by
 have h1:=Dfl.stored hb hl
 have h2:=Dfl.fixed hb hL (fun t ht=>fx_in (hL.tkOk hb t ht))
 have h3:=dynB_ok hb hL
 have h4:Dfl xs (pickB (sdB xs) (fxB L)):=by
  rcases (pick_or (sdB xs) (fxB L)).1 with e | e <;> rw [e] <;> assumption
 unfold dfB
 rcases (pick_or (pickB (sdB xs) (fxB L)) (dynB L)).1 with e | e <;> rw [e] <;> assumption
abbrev tkF (xs:List Int) (e:Int):List Tk:=findL xs (looksOf e) xs.length 0
theorem qzq (xs:List Int) (e:Int):qng xs 0 (tkF xs e) xs.length:=findL_makes xs _ _ _ (by omega) (Nat.zero_le _)
theorem tkF_len (xs:List Int) (e:Int):(tkF xs e).length≤xs.length:=by
 have:=(qzq xs e).le (Nat.zero_le _)
 omega
def qif (xs:List Int) (e:Int):List Bool:=dfB xs (tkF xs e)
theorem packB_ok {xs:List Int} (hb:∀ x ∈ xs,0≤x∧x < 256) (hl:xs.length < 65536) (e:Int):Dfl xs (qif xs e):=dfB_ok hb hl (qzq xs e)
theorem pad_al (l:List Bool) (h:l.length % 8=0):pad l=[]:=by
 unfold pad
 rw [h]; rfl
section
variable {F0:List Nat} {w0 w:World} {ps:List As} {s:Sl} {xs:List Int} {K:Ending→World→Prop}
theorem qcb.c (h:St F0 w0 w ps) [hr:Rdb F0 w0 s ps 1 (u8s xs)] (hb:∀ x ∈ xs,0≤x∧x < 256) (hl:xs.length < 65536) (hc:s.len≤s.cap)
 (hk:∀ t w',t.len=byN (sdB xs)→t.cap=t.len→St F0 w0 w' (rdA 1 t (u8s (bytes (sdB xs))) :: ps)→K (.returned (.slice t.a t.len t.cap)) w'):Calls Tryz.prog 226 ⟨[.slice s.a s.len s.cap]⟩ w K:=by
 have hls:=(h.rdb s).1
 rw [ql] at hls
 refine qfc (qcb.ok _ _ _ ?_)
 unfold qcb qcb.j1
 refine qnc (fun g=>by omega) (fun g=>?_)
 refine quf.c h fun wb w h=>⟨_,rfl,?_⟩
 unfold qcb.j2 qcb.j4
 refine qkg (fun (f:Bool) (b':Sl) (m':Bool) w'=>m'=f∧(f=true→b'=s∧St F0 w0 w' (wrL wb [] :: ps))∧(f=false→St F0 w0 w' (wrL wb (sdB xs) :: ps))) (fun f=>if f then 1 else 0) true ⟨rfl,fun _=>⟨rfl,h⟩,fun e=>by cases e⟩ ?_
 clear h
 rintro f b' m' wL I μ ⟨rfl,h1,h2⟩ hin
 unfold qcb.b1
 cases m' with
 | false =>
   refine qsj ?_
   have h:=h2 rfl
   unfold qcb.j3
   refine qwe.c h (by rw [sdB_len]; omega) fun t w h1 h2 h=>⟨t,rfl,?_⟩
   exact hk t w h1 h2 h.sub
 | true =>
   obtain ⟨rfl,h⟩:=h1 rfl
   refine qym ?_
   unfold qcb.j5
   refine qn (show (if (65535:Int) < (b'.len:Int) then (65535:Int) else (b'.len:Int))=(b'.len:Int) by rw [if_neg (by omega)]) ?_
   have ef:decide (((b'.len:Nat):Int) < (b'.len:Int))=false:=decide_eq_false (by omega)
   rw [ef]
   unfold qcb.j6
   refine qsj ?_
   unfold qcb.j7
   refine qhb.cl h (by simp) fun w h=>⟨rfl,?_⟩
   rw [show ([] ++ pb 1 3:List Bool)=[true,false,false] by decide +kernel] at h
   refine qff.c h (by simp) fun w h=>⟨rfl,?_⟩
   rw [show pad [true,false,false]=List.replicate 5 false by decide +kernel] at h
   unfold qcb.j8
   refine qhb.cl h (by simp) fun w h=>⟨rfl,?_⟩
   rw [qql (by decide) (by decide),show (16:Int).toNat=16 from rfl] at h
   refine qn (show qyl .i64 (if IntKind.signed .i64 then -1 else IntKind.max .i64) (b'.len:Int)=qyl .i64 (-1) (b'.len:Int) from rfl) ?_
   refine qhb.cl h (by simp [qk]) fun w h=>⟨rfl,?_⟩
   rw [qql (by decide) (by decide),show (16:Int).toNat=16 from rfl,not_bits (by omega)] at h
   have el:b'.len=xs.length:=by omega
   generalize hP:[true,false,false] ++ List.replicate 5 false ++ qi (b'.len:Int) 16 ++ qi ((65535 ^^^ b'.len:Nat):Int) 16=P at h
   have hPl:P.length=40:=by rw [← hP]; simp [qk]
   have hPs:P ++ bb xs=sdB xs:=by
    rw [← hP,el]
    unfold sdB
    simp only [List.append_assoc]
   unfold qcb.j9
   refine qvk (n:=b'.len) rfl (by omega) (que ?_)
   haveI:Rdb F0 w0 ⟨qgf b'.a b'.cap 0 1,b'.len - 0,b'.cap - 0⟩ ps 1 (u8s xs):=hr.cutAs 0 b'.len _ (by omega) (by omega) hc (by rw [List.drop_zero,List.take_of_length_le (by omega)])
   generalize hq:(⟨qgf b'.a b'.cap 0 1,b'.len - 0,b'.cap - 0⟩:Sl)=q at *
   have hql:q.len=xs.length:=by rw [← hq,← el]; rfl
   unfold qcb.j11
   refine qmg (fun (i:Nat) (i':Int) w'=>i'=i∧i≤xs.length∧St F0 w0 w' (wrL wb (P ++ bb (xs.take i)) :: ps)) (fun i=>xs.length - i) 0 ⟨rfl,by omega,by simpa [bb] using h⟩ ?_
   clear h
   rintro i i' wL2 I2 μ2 ⟨rfl,hi,h⟩ hnx
   unfold qcb.b2
   have hbl:=qxo (xs.take i)
   rw [List.length_take] at hbl
   refine qnc (fun g=>?_) (fun g=>?_)
   · have hi2:i < xs.length:=by omega
     refine h.lx (s:=q) i rfl hi2 ?_
     have hx:=hb _ (qee hi2)
     refine qgg.c h (by rw [List.length_append]; omega) hx fun w h=>⟨rfl,?_⟩
     rw [pad_al _ (by rw [List.length_append]; omega),List.append_nil,List.append_assoc,← bb_snoc,← qfh hi2] at h
     refine qn (qd (by omega) (by omega)) ?_
     exact ⟨⟨rfl,rfl,rfl,rfl,rfl,rfl⟩,hnx (i+1) _ _ ⟨by omega,by omega,h⟩ (by omega)⟩
   · have:i=xs.length:=by omega
     subst this
     rw [List.take_length,hPs] at h
     unfold qcb.j10
     refine qvk (n:=b'.len) rfl (by omega) (que ?_)
     exact ⟨rfl,hin false _ _ _ ⟨rfl,fun e=>(by cases e),fun _=>h⟩ (by decide)⟩
theorem plain_fixed:plainF Tryz.prog 227=true:=by kernel_rfl
theorem plain_dynamic:plainF Tryz.prog 228=true:=by kernel_rfl
attribute [local irreducible] asFn whenB plainF
def dfI (xs:List Int) (L:List Tk):Nat→List Bool
 | 0=>sdB xs
 | 1=>pickB (sdB xs) (fxB L)
 | _=>dfB xs L
abbrev dfV:List Value:=[.func (.func 227) ⟨[]⟩ ⟨[]⟩,.func (.func 228) ⟨[]⟩ ⟨[]⟩]
theorem qmc.loop {L:List Tk} {kb:Nat} {s' A B out t19:Sl} (h:St F0 w0 w (rdA 1 out (u8s (bytes (sdB xs))) :: rdA 1 t19 dfV :: qzc kb [.slice s'.a s'.len s'.cap,.slice A.a A.len A.cap,.slice B.a B.len B.cap] :: rdA 1 A (ivs .i64 (litC L)) :: rdA 1 B (ivs .i64 (disC L)) :: rdA 3 s' (tks L) :: ps))
 (h19:t19.len=2) (ho1:out.len=byN (sdB xs)) (ho2:out.cap=out.len) (hok:∀ t ∈ L,tkOk t) (hL:L.length≤1000000)
 (hk:∀ t w',t.len=byN (dfB xs L)→t.cap=t.len→St F0 w0 w' (rdA 1 t (u8s (bytes (dfB xs L))) :: ps)→K (.returned (.slice t.a t.len t.cap)) w') :
 qmc.j4 (some ⟨kb,0,none⟩) out t19 2 0 (fun v w'=>K (.returned v) w') w:=by
 unfold qmc.j4
 refine qkg (fun (i:Nat) (o:Sl) (i':Int) w'=>i'=i∧i≤2∧o.len=byN (dfI xs L i)∧o.cap=o.len∧St F0 w0 w' (rdA 1 o (u8s (bytes (dfI xs L i))) :: rdA 1 t19 dfV :: qzc kb [.slice s'.a s'.len s'.cap,.slice A.a A.len A.cap,.slice B.a B.len B.cap] :: rdA 1 A (ivs .i64 (litC L)) :: rdA 1 B (ivs .i64 (disC L)) :: rdA 3 s' (tks L) :: ps)) (fun i=>2 - i) 0 ⟨rfl,by decide,ho1,ho2,h⟩ ?_
 clear h ho1 ho2
 rintro i o i' wL I μ ⟨rfl,hi,ho1,ho2,h⟩ hin
 unfold qmc.b1
 refine qnc (fun g=>?_) (fun g=>?_)
 · have hr:=h.rdb t19
   refine hr.ix (by decide) (by omega) (by omega) fun a ha=>?_
   have ei:((i:Int)).toNat * 1=i:=by omega
   rw [ei]
   have pick:∀ (E:List Bool) (t:Sl) w,dfI xs L (i+1)=pickB (dfI xs L i) E→t.len=byN E→t.cap=t.len→St F0 w0 w (rdA 1 t (u8s (bytes E)) :: rdA 1 o (u8s (bytes (dfI xs L i))) :: rdA 1 t19 dfV :: qzc kb [.slice s'.a s'.len s'.cap,.slice A.a A.len A.cap,.slice B.a B.len B.cap] :: rdA 1 A (ivs .i64 (litC L)) :: rdA 1 B (ivs .i64 (disC L)) :: rdA 3 s' (tks L) :: ps) →
    br (decide ((((t.len:Nat):Int):Int) < ((o.len:Nat):Int))) (lt (IntKind.i64.wrap ((i:Int)+1)) fun x9=>((some ⟨kb,0,none⟩:Option Addr)=some ⟨kb,0,none⟩∧t19=t19∧(2:Int)=2)∧I t x9 w∧μ t x9 w < μ o (i:Int) wL)
     (lt (IntKind.i64.wrap ((i:Int)+1)) fun x9=>((some ⟨kb,0,none⟩:Option Addr)=some ⟨kb,0,none⟩∧t19=t19∧(2:Int)=2)∧I o x9 w∧μ o x9 w < μ o (i:Int) wL):=by
    intro E t w he h1 h2 h
    unfold pickB at he
    refine qnc (fun g2=>?_) (fun g2=>?_)
    · rw [if_pos (by omega)] at he
      refine qn (qd (by omega) (by omega)) ?_
      exact ⟨⟨rfl,rfl,rfl⟩,hin (i+1) _ _ _ ⟨by omega,by omega,by rw [he]; exact h1,h2,by rw [he]; exact h.tail fun _ _ _ h=>h.drop⟩ (by omega)⟩
    · rw [if_neg (by omega)] at he
      refine qn (qd (by omega) (by omega)) ?_
      exact ⟨⟨rfl,rfl,rfl⟩,hin (i+1) _ _ _ ⟨by omega,by omega,by rw [he]; exact ho1,ho2,by rw [he]; exact h.drop⟩ (by omega)⟩
   rcases (show i=0 ∨ i=1 by omega) with rfl | rfl
   · refine ⟨.func (.func 227) ⟨[]⟩ ⟨[]⟩,by rw [hr.cell ha (by decide)]; rfl,?_⟩
     show asFn _ _
     refine asFn_i (f:=227) (first:=⟨[]⟩) (cap:=⟨[]⟩) ?_
     refine whenB_i plain_fixed ?_
     refine Eq.mp (congrArg (fun a=>Calls Tryz.prog 227 a _ _) (show (⟨[.pointer (some ⟨kb,0,none⟩)]⟩:Array Value)=⟨((⟨[]⟩:Array Value).toList ++ [.pointer (some ⟨kb,0,none⟩)]) ++ (⟨[]⟩:Array Value).toList⟩ from rfl)) ?_
     refine qcg.c (kb:=kb) (s:=s') (A:=A) (B:=B) (L:=L) h hok hL fun t w h1 h2 h=>⟨t,rfl,?_⟩
     exact pick (fxB L) t w rfl h1 h2 h
   · refine ⟨.func (.func 228) ⟨[]⟩ ⟨[]⟩,by rw [hr.cell ha (by decide)]; rfl,?_⟩
     show asFn _ _
     refine asFn_i (f:=228) (first:=⟨[]⟩) (cap:=⟨[]⟩) ?_
     refine whenB_i plain_dynamic ?_
     refine Eq.mp (congrArg (fun a=>Calls Tryz.prog 228 a _ _) (show (⟨[.pointer (some ⟨kb,0,none⟩)]⟩:Array Value)=⟨((⟨[]⟩:Array Value).toList ++ [.pointer (some ⟨kb,0,none⟩)]) ++ (⟨[]⟩:Array Value).toList⟩ from rfl)) ?_
     refine qc.c (kb:=kb) (s:=s') (A:=A) (B:=B) (L:=L) h hok hL fun t w h1 h2 h=>⟨t,rfl,?_⟩
     exact pick (dynB L) t w rfl h1 h2 h
 · have:i=2:=by omega
   subst this
   unfold qmc.j3
   exact hk o wL ho1 ho2 (h.tail fun _ _ _ h=>h.drop.drop.drop.drop.drop)
theorem qmc.c {e:Int} (h:St F0 w0 w ps) [Rdb F0 w0 s ps 1 (u8s xs)] (hb:∀ x ∈ xs,0≤x∧x < 256) (hl:xs.length < 65536) (hc:s.len≤s.cap)
 (hk:∀ t w',t.len=byN (qif xs e)→t.cap=t.len→St F0 w0 w' (rdA 1 t (u8s (bytes (qif xs e))) :: ps)→K (.returned (.slice t.a t.len t.cap)) w'):Calls Tryz.prog 174 ⟨[.slice s.a s.len s.cap,.int .i64 e]⟩ w K:=by
 have hls:=(h.rdb s).1
 rw [ql] at hls
 have htl:=tkF_len xs e
 have hok:=(qzq xs e).tkOk hb
 refine qfc (qmc.ok _ _ _ _ ?_)
 unfold qmc qmc.j1
 refine qnc (fun g=>by omega) (fun g=>?_)
 refine qyc.c (s:=s) h hb hc (by omega) fun s' w h1 h2 h=>⟨s',rfl,?_⟩
 refine qnd.c (s:=s') (L:=tkF xs e) h hok (by omega) fun kb A B w hA hB h=>⟨_,rfl,?_⟩
 refine qcb.c (s:=s) (xs:=xs) h hb hl hc fun out w ho1 ho2 h=>⟨out,rfl,?_⟩
 unfold qmc.j2
 refine h.new fun nb w h=>?_
 have h:St F0 w0 w (qzc nb dfV :: rdA 1 out (u8s (bytes (sdB xs))) :: qzc kb [.slice s'.a s'.len s'.cap,.slice A.a A.len A.cap,.slice B.a B.len B.cap] :: rdA 1 A (ivs .i64 (litC (tkF xs e))) :: rdA 1 B (ivs .i64 (disC (tkF xs e))) :: rdA 3 s' (tks (tkF xs e)) :: ps):=h
 have h:=h.blkrd (n:=2) rfl
 exact qmc.loop (t19:=⟨some ⟨nb,0,none⟩,2,2⟩) h.at1 rfl ho1 ho2 hok (by omega) hk
end
end Go.Proofs.YtejnemneenjliaaGreat
namespace Go.Proofs.YtejnemneenjliaaGreat
open Go Go.Proofs
set_option linter.unusedVariables false
set_option linter.unusedSimpArgs false
attribute [local irreducible] apK cpK mkK br
theorem qko (xs:List Int) (e:Int):((qif xs e).length+7) / 8≤5+xs.length:=dfB_len xs (tkF xs e)
attribute [local irreducible] qif
section
variable {F0:List Nat} {w0 w:World} {ps:List As} {s:Sl} {xs:List Int} {K:Ending→World→Prop}
theorem qak.c {e:Int} (h:St F0 w0 w ps) [Rdb F0 w0 s ps 1 (u8s xs)] (hb:∀ x ∈ xs,0≤x∧x < 256) (hl:xs.length < 65536) (hc:s.len≤s.cap)
 (hk:∀ t w',t.len=(frm xs (qif xs e)).length→t.cap=t.len→St F0 w0 w' (rdA 1 t (u8s (frm xs (qif xs e))) :: ps)→K (.returned (.slice t.a t.len t.cap)) w'):Calls Tryz.prog 114 ⟨[.slice s.a s.len s.cap,.int .i64 e]⟩ w K:=by
 have hls:=(h.rdb s).1
 rw [ql] at hls
 have hpl:(bytes (qif xs e)).length=((qif xs e).length+7) / 8:=qjj _
 have hple:=qko xs e
 refine qfc (qak.ok _ _ _ _ ?_)
 unfold qak
 refine qnc (fun g=>by omega) (fun g=>?_)
 refine h.new fun nb w h=>?_
 have h:St F0 w0 w (qzc nb (u8s [120,156]) :: ps):=h
 have h:=h.ownB (n:=2) rfl
 refine qmc.c (s:=s) (xs:=xs) h hb hl hc fun r w h1 h2 h=>⟨r,rfl,?_⟩
 refine h.appI (s:=⟨some ⟨nb,0,none⟩,2,2⟩) (s2:=r) (by rw [hpl]; show 2+_≤_; omega) fun t w h=>?_
 refine qdk.c (s:=s) h hb (by omega) fun w h=>⟨_,rfl,?_⟩
 have ha:=adV_b xs
 refine qn (qd (by omega) (by omega)) ?_
 refine qil.d (s:=t) (xs:=[120,156] ++ bytes (qif xs e)) h (by rw [List.length_append,hpl]; show 2+_≤_; omega) fun u w h3 h4 h=>⟨u,rfl,?_⟩
 have ef:[120,156] ++ bytes (qif xs e) ++ beJ 4 4 (adV xs)=frm xs (qif xs e):=rfl
 rw [ef] at h
 refine hk u w ?_ h4 h.sub
 rw [h3,qyj,List.length_append,hpl]
 rfl
end
end Go.Proofs.YtejnemneenjliaaGreat
namespace Go.Proofs.YtejnemneenjliaaGreat
open Go Go.Proofs
set_option linter.unusedVariables false
set_option linter.unusedSimpArgs false
section
variable {F0:List Nat} {w0 w:World} {ps rest:List As} {P:Program} {e:TypeId} {z:Value} {s s2:Sl}
theorem St.appF {k:IntKind} {zs ys:List Int} {K:Sl→World→Prop} [he:Elt P e z] (h:St F0 w0 w ps) [Rdb F0 w0 s ps 1 (ivs k zs)] [Rdb F0 w0 s2 ps 1 (ivs k ys)] (hc:s.cap=s.len) (hy:0 < ys.length) (hlen:zs.length+ys.length≤1099511627776)
 (hk:∀ s' w',St F0 w0 w' (qcc 1 s' (ivs k (zs ++ ys)) :: ps)→K s' w'):rdO w s2.a (s2.len * 1) fun c=>apK P e w s.a s.len s.cap s2.len c K:=by
 have hr:=h.rdb s
 have hr2:=h.rdb s2
 have hl:=hr.1
 have hl2:=hr2.1
 rw [ql] at hl hl2
 refine hr2.rdO (by rw [ql]; omega) ?_
 obtain ⟨i,h1,h2,h3,h4⟩:=he.info
 have hbo:P.bytesOf e=i.bytes:=by simp [Program.bytesOf,h1]
 unfold apK withSz
 simp only [h1,h2]
 rw [if_neg (by omega)]
 refine ⟨⟨?_,by rw [hbo]; exact h3⟩,?_⟩
 · rw [hbo]
   have:=next_le (s.len+s2.len) s.cap (by omega) (by omega)
   refine Nat.le_trans (Nat.mul_le_mul this h4) ?_
   rw [show (2:Nat) ^ 48=281474976710656 from rfl]
   omega
 · refine hr.rdO (by rw [ql]; omega) fun c hcc=>?_
   have hbl:=Blk.new w.drew (ivs k zs ++ ivs k ys ++ qpl (c - (s.len+s2.len)) (zc P e).toList) e
   have e1:((⟨ivs k zs⟩:Array Value) ++ (⟨ivs k ys⟩:Array Value) ++ ⟨qpl (c - (s.len+s2.len)) (zc P e).toList⟩)=⟨ivs k zs ++ ivs k ys ++ qpl (c - (s.len+s2.len)) (zc P e).toList⟩:=by
    apply Array.ext'
    simp
   rw [e1]
   refine hk _ _ (h.add (f':=[w.heap.size]) (((Mod.drew w).trans (Mod.alloc w.drew _) (fun _ hx=>by cases hx)).mono (fun _ hx=>by cases hx)) ?_ ?_)
   · rw [← qor]
     refine Or.inr ⟨w.heap.size,_,rfl,hbl,?_,?_,rfl⟩
     · show _=(s.len+s2.len) * 1
       rw [List.length_append,ql,ql]; omega
     · show _=c * 1
       rw [List.length_append,List.length_append,ql,ql,qqh,he.zc]
       show _+(c - (s.len+s2.len)) * 1=_
       omega
   · intro x hx
     have:x=w.heap.size:=by simpa using hx
     exact Or.inr (by omega)
end
section
variable {F0:List Nat} {w0 w:World} {ps rest:List As} {b o:Nat} {l l':List Value}
theorem add0 (b o:Nat):Addr.add ⟨b,0,none⟩ o=⟨b,o,none⟩:=by rw [qvf,Nat.zero_add]
theorem St.gI {k:IntKind} {n:Int} {K:Int→Prop} (h:St F0 w0 w ps) [PkB b ps l rest] [g:GetL l o (.int k n)] (hk:K n):ldI k w (Addr.add ⟨b,0,none⟩ o) K:=by rw [add0]; exact (h.toB b).blk.ldI g.get hk
theorem St.gB {n:Bool} {K:Bool→Prop} (h:St F0 w0 w ps) [PkB b ps l rest] [g:GetL l o (.bool n)] (hk:K n):ldB w (Addr.add ⟨b,0,none⟩ o) K:=by rw [add0]; exact (h.toB b).blk.ldB g.get hk
theorem St.gL {a:Option Addr} {n c:Nat} {K:Sl→Prop} (h:St F0 w0 w ps) [PkB b ps l rest] [g:GetL l o (.slice a n c)] (hk:K ⟨a,n,c⟩):ldL w (Addr.add ⟨b,0,none⟩ o) K:=by rw [add0]; exact (h.toB b).blk.ldL (n:=⟨a,n,c⟩) g.get hk
theorem St.gst {v:Value} {K:World→Prop} (h:St F0 w0 w ps) [PkB b ps l rest] [g:SetL l o v l'] (hs:storable v) (hk:∀ w',St F0 w0 w' (qzc b l' :: rest)→K w'):Go.Proofs.YtejnemneenjliaaGreat.st w (Addr.add ⟨b,0,none⟩ o) v K:=by
 rw [add0]
 exact (h.toB b).st g.lt hs fun w' h=>hk w' (by rw [g.set] at h; exact h)
end
end Go.Proofs.YtejnemneenjliaaGreat
namespace Go.Proofs.YtejnemneenjliaaGreat
open Go Go.Proofs
set_option linter.unusedVariables false
set_option linter.unusedSimpArgs false
attribute [local irreducible] apK cpK mkK br qif
structure En where
 kind:Int
 size:Int
 back:Int
 base:List Int
 hb:base.length=20
 data:Sl
 at':Int
 len:Int
 crc:Int
def enC (e:En):List Value:=[.int .i64 e.kind,.int .i64 e.size,.int .i64 e.back] ++ (ivs .u8 e.base ++ [.slice e.data.a e.data.len e.data.cap,.int .i64 e.at',.int .i64 e.len,.int .u32 e.crc])
def b20:List Int:=List.replicate 20 0
def en0:En:=⟨0,0,0,b20,rfl,⟨none,0,0⟩,0,0,0⟩
theorem qdd (e:En):(enC e).length=27:=by simp [enC,e.hb]
theorem enC_sto (e:En):∀ v ∈ (⟨enC e⟩:Array Value),storable v:=by
 intro v hv
 have hv:v ∈ enC e:=by simpa using hv
 unfold enC at hv
 rcases List.mem_append.1 hv with hv | hv
 · simp at hv; rcases hv with rfl | rfl | rfl <;> trivial
 · rcases List.mem_append.1 hv with hv | hv
   · exact qtf v (by simpa using hv)
   · simp at hv; rcases hv with rfl | rfl | rfl | rfl <;> trivial
theorem qjq (e:En) (j:Nat):(enC e)[23+j]?=([.slice e.data.a e.data.len e.data.cap,.int .i64 e.at',.int .i64 e.len,.int .u32 e.crc]:List Value)[j]?:=by
 unfold enC
 rw [List.getElem?_append_right (by simp; omega),List.getElem?_append_right (by simp [e.hb]; omega)]
 congr 1
 simp [e.hb]; omega
instance (e:En):GetL (enC e) 0 (.int .i64 e.kind):=⟨rfl⟩
instance (e:En):GetL (enC e) 1 (.int .i64 e.size):=⟨rfl⟩
instance (e:En):GetL (enC e) 2 (.int .i64 e.back):=⟨rfl⟩
instance (e:En):GetL (enC e) 23 (.slice e.data.a e.data.len e.data.cap):=⟨qjq e 0⟩
instance (e:En):GetL (enC e) 24 (.int .i64 e.at'):=⟨qjq e 1⟩
instance (e:En):GetL (enC e) 25 (.int .i64 e.len):=⟨qjq e 2⟩
instance (e:En):GetL (enC e) 26 (.int .u32 e.crc):=⟨qjq e 3⟩
theorem set_app {l m:List Value} {i j:Nat} {v:Value} (h:i=l.length+j):(l ++ m).set i v=l ++ m.set j v:=by
 subst h
 rw [List.set_append_right _ _ (by omega)]
 congr 2
 omega
instance (e:En) (n:Int):SetL (enC e) 0 (.int .i64 n) (enC { e with kind:=n }):=⟨rfl,by rw [qdd]; decide⟩
instance (e:En) (n:Int):SetL (enC e) 1 (.int .i64 n) (enC { e with size:=n }):=⟨rfl,by rw [qdd]; decide⟩
instance (e:En) (n:Int):SetL (enC e) 2 (.int .i64 n) (enC { e with back:=n }):=⟨rfl,by rw [qdd]; decide⟩
theorem qtm (e:En) (j:Nat) (v:Value):(enC e).set (23+j) v=[.int .i64 e.kind,.int .i64 e.size,.int .i64 e.back] ++ (ivs .u8 e.base ++ ([.slice e.data.a e.data.len e.data.cap,.int .i64 e.at',.int .i64 e.len,.int .u32 e.crc]:List Value).set j v):=by
 unfold enC
 rw [set_app (j:=20+j) (by simp; omega),set_app (j:=j) (by simp [e.hb])]
instance (e:En) (a:Option Addr) (n c:Nat):SetL (enC e) 23 (.slice a n c) (enC { e with data:=⟨a,n,c⟩ }):=⟨qtm e 0 _,by rw [qdd]; decide⟩
instance (e:En) (n:Int):SetL (enC e) 24 (.int .i64 n) (enC { e with at':=n }):=⟨qtm e 1 _,by rw [qdd]; decide⟩
instance (e:En) (n:Int):SetL (enC e) 25 (.int .i64 n) (enC { e with len:=n }):=⟨qtm e 2 _,by rw [qdd]; decide⟩
instance (e:En) (n:Int):SetL (enC e) 26 (.int .u32 n) (enC { e with crc:=n }):=⟨qtm e 3 _,by rw [qdd]; decide⟩
theorem qvo (e:En):((enC e).drop 3).take 20=ivs .u8 e.base:=by
 have h3:(enC e).drop 3=ivs .u8 e.base ++ [.slice e.data.a e.data.len e.data.cap,.int .i64 e.at',.int .i64 e.len,.int .u32 e.crc]:=rfl
 rw [h3,List.take_append_of_le_length (by simp [e.hb]),List.take_of_length_le (by simp [e.hb])]
theorem qlt (e:En) (zs:List Int) (hz:zs.length=20):(enC e).take 3 ++ ivs .u8 zs ++ (enC e).drop 23=enC { e with base:=zs,hb:=hz }:=by
 have h3:(enC e).take 3=[.int .i64 e.kind,.int .i64 e.size,.int .i64 e.back]:=rfl
 have hd:(enC e).drop 23=[.slice e.data.a e.data.len e.data.cap,.int .i64 e.at',.int .i64 e.len,.int .u32 e.crc]:=by
  rw [show 23=3+20 from rfl,← List.drop_drop]
  have h4:(enC e).drop 3=ivs .u8 e.base ++ [.slice e.data.a e.data.len e.data.cap,.int .i64 e.at',.int .i64 e.len,.int .u32 e.crc]:=rfl
  rw [h4,List.drop_left' (by simp [e.hb])]
 rw [h3,hd,List.append_assoc]
 rfl
theorem Blk.rdAt {w:World} {b o n c:Nat} {l:List Value} (h:Blk w b l) (hn:o+n≤l.length):Rd w 1 ⟨some ⟨b,o,none⟩,n,c⟩ ((l.drop o).take n):=by
 refine ⟨by rw [List.length_take,List.length_drop]; show _=n * 1; omega,fun i hi=>⟨⟨b,o,none⟩,rfl,?_⟩⟩
 rw [List.length_take,List.length_drop] at hi
 rw [qvf,h.rb.cell,List.getElem?_take,if_pos (by omega),List.getElem?_drop]
section
variable {F0:List Nat} {w0 w:World} {ps rest r1 r2:List As} {s:Sl} {xs:List Int} {K:Ending→World→Prop} {eb rb:Nat} {e:En} {l:List Value}
theorem St.lE {Q:Array Value→Prop} (h:St F0 w0 w ps) [PkB eb ps (enC e) rest] (hk:Q ⟨enC e⟩):ldA w ⟨eb,0,none⟩ 27 Q:=h.lA (b:=eb) (qdd e) hk
theorem St.sE {Q:World→Prop} (h:St F0 w0 w ps) [PkB eb ps l rest] (hl:l.length=27) (hk:∀ w',St F0 w0 w' (qzc eb (enC e) :: rest)→Q w'):Go.Proofs.YtejnemneenjliaaGreat.stA w ⟨eb,0,none⟩ ⟨enC e⟩ Q:=h.sA (b:=eb) (l':=enC e) hl (qdd e) (enC_sto e) hk
theorem St.cpE {Q:Array Value→World→Prop} (h:St F0 w0 w ps) [PkB eb ps (enC e) r1] [PkB rb ps l r2] (hl:l.length=27) (hk:∀ w',St F0 w0 w' r2→Q ⟨enC e⟩ w') :
 ldA w ⟨eb,0,none⟩ 27 fun c=>c.size=27∧Go.Proofs.YtejnemneenjliaaGreat.stA w ⟨rb,0,none⟩ c fun w1=>ldA w1 ⟨rb,0,none⟩ 27 fun c'=>Q c' w1 :=
 h.lE (eb:=eb) ⟨qdd e,h.sE (eb:=rb) hl fun w h=>h.lE (eb:=rb) (hk w h.drop)⟩
theorem St.rtE {Q:Array Value→World→Prop} (h:St F0 w0 w ps) [PkB rb ps l r2] (hl:l.length=27) (hk:∀ w',St F0 w0 w' r2→Q ⟨enC e⟩ w') :
 (⟨enC e⟩:Array Value).size=27∧Go.Proofs.YtejnemneenjliaaGreat.stA w ⟨rb,0,none⟩ ⟨enC e⟩ fun w1=>ldA w1 ⟨rb,0,none⟩ 27 fun c'=>Q c' w1 :=
 ⟨qdd e,h.sE (eb:=rb) hl fun w h=>h.lE (eb:=rb) (hk w h.drop)⟩
theorem zcE:zc Tryz.prog 97=⟨enC en0⟩:=by kernel_rfl
theorem zcF:zc Tryz.prog 101=⟨enC en0⟩:=by kernel_rfl
def qyd (k back:Nat) (base:List Int):List Int:=if k=6 then qsc back else if k=7 then base else []
def qoh (k back:Nat) (base xs:List Int) (eff:Int):List Int:=hdE k xs.length ++ (qyd k back base ++ frm xs (qif xs eff))
theorem ofsEnc_ok (v:Nat):∀ x ∈ qsc v,0≤x∧x < 256:=by
 have:∀ u,∀ x ∈ qdi u,0≤x∧x < 256:=by
  intro u
  induction u using qdi.induct with
  | case1=>rw [qdi,dif_pos rfl]; simp
  | case2 u h ih =>
    rw [qdi,dif_neg h]
    intro y hy
    rcases List.mem_append.1 hy with hy | hy
    · exact ih y hy
    · have:=List.mem_singleton.1 hy; omega
 intro x hx
 unfold qsc at hx
 rcases List.mem_append.1 hx with hx | hx
 · exact this _ x hx
 · have:=List.mem_singleton.1 hx; omega
theorem qet {v:Nat} (hv:v < 9223372036854775808):1≤(qsc v).length∧(qsc v).length≤10:=by
 have:=qdq 9 (v / 128) (by rw [show (128:Nat) ^ 9=9223372036854775808 by decide]; omega)
 rw [qsc,List.length_append,List.length_singleton]
 omega
theorem midE_len {k back:Nat} {base:List Int} (hb:base.length=20) (hv:back < 9223372036854775808):(qyd k back base).length≤20:=by
 have:=(qet hv).2
 unfold qyd
 split
 · omega
 · split
   · omega
   · simp
theorem midE_ok {k back:Nat} {base:List Int} (hb:∀ x ∈ base,0≤x∧x < 256):∀ x ∈ qyd k back base,0≤x∧x < 256:=by
 unfold qyd
 split
 · exact ofsEnc_ok _
 · split
   · exact hb
   · simp
theorem entE_ok {k back:Nat} {base xs:List Int} (hk:k < 8) (hb:∀ x ∈ base,0≤x∧x < 256) (eff:Int):∀ x ∈ qoh k back base xs eff,0≤x∧x < 256:=by
 intro x hx
 rcases List.mem_append.1 hx with hx | hx
 · exact hdE_ok hk _ x hx
 · rcases List.mem_append.1 hx with hx | hx
   · exact midE_ok hb x hx
   · exact frm_ok _ _ x hx
theorem qiq {k back:Nat} {base xs:List Int} (hb:base.length=20) (hv:back < 9223372036854775808) (hx:xs.length≤16384) (eff:Int):(qoh k back base xs eff).length≤xs.length+34∧1≤(qoh k back base xs eff).length:=by
 have h1:=qrr k hx
 have h0:=(qgk k (n:=xs.length) (by omega)).1
 have h2:=midE_len (k:=k) hb hv
 have h3:=qyj xs (qif xs eff)
 have h4:=qko xs eff
 unfold qoh
 rw [List.length_append,List.length_append]
 omega
theorem qwb.bad {eff:Int} (h:St F0 w0 w ps) (hx:e.data.len≤40000)
 (hb:16384 < e.data.len ∨ e.kind < 1 ∨ 7 < e.kind ∨ e.kind=5 ∨ (e.kind=6∧e.back < 1))
 (hk:∀ w',St F0 w0 w' ps→K (.returned (.tuple ⟨[.slice none 0 0,.int .i64 1]⟩)) w'):Calls Tryz.prog 42 ⟨[.agg ⟨enC e⟩,.int .i64 eff]⟩ w K:=by
 refine qfc (qwb.ok _ _ _ _ ?_)
 unfold qwb
 refine h.new fun eb w h=>?_
 have h:St F0 w0 w (qzc eb (enC e) :: ps):=h
 unfold qwb.j1
 refine h.gL ?_
 refine qnc (fun g=>hk w h.drop) fun g=>?_
 have g:¬ ((e.data.len:Nat):Int) > 16384:=g
 refine h.gI (h.gL ?_)
 by_cases hkr:e.kind < 1 ∨ 7 < e.kind
 · refine qvb.bad (s:=⟨none,0,0⟩) (by omega) ?_
   refine ⟨⟨none,0,0⟩,1,rfl,?_⟩
   unfold qwb.j2
   refine qde (by decide) ?_
   unfold qwb.j4
   exact qym (hk w h.drop)
 · obtain ⟨k,hkk⟩:∃ k:Nat,e.kind=k:=⟨e.kind.toNat,by omega⟩
   have h:=h.nil 1
   have h:St F0 w0 w (qcc 1 ⟨none,0,0⟩ (u8s []) :: qzc eb (enC e) :: ps):=h
   rw [hkk]
   refine qvb.c (s:=⟨none,0,0⟩) (xs:=[]) (k:=k) (n:=e.data.len) h (by simp) (by omega) (by omega) (by omega) fun t w _ _ h=>⟨t,0,rfl,?_⟩
   unfold qwb.j2
   refine qle (by decide) ?_
   refine h.gI ?_
   refine qne (fun g5=>?_) fun g5=>?_
   · unfold qwb.j4
     exact qym (hk w h.sub)
   · have g5:¬ e.kind=5:=by simpa using g5
     refine h.gI ?_
     refine qne (fun g6=>?_) fun g6=>?_
     · have g6:e.kind=6:=by simpa using g6
       refine h.gI ?_
       unfold qwb.j4
       refine qde (by simp; omega) (hk w h.sub)
     · have g6:¬ e.kind=6:=by simpa using g6
       omega
theorem qwb.c {eff:Int} {k b:Nat} (h:St F0 w0 w ps) [Rdb F0 w0 e.data ps 1 (u8s xs)] (hx:∀ x ∈ xs,0≤x∧x < 256) (hL:xs.length≤16384) (hc:e.data.len≤e.data.cap)
 (hkk:e.kind=k) (h1:1≤k) (h7:k≤7) (h5:k ≠ 5) (hbk:k=6→e.back=b∧1≤b) (hb9:b < 9223372036854775808)
 (hk:∀ t w',t.len=(qoh k b e.base xs eff).length→t.cap=t.len→St F0 w0 w' (rdA 1 t (u8s (qoh k b e.base xs eff)) :: ps)→K (.returned (.tuple ⟨[.slice t.a t.len t.cap,.int .i64 0]⟩)) w'):Calls Tryz.prog 42 ⟨[.agg ⟨enC e⟩,.int .i64 eff]⟩ w K:=by
 have hl:=(h.rdb e.data).1
 rw [ql,Nat.mul_one] at hl
 have hdl:=qrr k hL
 have hbe:=e.hb
 refine qfc (qwb.ok _ _ _ _ ?_)
 unfold qwb
 refine h.new fun eb w h=>?_
 have h:St F0 w0 w (qzc eb (enC e) :: ps):=h
 unfold qwb.j1
 refine h.gL ?_
 refine qnc (fun g=>by have g:((e.data.len:Nat):Int) > 16384:=g; omega) fun g=>?_
 refine h.gI (h.gL ?_)
 have h:=h.nil 1
 have h:St F0 w0 w (qcc 1 ⟨none,0,0⟩ (u8s []) :: qzc eb (enC e) :: ps):=h
 rw [hkk]
 refine qvb.c (s:=⟨none,0,0⟩) (xs:=[]) (k:=k) (n:=e.data.len) h (by simp) (by omega) (by omega) (by omega) fun t w ht1 ht2 h=>⟨t,0,rfl,?_⟩
 rw [List.nil_append,← hl] at h
 have hfl:=qyj xs (qif xs eff)
 have hpl:=qko xs eff
 have hend:∀ (o:Sl) w,St F0 w0 w (qcc 1 o (u8s (hdE k xs.length ++ (qyd k b e.base ++ frm xs (qif xs eff)))) :: qzc eb (enC e) :: ps) →
  Calls Tryz.prog 68 ⟨[.slice o.a o.len o.cap]⟩ w fun e8 w9=>∃ r10:Sl,e8=.returned (.slice r10.a r10.len r10.cap)∧(fun v w'=>K (.returned v) w') (.tuple ⟨[.slice r10.a r10.len r10.cap,.int .i64 0]⟩) w9:=by
  intro o w h
  refine qfd.d h fun s' h1 h2 h=>⟨s',rfl,?_⟩
  have h:St F0 w0 w (rdA 1 s' (u8s (qoh k b e.base xs eff)) :: qzc eb (enC e) :: ps):=h
  exact hk s' w h1 h2 h.sub
 have finF:∀ (o:Sl) (M:List Int) w,M.length≤20→M=qyd k b e.base→o.cap=o.len→St F0 w0 w (rdA 1 o (u8s (hdE k xs.length ++ M)) :: qzc eb (enC e) :: ps)→qwb.j3 eff ⟨eb,0,none⟩ o (fun v w'=>K (.returned v) w') w:=by
  intro o M w hM eM ho h
  unfold qwb.j3
  refine h.gL ?_
  refine qak.c (s:=e.data) (xs:=xs) h hx (by omega) hc fun r w hr1 hr2 h=>⟨r,rfl,?_⟩
  refine h.appF (s:=o) (s2:=r) ho (by omega) (by rw [List.length_append]; omega) fun t w h=>?_
  rw [List.append_assoc,eM] at h
  exact hend t w h.sub
 have finO:∀ (o:Sl) (M:List Int) w,M.length≤20→M=qyd k b e.base→St F0 w0 w (qcc 1 o (u8s (hdE k xs.length ++ M)) :: qzc eb (enC e) :: ps)→qwb.j3 eff ⟨eb,0,none⟩ o (fun v w'=>K (.returned v) w') w:=by
  intro o M w hM eM h
  unfold qwb.j3
  refine h.gL ?_
  refine qak.c (s:=e.data) (xs:=xs) h hx (by omega) hc fun r w hr1 hr2 h=>⟨r,rfl,?_⟩
  refine h.appI (s:=o) (s2:=r) (by rw [List.length_append]; omega) fun t w h=>?_
  rw [List.append_assoc,eM] at h
  exact hend t w h.sub
 unfold qwb.j2
 refine qle (by decide) ?_
 refine h.gI ?_
 refine qle (by simp; omega) ?_
 refine h.gI ?_
 have hml:=qet hb9
 by_cases k6:k=6
 · obtain ⟨hb1,hb2⟩:=hbk k6
   have em:qyd k b e.base=qsc b:=if_pos k6
   have hmid:(qyd k b e.base).length≤20:=midE_len hbe hb9
   refine qde (by simp; omega) ?_
   refine h.gI ?_
   unfold qwb.j4
   refine qle (by simp; omega) ?_
   refine h.gI ?_
   refine qde (by simp; omega) ?_
   refine h.gI ?_
   rw [hb1]
   refine qjc.c (s:=t) (xs:=hdE k xs.length) (n:=b) h (by omega) hb9 fun o w ho1 ho2 h=>⟨o,rfl,?_⟩
   exact finF o (qsc b) w (by omega) em.symm ho2 h.sub
 · refine qle (by simp; omega) ?_
   unfold qwb.j4
   refine qle rfl ?_
   refine h.gI ?_
   refine qle (by simp; omega) ?_
   refine h.gI ?_
   by_cases k7:k=7
   · have em:qyd k b e.base=e.base:=by unfold qyd; rw [if_neg k6,if_pos k7]
     refine qde (by simp; omega) (que ?_)
     haveI:∀ ps,Rdb F0 w0 ⟨some ⟨eb,3,none⟩,20,20⟩ (qzc eb (enC e) :: ps) 1 (u8s e.base):=fun ps=>⟨fun h=>by
      have:=h.blk.rdAt (o:=3) (n:=20) (c:=20) (by rw [qdd]; decide)
      rw [qvo] at this
      exact this⟩
     refine h.appF (s:=t) (s2:=⟨some ⟨eb,3,none⟩,20,20⟩) ht2 (by omega) (by omega) fun o w h=>?_
     exact finO o e.base w (by omega) em.symm h.sub
   · have em:qyd k b e.base=[]:=by unfold qyd; rw [if_neg k6,if_neg k7]
     refine qle (by simp; omega) ?_
     exact finF t [] w (by simp) em.symm ht2 (by rw [List.append_nil]; exact h.sub)
theorem qlc.bad (h:St F0 w0 w ps)
 (hb:16384 < e.data.len ∨ e.kind < 1 ∨ 7 < e.kind ∨ e.kind=5 ∨ (e.kind=6∧e.back < 1))
 (hk:∀ w',St F0 w0 w' ps→K (.returned (.tuple ⟨[.slice none 0 0,.int .i64 1]⟩)) w'):Calls Tryz.prog 43 ⟨[.agg ⟨enC e⟩]⟩ w K:=by
 refine qfc (qlc.ok _ _ _ ?_)
 unfold qlc
 refine h.new fun eb w h=>?_
 have h:St F0 w0 w (qzc eb (enC e) :: ps):=h
 refine h.gI (qnc (fun _=>hk w h.drop) fun g1=>?_)
 refine h.gI (qnc (fun _=>hk w h.drop) fun g2=>?_)
 refine h.gI (qne (fun _=>hk w h.drop) fun g3=>?_)
 refine h.gI (qne (fun g4=>?_) fun g4=>?_)
 · refine h.gI (qnc (fun _=>hk w h.drop) fun g5=>?_)
   refine h.gL (qnc (fun _=>hk w h.drop) fun g6=>?_)
   have g6:¬ ((e.data.len:Nat):Int) > 16384:=g6
   simp at g3 g4
   omega
 · refine h.gL (qnc (fun _=>hk w h.drop) fun g6=>?_)
   have g6:¬ ((e.data.len:Nat):Int) > 16384:=g6
   simp at g3 g4
   omega
theorem qlc.c {k b:Nat} (h:St F0 w0 w ps) [Rdb F0 w0 e.data ps 1 (u8s xs)] (hx:∀ x ∈ xs,0≤x∧x < 256) (hL:xs.length≤16384) (hc:e.data.len≤e.data.cap)
 (hkk:e.kind=k) (h1:1≤k) (h7:k≤7) (h5:k ≠ 5) (hbk:k=6→e.back=b∧1≤b) (hb9:b < 9223372036854775808)
 (hk:∀ (t:Sl) (ys:List Int) w',ys.length≤xs.length+50→St F0 w0 w' (qcc 1 t (u8s ys) :: ps)→K (.returned (.tuple ⟨[.slice t.a t.len t.cap,.int .i64 0]⟩)) w'):Calls Tryz.prog 43 ⟨[.agg ⟨enC e⟩]⟩ w K:=by
 have hl:=(h.rdb e.data).1
 rw [ql,Nat.mul_one] at hl
 have hdl:=qrr k hL
 have hbe:=e.hb
 refine qfc (qlc.ok _ _ _ ?_)
 unfold qlc
 refine h.new fun eb w h=>?_
 have h:St F0 w0 w (qzc eb (enC e) :: ps):=h
 have main:qlc.j1 ⟨eb,0,none⟩ (fun v w'=>K (.returned v) w') w:=by
  unfold qlc.j1
  refine h.gI (h.gL ?_)
  have h:=h.nil 1
  have h:St F0 w0 w (qcc 1 ⟨none,0,0⟩ (u8s []) :: qzc eb (enC e) :: ps):=h
  rw [hkk]
  refine qib.c (s:=⟨none,0,0⟩) (xs:=[]) (k:=k) (n:=e.data.len) h (by simp) (by omega) (by omega) (by omega) fun t w h=>⟨t,0,rfl,?_⟩
  rw [List.nil_append,← hl] at h
  have fin:∀ (o:Sl) (ys:List Int) w,ys.length≤14→St F0 w0 w (qcc 1 o (u8s ys) :: qzc eb (enC e) :: ps)→qlc.j2 ⟨eb,0,none⟩ o (fun v w'=>K (.returned v) w') w:=by
   intro o ys w hy h
   unfold qlc.j2
   refine h.gI (qne (fun g=>?_) fun g=>?_)
   · refine que ?_
     haveI:∀ ps,Rdb F0 w0 ⟨some ⟨eb,3,none⟩,20,20⟩ (qzc eb (enC e) :: ps) 1 (u8s e.base):=fun ps=>⟨fun h=>by
      have:=h.blk.rdAt (o:=3) (n:=20) (c:=20) (by rw [qdd]; decide)
      rw [qvo] at this
      exact this⟩
     refine h.appI (s:=o) (s2:=⟨some ⟨eb,3,none⟩,20,20⟩) (by omega) fun o2 w h=>?_
     refine h.gL ?_
     refine qjg.c (s:=e.data) (xs:=xs) h hx (by omega) hc fun r zs w hz h=>⟨r,rfl,?_⟩
     refine h.appI (s:=o2) (s2:=r) (by rw [List.length_append]; omega) fun t w h=>?_
     exact hk t (ys ++ e.base ++ zs) w (by rw [List.length_append,List.length_append]; omega) h.sub
   · refine h.gL ?_
     refine qjg.c (s:=e.data) (xs:=xs) h hx (by omega) hc fun r zs w hz h=>⟨r,rfl,?_⟩
     refine h.appI (s:=o) (s2:=r) (by omega) fun t w h=>?_
     exact hk t (ys ++ zs) w (by rw [List.length_append]; omega) h.sub
  refine h.gI (qne (fun g=>?_) fun g=>?_)
  · have g:e.kind=6:=by simpa using g
    obtain ⟨hb1,hb2⟩:=hbk (by omega)
    refine h.gI ?_
    rw [hb1]
    refine qmb.c (s:=t) (xs:=hdE k xs.length) (n:=b) h (by omega) hb9 fun o ys w hy h=>⟨o,rfl,?_⟩
    exact fin o ys w (by omega) h.sub
  · exact fin t (hdE k xs.length) w (by omega) h.sub
 refine h.gI (qnc (fun g=>by have g:e.kind < 1:=g; omega) fun g1=>?_)
 refine h.gI (qnc (fun g=>by have g:e.kind > 7:=g; omega) fun g2=>?_)
 refine h.gI (qne (fun g=>by have g:e.kind=5:=by simpa using g
                             omega) fun g3=>?_)
 refine h.gI (qne (fun g4=>?_) fun g4=>?_)
 · have g4:e.kind=6:=by simpa using g4
   obtain ⟨hb1,hb2⟩:=hbk (by omega)
   refine h.gI (qnc (fun g=>by have g:e.back < 1:=g; omega) fun g5=>?_)
   exact h.gL (qnc (fun g=>by have g:((e.data.len:Nat):Int) > 16384:=g; omega) fun g6=>main)
 · exact h.gL (qnc (fun g=>by have g:((e.data.len:Nat):Int) > 16384:=g; omega) fun g6=>main)
end
end Go.Proofs.YtejnemneenjliaaGreat
namespace Go.Proofs.YtejnemneenjliaaGreat
set_option linter.unusedVariables false
set_option linter.unusedSimpArgs false
def cpoly:Nat:=3988292384
def cs (v:Nat):Nat:=if v % 2=1 then (v / 2) ^^^ cpoly else v / 2
def csN:Nat→Nat→Nat
 | 0,v=>v
 | n+1,v=>csN n (cs v)
theorem csN_add (a b v:Nat):csN (a+b) v=csN b (csN a v):=by
 induction a generalizing v with
 | zero=>simp [csN]
 | succ a ih=>rw [Nat.succ_add,csN,csN,ih]
theorem xor_par (a b:Nat):(a ^^^ b) % 2=(a % 2+b % 2) % 2:=by
 have h:=Nat.testBit_xor a b 0
 simp only [Nat.testBit_zero] at h
 have ha:=Nat.mod_two_eq_zero_or_one a
 have hb:=Nat.mod_two_eq_zero_or_one b
 have hc:=Nat.mod_two_eq_zero_or_one (a ^^^ b)
 rcases ha with ha | ha <;> rcases hb with hb | hb <;> rcases hc with hc | hc <;> simp [ha,hb,hc] at h ⊢
theorem xor_half (a b:Nat):(a ^^^ b) / 2=a / 2 ^^^ b / 2:=by
 apply Nat.eq_of_testBit_eq
 intro i
 rw [Nat.testBit_xor,← Nat.testBit_succ,← Nat.testBit_succ,← Nat.testBit_succ,Nat.testBit_xor]
theorem xor_swap (a b c d:Nat):(a ^^^ b) ^^^ (c ^^^ d)=(a ^^^ c) ^^^ (b ^^^ d):=by
 rw [Nat.xor_assoc,← Nat.xor_assoc b c d,Nat.xor_comm b c,Nat.xor_assoc c b d,← Nat.xor_assoc]
theorem cs_xor (a b:Nat):cs (a ^^^ b)=cs a ^^^ cs b:=by
 unfold cs
 rw [xor_par,xor_half]
 have ha:=Nat.mod_two_eq_zero_or_one a
 have hb:=Nat.mod_two_eq_zero_or_one b
 rcases ha with ha | ha <;> rcases hb with hb | hb <;> simp only [ha,hb]
 · simp
 · simp [Nat.xor_assoc]
 · simp only [Nat.add_zero,if_true,Nat.zero_ne_one,if_false,Nat.one_mod,Nat.mod_succ]
   rw [Nat.xor_assoc,Nat.xor_comm (b / 2),← Nat.xor_assoc]
 · simp only [if_true]
   rw [if_neg (by decide),xor_swap,Nat.xor_self,Nat.xor_zero]
theorem csN_xor (n a b:Nat):csN n (a ^^^ b)=csN n a ^^^ csN n b:=by
 induction n generalizing a b with
 | zero=>rfl
 | succ n ih=>rw [csN,csN,csN,cs_xor,ih]
theorem cs_even (k:Nat):cs (2 * k)=k:=by
 unfold cs
 rw [if_neg (by omega)]
 omega
theorem csN_16 (k:Nat):csN 4 (16 * k)=k:=by
 show cs (cs (cs (cs (16 * k))))=k
 rw [show 16 * k=2 * (2 * (2 * (2 * k))) by omega,cs_even,cs_even,cs_even,cs_even]
theorem split16 (v:Nat):v=16 * (v / 16) ^^^ v % 16:=by
 apply Nat.eq_of_testBit_eq
 intro i
 rw [Nat.testBit_xor,show 16 * (v / 16)=2 ^ 4 * (v / 2 ^ 4) from rfl,show v % 16=v % 2 ^ 4 from rfl,Nat.testBit_mod_two_pow,Nat.testBit_two_pow_mul,Nat.testBit_div_two_pow]
 by_cases h:i < 4
 · simp [h,show ¬ 4≤i by omega]
 · simp [h,show 4≤i by omega,show i - 4+4=i by omega]
theorem csN_half (v:Nat):csN 4 v=(v / 16) ^^^ csN 4 (v % 16):=by
 have h:=csN_xor 4 (16 * (v / 16)) (v % 16)
 rw [← split16,csN_16] at h
 exact h
def crcF (v:Nat) (bs:List Nat):Nat:=bs.foldl (fun v b=>csN 8 (v ^^^ b)) v
theorem csN_8 (v:Nat):csN 8 v=(csN 4 v / 16) ^^^ csN 4 (csN 4 v % 16):=by
 rw [show 8=4+4 from rfl,csN_add,csN_half (csN 4 v)]
end Go.Proofs.YtejnemneenjliaaGreat
namespace Go.Proofs.YtejnemneenjliaaGreat
open Go Go.Proofs
set_option linter.unusedVariables false
set_option maxRecDepth 100000
def qec.j2 (t0 t_1:Addr) (Q:VWP) (w:World):Prop :=
 ldA w t_1 16 fun c1 =>
 (c1).size=16 ∧
 stA w t0 c1 fun w2 =>
 ldA w2 t0 16 fun c3 =>
 Q (.agg c3) w2
def qec.j5 (t0 t_1:Addr) (t4:Int) (Q:VWP) (nx1:Addr→Addr→Int→WP) (w:World):Prop :=
 lt (IntKind.i64.wrap (t4+1)) fun x4 =>
 nx1 t0 t_1 x4 w
def qec.j7 (t0 t_1:Addr) (i_2:Int) (v_3 t4:Int) (Q:VWP) (nx1:Addr→Addr→Int→WP) (w:World):Prop :=
 ixA t_1 16 i_2 1 fun a5 =>
 st w a5 (.int .u32 v_3) fun w6 =>
 qec.j5 t0 t_1 t4 Q nx1 w6
def qec.b2 (t0 t_1:Addr) (i_2:Int) (t4 v_3 t9:Int) (Q:VWP) (nx1:Addr→Addr→Int→WP) (nx2:Addr→Addr→Int→Int→Int→Int→WP) (w:World):Prop :=
 br (decide (t9 < 4)) (
 (0:Int)≤1 ∧
 lt (qbj .u32 v_3 1) fun x7 =>
 lt (qli .u32 v_3 1) fun x8 =>
 lt (IntKind.u32.wrap (0 - x8)) fun x9 =>
 lt (qli .u32 x9 3988292384) fun x10 =>
 lt (qyl .u32 x7 x10) fun x11 =>
 lt (IntKind.i64.wrap (t9+1)) fun x12 =>
 nx2 t0 t_1 i_2 t4 x11 x12 w) (
 qec.j7 t0 t_1 i_2 v_3 t4 Q nx1 w)
def qec.l2 (t0 t_1:Addr) (i_2:Int) (t4 v_3 t9:Int) (Q:VWP) (nx1:Addr→Addr→Int→WP) (w:World):Prop :=
 ∃ (I:Int→Int→WP) (μ:Int→Int→World→Nat),I v_3 t9 w∧∀ v_3:Int,∀ t9:Int,∀ w:World,I v_3 t9 w→qec.b2 t0 t_1 i_2 t4 v_3 t9 Q nx1 (fun t0' t_1' i_2' t4' v_3' t9' w'=>(t0'=t0∧t_1'=t_1∧i_2'=i_2∧t4'=t4)∧I v_3' t9' w'∧μ v_3' t9' w' < μ v_3 t9 w) w
def qec.j8 (t0 t_1:Addr) (i_2:Int) (v_3 t4 t9:Int) (Q:VWP) (nx1:Addr→Addr→Int→WP) (w:World):Prop :=
 qec.l2 t0 t_1 i_2 t4 v_3 t9 Q nx1 w
def qec.j6 (t0 t_1:Addr) (i_2:Int) (v_3 t4:Int) (Q:VWP) (nx1:Addr→Addr→Int→WP) (w:World):Prop :=
 qec.j8 t0 t_1 i_2 v_3 t4 0 Q nx1 w
def qec.j4 (t0 t_1:Addr) (t4:Int) (Q:VWP) (nx1:Addr→Addr→Int→WP) (w:World):Prop :=
 lt (IntKind.u32.wrap t4) fun x13 =>
 qec.j6 t0 t_1 t4 x13 t4 Q nx1 w
def qec.b1 (t0 t_1:Addr) (t4:Int) (Q:VWP) (nx1:Addr→Addr→Int→WP) (w:World):Prop :=
 br (decide (t4 < 16)) (
 qec.j4 t0 t_1 t4 Q nx1 w) (
 qec.j2 t0 t_1 Q w)
def qec.l1 (t0 t_1:Addr) (t4:Int) (Q:VWP) (w:World):Prop :=
 ∃ (I:Int→WP) (μ:Int→World→Nat),I t4 w∧∀ t4:Int,∀ w:World,I t4 w→qec.b1 t0 t_1 t4 Q (fun t0' t_1' t4' w'=>(t0'=t0∧t_1'=t_1)∧I t4' w'∧μ t4' w' < μ t4 w) w
def qec.j3 (t0 t_1:Addr) (t4:Int) (Q:VWP) (w:World):Prop :=
 qec.l1 t0 t_1 t4 Q w
def qec.j1 (t0 t_1:Addr) (Q:VWP) (w:World):Prop :=
 qec.j3 t0 t_1 0 Q w
def qec  (Q:VWP) (w:World):Prop :=
 nw w (zc Tryz.prog 387) 387 fun a14 w15 =>
 nw w15 (zc Tryz.prog 387) 387 fun a16 w17 =>
 qec.j1 a14 a16 Q w17
theorem qec.ok  (Q:VWP) (w:World) (h:qec  Q w):Calls Tryz.prog 271 ⟨[]⟩ w (Ret Q) :=
 qqc [.cell 0 387] qbe Tryz.func271 rfl rfl rfl rfl (.pr 1 [sA 0,sA 1] (fun a b w=>qec.j1 a b Q w) (.sq [sA 0,sA 1] (fun a b w=>qec.j2 a b Q w) (.sq [sA 0,sA 1,sI 4] (fun a b c w=>qec.j3 a b c Q w) .lf (.bk (.lo [sA 0,sA 1] [sI 4] (fun a b c w=>qec.l1 a b c Q w) (fun nx1 a b c w=>qec.b1 a b c Q nx1 w) fun nx1=>(.pr 1 [sA 0,sA 1,sI 4] (fun a b c w=>qec.j4 a b c Q nx1 w) (.sq [sA 0,sA 1,sI 4] (fun a b c w=>qec.j5 a b c Q nx1 w) (.bk (.pr 1 [sA 0,sA 1,sI 2,(3,.I .u32),sI 4] (fun a b c d e w=>qec.j6 a b c d e Q nx1 w) (.sq [sA 0,sA 1,sI 2,(3,.I .u32),sI 4] (fun a b c d e w=>qec.j7 a b c d e Q nx1 w) (.sq [sA 0,sA 1,sI 2,(3,.I .u32),sI 4,sI 9] (fun a b c d e f w=>qec.j8 a b c d e f Q nx1 w) .lf (.bk (.lo [sA 0,sA 1,sI 2,sI 4] [(3,.I .u32),sI 9] (fun a b c d e f w=>qec.l2 a b c d e f Q nx1 w) (fun nx2 a b c d e f w=>qec.b2 a b c d e f Q nx1 nx2 w) fun nx2=>.lf))) .lf))) .lf))))) .lf)) (by kernel_rfl) h
def qnf.j2 (v_7:Int) (Q:VWP) (w:World):Prop :=
 lt (qyl .u32 (if IntKind.signed .u32 then -1 else IntKind.max .u32) v_7) fun x1 =>
 Q (.int .u32 x1) w
def qnf.b1 (t_3:Addr) (t12:Sl) (t13 v_7 t14:Int) (Q:VWP) (nx1:Addr→Sl→Int→Int→Int→WP) (w:World):Prop :=
 br (decide (t14 < t13)) (
 ixS t12.a t12.len t14 1 fun a2 =>
 ldI .u8 w a2 fun x3 =>
 lt (IntKind.u32.wrap x3) fun x4 =>
 lt (qyl .u32 v_7 x4) fun x5 =>
 (0:Int)≤4 ∧
 lt (qbj .u32 x5 4) fun x6 =>
 lt (qli .u32 x5 15) fun x7 =>
 ixA t_3 16 x7 1 fun a8 =>
 ldI .u32 w a8 fun x9 =>
 lt (qyl .u32 x6 x9) fun x10 =>
 (0:Int)≤4 ∧
 lt (qbj .u32 x10 4) fun x11 =>
 lt (qli .u32 x10 15) fun x12 =>
 ixA t_3 16 x12 1 fun a13 =>
 ldI .u32 w a13 fun x14 =>
 lt (qyl .u32 x11 x14) fun x15 =>
 lt (IntKind.i64.wrap (t14+1)) fun x16 =>
 nx1 t_3 t12 t13 x15 x16 w) (
 qnf.j2 v_7 Q w)
def qnf.l1 (t_3:Addr) (t12:Sl) (t13 v_7 t14:Int) (Q:VWP) (w:World):Prop :=
 ∃ (I:Int→Int→WP) (μ:Int→Int→World→Nat),I v_7 t14 w∧∀ v_7:Int,∀ t14:Int,∀ w:World,I v_7 t14 w→qnf.b1 t_3 t12 t13 v_7 t14 Q (fun t_3' t12' t13' v_7' t14' w'=>(t_3'=t_3∧t12'=t12∧t13'=t13)∧I v_7' t14' w'∧μ v_7' t14' w' < μ v_7 t14 w) w
def qnf.j3 (t_3:Addr) (v_7:Int) (t12:Sl) (t13:Int) (t14:Int) (Q:VWP) (w:World):Prop :=
 qnf.l1 t_3 t12 t13 v_7 t14 Q w
def qnf.j1 (b_2:Sl) (t_3:Addr) (v_7:Int) (Q:VWP) (w:World):Prop :=
 qnf.j3 t_3 v_7 b_2 (b_2.len:Int) 0 Q w
def qnf (t_0:(Array Value)) (crc_1:Int) (b_2:Sl) (Q:VWP) (w:World):Prop :=
 nw w t_0 387 fun a17 w18 =>
 lt (qyl .u32 (if IntKind.signed .u32 then -1 else IntKind.max .u32) crc_1) fun x19 =>
 qnf.j1 b_2 a17 x19 Q w18
theorem qnf.ok (t_0:(Array Value)) (crc_1:Int) (b_2:Sl) (Q:VWP) (w:World) (h:qnf t_0 crc_1 b_2 Q w):Calls Tryz.prog 270 ⟨[.agg t_0,.int .u32 crc_1,sV b_2]⟩ w (Ret Q) :=
 qqc [.tmp 6] qbe Tryz.func270 rfl rfl rfl rfl (.pr 1 [sL 2,sA 3,(7,.I .u32)] (fun a b c w=>qnf.j1 a b c Q w) (.sq [(7,.I .u32)] (fun a w=>qnf.j2 a Q w) (.sq [sA 3,(7,.I .u32),sL 12,sI 13,sI 14] (fun a b c d e w=>qnf.j3 a b c d e Q w) .lf (.bk (.lo [sA 3,sL 12,sI 13] [(7,.I .u32),sI 14] (fun a b c d e w=>qnf.l1 a b c d e Q w) (fun nx1 a b c d e w=>qnf.b1 a b c d e Q nx1 w) fun nx1=>.lf))) .lf)) (by kernel_rfl) h
def qml (crc_0:Int) (b_1:Sl) (Q:VWP) (w:World):Prop :=
 cr_G 271 [] w fun r3 w2 =>
 qum 270 [.agg r3,.int .u32 crc_0,sV b_1] w2 fun r6 w5 =>
 Q (.int .u32 r6) w5
theorem qml.ok (crc_0:Int) (b_1:Sl) (Q:VWP) (w:World) (h:qml crc_0 b_1 Q w):Calls Tryz.prog 233 ⟨[.int .u32 crc_0,sV b_1]⟩ w (Ret Q) :=
 qqc [.tmp 4] qbe Tryz.func233 rfl rfl rfl rfl .lf (by kernel_rfl) h
def qap (b_0:Sl) (Q:VWP) (w:World):Prop :=
 qum 233 [.int .u32 0,sV b_0] w fun r3 w2 =>
 Q (.int .u32 r3) w2
theorem qap.ok (b_0:Sl) (Q:VWP) (w:World) (h:qap b_0 Q w):Calls Tryz.prog 180 ⟨[sV b_0]⟩ w (Ret Q) :=
 qqc [.tmp 2] qbe Tryz.func180 rfl rfl rfl rfl .lf (by kernel_rfl) h
def qfb.j2 (crc_0:Int) (Q:VWP) (w:World):Prop :=
 lt (qyl .u32 (if IntKind.signed .u32 then -1 else IntKind.max .u32) crc_0) fun x1 =>
 Q (.int .u32 x1) w
def qfb.j5 (crc_0:Int) (b_1:Sl) (i_5:Int) (Q:VWP) (nx1:Sl→Int→Int→WP) (w:World):Prop :=
 lt (IntKind.i64.wrap (i_5+1)) fun x2 =>
 nx1 b_1 crc_0 x2 w
def qfb.b2 (b_1:Sl) (i_5:Int) (crc_0 k_6:Int) (Q:VWP) (nx1:Sl→Int→Int→WP) (nx2:Sl→Int→Int→Int→WP) (w:World):Prop :=
 br (decide (k_6 < 8)) (
 lt (qli .u32 crc_0 1) fun x3 =>
 br (x3 == 1) (
 (0:Int)≤1 ∧
 lt (qbj .u32 crc_0 1) fun x4 =>
 lt (qyl .u32 x4 3988292384) fun x5 =>
 lt (IntKind.i64.wrap (k_6+1)) fun x6 =>
 nx2 b_1 i_5 x5 x6 w) (
 (0:Int)≤1 ∧
 lt (qbj .u32 crc_0 1) fun x7 =>
 lt (IntKind.i64.wrap (k_6+1)) fun x8 =>
 nx2 b_1 i_5 x7 x8 w)) (
 qfb.j5 crc_0 b_1 i_5 Q nx1 w)
def qfb.l2 (b_1:Sl) (i_5:Int) (crc_0 k_6:Int) (Q:VWP) (nx1:Sl→Int→Int→WP) (w:World):Prop :=
 ∃ (I:Int→Int→WP) (μ:Int→Int→World→Nat),I crc_0 k_6 w∧∀ crc_0:Int,∀ k_6:Int,∀ w:World,I crc_0 k_6 w→qfb.b2 b_1 i_5 crc_0 k_6 Q nx1 (fun b_1' i_5' crc_0' k_6' w'=>(b_1'=b_1∧i_5'=i_5)∧I crc_0' k_6' w'∧μ crc_0' k_6' w' < μ crc_0 k_6 w) w
def qfb.j6 (crc_0:Int) (b_1:Sl) (i_5 k_6:Int) (Q:VWP) (nx1:Sl→Int→Int→WP) (w:World):Prop :=
 qfb.l2 b_1 i_5 crc_0 k_6 Q nx1 w
def qfb.j4 (crc_0:Int) (b_1:Sl) (i_5:Int) (Q:VWP) (nx1:Sl→Int→Int→WP) (w:World):Prop :=
 ixS b_1.a b_1.len i_5 1 fun a9 =>
 ldI .u8 w a9 fun x10 =>
 lt (IntKind.u32.wrap x10) fun x11 =>
 lt (qyl .u32 crc_0 x11) fun x12 =>
 qfb.j6 x12 b_1 i_5 0 Q nx1 w
def qfb.b1 (b_1:Sl) (crc_0:Int) (i_5:Int) (Q:VWP) (nx1:Sl→Int→Int→WP) (w:World):Prop :=
 br (decide (i_5 < (b_1.len:Int))) (
 qfb.j4 crc_0 b_1 i_5 Q nx1 w) (
 qfb.j2 crc_0 Q w)
def qfb.l1 (b_1:Sl) (crc_0:Int) (i_5:Int) (Q:VWP) (w:World):Prop :=
 ∃ (I:Int→Int→WP) (μ:Int→Int→World→Nat),I crc_0 i_5 w∧∀ crc_0:Int,∀ i_5:Int,∀ w:World,I crc_0 i_5 w→qfb.b1 b_1 crc_0 i_5 Q (fun b_1' crc_0' i_5' w'=>(b_1'=b_1)∧I crc_0' i_5' w'∧μ crc_0' i_5' w' < μ crc_0 i_5 w) w
def qfb.j3 (crc_0:Int) (b_1:Sl) (i_5:Int) (Q:VWP) (w:World):Prop :=
 qfb.l1 b_1 crc_0 i_5 Q w
def qfb.j1 (crc_0:Int) (b_1:Sl) (Q:VWP) (w:World):Prop :=
 qfb.j3 crc_0 b_1 0 Q w
def qfb (crc_0:Int) (b_1:Sl) (Q:VWP) (w:World):Prop :=
 lt (qyl .u32 (if IntKind.signed .u32 then -1 else IntKind.max .u32) crc_0) fun x13 =>
 qfb.j1 x13 b_1 Q w
theorem qfb.ok (crc_0:Int) (b_1:Sl) (Q:VWP) (w:World) (h:qfb crc_0 b_1 Q w):Calls Tryz.prog 182 ⟨[.int .u32 crc_0,sV b_1]⟩ w (Ret Q) :=
 qqc [.tmp 4] qbe Tryz.func182 rfl rfl rfl rfl (.pr 1 [(0,.I .u32),sL 1] (fun a b w=>qfb.j1 a b Q w) (.sq [(0,.I .u32)] (fun a w=>qfb.j2 a Q w) (.sq [(0,.I .u32),sL 1,sI 5] (fun a b c w=>qfb.j3 a b c Q w) .lf (.bk (.lo [sL 1] [(0,.I .u32),sI 5] (fun a b c w=>qfb.l1 a b c Q w) (fun nx1 a b c w=>qfb.b1 a b c Q nx1 w) fun nx1=>(.sq [(0,.I .u32),sL 1,sI 5] (fun a b c w=>qfb.j4 a b c Q nx1 w) .lf (.sq [(0,.I .u32),sL 1,sI 5] (fun a b c w=>qfb.j5 a b c Q nx1 w) (.bk (.pr 1 [(0,.I .u32),sL 1,sI 5,sI 6] (fun a b c d w=>qfb.j6 a b c d Q nx1 w) (.bk (.lo [sL 1,sI 5] [(0,.I .u32),sI 6] (fun a b c d w=>qfb.l2 a b c d Q nx1 w) (fun nx2 a b c d w=>qfb.b2 a b c d Q nx1 nx2 w) fun nx2=>.lf)))) .lf))))) .lf)) (by kernel_rfl) h
def qvh (b_0:Sl) (Q:VWP) (w:World):Prop :=
 qum 182 [.int .u32 0,sV b_0] w fun r3 w2 =>
 Q (.int .u32 r3) w2
theorem qvh.ok (b_0:Sl) (Q:VWP) (w:World) (h:qvh b_0 Q w):Calls Tryz.prog 121 ⟨[sV b_0]⟩ w (Ret Q) :=
 qqc [.tmp 2] qbe Tryz.func121 rfl rfl rfl rfl .lf (by kernel_rfl) h
end Go.Proofs.YtejnemneenjliaaGreat
namespace Go.Proofs.YtejnemneenjliaaGreat
open Go Go.Proofs
set_option linter.unusedVariables false
set_option linter.unusedSimpArgs false
attribute [local irreducible] apK cpK mkK br
theorem qmk {a b:Nat} (ha:a < 4294967296) (hb:b < 4294967296):qyl .u32 (a:Int) (b:Int)=((a ^^^ b:Nat):Int):=by
 have hx:a ^^^ b < 2 ^ 32:=Nat.xor_lt_two_pow (by simpa using ha) (by simpa using hb)
 have e:(BitVec.ofInt 32 (a:Int) ^^^ BitVec.ofInt 32 (b:Int)).toNat=a ^^^ b:=by
  rw [BitVec.ofInt_natCast,BitVec.ofInt_natCast,BitVec.toNat_xor,BitVec.toNat_ofNat,BitVec.toNat_ofNat,Nat.mod_eq_of_lt (by omega),Nat.mod_eq_of_lt (by omega)]
 show IntKind.u32.wrap (((BitVec.ofInt 32 (a:Int) ^^^ BitVec.ofInt 32 (b:Int)).toNat:Nat):Int)=_
 rw [e,qei]
 generalize a ^^^ b=c at hx
 omega
theorem qeo {a b:Nat} (ha:a < 4294967296) (hb:b < 4294967296):a ^^^ b < 4294967296:=Nat.xor_lt_two_pow (n:=32) ha hb
theorem cs_lt {v:Nat} (h:v < 4294967296):cs v < 4294967296:=by
 unfold cs
 split
 · exact qeo (by omega) (by decide)
 · omega
theorem csN_lt {v:Nat} (h:v < 4294967296):∀ n,csN n v < 4294967296:=by
 intro n
 induction n generalizing v with
 | zero=>exact h
 | succ n ih=>exact ih (cs_lt h)
theorem and15 (v:Nat):qli .u32 (v:Int) 15=((v % 16:Nat):Int):=by
 have:=qtj .u32 (v:Int) (t:=4) (by decide)
 rw [show (2:Int) ^ 4 - 1=15 by decide,show (2:Int) ^ 4=16 by decide] at this
 rw [this]; omega
theorem and1 (v:Nat):qli .u32 (v:Int) 1=((v % 2:Nat):Int):=by rw [andV_one]; omega
theorem shr4 (v:Nat):qbj .u32 (v:Int) 4=((v / 16:Nat):Int):=by
 have:=qti .u32 (v:Int) (t:=4) (by decide)
 rw [show (2:Int) ^ 4=16 by decide] at this
 rw [show (4:Int)=((4:Nat):Int) from rfl,this]; omega
theorem shr1 (v:Nat):qbj .u32 (v:Int) 1=((v / 2:Nat):Int):=by
 have:=qti .u32 (v:Int) (t:=1) (by decide)
 rw [show (2:Int) ^ 1=2 by decide] at this
 rw [show (1:Int)=((1:Nat):Int) from rfl,this]; omega
theorem cs_text {v:Nat} (h:v < 4294967296):qyl .u32 (qbj .u32 (v:Int) 1) (qli .u32 (IntKind.u32.wrap (0 - qli .u32 (v:Int) 1)) 3988292384)=((cs v:Nat):Int):=by
 rw [shr1,and1]
 unfold cs
 rcases Nat.mod_two_eq_zero_or_one v with h0 | h0
 · rw [h0,if_neg (by decide),show qli .u32 (IntKind.u32.wrap (0 - ((0:Nat):Int))) 3988292384=((0:Nat):Int) by decide +kernel,qmk (by omega) (by decide),Nat.xor_zero]
 · rw [h0,if_pos rfl,show qli .u32 (IntKind.u32.wrap (0 - ((1:Nat):Int))) 3988292384=((cpoly:Nat):Int) by decide +kernel,qmk (by omega) (by decide)]
def ctab:List Int:=qfj 16 fun i=>(csN 4 i:Int)
def crcV (xs:List Int):Nat:=4294967295 ^^^ crcF 4294967295 (xs.map Int.toNat)
theorem crcF_lt:∀ (bs:List Nat),(∀ b ∈ bs,b < 256)→∀ v,v < 4294967296→crcF v bs < 4294967296:=by
 intro bs
 induction bs with
 | nil=>intro _ v h; exact h
 | cons b bs ih =>
   intro hb v h
   have:=hb b (by simp)
   exact ih (fun x hx=>hb x (by simp [hx])) _ (csN_lt (qeo h (by omega)) 8)
theorem crcF_snoc (v:Nat) (bs:List Nat) (b:Nat):crcF v (bs ++ [b])=csN 8 (crcF v bs ^^^ b):=by simp [crcF]
section
variable {F0:List Nat} {w0 w:World} {ps rest:List As} {s:Sl} {xs:List Int} {K:Ending→World→Prop}
theorem zc_u32x16:zc Tryz.prog 387=⟨ivs .u32 (List.replicate 16 0)⟩:=by kernel_rfl
theorem qec.c (h:St F0 w0 w ps) (hk:∀ w',St F0 w0 w' ps→K (.returned (.agg ⟨ivs .u32 ctab⟩)) w'):Calls Tryz.prog 271 ⟨[]⟩ w K:=by
 refine qfc (qec.ok _ _ ?_)
 unfold qec
 rw [zc_u32x16]
 refine h.new fun ab w h=>?_
 refine h.new fun tb w h=>?_
 have h:St F0 w0 w (qzc tb (ivs .u32 (List.replicate 16 0)) :: qzc ab (ivs .u32 (List.replicate 16 0)) :: ps):=h
 rw [qpk] at h
 unfold qec.j1 qec.j3
 refine qmg (fun (i:Nat) (i':Int) w'=>i'=i∧i≤16∧St F0 w0 w' (qzc tb (ivs .u32 (qfj 16 fun j=>if j < i then (csN 4 j:Int) else 0)) :: qzc ab (ivs .u32 (qfj 16 fun _=>0)) :: ps)) (fun i=>16 - i) 0 ⟨rfl,by decide,by simpa using h⟩ ?_
 clear h
 rintro i i' wL I μ ⟨rfl,hi,h⟩ hin
 unfold qec.b1
 refine qnc (fun g=>?_) (fun g=>?_)
 · have hi2:i < 16:=by omega
   unfold qec.j4
   refine qn (show IntKind.u32.wrap (i:Int)=(i:Int) by rw [qei]; omega) ?_
   unfold qec.j6 qec.j8
   refine qkg (fun (a:Nat × Nat) (v':Int) (k':Int) w'=>v'=(a.2:Int)∧k'=a.1∧a.1≤4∧a.2 < 4294967296∧csN (4 - a.1) a.2=csN 4 i∧St F0 w0 w' (qzc tb (ivs .u32 (qfj 16 fun j=>if j < i then (csN 4 j:Int) else 0)) :: qzc ab (ivs .u32 (qfj 16 fun _=>0)) :: ps)) (fun a=>4 - a.1) (0,i) ⟨rfl,rfl,Nat.zero_le _,by simp only; omega,rfl,h⟩ ?_
   clear h
   rintro ⟨k,v⟩ v' k' wL2 I2 μ2 ⟨rfl,rfl,hk4,hv,hc,h⟩ hnx
   simp only at hk4 hv hc h hnx ⊢
   unfold qec.b2
   refine qnc (fun g2=>?_) (fun g2=>?_)
   · have hk3:k < 4:=by omega
     refine ⟨by decide,que (que (que (que ?_)))⟩
     refine qn (cs_text hv) ?_
     refine qn (qd (by omega) (by omega)) ?_
     refine ⟨⟨rfl,rfl,rfl,rfl⟩,hnx (k+1,cs v) _ _ _ ⟨rfl,by simp only; omega,by simp only; omega,cs_lt hv,?_,h⟩ (by simp only; omega)⟩
     rw [← hc,show 4 - k=(4 - (k+1))+1 by omega,csN]
   · have hk4:k=4:=by omega
     subst hk4
     have hc:v=csN 4 i:=hc
     unfold qec.j7
     refine h.sa (b:=tb) (k:=.u32) i rfl (qad _ _) hi2 fun w h=>?_
     unfold qec.j5
     refine qn (qd (by omega) (by omega)) ?_
     refine ⟨⟨rfl,rfl⟩,hin (i+1) _ _ ⟨by omega,by omega,?_⟩ (by omega)⟩
     rw [qpj] at h
     have e:(qfj 16 fun m=>if m=i then (v:Int) else if m < i then (csN 4 m:Int) else 0)=qfj 16 fun j=>if j < i+1 then (csN 4 j:Int) else 0:=qpd fun m hm=>by
      by_cases e:m=i
      · subst e; rw [if_pos rfl,if_pos (by omega),hc]
      · rw [if_neg e]
        by_cases e2:m < i
        · rw [if_pos e2,if_pos (by omega)]
        · rw [if_neg e2,if_neg (by omega)]
     rw [e] at h
     exact h
 · have:i=16:=by omega
   subst this
   have e:(qfj 16 fun j=>if j < 16 then (csN 4 j:Int) else 0)=ctab:=qpd fun m hm=>if_pos hm
   rw [e] at h
   unfold qec.j2
   refine h.lA (b:=tb) rfl ⟨rfl,?_⟩
   refine h.sA (b:=ab) (l':=ivs .u32 ctab) rfl rfl qtf fun w h=>?_
   refine h.lA (b:=ab) rfl ?_
   exact hk w h.drop.drop
theorem ctab_get {i:Nat} (h:i < 16):ctab.getD i 0=(csN 4 i:Int):=qbf (f:=fun i=>(csN 4 i:Int)) h
theorem not32 {v:Nat} (h:v < 4294967296):qyl .u32 (if IntKind.signed .u32 then -1 else IntKind.max .u32) (v:Int)=((4294967295 ^^^ v:Nat):Int):=by
 rw [show (if IntKind.signed .u32 then (-1:Int) else IntKind.max .u32)=((4294967295:Nat):Int) by decide]
 exact qmk (by decide) h
theorem nat_snoc {xs:List Int} {i:Nat} (h:i < xs.length):(xs.take (i+1)).map Int.toNat=(xs.take i).map Int.toNat ++ [(xs.getD i 0).toNat]:=by
 rw [qji h,List.map_append]; rfl
theorem nat_b {xs:List Int} (hb:∀ x ∈ xs,0≤x∧x < 256) (i:Nat):∀ b ∈ (xs.take i).map Int.toNat,b < 256:=by
 intro b h
 obtain ⟨x,hx,rfl⟩:=List.mem_map.1 h
 have:=hb x (List.mem_of_mem_take hx)
 omega
theorem qnf.c {c:Nat} (h:St F0 w0 w ps) [Rdb F0 w0 s ps 1 (u8s xs)] (hb:∀ x ∈ xs,0≤x∧x < 256) (hL:xs.length≤1000000000) (hc:c < 4294967296)
 (hk:∀ w',St F0 w0 w' ps→K (.returned (.int .u32 ((4294967295 ^^^ crcF (4294967295 ^^^ c) (xs.map Int.toNat):Nat):Int))) w'):Calls Tryz.prog 270 ⟨[.agg ⟨ivs .u32 ctab⟩,.int .u32 (c:Int),.slice s.a s.len s.cap]⟩ w K:=by
 have hl:=(h.rdb s).1
 rw [ql] at hl
 refine qfc (qnf.ok _ _ _ _ _ ?_)
 unfold qnf
 refine h.new fun tb w h=>?_
 have h:St F0 w0 w (qzc tb (ivs .u32 ctab) :: ps):=h
 refine qn (not32 hc) ?_
 have h0:4294967295 ^^^ c < 4294967296:=qeo (by decide) hc
 unfold qnf.j1 qnf.j3
 refine qkg (fun (i:Nat) (v':Int) (i':Int) w'=>v'=((crcF (4294967295 ^^^ c) ((xs.take i).map Int.toNat):Nat):Int)∧i'=i∧i≤xs.length∧St F0 w0 w' (qzc tb (ivs .u32 ctab) :: ps)) (fun i=>xs.length - i) 0 ⟨rfl,rfl,Nat.zero_le _,h⟩ ?_
 clear h
 rintro i v' i' wL I μ ⟨rfl,rfl,hi,h⟩ hin
 have hv:=crcF_lt _ (nat_b hb i) _ h0
 unfold qnf.b1
 refine qnc (fun g=>?_) (fun g=>?_)
 · have hi2:i < xs.length:=by omega
   have hx:=hb _ (qee hi2)
   obtain ⟨b,hbx⟩:∃ b:Nat,xs.getD i 0=b:=⟨(xs.getD i 0).toNat,by omega⟩
   have hsn:=nat_snoc hi2
   refine h.lx (s:=s) i rfl hi2 ?_
   rw [hbx] at hx hsn ⊢
   rw [Int.toNat_natCast] at hsn
   have hcs:=crcF_snoc (4294967295 ^^^ c) ((xs.take i).map Int.toNat) b
   rw [← hsn] at hcs
   generalize crcF (4294967295 ^^^ c) ((xs.take i).map Int.toNat)=v at hv hcs hin ⊢
   refine qn (show IntKind.u32.wrap (b:Int)=(b:Int) by rw [qei]; omega) ?_
   refine qn (qmk hv (by omega)) ?_
   have hu:v ^^^ b < 4294967296:=qeo hv (by omega)
   generalize v ^^^ b=u at hu hcs ⊢
   refine ⟨by decide,qn (shr4 u) (qn (and15 u) ?_)⟩
   refine h.la (b:=tb) (k:=.u32) (u % 16) rfl (qad _ _) (by omega) ?_
   rw [ctab_get (by omega)]
   have h1:=csN_half u
   have h2:csN 4 (u % 16) < 4294967296:=csN_lt (by omega) 4
   refine qn (qmk (a:=u / 16) (by omega) h2) ?_
   rw [← h1]
   have hu4:csN 4 u < 4294967296:=csN_lt hu 4
   have h8:=csN_8 u
   generalize csN 4 u=y at hu4 h8 ⊢
   refine ⟨by decide,qn (shr4 y) (qn (and15 y) ?_)⟩
   refine h.la (b:=tb) (k:=.u32) (y % 16) rfl (qad _ _) (by omega) ?_
   rw [ctab_get (by omega)]
   have h3:csN 4 (y % 16) < 4294967296:=csN_lt (by omega) 4
   refine qn (qmk (a:=y / 16) (by omega) h3) ?_
   rw [← h8,← hcs]
   refine qn (qd (by omega) (by omega)) ?_
   exact ⟨⟨rfl,rfl,rfl⟩,hin (i+1) _ ((i:Int)+1) _ ⟨rfl,by omega,by omega,h⟩ (by omega)⟩
 · have:i=xs.length:=by omega
   subst this
   rw [List.take_length] at hv ⊢
   unfold qnf.j2
   refine qn (not32 hv) ?_
   exact hk wL h.drop
theorem qap.c (h:St F0 w0 w ps) [Rdb F0 w0 s ps 1 (u8s xs)] (hb:∀ x ∈ xs,0≤x∧x < 256) (hL:xs.length≤1000000000)
 (hk:∀ w',St F0 w0 w' ps→K (.returned (.int .u32 (crcV xs:Int))) w'):Calls Tryz.prog 180 ⟨[.slice s.a s.len s.cap]⟩ w K:=by
 refine qfc (qap.ok _ _ _ ?_)
 unfold qap
 refine qfc (qml.ok _ _ _ _ ?_)
 unfold qml
 refine qec.c h fun w h=>⟨_,rfl,?_⟩
 refine qnf.c (s:=s) (c:=0) h hb hL (by decide) fun w h=>⟨_,rfl,?_⟩
 rw [Nat.xor_zero]
 exact ⟨_,rfl,hk w h⟩
theorem qvh.c (h:St F0 w0 w ps) [Rdb F0 w0 s ps 1 (u8s xs)] (hb:∀ x ∈ xs,0≤x∧x < 256) (hL:xs.length≤1000000000)
 (hk:∀ w',St F0 w0 w' ps→K (.returned (.int .u32 (crcV xs:Int))) w'):Calls Tryz.prog 121 ⟨[.slice s.a s.len s.cap]⟩ w K:=by
 have hl:=(h.rdb s).1
 rw [ql] at hl
 refine qfc (qvh.ok _ _ _ ?_)
 unfold qvh
 refine qfc (qfb.ok _ _ _ _ ?_)
 unfold qfb
 refine qn (not32 (v:=0) (by decide)) ?_
 rw [Nat.xor_zero]
 unfold qfb.j1 qfb.j3
 refine qkg (fun (i:Nat) (v':Int) (i':Int) w'=>v'=((crcF 4294967295 ((xs.take i).map Int.toNat):Nat):Int)∧i'=i∧i≤xs.length∧St F0 w0 w' ps) (fun i=>xs.length - i) 0 ⟨rfl,rfl,Nat.zero_le _,h⟩ ?_
 clear h
 rintro i v' i' wL I μ ⟨rfl,rfl,hi,h⟩ hin
 have hv:=crcF_lt _ (nat_b hb i) 4294967295 (by decide)
 unfold qfb.b1
 refine qnc (fun g=>?_) (fun g=>?_)
 · have hi2:i < xs.length:=by omega
   have hx:=hb _ (qee hi2)
   obtain ⟨b,hbx⟩:∃ b:Nat,xs.getD i 0=b:=⟨(xs.getD i 0).toNat,by omega⟩
   have hsn:=nat_snoc hi2
   unfold qfb.j4
   refine h.lx (s:=s) i rfl hi2 ?_
   rw [hbx] at hx hsn ⊢
   rw [Int.toNat_natCast] at hsn
   have hcs:=crcF_snoc 4294967295 ((xs.take i).map Int.toNat) b
   rw [← hsn] at hcs
   generalize crcF 4294967295 ((xs.take i).map Int.toNat)=v at hv hcs hin ⊢
   refine qn (show IntKind.u32.wrap (b:Int)=(b:Int) by rw [qei]; omega) ?_
   refine qn (qmk hv (by omega)) ?_
   have hu:v ^^^ b < 4294967296:=qeo hv (by omega)
   generalize v ^^^ b=u at hu hcs ⊢
   unfold qfb.j6
   refine qkg (fun (a:Nat × Nat) (y':Int) (k':Int) w'=>y'=(a.2:Int)∧k'=a.1∧a.1≤8∧a.2 < 4294967296∧csN (8 - a.1) a.2=csN 8 u∧St F0 w0 w' ps) (fun a=>8 - a.1) (0,u) ⟨rfl,rfl,Nat.zero_le _,hu,rfl,h⟩ ?_
   clear h
   rintro ⟨k,y⟩ y' k' wL2 I2 μ2 ⟨rfl,rfl,hk8,hy,hc,h⟩ hnx
   simp only at hk8 hy hc h hnx ⊢
   unfold qfb.b2
   refine qnc (fun g2=>?_) (fun g2=>?_)
   · have hk7:k < 8:=by omega
     have hst:csN (8 - (k+1)) (cs y)=csN 8 u:=by rw [← hc,show 8 - k=(8 - (k+1))+1 by omega,csN]
     have hcy:=cs_lt hy
     refine qn (and1 y) ?_
     refine qne (fun g3=>?_) (fun g3=>?_)
     · have g3:y % 2=1:=by have:((y % 2:Nat):Int)=1:=by simpa using g3
                           omega
       have e:cs y=(y / 2) ^^^ cpoly:=by unfold cs; rw [if_pos g3]
       refine ⟨by decide,qn (shr1 y) ?_⟩
       refine qn (show qyl .u32 ((y / 2:Nat):Int) 3988292384=((cs y:Nat):Int) by rw [e]; exact qmk (b:=cpoly) (by omega) (by decide)) ?_
       refine qn (qd (by omega) (by omega)) ?_
       exact ⟨⟨rfl,rfl⟩,hnx (k+1,cs y) _ _ _ ⟨rfl,by simp only; omega,by simp only; omega,hcy,hst,h⟩ (by simp only; omega)⟩
     · have g3:¬ y % 2=1:=by
        intro e
        rw [e] at g3
        simp at g3
       have e:cs y=y / 2:=by unfold cs; rw [if_neg g3]
       refine ⟨by decide,qn (shr1 y) ?_⟩
       refine qn (qd (by omega) (by omega)) ?_
       exact ⟨⟨rfl,rfl⟩,hnx (k+1,cs y) _ _ _ ⟨by simp only; rw [e],by simp only; omega,by simp only; omega,hcy,hst,h⟩ (by simp only; omega)⟩
   · have:k=8:=by omega
     subst this
     have hc:y=csN 8 u:=hc
     unfold qfb.j5
     refine qn (qd (by omega) (by omega)) ?_
     exact ⟨rfl,hin (i+1) (y:Int) ((i:Int)+1) _ ⟨by rw [hcs,hc],by omega,by omega,h⟩ (by omega)⟩
 · have:i=xs.length:=by omega
   subst this
   rw [List.take_length] at hv ⊢
   unfold qfb.j2
   refine qn (not32 hv) ?_
   exact ⟨_,rfl,hk wL h⟩
end
end Go.Proofs.YtejnemneenjliaaGreat
namespace Go.Proofs.YtejnemneenjliaaGreat
open Go Go.Proofs
set_option linter.unusedVariables false
set_option linter.unusedSimpArgs false
attribute [local irreducible] apK cpK mkK br qif crcV
def En.mid (e:En) (k b:Nat) (base:List Int) (hb:base.length=20):En:={ e with back:=if k=6 then (b:Int) else e.back,base:=if k=7 then base else e.base,hb:=by split <;> simp [hb,e.hb] }
def enR (k n b:Nat) (base:List Int) (hb:base.length=20) (a:Nat) (t:Sl) (L:Nat) (c:Int):En:={ kind:=k,size:=n,back:=if k=6 then (b:Int) else 0,base:=if k=7 then base else b20,hb:=by split; exact hb; rfl,data:=t,at':=a,len:=L,crc:=c }
theorem ofsDec_long:∀ (l:List Int) (i:Nat) (v:Int),i≤8→8 - i < l.length→(∀ x ∈ l.take (8 - i),128≤x)→ofsDec i v l=(0,0,5):=by
 intro l
 induction l with
 | nil=>intro i v hi h; simp at h
 | cons c l ih =>
   intro i v hi h hx
   rw [ofsDec]
   by_cases h8:i=8
   · rw [if_pos h8]
   · have hc:128≤c:=hx c (by rw [show 8 - i=(8 - (i+1))+1 by omega,List.take_succ_cons]; simp)
     rw [if_neg h8,if_neg (by omega)]
     refine ih (i+1) _ (by omega) (by rw [List.length_cons] at h; omega) fun x hx2=>hx x ?_
     rw [show 8 - i=(8 - (i+1))+1 by omega,List.take_succ_cons]
     exact List.mem_cons_of_mem _ hx2
theorem ofs_any (b:Nat) (R:List Int):((qsc b).length≤8∧ofsDec 0 0 (qsc b ++ R)=((b:Int),((qsc b).length:Int),0)) ∨ (8 < (qsc b).length∧ofsDec 0 0 (qsc b ++ R)=(0,0,5)):=by
 rcases Nat.lt_or_ge 8 (qsc b).length with h | h
 · refine Or.inr ⟨h,ofsDec_long _ 0 0 (by decide) (by rw [List.length_append]; omega) fun x hx=>?_⟩
   have e:(qsc b).length=(qdi (b / 128)).length+1:=by simp [qsc]
   unfold qsc at hx
   rw [List.append_assoc,List.take_append_of_le_length (by omega)] at hx
   exact ofsHi_big _ x (List.mem_of_mem_take hx)
 · exact Or.inl ⟨h,qhp R b h⟩
section
variable {F0:List Nat} {w0 w:World} {ps rest r1 r2:List As} {s:Sl} {xs A R base:List Int} {K:Ending→World→Prop} {eb rb k n b m:Nat} {e:En} {l:List Value}
theorem qwd.c (h:St F0 w0 w ps) [PkB eb ps (enC e) rest] [hr:Rdb F0 w0 s ps 1 (u8s (qyd k b base ++ R))] (hX:∀ x ∈ qyd k b base ++ R,0≤x∧x < 256) (hL:(qyd k b base ++ R).length≤1000000) (hc:s.len≤s.cap)
 (hb:base.length=20) (he:e.kind=k) (h1:1≤k) (h5:k ≠ 5) (hm:k=6→1≤b∧(b:Int)≤e.at'∧(qsc b).length≤8)
 (hk:∀ w',St F0 w0 w' (qzc eb (enC (e.mid k b base hb)) :: rest)→K (.returned (.tuple ⟨[.int .i64 ((qyd k b base).length:Int),.int .i64 0]⟩)) w') :
 Calls Tryz.prog 178 ⟨[.pointer (some ⟨eb,0,none⟩),.slice s.a s.len s.cap]⟩ w K:=by
 have hl:=(h.rdb s).1
 rw [ql,Nat.mul_one] at hl
 refine qfc (qwd.ok _ _ _ _ ?_)
 unfold qwd
 refine qtd (h.gI ?_)
 by_cases k6:k=6
 · obtain ⟨g1,g2,g3⟩:=hm k6
   have em:qyd k b base=qsc b:=if_pos k6
   have e6:e.mid k b base hb={ e with back:=b }:=by
    unfold En.mid
    have:¬ k=7:=by omega
    simp [k6]
   rw [em] at hr hX hL hk
   rw [e6] at hk
   refine qde (by simp; omega) ?_
   refine qic.c (s:=s) (xs:=qsc b ++ R) h hX (by omega) fun w h=>⟨_,_,_,rfl,?_⟩
   rw [qhp R b g3]
   refine qle rfl ?_
   refine qnc (fun g=>by have g:(b:Int) < 1:=g; omega) fun _=>?_
   refine qtd (h.gI ?_)
   refine qnc (fun g=>by have g:(b:Int) > e.at':=g; omega) fun _=>?_
   refine qtd (h.gst trivial fun w h=>?_)
   exact hk w h
 · refine qle (by simp; omega) ?_
   by_cases k7:k=7
   · have em:qyd k b base=base:=by unfold qyd; rw [if_neg k6,if_pos k7]
     have e7:e.mid k b base hb={ e with base:=base,hb:=hb }:=by
      unfold En.mid
      simp [k7]
     rw [em] at hr hX hL hk hl
     rw [e7] at hk
     rw [List.length_append] at hl
     refine qde (by simp; omega) ?_
     refine qnc (fun g=>by omega) fun _=>?_
     refine qvk (n:=20) rfl (by omega) (que ⟨Nat.le_refl _,?_⟩)
     haveI:=h.cutR s 0 20 (s.cap - 0) (by omega) (by decide) hc (show ((base ++ R).drop 0).take (20 - 0)=base by rw [List.drop_zero,Nat.sub_zero,List.take_append_of_le_length (by omega),List.take_of_length_le (by omega)])
     refine nz_ldA ((h.rdb ⟨qgf s.a s.cap 0 1,20 - 0,s.cap - 0⟩).rdO (by rw [ql]; omega) ?_) (by decide)
     refine qtd ⟨by show (ivs .u8 base).length=20; rw [ql]; exact hb,?_⟩
     rw [add0]
     refine (h.toB eb).stA (o:=3) (by rw [qdd]; show 3+(ivs .u8 base).length≤27; rw [ql]; omega) qtf fun w h=>?_
     have hsz:(⟨ivs .u8 base⟩:Array Value).size=20:=by show (ivs .u8 base).length=20; rw [ql]; exact hb
     rw [hsz] at h
     have e3:=qlt e base hb
     have h:St F0 w0 w (qzc eb ((enC e).take 3 ++ ivs .u8 base ++ (enC e).drop 23) :: rest):=h
     rw [e3] at h
     have:=hk w h
     rw [hb] at this
     exact this
   · have em:qyd k b base=[]:=by unfold qyd; rw [if_neg k6,if_neg k7]
     have e0:e.mid k b base hb=e:=by
      unfold En.mid
      simp [k6,k7]
     rw [em] at hk
     rw [e0] at hk
     refine qle (by simp; omega) ?_
     refine qle (by simp; omega) ?_
     refine qle (by simp; omega) ?_
     exact hk w (h.toB eb)
def ofsErr (l:List Int):Int:=if (ofsDec 0 0 l).2.2 ≠ 0 then (ofsDec 0 0 l).2.2 else 2
theorem qmo (b:Nat) (R:List Int):ofsErr (qsc b ++ R) ≠ 0:=by
 unfold ofsErr
 split
 · assumption
 · decide
theorem qwd.bad (h:St F0 w0 w ps) [PkB eb ps (enC e) rest] [hr:Rdb F0 w0 s ps 1 (u8s (qsc b ++ R))] (hX:∀ x ∈ qsc b ++ R,0≤x∧x < 256) (hL:(qsc b ++ R).length≤1000000)
 (he:e.kind=6) (hm:(b:Int) < 1 ∨ e.at' < (b:Int) ∨ 8 < (qsc b).length)
 (hk:∀ w',St F0 w0 w' ps→K (.returned (.tuple ⟨[.int .i64 0,.int .i64 (ofsErr (qsc b ++ R))]⟩)) w') :
 Calls Tryz.prog 178 ⟨[.pointer (some ⟨eb,0,none⟩),.slice s.a s.len s.cap]⟩ w K:=by
 refine qfc (qwd.ok _ _ _ _ ?_)
 unfold qwd
 refine qtd (h.gI ?_)
 refine qde (by simp [he]) ?_
 refine qic.c (s:=s) (xs:=qsc b ++ R) h hX (by omega) fun w h=>⟨_,_,_,rfl,?_⟩
 have hk:=hk w h
 rcases ofs_any b R with ⟨g1,g2⟩ | ⟨g1,g2⟩
 · have e2:ofsErr (qsc b ++ R)=2:=by unfold ofsErr; rw [g2]; rfl
   rw [e2] at hk
   rw [g2]
   refine qle rfl ?_
   refine qnc (fun _=>hk) fun g3=>?_
   refine qtd (h.gI ?_)
   refine qnc (fun _=>hk) fun g4=>?_
   have g3:¬ (b:Int) < 1:=g3
   have g4:¬ (b:Int) > e.at':=g4
   omega
 · have e2:ofsErr (qsc b ++ R)=5:=by unfold ofsErr; rw [g2]; rfl
   rw [e2] at hk
   rw [g2]
   exact qde rfl hk
theorem qlf.c (h:St F0 w0 w ps) [hr:Rdb F0 w0 s ps 1 (u8s (A ++ (hdE k n ++ (qyd k b base ++ R))))] (hX:∀ x ∈ A ++ (hdE k n ++ (qyd k b base ++ R)),0≤x∧x < 256) (hL:(A ++ (hdE k n ++ (qyd k b base ++ R))).length≤1000000) (hc:s.len≤s.cap)
 (hb:base.length=20) (h1:1≤k) (h7:k≤7) (h5:k ≠ 5) (hn:n≤16384) (hm:k=6→1≤b∧b≤A.length∧(qsc b).length≤8)
 (hu:Unp R (n:Int) (xs,(m:Int),0)) (hxn:xs.length=n) (hmR:m≤R.length)
 (hk:∀ t w',t.len=n→(∀ x ∈ xs,0≤x∧x < 256)→St F0 w0 w' (rdA 1 t (u8s xs) :: ps)→K (.returned (.tuple ⟨[.agg ⟨enC (enR k n b base hb A.length t ((hdE k n).length+(qyd k b base).length+m) (crcV ((hdE k n ++ (qyd k b base ++ R)).take ((hdE k n).length+(qyd k b base).length+m))))⟩,.int .i64 0]⟩)) w') :
 Calls Tryz.prog 117 ⟨[.slice s.a s.len s.cap,.int .i64 (A.length:Int)]⟩ w K:=by
 have hl:=(h.rdb s).1
 rw [ql,Nat.mul_one,List.length_append,List.length_append,List.length_append] at hl
 rw [List.length_append,List.length_append,List.length_append] at hL
 have hX1:∀ x ∈ hdE k n ++ (qyd k b base ++ R),0≤x∧x < 256:=fun x hx=>hX x (List.mem_append_right _ hx)
 have hX2:∀ x ∈ qyd k b base ++ R,0≤x∧x < 256:=fun x hx=>hX1 x (List.mem_append_right _ hx)
 have hX3:∀ x ∈ R,0≤x∧x < 256:=fun x hx=>hX2 x (List.mem_append_right _ hx)
 have c1:((A ++ (hdE k n ++ (qyd k b base ++ R))).drop A.length).take (s.len - A.length)=hdE k n ++ (qyd k b base ++ R):=by
  rw [List.drop_left' rfl,List.take_of_length_le (by rw [List.length_append,List.length_append]; omega)]
 have c2:((A ++ (hdE k n ++ (qyd k b base ++ R))).drop (A.length+(hdE k n).length)).take (s.len - (A.length+(hdE k n).length))=qyd k b base ++ R:=by
  rw [← List.drop_drop,List.drop_left' rfl,List.drop_left' rfl,List.take_of_length_le (by rw [List.length_append]; omega)]
 have c3:((A ++ (hdE k n ++ (qyd k b base ++ R))).drop (A.length+(hdE k n).length+(qyd k b base).length)).take (s.len - (A.length+(hdE k n).length+(qyd k b base).length))=R:=by
  rw [← List.drop_drop,← List.drop_drop,List.drop_left' rfl,List.drop_left' rfl,List.drop_left' rfl,List.take_of_length_le (by omega)]
 have c4:((A ++ (hdE k n ++ (qyd k b base ++ R))).drop A.length).take (A.length+((hdE k n).length+(qyd k b base).length+m) - A.length)=(hdE k n ++ (qyd k b base ++ R)).take ((hdE k n).length+(qyd k b base).length+m):=by
  rw [List.drop_left' rfl,Nat.add_sub_cancel_left]
 have hle:=qgk k (n:=n) (by omega)
 generalize hXX:A ++ (hdE k n ++ (qyd k b base ++ R))=X at *
 refine qfc (qlf.ok _ _ _ _ ?_)
 unfold qlf
 rw [zcE]
 refine h.new fun rb w h=>?_
 refine h.new fun eb w h=>?_
 have h:St F0 w0 w (qzc eb (enC en0) :: qzc rb (enC en0) :: ps):=h
 refine ⟨by rfl,?_⟩
 refine h.sE (eb:=eb) (e:={ en0 with at':=A.length }) (qdd _) fun w h=>?_
 refine qvk (n:=A.length) rfl (by omega) (que ?_)
 haveI:=h.cutR s A.length s.len (s.cap - A.length) (Nat.le_refl _) (by omega) hc c1
 refine qzb.c (s:=⟨qgf s.a s.cap A.length 1,s.len - A.length,s.cap - A.length⟩) (k:=k) (n:=n) (tl:=qyd k b base ++ R) h h7 (by omega) (by rw [List.length_append]; omega) fun w h=>⟨_,_,_,_,rfl,?_⟩
 refine qle rfl ?_
 refine h.gst trivial fun w h=>?_
 refine h.gst trivial fun w h=>?_
 refine qn (show IntKind.i64.wrap ((A.length:Int)+((hdE k n).length:Int))=((A.length+(hdE k n).length:Nat):Int) by rw [qd (by omega) (by omega)]; omega) ?_
 refine qvk (n:=A.length+(hdE k n).length) rfl (by omega) (que ?_)
 haveI:=h.cutR s (A.length+(hdE k n).length) s.len (s.cap - (A.length+(hdE k n).length)) (Nat.le_refl _) (by omega) hc c2
 refine qwd.c (k:=k) (b:=b) (base:=base) (R:=R) (s:=⟨qgf s.a s.cap (A.length+(hdE k n).length) 1,s.len - (A.length+(hdE k n).length),s.cap - (A.length+(hdE k n).length)⟩) (e:={ en0 with at':=A.length,kind:=k,size:=n }) h hX2 (by rw [List.length_append]; omega) (by show s.len - _≤s.cap - _; omega) hb rfl h1 h5 (fun g=>⟨(hm g).1,by have:=(hm g).2.1; show (b:Int)≤(A.length:Int); omega,(hm g).2.2⟩) fun w h=>⟨_,_,rfl,?_⟩
 refine qle rfl ?_
 refine qnc (fun g=>by omega) fun _=>?_
 refine qn (show IntKind.i64.wrap ((A.length:Int)+((hdE k n).length:Int))=((A.length+(hdE k n).length:Nat):Int) by rw [qd (by omega) (by omega)]; omega) ?_
 refine qn (show IntKind.i64.wrap (((A.length+(hdE k n).length:Nat):Int)+((qyd k b base).length:Int))=((A.length+(hdE k n).length+(qyd k b base).length:Nat):Int) by rw [qd (by omega) (by omega)]; omega) ?_
 refine qvk (n:=A.length+(hdE k n).length+(qyd k b base).length) rfl (by omega) (que ?_)
 haveI:=h.cutR s (A.length+(hdE k n).length+(qyd k b base).length) s.len (s.cap - (A.length+(hdE k n).length+(qyd k b base).length)) (Nat.le_refl _) (by omega) hc c3
 refine qhi.c (s:=⟨qgf s.a s.cap (A.length+(hdE k n).length+(qyd k b base).length) 1,s.len - (A.length+(hdE k n).length+(qyd k b base).length),s.cap - (A.length+(hdE k n).length+(qyd k b base).length)⟩) (xs:=R) h hX3 (by omega) (by show s.len - _≤s.cap - _; omega) hu fun t w ht htb h=>⟨t,_,_,rfl,?_⟩
 have ht:t.len=xs.length:=ht
 refine qle rfl ?_
 refine qnc (fun g=>by omega) fun _=>?_
 refine qn (show IntKind.i64.wrap (((hdE k n).length:Int)+((qyd k b base).length:Int))=(((hdE k n).length+(qyd k b base).length:Nat):Int) by rw [qd (by omega) (by omega)]; omega) ?_
 refine qn (show IntKind.i64.wrap ((((hdE k n).length+(qyd k b base).length:Nat):Int)+(m:Int))=(((hdE k n).length+(qyd k b base).length+m:Nat):Int) by rw [qd (by omega) (by omega)]; omega) ?_
 refine h.gst trivial fun w h=>?_
 refine h.gst trivial fun w h=>?_
 refine h.gI ?_
 refine qn (show IntKind.i64.wrap ((A.length:Int)+(((hdE k n).length+(qyd k b base).length+m:Nat):Int))=((A.length+((hdE k n).length+(qyd k b base).length+m):Nat):Int) by rw [qd (by omega) (by omega)]; omega) ?_
 refine qvk (n:=A.length+((hdE k n).length+(qyd k b base).length+m)) rfl (by omega) ?_
 refine qvk (n:=A.length) rfl (by omega) (que ?_)
 haveI:=h.cutR s A.length (A.length+((hdE k n).length+(qyd k b base).length+m)) (s.cap - A.length) (by omega) (by omega) hc c4
 refine qap.c (s:=⟨qgf s.a s.cap A.length 1,A.length+((hdE k n).length+(qyd k b base).length+m) - A.length,s.cap - A.length⟩) h (fun x hx=>hX1 x (List.mem_of_mem_take hx)) (by rw [List.length_take,List.length_append,List.length_append]; omega) fun w h=>⟨_,rfl,?_⟩
 refine h.gst trivial fun w h=>?_
 refine h.cpE (rb:=rb) (qdd _) fun w h=>?_
 have e1:({ ({ ({ (({ en0 with at':=(A.length:Int),kind:=(k:Int),size:=(n:Int) }:En).mid k b base hb) with data:=⟨t.a,t.len,t.cap⟩ }:En) with len:=(((hdE k n).length+(qyd k b base).length+m:Nat):Int) }:En) with crc:=((crcV ((hdE k n ++ (qyd k b base ++ R)).take ((hdE k n).length+(qyd k b base).length+m)):Nat):Int) }:En)=enR k n b base hb A.length t ((hdE k n).length+(qyd k b base).length+m) (crcV ((hdE k n ++ (qyd k b base ++ R)).take ((hdE k n).length+(qyd k b base).length+m))):=rfl
 have:=hk t w (by omega) htb h.sub
 rw [← e1] at this
 exact this
theorem qlf.err (h:St F0 w0 w ps) [hr:Rdb F0 w0 s ps 1 (u8s (A ++ (hdE k n ++ (qyd k b base ++ R))))] (hX:∀ x ∈ A ++ (hdE k n ++ (qyd k b base ++ R)),0≤x∧x < 256) (hL:(A ++ (hdE k n ++ (qyd k b base ++ R))).length≤1000000) (hc:s.len≤s.cap)
 (hb:base.length=20) (h1:1≤k) (h7:k≤7) (h5:k ≠ 5) (hn:n≤16384) (hm:k=6→1≤b∧b≤A.length∧(qsc b).length≤8)
 {r:List Int × Int × Int} (hu:Unp R (n:Int) r) (hne:r.2.2 ≠ 0)
 (hk:∀ e w',St F0 w0 w' ps→K (.returned (.tuple ⟨[.agg ⟨enC e⟩,.int .i64 r.2.2]⟩)) w') :
 Calls Tryz.prog 117 ⟨[.slice s.a s.len s.cap,.int .i64 (A.length:Int)]⟩ w K:=by
 have hl:=(h.rdb s).1
 rw [ql,Nat.mul_one,List.length_append,List.length_append,List.length_append] at hl
 rw [List.length_append,List.length_append,List.length_append] at hL
 have hX1:∀ x ∈ hdE k n ++ (qyd k b base ++ R),0≤x∧x < 256:=fun x hx=>hX x (List.mem_append_right _ hx)
 have hX2:∀ x ∈ qyd k b base ++ R,0≤x∧x < 256:=fun x hx=>hX1 x (List.mem_append_right _ hx)
 have hX3:∀ x ∈ R,0≤x∧x < 256:=fun x hx=>hX2 x (List.mem_append_right _ hx)
 have c1:((A ++ (hdE k n ++ (qyd k b base ++ R))).drop A.length).take (s.len - A.length)=hdE k n ++ (qyd k b base ++ R):=by
  rw [List.drop_left' rfl,List.take_of_length_le (by rw [List.length_append,List.length_append]; omega)]
 have c2:((A ++ (hdE k n ++ (qyd k b base ++ R))).drop (A.length+(hdE k n).length)).take (s.len - (A.length+(hdE k n).length))=qyd k b base ++ R:=by
  rw [← List.drop_drop,List.drop_left' rfl,List.drop_left' rfl,List.take_of_length_le (by rw [List.length_append]; omega)]
 have c3:((A ++ (hdE k n ++ (qyd k b base ++ R))).drop (A.length+(hdE k n).length+(qyd k b base).length)).take (s.len - (A.length+(hdE k n).length+(qyd k b base).length))=R:=by
  rw [← List.drop_drop,← List.drop_drop,List.drop_left' rfl,List.drop_left' rfl,List.drop_left' rfl,List.take_of_length_le (by omega)]
 have hle:=qgk k (n:=n) (by omega)
 generalize hXX:A ++ (hdE k n ++ (qyd k b base ++ R))=X at *
 refine qfc (qlf.ok _ _ _ _ ?_)
 unfold qlf
 rw [zcE]
 refine h.new fun rb w h=>?_
 refine h.new fun eb w h=>?_
 have h:St F0 w0 w (qzc eb (enC en0) :: qzc rb (enC en0) :: ps):=h
 refine ⟨by rfl,?_⟩
 refine h.sE (eb:=eb) (e:={ en0 with at':=A.length }) (qdd _) fun w h=>?_
 refine qvk (n:=A.length) rfl (by omega) (que ?_)
 haveI:=h.cutR s A.length s.len (s.cap - A.length) (Nat.le_refl _) (by omega) hc c1
 refine qzb.c (s:=⟨qgf s.a s.cap A.length 1,s.len - A.length,s.cap - A.length⟩) (k:=k) (n:=n) (tl:=qyd k b base ++ R) h h7 (by omega) (by rw [List.length_append]; omega) fun w h=>⟨_,_,_,_,rfl,?_⟩
 refine qle rfl ?_
 refine h.gst trivial fun w h=>?_
 refine h.gst trivial fun w h=>?_
 refine qn (show IntKind.i64.wrap ((A.length:Int)+((hdE k n).length:Int))=((A.length+(hdE k n).length:Nat):Int) by rw [qd (by omega) (by omega)]; omega) ?_
 refine qvk (n:=A.length+(hdE k n).length) rfl (by omega) (que ?_)
 haveI:=h.cutR s (A.length+(hdE k n).length) s.len (s.cap - (A.length+(hdE k n).length)) (Nat.le_refl _) (by omega) hc c2
 refine qwd.c (k:=k) (b:=b) (base:=base) (R:=R) (s:=⟨qgf s.a s.cap (A.length+(hdE k n).length) 1,s.len - (A.length+(hdE k n).length),s.cap - (A.length+(hdE k n).length)⟩) (e:={ en0 with at':=A.length,kind:=k,size:=n }) h hX2 (by rw [List.length_append]; omega) (by show s.len - _≤s.cap - _; omega) hb rfl h1 h5 (fun g=>⟨(hm g).1,by have:=(hm g).2.1; show (b:Int)≤(A.length:Int); omega,(hm g).2.2⟩) fun w h=>⟨_,_,rfl,?_⟩
 refine qle rfl ?_
 refine qnc (fun g=>by omega) fun _=>?_
 refine qn (show IntKind.i64.wrap ((A.length:Int)+((hdE k n).length:Int))=((A.length+(hdE k n).length:Nat):Int) by rw [qd (by omega) (by omega)]; omega) ?_
 refine qn (show IntKind.i64.wrap (((A.length+(hdE k n).length:Nat):Int)+((qyd k b base).length:Int))=((A.length+(hdE k n).length+(qyd k b base).length:Nat):Int) by rw [qd (by omega) (by omega)]; omega) ?_
 refine qvk (n:=A.length+(hdE k n).length+(qyd k b base).length) rfl (by omega) (que ?_)
 haveI:=h.cutR s (A.length+(hdE k n).length+(qyd k b base).length) s.len (s.cap - (A.length+(hdE k n).length+(qyd k b base).length)) (Nat.le_refl _) (by omega) hc c3
 refine qhi.c (s:=⟨qgf s.a s.cap (A.length+(hdE k n).length+(qyd k b base).length) 1,s.len - (A.length+(hdE k n).length+(qyd k b base).length),s.cap - (A.length+(hdE k n).length+(qyd k b base).length)⟩) (xs:=R) h hX3 (by omega) (by show s.len - _≤s.cap - _; omega) hu fun t w ht htb h=>⟨t,_,_,rfl,?_⟩
 refine qde (by simpa using hne) ?_
 refine h.cpE (rb:=rb) (qdd _) fun w h=>?_
 exact hk _ w h.sub
theorem qlf.bad (h:St F0 w0 w ps) [hr:Rdb F0 w0 s ps 1 (u8s (A ++ (hdE 6 n ++ (qsc b ++ R))))] (hX:∀ x ∈ A ++ (hdE 6 n ++ (qsc b ++ R)),0≤x∧x < 256) (hL:(A ++ (hdE 6 n ++ (qsc b ++ R))).length≤1000000) (hc:s.len≤s.cap)
 (hn:n≤16384) (hm:A.length < b ∨ 8 < (qsc b).length)
 (hk:∀ e w',St F0 w0 w' ps→K (.returned (.tuple ⟨[.agg ⟨enC e⟩,.int .i64 (ofsErr (qsc b ++ R))]⟩)) w') :
 Calls Tryz.prog 117 ⟨[.slice s.a s.len s.cap,.int .i64 (A.length:Int)]⟩ w K:=by
 have hl:=(h.rdb s).1
 rw [ql,Nat.mul_one,List.length_append,List.length_append,List.length_append] at hl
 rw [List.length_append,List.length_append,List.length_append] at hL
 have hX1:∀ x ∈ hdE 6 n ++ (qsc b ++ R),0≤x∧x < 256:=fun x hx=>hX x (List.mem_append_right _ hx)
 have hX2:∀ x ∈ qsc b ++ R,0≤x∧x < 256:=fun x hx=>hX1 x (List.mem_append_right _ hx)
 have c1:((A ++ (hdE 6 n ++ (qsc b ++ R))).drop A.length).take (s.len - A.length)=hdE 6 n ++ (qsc b ++ R):=by
  rw [List.drop_left' rfl,List.take_of_length_le (by rw [List.length_append,List.length_append]; omega)]
 have c2:((A ++ (hdE 6 n ++ (qsc b ++ R))).drop (A.length+(hdE 6 n).length)).take (s.len - (A.length+(hdE 6 n).length))=qsc b ++ R:=by
  rw [← List.drop_drop,List.drop_left' rfl,List.drop_left' rfl,List.take_of_length_le (by rw [List.length_append]; omega)]
 have hle:=qgk 6 (n:=n) (by omega)
 have hnz:=qmo b R
 generalize hXX:A ++ (hdE 6 n ++ (qsc b ++ R))=X at *
 refine qfc (qlf.ok _ _ _ _ ?_)
 unfold qlf
 rw [zcE]
 refine h.new fun rb w h=>?_
 refine h.new fun eb w h=>?_
 have h:St F0 w0 w (qzc eb (enC en0) :: qzc rb (enC en0) :: ps):=h
 refine ⟨by rfl,?_⟩
 refine h.sE (eb:=eb) (e:={ en0 with at':=A.length }) (qdd _) fun w h=>?_
 refine qvk (n:=A.length) rfl (by omega) (que ?_)
 haveI:=h.cutR s A.length s.len (s.cap - A.length) (Nat.le_refl _) (by omega) hc c1
 refine qzb.c (s:=⟨qgf s.a s.cap A.length 1,s.len - A.length,s.cap - A.length⟩) (k:=6) (n:=n) (tl:=qsc b ++ R) h (by decide) (by omega) (by rw [List.length_append]; omega) fun w h=>⟨_,_,_,_,rfl,?_⟩
 refine qle rfl ?_
 refine h.gst trivial fun w h=>?_
 refine h.gst trivial fun w h=>?_
 refine qn (show IntKind.i64.wrap ((A.length:Int)+((hdE 6 n).length:Int))=((A.length+(hdE 6 n).length:Nat):Int) by rw [qd (by omega) (by omega)]; omega) ?_
 refine qvk (n:=A.length+(hdE 6 n).length) rfl (by omega) (que ?_)
 haveI:=h.cutR s (A.length+(hdE 6 n).length) s.len (s.cap - (A.length+(hdE 6 n).length)) (Nat.le_refl _) (by omega) hc c2
 refine qwd.bad (b:=b) (R:=R) (s:=⟨qgf s.a s.cap (A.length+(hdE 6 n).length) 1,s.len - (A.length+(hdE 6 n).length),s.cap - (A.length+(hdE 6 n).length)⟩) (e:={ en0 with at':=A.length,kind:=((6:Nat):Int),size:=n }) h hX2 (by rw [List.length_append]; omega) rfl (hm.elim (fun g=>Or.inr (Or.inl (by show (A.length:Int) < (b:Int); omega))) (fun g=>Or.inr (Or.inr g))) fun w h=>⟨_,_,rfl,?_⟩
 refine qde (by simpa using hnz) ?_
 refine h.cpE (rb:=rb) (qdd _) fun w h=>?_
 exact hk _ w h.sub
theorem qfe.c (h:St F0 w0 w ps) [hr:Rdb F0 w0 s ps 1 (u8s (A ++ (hdE k n ++ (qyd k b base ++ R))))] (hX:∀ x ∈ A ++ (hdE k n ++ (qyd k b base ++ R)),0≤x∧x < 256) (hL:(A ++ (hdE k n ++ (qyd k b base ++ R))).length≤1000000) (hc:s.len≤s.cap)
 (hb:base.length=20) (h1:1≤k) (h7:k≤7) (h5:k ≠ 5) (hn:n≤16384) (hm:k=6→1≤b∧b≤A.length∧(qsc b).length≤8)
 (hu:Unp R (n:Int) (xs,(m:Int),0)) (hxn:xs.length=n) (hmR:m≤R.length)
 (hk:∀ t w',t.len=n→(∀ x ∈ xs,0≤x∧x < 256)→St F0 w0 w' (rdA 1 t (u8s xs) :: ps)→K (.returned (.tuple ⟨[.agg ⟨enC (enR k n b base hb A.length t ((hdE k n).length+(qyd k b base).length+m) (crcV ((hdE k n ++ (qyd k b base ++ R)).take ((hdE k n).length+(qyd k b base).length+m))))⟩,.int .i64 0]⟩)) w') :
 Calls Tryz.prog 45 ⟨[.slice s.a s.len s.cap,.int .i64 (A.length:Int)]⟩ w K:=by
 have hl:=(h.rdb s).1
 rw [ql,Nat.mul_one,List.length_append] at hl
 refine qfc (qfe.ok _ _ _ _ ?_)
 unfold qfe
 rw [zcE]
 refine h.new fun rb w h=>?_
 have h:St F0 w0 w (qzc rb (enC en0) :: ps):=h
 refine qnc (fun g=>by omega) fun _=>qnc (fun g=>by omega) fun _=>?_
 refine qlf.c (A:=A) (k:=k) (n:=n) (b:=b) (base:=base) (R:=R) (s:=s) h hX hL hc hb h1 h7 h5 hn hm hu hxn hmR fun t w ht htb h=>⟨_,_,rfl,?_⟩
 refine h.new fun eb w h=>?_
 have h:St F0 w0 w (qzc eb (enC en0) :: rdA 1 t (u8s xs) :: qzc rb (enC en0) :: ps):=h
 refine ⟨qdd _,h.sE (eb:=eb) (qdd _) fun w h=>?_⟩
 refine qle rfl ?_
 exact h.cpE (rb:=rb) (qdd _) fun w h=>hk t w ht htb h.sub
theorem qfe.err (h:St F0 w0 w ps) [hr:Rdb F0 w0 s ps 1 (u8s (A ++ (hdE k n ++ (qyd k b base ++ R))))] (hX:∀ x ∈ A ++ (hdE k n ++ (qyd k b base ++ R)),0≤x∧x < 256) (hL:(A ++ (hdE k n ++ (qyd k b base ++ R))).length≤1000000) (hc:s.len≤s.cap)
 (hb:base.length=20) (h1:1≤k) (h7:k≤7) (h5:k ≠ 5) (hn:n≤16384) (hm:k=6→1≤b∧b≤A.length∧(qsc b).length≤8)
 {r:List Int × Int × Int} (hu:Unp R (n:Int) r) (hne:r.2.2 ≠ 0)
 (hk:∀ w',St F0 w0 w' ps→K (.returned (.tuple ⟨[.agg ⟨enC en0⟩,.int .i64 r.2.2]⟩)) w') :
 Calls Tryz.prog 45 ⟨[.slice s.a s.len s.cap,.int .i64 (A.length:Int)]⟩ w K:=by
 have hl:=(h.rdb s).1
 rw [ql,Nat.mul_one,List.length_append] at hl
 refine qfc (qfe.ok _ _ _ _ ?_)
 unfold qfe
 rw [zcE]
 refine h.new fun rb w h=>?_
 have h:St F0 w0 w (qzc rb (enC en0) :: ps):=h
 refine qnc (fun g=>by omega) fun _=>qnc (fun g=>by omega) fun _=>?_
 refine qlf.err (A:=A) (k:=k) (n:=n) (b:=b) (base:=base) (R:=R) (s:=s) h hX hL hc hb h1 h7 h5 hn hm hu hne fun e w h=>⟨_,_,rfl,?_⟩
 refine h.new fun eb w h=>?_
 have h:St F0 w0 w (qzc eb (enC en0) :: qzc rb (enC en0) :: ps):=h
 refine ⟨qdd _,h.sE (eb:=eb) (qdd _) fun w h=>?_⟩
 refine qde (by simpa using hne) ?_
 refine ⟨rfl,?_⟩
 refine h.sE (eb:=rb) (e:=en0) (qdd _) fun w h=>?_
 exact h.lE (eb:=rb) (hk w h.sub)
theorem qfe.bad (h:St F0 w0 w ps) [hr:Rdb F0 w0 s ps 1 (u8s (A ++ (hdE 6 n ++ (qsc b ++ R))))] (hX:∀ x ∈ A ++ (hdE 6 n ++ (qsc b ++ R)),0≤x∧x < 256) (hL:(A ++ (hdE 6 n ++ (qsc b ++ R))).length≤1000000) (hc:s.len≤s.cap)
 (hn:n≤16384) (hm:A.length < b ∨ 8 < (qsc b).length)
 (hk:∀ w',St F0 w0 w' ps→K (.returned (.tuple ⟨[.agg ⟨enC en0⟩,.int .i64 (ofsErr (qsc b ++ R))]⟩)) w') :
 Calls Tryz.prog 45 ⟨[.slice s.a s.len s.cap,.int .i64 (A.length:Int)]⟩ w K:=by
 have hl:=(h.rdb s).1
 rw [ql,Nat.mul_one,List.length_append] at hl
 refine qfc (qfe.ok _ _ _ _ ?_)
 unfold qfe
 rw [zcE]
 refine h.new fun rb w h=>?_
 have h:St F0 w0 w (qzc rb (enC en0) :: ps):=h
 refine qnc (fun g=>by omega) fun _=>qnc (fun g=>by omega) fun _=>?_
 refine qlf.bad (A:=A) (n:=n) (b:=b) (R:=R) (s:=s) h hX hL hc hn hm fun e w h=>⟨_,_,rfl,?_⟩
 refine h.new fun eb w h=>?_
 have h:St F0 w0 w (qzc eb (enC en0) :: qzc rb (enC en0) :: ps):=h
 refine ⟨qdd _,h.sE (eb:=eb) (qdd _) fun w h=>?_⟩
 refine qde (by simpa using (qmo b R)) ?_
 refine ⟨rfl,?_⟩
 refine h.sE (eb:=rb) (e:=en0) (qdd _) fun w h=>?_
 exact h.lE (eb:=rb) (hk w h.sub)
end
end Go.Proofs.YtejnemneenjliaaGreat
namespace Go.Proofs.YtejnemneenjliaaGreat
open Go Go.Proofs
set_option linter.unusedVariables false
set_option linter.unusedSimpArgs false
attribute [local irreducible] apK cpK mkK br qif crcV
theorem enC_setb (e:En) {i:Nat} (hi:i < 20) (v:Int):(enC e).set (3+i) (.int .u8 v)=enC { e with base:=e.base.set i v,hb:=by rw [List.length_set]; exact e.hb }:=by
 unfold enC
 rw [set_app (j:=i) (by simp),List.set_append_left _ _ (by rw [ql,e.hb]; exact hi),ivs_set]
def b20t (base:List Int) (i:Nat):List Int:=base.take i ++ List.replicate (20 - i) 0
theorem b20t_len {base:List Int} (hb:base.length=20) {i:Nat} (hi:i≤20):(b20t base i).length=20:=by simp [b20t,hb]; omega
theorem b20t_set {base:List Int} (hb:base.length=20) {i:Nat} (hi:i < 20):(b20t base i).set i (base.getD i 0)=b20t base (i+1):=by
 unfold b20t
 rw [set_nx (by rw [List.length_take]; omega) (by omega),qji (by omega),Nat.sub_sub]
section
variable {F0:List Nat} {w0 w:World} {ps rest r1 r2:List As} {s:Sl} {xs A R base:List Int} {K:Ending→World→Prop} {eb rb k n b m:Nat} {e:En} {l:List Value}
theorem qo.j6c {X:List Int} {p:Nat} (h:St F0 w0 w (qzc eb (enC e) :: qzc rb (enC en0) :: ps)) [hr:Rdb F0 w0 s ps 1 (u8s X)] (hX:∀ x ∈ X,0≤x∧x < 256) (hL:X.length≤1000000) (hc:s.len≤s.cap) (hn:n≤16384) (a:Nat) (hap:a≤p) (hp:p+R.length=X.length) (hR:X.drop p=R)
 (hu:Unp R (n:Int) (xs,(m:Int),0)) (hxn:xs.length=n) (hmR:m≤R.length)
 (hk:∀ t w',t.len=n→(∀ x ∈ xs,0≤x∧x < 256)→St F0 w0 w' (rdA 1 t (u8s xs) :: ps)→K (.returned (.tuple ⟨[.agg ⟨enC { e with data:=⟨t.a,t.len,t.cap⟩,at':=(a:Int),len:=((p+m - a:Nat):Int),crc:=((crcV ((X.drop a).take (p+m - a)):Nat):Int) }⟩,.int .i64 0]⟩)) w') :
 qo.j6 s (a:Int) ⟨rb,0,none⟩ ⟨eb,0,none⟩ (n:Int) (p:Int) (fun v w'=>K (.returned v) w') w:=by
 have hl:=(h.rdb s).1
 rw [ql,Nat.mul_one] at hl
 unfold qo.j6
 refine qnc (fun g=>by omega) fun _=>?_
 refine qvk (n:=p) rfl (by omega) (que ?_)
 haveI:=h.cutR s p s.len (s.cap - p) (Nat.le_refl _) (by omega) hc (show (X.drop p).take (s.len - p)=R by rw [hR,List.take_of_length_le (by omega)])
 refine qdg.c (s:=⟨qgf s.a s.cap p 1,s.len - p,s.cap - p⟩) (xs:=R) h (fun x hx=>hX x (List.mem_of_mem_drop (by rw [hR]; exact hx))) (by omega) (by show s.len - _≤s.cap - _; omega) hu fun t w ht htb h=>⟨t,_,_,rfl,?_⟩
 have ht:t.len=xs.length:=ht
 refine qle rfl ?_
 refine qle (by simp; omega) ?_
 refine h.gst trivial fun w h=>?_
 refine h.gst trivial fun w h=>?_
 refine qn (show IntKind.i64.wrap ((p:Int)+(m:Int))=((p+m:Nat):Int) by rw [qd (by omega) (by omega)]; omega) ?_
 refine qn (show IntKind.i64.wrap (((p+m:Nat):Int) - (a:Int))=((p+m - a:Nat):Int) by rw [qd (by omega) (by omega)]; omega) ?_
 refine h.gst trivial fun w h=>?_
 refine qn (show IntKind.i64.wrap ((p:Int)+(m:Int))=((p+m:Nat):Int) by rw [qd (by omega) (by omega)]; omega) ?_
 refine qvk (n:=p+m) rfl (by omega) ?_
 refine qvk (n:=a) rfl (by omega) (que ?_)
 haveI:=h.cutR s a (p+m) (s.cap - a) (by omega) (by omega) hc rfl
 refine qvh.c (s:=⟨qgf s.a s.cap a 1,p+m - a,s.cap - a⟩) h (fun x hx=>hX x (List.mem_of_mem_drop (List.mem_of_mem_take hx))) (by rw [List.length_take,List.length_drop]; omega) fun w h=>⟨_,rfl,?_⟩
 refine h.gst trivial fun w h=>?_
 refine h.cpE (rb:=rb) (qdd _) fun w h=>?_
 exact hk t w (by omega) htb h.sub
theorem qo.c (h:St F0 w0 w ps) [hr:Rdb F0 w0 s ps 1 (u8s (A ++ (hdE k n ++ (qyd k b base ++ R))))] (hX:∀ x ∈ A ++ (hdE k n ++ (qyd k b base ++ R)),0≤x∧x < 256) (hL:(A ++ (hdE k n ++ (qyd k b base ++ R))).length≤1000000) (hc:s.len≤s.cap)
 (hb:base.length=20) (h1:1≤k) (h7:k≤7) (h5:k ≠ 5) (hn:n≤16384) (hm:k=6→1≤b∧b≤A.length∧(qsc b).length≤8)
 (hu:Unp R (n:Int) (xs,(m:Int),0)) (hxn:xs.length=n) (hmR:m≤R.length)
 (hk:∀ t w',t.len=n→(∀ x ∈ xs,0≤x∧x < 256)→St F0 w0 w' (rdA 1 t (u8s xs) :: ps)→K (.returned (.tuple ⟨[.agg ⟨enC (enR k n b base hb A.length t ((hdE k n).length+(qyd k b base).length+m) (crcV ((hdE k n ++ (qyd k b base ++ R)).take ((hdE k n).length+(qyd k b base).length+m))))⟩,.int .i64 0]⟩)) w') :
 Calls Tryz.prog 46 ⟨[.slice s.a s.len s.cap,.int .i64 (A.length:Int)]⟩ w K:=by
 have hl:=(h.rdb s).1
 rw [ql,Nat.mul_one,List.length_append,List.length_append,List.length_append] at hl
 have hXl:(A ++ (hdE k n ++ (qyd k b base ++ R))).length=A.length+((hdE k n).length+((qyd k b base).length+R.length)):=by rw [List.length_append,List.length_append,List.length_append]
 have c1:((A ++ (hdE k n ++ (qyd k b base ++ R))).drop A.length).take (s.len - A.length)=hdE k n ++ (qyd k b base ++ R):=by
  rw [List.drop_left' rfl,List.take_of_length_le (by rw [List.length_append,List.length_append]; omega)]
 have c2:((A ++ (hdE k n ++ (qyd k b base ++ R))).drop (A.length+(hdE k n).length)).take (s.len - (A.length+(hdE k n).length))=qyd k b base ++ R:=by
  rw [← List.drop_drop,List.drop_left' rfl,List.drop_left' rfl,List.take_of_length_le (by rw [List.length_append]; omega)]
 have c3:(A ++ (hdE k n ++ (qyd k b base ++ R))).drop (A.length+(hdE k n).length+(qyd k b base).length)=R:=by
  rw [← List.drop_drop,← List.drop_drop,List.drop_left' rfl,List.drop_left' rfl,List.drop_left' rfl]
 have c4:((A ++ (hdE k n ++ (qyd k b base ++ R))).drop A.length).take (A.length+(hdE k n).length+(qyd k b base).length+m - A.length)=(hdE k n ++ (qyd k b base ++ R)).take ((hdE k n).length+(qyd k b base).length+m):=by
  rw [List.drop_left' rfl]; congr 1; omega
 have c5:∀ i,i < (qyd k b base).length→(A ++ (hdE k n ++ (qyd k b base ++ R))).getD (A.length+(hdE k n).length+i) 0=(qyd k b base).getD i 0:=by
  intro i hi
  simp only [List.getD]
  rw [List.getElem?_append_right (by omega),List.getElem?_append_right (by omega),List.getElem?_append_left (by omega),show A.length+(hdE k n).length+i - A.length - (hdE k n).length=i by omega]
 have hle:=qgk k (n:=n) (by omega)
 have hX2:∀ x ∈ qyd k b base ++ R,0≤x∧x < 256:=fun x hx=>hX x (List.mem_append_right _ (List.mem_append_right _ hx))
 generalize hXX:A ++ (hdE k n ++ (qyd k b base ++ R))=X at *
 refine qfc (qo.ok _ _ _ _ ?_)
 unfold qo
 rw [zcF]
 refine h.new fun rb w h=>?_
 refine h.new fun eb w h=>?_
 have h:St F0 w0 w (qzc eb (enC en0) :: qzc rb (enC en0) :: ps):=h
 unfold qo.j1
 refine qnc (fun g=>by omega) fun _=>qnc (fun g=>by omega) fun _=>?_
 refine qvk (n:=A.length) rfl (by omega) (que ?_)
 haveI:=h.cutR s A.length s.len (s.cap - A.length) (Nat.le_refl _) (by omega) hc c1
 refine qz.c (s:=⟨qgf s.a s.cap A.length 1,s.len - A.length,s.cap - A.length⟩) (k:=k) (n:=n) (tl:=qyd k b base ++ R) h h7 (by omega) (by rw [List.length_append]; omega) fun w h=>⟨_,_,_,_,rfl,?_⟩
 unfold qo.j2
 refine qle rfl ?_
 refine qle (by simp; omega) ?_
 refine qle (by simp; omega) ?_
 unfold qo.j3
 refine h.gst trivial fun w h=>?_
 refine h.gst trivial fun w h=>?_
 unfold qo.j4
 refine qn (show IntKind.i64.wrap ((A.length:Int)+((hdE k n).length:Int))=((A.length+(hdE k n).length:Nat):Int) by rw [qd (by omega) (by omega)]; omega) ?_
 have fin:∀ (e:En) w,e=({ en0 with kind:=k,size:=n }:En).mid k b base hb→St F0 w0 w (qzc eb (enC e) :: qzc rb (enC en0) :: ps)→qo.j6 s (A.length:Int) ⟨rb,0,none⟩ ⟨eb,0,none⟩ (n:Int) ((A.length+(hdE k n).length+(qyd k b base).length:Nat):Int) (fun v w'=>K (.returned v) w') w:=by
  rintro e w rfl h
  refine qo.j6c (X:=X) (R:=R) h hX hL hc hn A.length (by omega) (by omega) c3 hu hxn hmR fun t w ht htb h=>?_
  have:=hk t w ht htb h
  have e2:A.length+(hdE k n).length+(qyd k b base).length+m - A.length=(hdE k n).length+(qyd k b base).length+m:=by omega
  rw [c4,e2]
  exact this
 by_cases k6:k=6
 · obtain ⟨g1,g2,g3⟩:=hm k6
   have em:qyd k b base=qsc b:=if_pos k6
   refine qde (by simp; omega) ?_
   refine qvk (n:=A.length+(hdE k n).length) rfl (by omega) (que ?_)
   haveI:=h.cutR s (A.length+(hdE k n).length) s.len (s.cap - (A.length+(hdE k n).length)) (Nat.le_refl _) (by omega) hc c2
   refine qab.c (s:=⟨qgf s.a s.cap (A.length+(hdE k n).length) 1,s.len - (A.length+(hdE k n).length),s.cap - (A.length+(hdE k n).length)⟩) (xs:=qyd k b base ++ R) h hX2 (by rw [List.length_append]; omega) fun w h=>⟨_,_,_,rfl,?_⟩
   rw [em,qhp R b g3]
   refine qle rfl ?_
   refine qnc (fun g=>by have g:(b:Int) < 1:=g; omega) fun _=>?_
   refine qnc (fun g=>by have g:(b:Int) > (A.length:Int):=g; omega) fun _=>?_
   refine h.gst trivial fun w h=>?_
   rw [em] at fin
   refine qn (show IntKind.i64.wrap (((A.length+(hdE k n).length:Nat):Int)+((qsc b).length:Int))=((A.length+(hdE k n).length+(qsc b).length:Nat):Int) by rw [qd (by omega) (by omega)]; omega) ?_
   unfold qo.j5 qo.j7
   refine qle (by simp; omega) ?_
   refine fin { en0 with kind:=k,size:=n,back:=b } w ?_ h
   unfold En.mid
   simp [k6,en0]
 · refine qle (by simp; omega) ?_
   unfold qo.j5 qo.j7
   by_cases k7:k=7
   · have em:qyd k b base=base:=by unfold qyd; rw [if_neg k6,if_pos k7]
     refine qde (by simp; omega) ?_
     rw [em] at fin hl c5 hXl
     refine qn (show IntKind.i64.wrap (((s.len:Nat):Int) - ((A.length+(hdE k n).length:Nat):Int))=((s.len - (A.length+(hdE k n).length):Nat):Int) by rw [qd (by omega) (by omega)]; omega) ?_
     refine qnc (fun g=>by omega) fun _=>?_
     unfold qo.j8 qo.j10
     refine qmg (fun (i:Nat) (i':Int) w'=>i'=i∧∃ hi:i≤20,St F0 w0 w' (qzc eb (enC { en0 with kind:=k,size:=n,base:=b20t base i,hb:=b20t_len hb hi }) :: qzc rb (enC en0) :: ps)) (fun i=>20 - i) 0 ⟨rfl,by decide,h⟩ ?_
     clear h
     rintro i i' w I μ ⟨rfl,hi,h⟩ hin
     unfold qo.b1
     refine qnc (fun g=>?_) (fun g=>?_)
     · have hi2:i < 20:=by omega
       refine qn (show IntKind.i64.wrap (((A.length+(hdE k n).length:Nat):Int)+(i:Int))=((A.length+(hdE k n).length+i:Nat):Int) by rw [qd (by omega) (by omega)]; omega) ?_
       refine h.lx (s:=s) (A.length+(hdE k n).length+i) rfl (by omega) ?_
       rw [c5 i (by omega),add0]
       refine ixA_b' (by omega) (by omega) ?_
       rw [show 3+((i:Int)).toNat * 1=3+i by omega]
       refine (h.toB eb).st (by rw [qdd]; omega) trivial fun w h=>?_
       rw [enC_setb _ hi2] at h
       refine qn (qd (by omega) (by omega)) ?_
       refine ⟨⟨rfl,rfl,rfl,rfl,rfl,rfl⟩,hin (i+1) _ _ ⟨by omega,by omega,?_⟩ (by omega)⟩
       have e:=b20t_set hb hi2
       have e2:({ en0 with kind:=(k:Int),size:=(n:Int),base:=(b20t base i).set i (base.getD i 0),hb:=by rw [List.length_set]; exact b20t_len hb hi }:En)={ en0 with kind:=k,size:=n,base:=b20t base (i+1),hb:=b20t_len hb (by omega) }:=by
        simp only [e]
       rw [← e2]
       exact h
     · have:i=20:=by omega
       subst this
       unfold qo.j9
       refine qn (show IntKind.i64.wrap (((A.length+(hdE k n).length:Nat):Int)+20)=((A.length+(hdE k n).length+base.length:Nat):Int) by rw [qd (by omega) (by omega)]; omega) ?_
       refine fin _ w ?_ h
       unfold En.mid
       have:b20t base 20=base:=by unfold b20t; rw [List.take_of_length_le (by omega)]; simp
       simp [k7,this,en0]
   · have em:qyd k b base=[]:=by unfold qyd; rw [if_neg k6,if_neg k7]
     refine qle (by simp; omega) ?_
     rw [em] at fin
     refine fin { en0 with kind:=k,size:=n } w ?_ h
     unfold En.mid
     simp [k6,k7,en0]
theorem qo.bad (h:St F0 w0 w ps) [hr:Rdb F0 w0 s ps 1 (u8s (A ++ (hdE 6 n ++ (qsc b ++ R))))] (hX:∀ x ∈ A ++ (hdE 6 n ++ (qsc b ++ R)),0≤x∧x < 256) (hL:(A ++ (hdE 6 n ++ (qsc b ++ R))).length≤1000000) (hc:s.len≤s.cap)
 (hn:n≤16384) (hm:A.length < b ∨ 8 < (qsc b).length)
 (hk:∀ w',St F0 w0 w' ps→K (.returned (.tuple ⟨[.agg ⟨enC en0⟩,.int .i64 (ofsErr (qsc b ++ R))]⟩)) w') :
 Calls Tryz.prog 46 ⟨[.slice s.a s.len s.cap,.int .i64 (A.length:Int)]⟩ w K:=by
 have hl:=(h.rdb s).1
 rw [ql,Nat.mul_one,List.length_append,List.length_append,List.length_append] at hl
 rw [List.length_append,List.length_append,List.length_append] at hL
 have hX1:∀ x ∈ hdE 6 n ++ (qsc b ++ R),0≤x∧x < 256:=fun x hx=>hX x (List.mem_append_right _ hx)
 have hX2:∀ x ∈ qsc b ++ R,0≤x∧x < 256:=fun x hx=>hX1 x (List.mem_append_right _ hx)
 have c1:((A ++ (hdE 6 n ++ (qsc b ++ R))).drop A.length).take (s.len - A.length)=hdE 6 n ++ (qsc b ++ R):=by
  rw [List.drop_left' rfl,List.take_of_length_le (by rw [List.length_append,List.length_append]; omega)]
 have c2:((A ++ (hdE 6 n ++ (qsc b ++ R))).drop (A.length+(hdE 6 n).length)).take (s.len - (A.length+(hdE 6 n).length))=qsc b ++ R:=by
  rw [← List.drop_drop,List.drop_left' rfl,List.drop_left' rfl,List.take_of_length_le (by rw [List.length_append]; omega)]
 have hle:=qgk 6 (n:=n) (by omega)
 have hnz:=qmo b R
 generalize hXX:A ++ (hdE 6 n ++ (qsc b ++ R))=X at *
 refine qfc (qo.ok _ _ _ _ ?_)
 unfold qo
 rw [zcF]
 refine h.new fun rb w h=>?_
 refine h.new fun eb w h=>?_
 have h:St F0 w0 w (qzc eb (enC en0) :: qzc rb (enC en0) :: ps):=h
 unfold qo.j1
 refine qnc (fun g=>by omega) fun _=>qnc (fun g=>by omega) fun _=>?_
 refine qvk (n:=A.length) rfl (by omega) (que ?_)
 haveI:=h.cutR s A.length s.len (s.cap - A.length) (Nat.le_refl _) (by omega) hc c1
 refine qz.c (s:=⟨qgf s.a s.cap A.length 1,s.len - A.length,s.cap - A.length⟩) (k:=6) (n:=n) (tl:=qsc b ++ R) h (by decide) (by omega) (by rw [List.length_append]; omega) fun w h=>⟨_,_,_,_,rfl,?_⟩
 unfold qo.j2
 refine qle rfl (qle rfl (qle rfl ?_))
 unfold qo.j3
 refine h.gst trivial fun w h=>?_
 refine h.gst trivial fun w h=>?_
 unfold qo.j4
 refine qn (show IntKind.i64.wrap ((A.length:Int)+((hdE 6 n).length:Int))=((A.length+(hdE 6 n).length:Nat):Int) by rw [qd (by omega) (by omega)]; omega) ?_
 refine qde rfl ?_
 refine qvk (n:=A.length+(hdE 6 n).length) rfl (by omega) (que ?_)
 haveI:=h.cutR s (A.length+(hdE 6 n).length) s.len (s.cap - (A.length+(hdE 6 n).length)) (Nat.le_refl _) (by omega) hc c2
 refine qab.c (s:=⟨qgf s.a s.cap (A.length+(hdE 6 n).length) 1,s.len - (A.length+(hdE 6 n).length),s.cap - (A.length+(hdE 6 n).length)⟩) (xs:=qsc b ++ R) h hX2 (by rw [List.length_append]; omega) fun w h=>⟨_,_,_,rfl,?_⟩
 have rt:∀ er:Int,er=ofsErr (qsc b ++ R)→(⟨enC en0⟩:Array Value).size=27∧stA w ⟨rb,0,none⟩ ⟨enC en0⟩ fun w1=>ldA w1 ⟨rb,0,none⟩ 27 fun c'=>(fun v w'=>K (.returned v) w') (.tuple ⟨[.agg c',.int .i64 er]⟩) w1:=by
  rintro er rfl
  exact h.rtE (rb:=rb) (qdd _) fun w h=>hk w h.sub
 rcases ofs_any b R with ⟨g1,g2⟩ | ⟨g1,g2⟩
 · have e2:ofsErr (qsc b ++ R)=2:=by unfold ofsErr; rw [g2]; rfl
   rw [g2]
   refine qle rfl ?_
   refine qnc (fun _=>rt 2 e2.symm) fun g3=>?_
   refine qnc (fun _=>rt 2 e2.symm) fun g4=>?_
   have g4:¬ (b:Int) > (A.length:Int):=g4
   omega
 · have e2:ofsErr (qsc b ++ R)=5:=by unfold ofsErr; rw [g2]; rfl
   rw [g2]
   exact qde rfl (rt 5 e2.symm)
end
end Go.Proofs.YtejnemneenjliaaGreat
