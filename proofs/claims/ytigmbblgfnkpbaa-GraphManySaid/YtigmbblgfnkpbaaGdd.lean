/- Own texts as one, only what is reached (shake.py). -/
import Derived.Test.YtigmbblgfnkpbaaGdc
import Derived.Sort.LotA
import Derived.Sort.LotB
import Derived.Sort.LotC
import Derived.Sort.LotD3
import Derived.Test.YtigmbblgfnkpbaaProg
set_option linter.unusedSectionVars false
namespace Go.Proofs.Ytigmbblgfnkpbaa
open Go Go.Proofs
set_option linter.unusedVariables false
set_option linter.unusedSimpArgs false
attribute [local irreducible] apK cpK mkK br
def Ris (A:List Nm):Prop:=A.Pairwise fun x y=>ltI x.1 y.1=true
def qqe:List Nm→Nm→Nat
 | [],_=>0
 | a :: A,q=>if ltI a.1 q.1 then qqe A q+1 else 0
theorem pos_eq:∀ {A:List Nm} {q:Nm} {i:Nat},i≤A.length→(∀ j (h:j < A.length),j < i→ltI A[j].1 q.1=true)→(∀ h:i < A.length,ltI A[i].1 q.1=false)→qqe A q=i:=by
 intro A
 induction A with
 | nil=>intro q i h _ _; simp at h; rw [h]; rfl
 | cons a A ih =>
   intro q i hi h1 h2
   rw [qqe]
   cases i with
   | zero =>
     have:=h2 (by simp)
     simp only [List.getElem_cons_zero] at this
     rw [this]; rfl
   | succ i =>
     have:=h1 0 (by simp) (by omega)
     simp only [List.getElem_cons_zero] at this
     rw [this]
     simp only [if_true]
     rw [ih (i:=i) (by simpa using hi) (fun j h hj=>by
      have:=h1 (j+1) (by simpa using h) (by omega)
      simpa using this) (fun h=>by
      have:=h2 (by simpa using h)
      simpa using this)]
theorem ris_get {A:List Nm} (h:Ris A) {i j:Nat} (hij:i < j) (hj:j < A.length):ltI (A[i]'(by omega)).1 A[j].1=true:=(List.pairwise_iff_getElem.1 h) i j (by omega) hj hij
theorem pos_at {A:List Nm} (h:Ris A) {i:Nat} (hi:i < A.length):qqe A A[i]=i :=
 pos_eq (by omega) (fun j hj hji=>ris_get h hji hi) (fun _=>qqf _)
section
variable {F0:List Nat} {w0 w:World} {ps rest rest2:List As} {s:Sl} {A P:List Nm} {p q:Nm} {lb ib:Nat} {K:Ending→World→Prop}
theorem qtg.c (h:St F0 w0 w ps) (hk:∀ w',St F0 w0 w' ps→K (.returned (.bool (ltI p.1 q.1))) w'):Calls Try.prog 59 ⟨[.agg ⟨nmC p⟩,.agg ⟨nmC q⟩]⟩ w K:=by
 have lenC:∀ p:Nm,(nmC p).length=20:=fun p=>(inferInstance:Rec nmC 20).len p
 refine qnb (qtg.ok _ _ _ _ ?_)
 unfold qtg
 refine h.new fun xb w h=>?_
 refine h.new fun yb w h=>?_
 have h:St F0 w0 w (qfb yb (nmC q) :: qfb xb (nmC p) :: ps):=h
 refine h.drewK fun w h=>?_
 refine qtd (qtd ?_)
 haveI:Rdb F0 w0 ⟨some ⟨xb,0,none⟩,20,20⟩ (qfb yb (nmC q) :: qfb xb (nmC p) :: ps) 1 (u8s p.1):=⟨fun h=>by
  have:=(h.toB xb).blk.rdAt (o:=0) (n:=20) (c:=20) (by rw [lenC]; decide)
  rw [List.drop_zero,List.take_of_length_le (by rw [lenC]; decide)] at this
  exact this⟩
 haveI:Rdb F0 w0 ⟨some ⟨yb,0,none⟩,20,20⟩ (qfb yb (nmC q) :: qfb xb (nmC p) :: ps) 1 (u8s q.1):=⟨fun h=>by
  have:=(h.toB yb).blk.rdAt (o:=0) (n:=20) (c:=20) (by rw [lenC]; decide)
  rw [List.drop_zero,List.take_of_length_le (by rw [lenC]; decide)] at this
  exact this⟩
 refine qid.c (s:=⟨some ⟨xb,0,none⟩,20,20⟩) (t:=⟨some ⟨yb,0,none⟩,20,20⟩) h p.2.2 q.2.2 ⟨_,rfl,?_⟩
 exact hk w h.drop.drop
theorem oid_Find1.c (h:St F0 w0 w ps) [PkB lb ps [.slice s.a s.len s.cap] rest] [PkB ib ps (nmC q) rest2] [Rdb F0 w0 s ps 20 (A.flatMap nmC)] {i:Nat} (hi:i < A.length) (hk:∀ w',St F0 w0 w' ps→K (.returned (.bool (!ltI A[i].1 q.1))) w') :
 Calls Try.prog 58 ⟨[.int .i64 (i:Int),.pointer (some ⟨lb,0,none⟩),.pointer (some ⟨ib,0,none⟩)]⟩ w K:=by
 refine qnb (qug.ok _ _ _ _ _ ?_)
 unfold qug
 refine h.drewK fun w h=>?_
 refine h.fL (b:=lb) ?_
 refine h.lr (s:=s) (L:=A) i rfl hi ?_
 refine h.lA (b:=ib) ((inferInstance:Rec nmC 20).len q) ?_
 refine qtg.c h fun w h=>⟨_,rfl,?_⟩
 exact hk w h
theorem Search.c (h:St F0 w0 w ps) [PkB lb ps [.slice s.a s.len s.cap] rest] [PkB ib ps (nmC q) rest2] [Rdb F0 w0 s ps 20 (A.flatMap nmC)] (hA:Ris A) (hL:A.length≤1000000) (hk:∀ w',St F0 w0 w' ps→K (.returned (.int .i64 (qqe A q:Int))) w') :
 Calls Try.prog 57 ⟨[.int .i64 (A.length:Int),.func (.func 58) ⟨[]⟩ ⟨[.pointer (some ⟨lb,0,none⟩),.pointer (some ⟨ib,0,none⟩)]⟩]⟩ w K:=by
 refine qnb (qsb.ok _ (some ⟨lb,0,none⟩,some ⟨ib,0,none⟩) _ _ ?_)
 unfold qsb qsb.j1
 refine loop2 (fun (a:Nat × Nat) (i' j':Int) w'=>i'=(a.1:Int)∧j'=(a.2:Int)∧a.1≤a.2∧a.2≤A.length∧(∀ k (h:k < A.length),k < a.1→ltI A[k].1 q.1=true)∧(∀ k (h:k < A.length),a.2≤k→ltI A[k].1 q.1=false)∧St F0 w0 w' ps) (fun a=>a.2 - a.1) (0,A.length)
  ⟨rfl,rfl,Nat.zero_le _,Nat.le_refl _,fun k _ hk=>by simp only at hk; omega,fun k h1 h2=>by simp only at h2; omega,h⟩ ?_
 clear h
 rintro ⟨i,j⟩ _ _ wL I μ ⟨rfl,rfl,hij,hj,h1,h2,h⟩ hin
 simp only at hij hj h1 h2 h hin ⊢
 unfold qsb.b1
 refine qlc (fun g=>?_) (fun g=>?_)
 · have hm:(i+j) / 2 < A.length:=by omega
   refine qw (e':=((i+j:Nat):Int)) (by rw [qq (by omega) (by omega)]; omega) ?_
   refine qw (e':=((i+j:Nat):Int)) (by rw [qvi]; omega) ⟨by decide,?_⟩
   refine qw (qmh .u64 ((i+j:Nat):Int) (t:=1) (by decide)) ?_
   refine qw (e':=(((i+j) / 2:Nat):Int)) (by rw [qq (by omega) (by omega)]; omega) ?_
   refine oid_Find1.c (A:=A) (s:=s) (q:=q) (lb:=lb) (ib:=ib) h hm fun w h=>⟨_,rfl,?_⟩
   refine qzc (fun g2=>?_) (fun g2=>?_)
   · have g2:ltI A[(i+j) / 2].1 q.1=true:=by simpa using g2
     refine qw (e':=(((i+j) / 2+1:Nat):Int)) (by rw [qq (by omega) (by omega)]; rfl) ?_
     refine ⟨rfl,hin ((i+j) / 2+1,j) _ _ _ ⟨rfl,rfl,by simp only; omega,hj,fun k hkl hki=>?_,h2,h⟩ (by simp only; omega)⟩
     simp only at hki
     by_cases e:k=(i+j) / 2
     · subst e; exact g2
     · exact qqh (ris_get hA (by omega) hm) g2
   · have g2:ltI A[(i+j) / 2].1 q.1=false:=by simpa using g2
     refine ⟨rfl,hin (i,(i+j) / 2) _ _ _ ⟨rfl,rfl,by simp only; omega,by simp only; omega,h1,fun k hkl hki=>?_,h⟩ (by simp only; omega)⟩
     simp only at hki
     by_cases e:k=(i+j) / 2
     · subst e; exact g2
     · cases hc:ltI A[k].1 q.1 with
       | false=>rfl
       | true =>
         have:=qqh (ris_get hA (i:=(i+j) / 2) (j:=k) (by omega) hkl) hc
         rw [g2] at this
         cases this
 · have:i=j:=by omega
   subst this
   unfold qsb.j2
   have:=hk wL h
   rw [pos_eq hj h1 (fun hh=>h2 i hh (Nat.le_refl _))] at this
   exact this
theorem qwf.c (h:St F0 w0 w ps) [Rdb F0 w0 s ps 20 (A.flatMap nmC)] (hA:Ris A) (hL:A.length≤1000000) (hk:∀ w',St F0 w0 w' ps→K (.returned (.tuple ⟨[.int .i64 (qqe A q:Int),.bool (decide (q ∈ A))]⟩)) w') :
 Calls Try.prog 33 ⟨[sV s,.agg ⟨nmC q⟩]⟩ w K:=by
 have lenC:∀ p:Nm,(nmC p).length=20:=fun p=>(inferInstance:Rec nmC 20).len p
 have hl:=h.rlen (s:=s) (f:=nmC) (L:=A)
 refine qnb (qwf.ok _ _ _ _ ?_)
 unfold qwf
 refine h.new fun lb w h=>?_
 refine h.new fun ib w h=>?_
 have h:St F0 w0 w (qfb ib (nmC q) :: qfb lb [.slice s.a s.len s.cap] :: ps):=h
 refine h.fL (b:=lb) ?_
 rw [← hl]
 refine Search.c (A:=A) (s:=s) (q:=q) (lb:=lb) (ib:=ib) h hA hL fun w h=>⟨_,rfl,?_⟩
 refine h.drewK fun w h=>?_
 refine h.fL (b:=lb) ?_
 have hno:∀ i,i=qqe A q→(∀ hh:i < A.length,A[i] ≠ q)→decide (q ∈ A)=false:=by
  intro i hi hh
  refine decide_eq_false fun hm=>?_
  obtain ⟨j,hj,e⟩:=List.getElem_of_mem hm
  have:=pos_at hA hj
  rw [e,← hi] at this
  subst this
  exact hh hj e
 refine qlc (fun g=>?_) (fun g=>?_)
 · have g:(qqe A q:Int) < (s.len:Int):=g
   have hlt:qqe A q < A.length:=by omega
   refine h.fL (b:=lb) ?_
   refine h.lr (s:=s) (L:=A) (qqe A q) rfl hlt ?_
   refine h.lA (b:=ib) (lenC q) ?_
   refine eqA_i (xs:=A[qqe A q].1) (ys:=q.1) (by have:=A[qqe A q].2.1; exact this) q.2.1 ?_
   have hr:=hk w h.drop.drop
   by_cases e:A[qqe A q]=q
   · have:decide (q ∈ A)=true:=decide_eq_true (e ▸ List.getElem_mem hlt)
     rw [this] at hr
     rw [e,beq_self_eq_true]
     exact hr
   · rw [hno _ rfl (fun _=>e)] at hr
     have:(A[qqe A q].1 == q.1)=false:=beq_eq_false_iff_ne.2 fun h=>e (Nm.ext' h)
     rw [this]
     exact hr
 · have g:¬ (qqe A q:Int) < (s.len:Int):=g
   have hr:=hk w h.drop.drop
   rw [hno _ rfl (fun hh=>by exfalso; omega)] at hr
   exact hr
theorem numbers.c {t:Sl} (h:St F0 w0 w ps) [Rdb F0 w0 s ps 20 (A.flatMap nmC)] [Rdb F0 w0 t ps 20 (P.flatMap nmC)] (hA:Ris A) (hL:A.length≤1000000) (hP:P.length≤1000000)
 (hk:∀ u w',u.len=P.length→St F0 w0 w' (qbb 1 u (ivs .i64 (P.map fun p=>(qqe A p:Int))) :: ps)→K (.returned (sV u)) w') :
 Calls Try.prog 22 ⟨[sV s,sV t]⟩ w K:=by
 have lenC:∀ p:Nm,(nmC p).length=20:=fun p=>(inferInstance:Rec nmC 20).len p
 have hl:=h.rlen (s:=t) (f:=nmC) (L:=P)
 refine qnb (qhb.ok _ _ _ _ ?_)
 unfold qhb qhb.j1 qhb.j3
 refine loop2 (fun (i:Nat) (u:Sl) (i':Int) w'=>i'=(i:Int)∧i≤P.length∧St F0 w0 w' (qbb 1 u (ivs .i64 ((P.take i).map fun p=>(qqe A p:Int))) :: ps)) (fun i=>P.length - i) 0 ⟨rfl,Nat.zero_le _,h.nilO⟩ ?_
 clear h
 rintro i u _ wL I μ ⟨rfl,hi,h⟩ hin
 unfold qhb.b1
 refine qlc (fun g=>?_) (fun g=>?_)
 · have hix:i < P.length:=by omega
   refine h.lr (s:=t) (L:=P) i rfl hix ?_
   have hsn:(P.take (i+1)).map (fun p=>(qqe A p:Int))=(P.take i).map (fun p=>(qqe A p:Int)) ++ [(qqe A P[i]:Int)]:=by rw [List.take_succ_eq_append_getElem hix,List.map_append]; rfl
   generalize P[i]=p at hsn ⊢
   refine h.newNm (p:=p) fun xb w h=>?_
   refine h.lA (b:=xb) (lenC p) ?_
   refine qwf.c (A:=A) (s:=s) (q:=p) h hA hL fun w h=>⟨_,_,rfl,?_⟩
   refine h.pushI (s:=u) (zs:=(P.take i).map fun p=>(qqe A p:Int)) (by rw [List.length_map,List.length_take]; omega) fun s' w h=>?_
   rw [← hsn] at h
   refine qw (e':=((i+1:Nat):Int)) (by rw [qq (by omega) (by omega)]; rfl) ?_
   exact ⟨⟨rfl,rfl,rfl⟩,hin (i+1) _ _ _ ⟨rfl,by omega,h.sub⟩ (by omega)⟩
 · have:i=P.length:=by omega
   subst this
   rw [List.take_length] at h
   have h5:=h.len
   rw [qt,List.length_map] at h5
   unfold qhb.j2
   exact hk u wL (by omega) h
end
end Go.Proofs.Ytigmbblgfnkpbaa
namespace Go.Proofs.Ytigmbblgfnkpbaa
set_option linter.unusedVariables false
set_option linter.unusedSimpArgs false
theorem lext {l m:List Int} (hl:l.length=m.length) (h:∀ j,j < l.length→l.getD j 0=m.getD j 0):l=m:=by
 apply List.ext_getElem hl
 intro j h1 h2
 have:=h j h1
 simpa [List.getD,List.getElem?_eq_getElem h1,List.getElem?_eq_getElem h2] using this
theorem getD_setL {l:List Int} {i j:Nat} {v:Int} (h:i < l.length):(l.set i v).getD j 0=if i=j then v else l.getD j 0:=by
 rw [List.getD_eq_getElem?_getD,List.getElem?_set]
 split
 · rename_i e; subst e; simp [h]
 · rw [List.getD_eq_getElem?_getD]
theorem qbi {xs:List Int} {i:Nat} (h:i < xs.length):xs.take (i+1)=xs.take i ++ [xs.getD i 0]:=by
 rw [List.take_succ_eq_append_getElem h]
 simp [List.getD,List.getElem?_eq_getElem h]
theorem qgf {xs:List Int} {i:Nat} (h:i < xs.length):xs.getD i 0 ∈ xs:=by simp [List.getD,List.getElem?_eq_getElem h]
def mapR (n:Nat) (f:Nat→Int):List Int:=(List.range n).map f
theorem qrc (n:Nat) (f:Nat→Int):(mapR n f).length=n:=by simp [mapR]
theorem qpe {n i:Nat} {f:Nat→Int} (h:i < n):(mapR n f).getD i 0=f i:=by
 unfold mapR
 rw [List.getD_eq_getElem?_getD,List.getElem?_map,List.getElem?_range h]
 rfl
theorem qwg {n:Nat} {f g:Nat→Int} (h:∀ i,i < n→f i=g i):mapR n f=mapR n g:=by
 unfold mapR
 exact List.map_congr_left fun i hi=>h i (List.mem_range.1 hi)
theorem set_mapR {n i:Nat} {f:Nat→Int} {v:Int}:(mapR n f).set i v=mapR n fun m=>if m=i then v else f m:=by
 apply lext
 · simp [mapR]
 · intro j hj
   rw [List.length_set,qrc] at hj
   rw [qpe hj]
   by_cases hi:i < n
   · rw [getD_setL (by rw [qrc]; exact hi),qpe hj]
     by_cases e:i=j
     · rw [if_pos e,if_pos e.symm]
     · rw [if_neg e,if_neg fun h=>e h.symm]
   · rw [List.set_eq_of_length_le (by rw [qrc]; omega),qpe hj,if_neg (by omega)]
theorem rep_mapR (n:Nat):List.replicate n 0=mapR n fun _=>0:=by
 apply lext
 · simp [mapR]
 · intro j hj
   have hj:j < n:=by simpa using hj
   rw [qpe hj]
   simp [List.getD,List.getElem?_replicate,hj]
end Go.Proofs.Ytigmbblgfnkpbaa
namespace Go.Proofs.Ytigmbblgfnkpbaa
open Go Go.Proofs
set_option linter.unusedVariables false
set_option linter.unusedSimpArgs false
attribute [local irreducible] apK cpK mkK br
def hd0 (a:Nm):Int:=a.1.getD 0 0
theorem hd0_b (a:Nm):0≤hd0 a∧hd0 a < 256:=by
 unfold hd0
 have h:0 < a.1.length:=by rw [a.2.1]; decide
 exact a.2.2 _ (qgf h)
def cntE (A:List Nm) (m:Nat):Nat:=A.countP fun a=>decide (hd0 a=(m:Int))
def cntL (A:List Nm) (m:Nat):Nat:=A.countP fun a=>decide (hd0 a≤(m:Int))
def fanL (A:List Nm):List Int:=mapR 256 fun m=>(cntL A m:Int)
theorem cntL_0 (A:List Nm):cntL A 0=cntE A 0:=by
 unfold cntL cntE
 apply List.countP_congr
 intro a _
 have:=hd0_b a
 simp only [decide_eq_true_eq]
 omega
theorem cntL_s (A:List Nm) (m:Nat):cntL A (m+1)=cntE A (m+1)+cntL A m:=by
 unfold cntL cntE
 induction A with
 | nil=>rfl
 | cons a A ih =>
   rw [List.countP_cons,List.countP_cons,List.countP_cons,ih]
   by_cases h1:hd0 a=((m+1:Nat):Int)
   · have h2:hd0 a≤((m+1:Nat):Int):=by omega
     have h3:¬ hd0 a≤(m:Int):=by omega
     simp only [decide_eq_true h1,decide_eq_true h2,decide_eq_false h3,if_true,Bool.false_eq_true,if_false]
     omega
   · by_cases h3:hd0 a≤(m:Int)
     · have h2:hd0 a≤((m+1:Nat):Int):=by omega
       simp only [decide_eq_false h1,decide_eq_true h2,decide_eq_true h3,if_true,Bool.false_eq_true,if_false]
       omega
     · have h2:¬ hd0 a≤((m+1:Nat):Int):=by omega
       simp only [decide_eq_false h1,decide_eq_false h2,decide_eq_false h3,Bool.false_eq_true,if_false]
       omega
theorem zc_256:zc Try.prog 55=⟨ivs .i64 (List.replicate 256 0)⟩:=by kernel_rfl
section
variable {F0:List Nat} {w0 w:World} {ps rest:List As} {s:Sl} {A:List Nm} {K:Ending→World→Prop}
theorem qdb.c (h:St F0 w0 w ps) [Rdb F0 w0 s ps 20 (A.flatMap nmC)] (hL:A.length≤1000000) (hk:∀ w',St F0 w0 w' ps→K (.returned (.agg ⟨ivs .i64 (fanL A)⟩)) w') :
 Calls Try.prog 20 ⟨[sV s]⟩ w K:=by
 have hl:=h.rlen (s:=s) (f:=nmC) (L:=A)
 refine qnb (qdb.ok _ _ _ ?_)
 unfold qdb
 rw [zc_256]
 refine h.new fun tb w h=>?_
 refine h.new fun ob w h=>?_
 have h:St F0 w0 w (qfb ob (ivs .i64 (List.replicate 256 0)) :: qfb tb (ivs .i64 (List.replicate 256 0)) :: ps):=h
 rw [rep_mapR] at h
 unfold qdb.j1 qdb.j5
 refine loop1 (fun (i:Nat) (i':Int) w'=>i'=(i:Int)∧i≤A.length∧St F0 w0 w' (qfb ob (ivs .i64 (mapR 256 fun m=>(cntE (A.take i) m:Int))) :: qfb tb (ivs .i64 (mapR 256 fun _=>0)) :: ps)) (fun i=>A.length - i) 0 ⟨rfl,Nat.zero_le _,h⟩ ?_
 clear h
 rintro i _ wL I μ ⟨rfl,hi,h⟩ hin
 unfold qdb.b2
 refine qlc (fun g=>?_) (fun g=>?_)
 · have hix:i < A.length:=by omega
   refine h.lr (s:=s) (L:=A) i rfl hix ?_
   have hsn:∀ m,cntE (A.take (i+1)) m=cntE (A.take i) m+if hd0 A[i]=(m:Int) then 1 else 0:=fun m=>by
    unfold cntE
    rw [List.take_succ_eq_append_getElem hix,List.countP_append,List.countP_singleton]
    simp
   have hle:∀ m,cntE (A.take i) m≤1000000:=fun m=>Nat.le_trans List.countP_le_length (by rw [List.length_take]; omega)
   generalize A[i]=a at hsn ⊢
   obtain ⟨b0,b1⟩:=hd0_b a
   refine h.newNm (p:=a) fun xb w h=>?_
   have h:St F0 w0 w (qfb xb (ivs .u8 a.1) :: qfb ob (ivs .i64 (mapR 256 fun m=>(cntE (A.take i) m:Int))) :: qfb tb (ivs .i64 (mapR 256 fun _=>0)) :: ps):=h
   refine h.la (b:=xb) (k:=.u8) 0 rfl a.2.1 (by decide) ?_
   have hb:a.1.getD 0 0=((hd0 a).toNat:Int):=by unfold hd0 at b0 ⊢; omega
   rw [hb]
   generalize hm:(hd0 a).toNat=m
   have hm2:m < 256:=by omega
   refine h.la (b:=ob) (k:=.i64) m rfl (qrc _ _) hm2 ?_
   rw [qpe hm2]
   have:=hle m
   refine qw (e':=((cntE (A.take i) m+1:Nat):Int)) (by rw [qq (by omega) (by omega)]; rfl) ?_
   refine h.sa (b:=ob) (k:=.i64) m rfl (qrc _ _) hm2 fun w h=>?_
   rw [set_mapR] at h
   have e:(mapR 256 fun q=>if q=m then ((cntE (A.take i) m+1:Nat):Int) else (cntE (A.take i) q:Int))=mapR 256 fun q=>(cntE (A.take (i+1)) q:Int):=qwg fun q hq=>by
    rw [hsn q]
    by_cases e:q=m
    · subst e
      rw [if_pos rfl,if_pos (by omega)]
    · rw [if_neg e,if_neg (by omega)]
      omega
   rw [e] at h
   refine qw (e':=((i+1:Nat):Int)) (by rw [qq (by omega) (by omega)]; rfl) ?_
   exact ⟨⟨rfl,rfl,rfl,rfl⟩,hin (i+1) _ _ ⟨rfl,by omega,h.sub⟩ (by omega)⟩
 · have:i=A.length:=by omega
   subst this
   rw [List.take_length] at h
   clear hin
   unfold qdb.j2 qdb.j4
   have hle:∀ m,cntL A m≤1000000:=fun m=>Nat.le_trans List.countP_le_length hL
   have e0:(mapR 256 fun m=>(cntE A m:Int))=mapR 256 fun m=>if m < 1 then (cntL A m:Int) else (cntE A m:Int):=qwg fun m hm=>by
    by_cases e:m < 1
    · have:m=0:=by omega
      subst this
      rw [if_pos e,cntL_0]
    · rw [if_neg e]
   rw [e0] at h
   refine loop1 (fun (i:Nat) (i':Int) w'=>i'=(i:Int)∧1≤i∧i≤256∧St F0 w0 w' (qfb ob (ivs .i64 (mapR 256 fun m=>if m < i then (cntL A m:Int) else (cntE A m:Int))) :: qfb tb (ivs .i64 (mapR 256 fun _=>0)) :: ps)) (fun i=>256 - i) 1 ⟨rfl,Nat.le_refl _,by omega,h⟩ ?_
   clear h
   rintro i _ wL I μ ⟨rfl,hi0,hi,h⟩ hin
   unfold qdb.b1
   refine qlc (fun g=>?_) (fun g=>?_)
   · have hi2:i < 256:=by omega
     refine h.drewK fun w h=>?_
     refine h.la (b:=ob) (k:=.i64) i rfl (qrc _ _) hi2 ?_
     rw [qpe hi2,if_neg (Nat.lt_irrefl _)]
     refine qw (e':=((i - 1:Nat):Int)) (by rw [qq (by omega) (by omega)]; omega) ?_
     refine h.la (b:=ob) (k:=.i64) (i - 1) rfl (qrc _ _) (by omega) ?_
     rw [qpe (by omega),if_pos (by omega)]
     have e1:=cntL_s A (i - 1)
     rw [show i - 1+1=i by omega] at e1
     have:=hle i
     refine qw (e':=(cntL A i:Int)) (by rw [qq (by omega) (by omega)]; omega) ?_
     refine h.sa (b:=ob) (k:=.i64) i rfl (qrc _ _) hi2 fun w h=>?_
     rw [set_mapR] at h
     have e:(mapR 256 fun m=>if m=i then (cntL A i:Int) else if m < i then (cntL A m:Int) else (cntE A m:Int))=mapR 256 fun m=>if m < i+1 then (cntL A m:Int) else (cntE A m:Int):=qwg fun m hm=>by
      by_cases e:m=i
      · subst e; rw [if_pos rfl,if_pos (by omega)]
      · rw [if_neg e]
        by_cases e2:m < i
        · rw [if_pos e2,if_pos (by omega)]
        · rw [if_neg e2,if_neg (by omega)]
     rw [e] at h
     refine qw (e':=((i+1:Nat):Int)) (by rw [qq (by omega) (by omega)]; rfl) ?_
     exact ⟨⟨rfl,rfl⟩,hin (i+1) _ _ ⟨rfl,by omega,by omega,h⟩ (by omega)⟩
   · have:i=256:=by omega
     subst this
     have e:(mapR 256 fun m=>if m < 256 then (cntL A m:Int) else (cntE A m:Int))=fanL A:=qwg fun m hm=>if_pos hm
     rw [e] at h
     have hfl:(ivs .i64 (fanL A)).length=256:=by rw [qt]; exact qrc _ _
     unfold qdb.j3
     refine h.lA (b:=ob) hfl ⟨hfl,?_⟩
     refine h.sA (b:=tb) (l':=ivs .i64 (fanL A)) (by rw [qt]; exact qrc _ _) hfl qbe fun w h=>?_
     refine h.lA (b:=tb) hfl ?_
     exact hk w h.sub
end
end Go.Proofs.Ytigmbblgfnkpbaa
namespace Go.Proofs.Ytigmbblgfnkpbaa
open Go Go.Proofs
set_option linter.unusedVariables false
set_option linter.unusedSimpArgs false
attribute [local irreducible] apK cpK mkK br
def Nd.setP (n:Nd) (t:Sl):Nd:={ n with par:=t }
theorem qvg (n:Nd) (t:Sl):(ndC n).set 40 (.slice t.a t.len t.cap)=ndC (n.setP t):=by
 unfold ndC Nd.setP
 rw [List.set_append_right _ _ (by rw [qt,n.hid]; decide),qt,n.hid,List.set_append_right _ _ (by rw [qt,n.htr]; decide),qt,n.htr]
 rfl
section
variable {F0:List Nat} {w0 w:World} {ps rest:List As} {s:Sl} {L:List Nd} {n:Nd} {P:List Nm} {pr:Nd→List Nm} {K:Ending→World→Prop}
theorem qke.c (h:St F0 w0 w ps) [Rdb F0 w0 n.par ps 20 (P.flatMap nmC)] (hP:P.length≤1000000) (hk:∀ t w',t.len=P.length→St F0 w0 w' (rdA 20 t (P.flatMap nmC) :: ps)→K (.returned (.agg ⟨ndC (n.setP t)⟩)) w') :
 Calls Try.prog 31 ⟨[.agg ⟨ndC n⟩]⟩ w K:=by
 refine qnb (qke.ok _ _ _ ?_)
 unfold qke
 rw [qmd]
 refine h.new fun xb w h=>?_
 refine h.new fun yb w h=>?_
 have h:St F0 w0 w (qfb yb (ndC ndZ) :: qfb xb (ndC n) :: ps):=h
 refine (h.toB xb).blk.ldPar ?_
 refine ids_Clone.c (s:=n.par) (P:=P) h hP fun t w ht h=>⟨t,rfl,?_⟩
 refine ids_Clip.c (s:=t) (P:=P) h (own_cap (by decide) h) fun t2 w ht2 h=>⟨t2,rfl,?_⟩
 rw [qjc]
 have h2:St F0 w0 w (qfb xb (ndC n) :: rdA 20 t2 (P.flatMap nmC) :: qfb yb (ndC ndZ) :: ps):=h.sub
 refine h2.st (by rw [qz]; decide) trivial fun w h=>?_
 have h:St F0 w0 w (qfb xb (ndC (n.setP t2)) :: rdA 20 t2 (P.flatMap nmC) :: qfb yb (ndC ndZ) :: ps):=by
  rw [← qvg]
  exact h
 refine h.lA (b:=xb) (qz _) ⟨qz _,?_⟩
 have h3:St F0 w0 w (qfb yb (ndC ndZ) :: qfb xb (ndC (n.setP t2)) :: rdA 20 t2 (P.flatMap nmC) :: ps):=h.sub
 refine h3.setR (qz _) fun w h=>?_
 refine h.lA (b:=yb) (qz _) ?_
 exact hk t2 w (by omega) h.sub
end
end Go.Proofs.Ytigmbblgfnkpbaa
namespace Go.Proofs.Ytigmbblgfnkpbaa
open Go Go.Proofs
set_option linter.unusedVariables false
set_option maxRecDepth 100000
def qbd (r_0:OAd) (Q:VWP) (w:World):Prop :=
 lt (World.drew w) fun w1 =>
 nz r_0 fun a2 =>
 ldI .u64 w1 a2 fun x3 =>
 nz r_0 fun a4 =>
 ldI .u64 w1 a4 fun x5 =>
 (0:Int)≤13 ∧
 lt (qxe .u64 x5 13) fun x6 =>
 lt (xorV .u64 x3 x6) fun x7 =>
 nz r_0 fun a8 =>
 st w1 a8 (.int .u64 x7) fun w9 =>
 lt (World.drew w9) fun w10 =>
 nz r_0 fun a11 =>
 ldI .u64 w10 a11 fun x12 =>
 nz r_0 fun a13 =>
 ldI .u64 w10 a13 fun x14 =>
 (0:Int)≤7 ∧
 lt (shrV .u64 x14 7) fun x15 =>
 lt (xorV .u64 x12 x15) fun x16 =>
 nz r_0 fun a17 =>
 st w10 a17 (.int .u64 x16) fun w18 =>
 lt (World.drew w18) fun w19 =>
 nz r_0 fun a20 =>
 ldI .u64 w19 a20 fun x21 =>
 nz r_0 fun a22 =>
 ldI .u64 w19 a22 fun x23 =>
 (0:Int)≤17 ∧
 lt (qxe .u64 x23 17) fun x24 =>
 lt (xorV .u64 x21 x24) fun x25 =>
 nz r_0 fun a26 =>
 st w19 a26 (.int .u64 x25) fun w27 =>
 nz r_0 fun a28 =>
 ldI .u64 w27 a28 fun x29 =>
 Q (.int .u64 x29) w27
theorem qbd.ok (r_0:OAd) (Q:VWP) (w:World) (h:qbd r_0 Q w):Calls Try.prog 81 ⟨[.pointer r_0]⟩ w (Ret Q) :=
 qqb [.tmp 2] qed Try.func81 rfl rfl rfl rfl .lf (by kernel_rfl) h
def qxc (length_0:Int) (Q:VWP) (w:World):Prop :=
 lt (IntKind.u64.wrap length_0) fun x1 =>
 qhf 40 [.int .u64 x1] w fun r4 w3 =>
 (0:Int)≤r4 ∧
 lt (qxe .u64 1 r4) fun x5 =>
 Q (.int .u64 x5) w3
theorem qxc.ok (length_0:Int) (Q:VWP) (w:World) (h:qxc length_0 Q w):Calls Try.prog 80 ⟨[.int .i64 length_0]⟩ w (Ret Q) :=
 qqb [.tmp 2] qed Try.func80 rfl rfl rfl rfl .lf (by kernel_rfl) h
def qf.j3 (data_0:Sl) (a_1:Int) (b_2 i_8:Int) (Q:VWP) (nx1:Sl→Int→Int→Int→WP) (w:World):Prop :=
 lt (IntKind.i64.wrap (i_8+1)) fun x1 =>
 nx1 data_0 a_1 b_2 x1 w
def qf.b2 (data_0:Sl) (a_1:Int) (b_2 i_8 j_9:Int) (Q:VWP) (nx1:Sl→Int→Int→Int→WP) (nx2:Sl→Int→Int→Int→Int→WP) (w:World):Prop :=
 lt (World.drew w) fun w2 =>
 br (decide (j_9 > a_1)) (
 ixS data_0.a data_0.len j_9 42 fun a3 =>
 ldA w2 a3 42 fun c4 =>
 lt (IntKind.i64.wrap (j_9 - 1)) fun x5 =>
 ixS data_0.a data_0.len x5 42 fun a6 =>
 ldA w2 a6 42 fun c7 =>
 qhf 18 [.agg c4,.agg c7] w2 fun r10 w9 =>
 br (decide (r10 < 0)) (
 lt (World.drew w9) fun w11 =>
 lt (IntKind.i64.wrap (j_9 - 1)) fun x12 =>
 lt (IntKind.i64.wrap (j_9 - 1)) fun x13 =>
 ixS data_0.a data_0.len x13 42 fun a14 =>
 ldA w11 a14 42 fun c15 =>
 ixS data_0.a data_0.len j_9 42 fun a16 =>
 ldA w11 a16 42 fun c17 =>
 ixS data_0.a data_0.len j_9 42 fun a18 =>
 (c15).size=42 ∧
 stA w11 a18 c15 fun w19 =>
 ixS data_0.a data_0.len x12 42 fun a20 =>
 (c17).size=42 ∧
 stA w19 a20 c17 fun w21 =>
 lt (IntKind.i64.wrap (j_9 - 1)) fun x22 =>
 nx2 data_0 a_1 b_2 i_8 x22 w21) (
 qf.j3 data_0 a_1 b_2 i_8 Q nx1 w9)) (
 qf.j3 data_0 a_1 b_2 i_8 Q nx1 w2)
def qf.l2 (data_0:Sl) (a_1:Int) (b_2 i_8 j_9:Int) (Q:VWP) (nx1:Sl→Int→Int→Int→WP) (w:World):Prop :=
 ∃ (I:Int→WP) (μ:Int→World→Nat),I j_9 w∧∀ j_9:Int,∀ w:World,I j_9 w→qf.b2 data_0 a_1 b_2 i_8 j_9 Q nx1 (fun data_0' a_1' b_2' i_8' j_9' w'=>(data_0'=data_0∧a_1'=a_1∧b_2'=b_2∧i_8'=i_8)∧I j_9' w'∧μ j_9' w' < μ j_9 w) w
def qf.j4 (data_0:Sl) (a_1:Int) (b_2 i_8 j_9:Int) (Q:VWP) (nx1:Sl→Int→Int→Int→WP) (w:World):Prop :=
 qf.l2 data_0 a_1 b_2 i_8 j_9 Q nx1 w
def qf.j2 (data_0:Sl) (a_1:Int) (b_2 i_8:Int) (Q:VWP) (nx1:Sl→Int→Int→Int→WP) (w:World):Prop :=
 qf.j4 data_0 a_1 b_2 i_8 i_8 Q nx1 w
def qf.b1 (data_0:Sl) (a_1:Int) (b_2 i_8:Int) (Q:VWP) (nx1:Sl→Int→Int→Int→WP) (w:World):Prop :=
 br (decide (i_8 < b_2)) (
 qf.j2 data_0 a_1 b_2 i_8 Q nx1 w) (
 Q (.tuple ⟨[]⟩) w)
def qf.l1 (data_0:Sl) (a_1:Int) (b_2 i_8:Int) (Q:VWP) (w:World):Prop :=
 ∃ (I:Int→WP) (μ:Int→World→Nat),I i_8 w∧∀ i_8:Int,∀ w:World,I i_8 w→qf.b1 data_0 a_1 b_2 i_8 Q (fun data_0' a_1' b_2' i_8' w'=>(data_0'=data_0∧a_1'=a_1∧b_2'=b_2)∧I i_8' w'∧μ i_8' w' < μ i_8 w) w
def qf.j1 (data_0:Sl) (a_1:Int) (b_2 i_8:Int) (Q:VWP) (w:World):Prop :=
 qf.l1 data_0 a_1 b_2 i_8 Q w
def qf (data_0:Sl) (a_1:Int) (b_2:Int) (Q:VWP) (w:World):Prop :=
 lt (IntKind.i64.wrap (a_1+1)) fun x23 =>
 qf.j1 data_0 a_1 b_2 x23 Q w
theorem qf.ok (data_0:Sl) (a_1:Int) (b_2:Int) (Q:VWP) (w:World) (h:qf data_0 a_1 b_2 Q w):Calls Try.prog 62 ⟨[sV data_0,.int .i64 a_1,.int .i64 b_2,.func (.func 18) ⟨[]⟩ ⟨[]⟩]⟩ w (Ret Q) :=
 qqb [] qed Try.func62 rfl rfl rfl rfl (.sq [sL 0,sI 1,sI 2,(3,.c0 18),sI 8] (fun a b c _ d w=>qf.j1 a b c d Q w) .lf (.bk (.lo [sL 0,sI 1,sI 2,(3,.c0 18)] [sI 8] (fun a b c _ d w=>qf.l1 a b c d Q w) (fun nx1 a b c _ d w=>qf.b1 a b c d Q (fun x0 x1 x2 x8 w=>nx1 x0 x1 x2 () x8 w) w) fun nx1=>(.sq [sL 0,sI 1,sI 2,(3,.c0 18),sI 8] (fun a b c _ d w=>qf.j2 a b c d Q (fun x0 x1 x2 x8 w=>nx1 x0 x1 x2 () x8 w) w) .lf (.sq [sL 0,sI 1,sI 2,(3,.c0 18),sI 8] (fun a b c _ d w=>qf.j3 a b c d Q (fun x0 x1 x2 x8 w=>nx1 x0 x1 x2 () x8 w) w) (.bk (.sq [sL 0,sI 1,sI 2,(3,.c0 18),sI 8,sI 9] (fun a b c _ d e w=>qf.j4 a b c d e Q (fun x0 x1 x2 x8 w=>nx1 x0 x1 x2 () x8 w) w) .lf (.bk (.lo [sL 0,sI 1,sI 2,(3,.c0 18),sI 8] [sI 9] (fun a b c _ d e w=>qf.l2 a b c d e Q (fun x0 x1 x2 x8 w=>nx1 x0 x1 x2 () x8 w) w) (fun nx2 a b c _ d e w=>qf.b2 a b c d e Q (fun x0 x1 x2 x8 w=>nx1 x0 x1 x2 () x8 w) (fun x0 x1 x2 x8 x9 w=>nx2 x0 x1 x2 () x8 x9 w) w) fun nx2=>.lf)))) .lf))))) (by kernel_rfl) h
def qj.j3 (d_0:Sl) (t2:Int) (t3 t10 t11:Int) (Q:VWP) (nx1:Sl→Int→Int→Int→WP) (w:World):Prop :=
 lt (World.drew w) fun w1 =>
 lt (IntKind.i64.wrap (t3+t10)) fun x2 =>
 ixS d_0.a d_0.len x2 42 fun a3 =>
 ldA w1 a3 42 fun c4 =>
 lt (IntKind.i64.wrap (t3+t11)) fun x5 =>
 ixS d_0.a d_0.len x5 42 fun a6 =>
 ldA w1 a6 42 fun c7 =>
 qhf 18 [.agg c4,.agg c7] w1 fun r10 w9 =>
 br (!(decide (r10 < 0))) (
 Q (.tuple ⟨[]⟩) w9) (
 lt (World.drew w9) fun w11 =>
 lt (IntKind.i64.wrap (t3+t10)) fun x12 =>
 lt (IntKind.i64.wrap (t3+t11)) fun x13 =>
 lt (IntKind.i64.wrap (t3+t11)) fun x14 =>
 ixS d_0.a d_0.len x14 42 fun a15 =>
 ldA w11 a15 42 fun c16 =>
 lt (IntKind.i64.wrap (t3+t10)) fun x17 =>
 ixS d_0.a d_0.len x17 42 fun a18 =>
 ldA w11 a18 42 fun c19 =>
 ixS d_0.a d_0.len x12 42 fun a20 =>
 (c16).size=42 ∧
 stA w11 a20 c16 fun w21 =>
 ixS d_0.a d_0.len x13 42 fun a22 =>
 (c19).size=42 ∧
 stA w21 a22 c19 fun w23 =>
 nx1 d_0 t2 t3 t11 w23)
def qj.j2 (d_0:Sl) (t2:Int) (t3 t10 t11:Int) (Q:VWP) (nx1:Sl→Int→Int→Int→WP) (w:World):Prop :=
 br (decide (t11 ≥ t2)) (
 Q (.tuple ⟨[]⟩) w) (
 lt (World.drew w) fun w24 =>
 lt (IntKind.i64.wrap (t11+1)) fun x25 =>
 br (decide (x25 < t2)) (
 lt (IntKind.i64.wrap (t3+t11)) fun x26 =>
 ixS d_0.a d_0.len x26 42 fun a27 =>
 ldA w24 a27 42 fun c28 =>
 lt (IntKind.i64.wrap (t3+t11)) fun x29 =>
 lt (IntKind.i64.wrap (x29+1)) fun x30 =>
 ixS d_0.a d_0.len x30 42 fun a31 =>
 ldA w24 a31 42 fun c32 =>
 qhf 18 [.agg c28,.agg c32] w24 fun r35 w34 =>
 br (decide (r35 < 0)) (
 lt (IntKind.i64.wrap (t11+1)) fun x36 =>
 qj.j3 d_0 t2 t3 t10 x36 Q nx1 w34) (
 qj.j3 d_0 t2 t3 t10 t11 Q nx1 w34)) (
 qj.j3 d_0 t2 t3 t10 t11 Q nx1 w24))
def qj.b1 (d_0:Sl) (t2:Int) (t3 t10:Int) (Q:VWP) (nx1:Sl→Int→Int→Int→WP) (w:World):Prop :=
 lt (IntKind.i64.wrap (2 * t10)) fun x37 =>
 lt (IntKind.i64.wrap (x37+1)) fun x38 =>
 qj.j2 d_0 t2 t3 t10 x38 Q nx1 w
def qj.l1 (d_0:Sl) (t2:Int) (t3 t10:Int) (Q:VWP) (w:World):Prop :=
 ∃ (I:Int→WP) (μ:Int→World→Nat),I t10 w∧∀ t10:Int,∀ w:World,I t10 w→qj.b1 d_0 t2 t3 t10 Q (fun d_0' t2' t3' t10' w'=>(d_0'=d_0∧t2'=t2∧t3'=t3)∧I t10' w'∧μ t10' w' < μ t10 w) w
def qj.j1 (d_0:Sl) (t2:Int) (t3 t10:Int) (Q:VWP) (w:World):Prop :=
 qj.l1 d_0 t2 t3 t10 Q w
def qj (d_0:Sl) (i_1:Int) (t2 t3:Int) (Q:VWP) (w:World):Prop :=
 qj.j1 d_0 t2 t3 i_1 Q w
theorem qj.ok (d_0:Sl) (i_1:Int) (t2:Int) (t3:Int) (Q:VWP) (w:World) (h:qj d_0 i_1 t2 t3 Q w):Calls Try.prog 79 ⟨[sV d_0,.int .i64 i_1,.int .i64 t2,.int .i64 t3,.func (.func 18) ⟨[]⟩ ⟨[]⟩]⟩ w (Ret Q) :=
 qqb [] qed Try.func79 rfl rfl rfl rfl (.sq [sL 0,sI 2,sI 3,(4,.c0 18),sI 10] (fun a b c _ d w=>qj.j1 a b c d Q w) .lf (.bk (.lo [sL 0,sI 2,sI 3,(4,.c0 18)] [sI 10] (fun a b c _ d w=>qj.l1 a b c d Q w) (fun nx1 a b c _ d w=>qj.b1 a b c d Q (fun x0 x2 x3 x10 w=>nx1 x0 x2 x3 () x10 w) w) fun nx1=>(.bk (.sq [sL 0,sI 2,sI 3,(4,.c0 18),sI 10,sI 11] (fun a b c _ d e w=>qj.j2 a b c d e Q (fun x0 x2 x3 x10 w=>nx1 x0 x2 x3 () x10 w) w) .lf (.pr 1 [sL 0,sI 2,sI 3,(4,.c0 18),sI 10,sI 11] (fun a b c _ d e w=>qj.j3 a b c d e Q (fun x0 x2 x3 x10 w=>nx1 x0 x2 x3 () x10 w) w) .lf)))))) (by kernel_rfl) h
def qh.b1 (data_0:Sl) (first_8:Int) (lo_9 i_12:Int) (Q:VWP) (nx1:Sl→Int→Int→Int→WP) (w:World):Prop :=
 br (decide (i_12 ≥ 0)) (
 lt (World.drew w) fun w1 =>
 lt (IntKind.i64.wrap (first_8+i_12)) fun x2 =>
 lt (IntKind.i64.wrap (first_8+i_12)) fun x3 =>
 ixS data_0.a data_0.len x3 42 fun a4 =>
 ldA w1 a4 42 fun c5 =>
 ixS data_0.a data_0.len first_8 42 fun a6 =>
 ldA w1 a6 42 fun c7 =>
 ixS data_0.a data_0.len first_8 42 fun a8 =>
 (c5).size=42 ∧
 stA w1 a8 c5 fun w9 =>
 ixS data_0.a data_0.len x2 42 fun a10 =>
 (c7).size=42 ∧
 stA w9 a10 c7 fun w11 =>
 ct_ 79 [sV data_0,.int .i64 lo_9,.int .i64 i_12,.int .i64 first_8,.func (.func 18) ⟨[]⟩ ⟨[]⟩] w11 fun w13 =>
 lt (IntKind.i64.wrap (i_12 - 1)) fun x14 =>
 nx1 data_0 first_8 lo_9 x14 w13) (
 Q (.tuple ⟨[]⟩) w)
def qh.l1 (data_0:Sl) (first_8:Int) (lo_9 i_12:Int) (Q:VWP) (w:World):Prop :=
 ∃ (I:Int→WP) (μ:Int→World→Nat),I i_12 w∧∀ i_12:Int,∀ w:World,I i_12 w→qh.b1 data_0 first_8 lo_9 i_12 Q (fun data_0' first_8' lo_9' i_12' w'=>(data_0'=data_0∧first_8'=first_8∧lo_9'=lo_9)∧I i_12' w'∧μ i_12' w' < μ i_12 w) w
def qh.j4 (data_0:Sl) (first_8:Int) (lo_9 i_12:Int) (Q:VWP) (w:World):Prop :=
 qh.l1 data_0 first_8 lo_9 i_12 Q w
def qh.j3 (data_0:Sl) (first_8:Int) (lo_9 hi_10:Int) (Q:VWP) (w:World):Prop :=
 lt (IntKind.i64.wrap (hi_10 - 1)) fun x15 =>
 qh.j4 data_0 first_8 lo_9 x15 Q w
def qh.b2 (data_0:Sl) (first_8:Int) (lo_9 hi_10 i_11:Int) (Q:VWP) (nx2:Sl→Int→Int→Int→Int→WP) (w:World):Prop :=
 br (decide (i_11 ≥ 0)) (
 ct_ 79 [sV data_0,.int .i64 i_11,.int .i64 hi_10,.int .i64 first_8,.func (.func 18) ⟨[]⟩ ⟨[]⟩] w fun w17 =>
 lt (IntKind.i64.wrap (i_11 - 1)) fun x18 =>
 nx2 data_0 first_8 lo_9 hi_10 x18 w17) (
 qh.j3 data_0 first_8 lo_9 hi_10 Q w)
def qh.l2 (data_0:Sl) (first_8:Int) (lo_9 hi_10 i_11:Int) (Q:VWP) (w:World):Prop :=
 ∃ (I:Int→WP) (μ:Int→World→Nat),I i_11 w∧∀ i_11:Int,∀ w:World,I i_11 w→qh.b2 data_0 first_8 lo_9 hi_10 i_11 Q (fun data_0' first_8' lo_9' hi_10' i_11' w'=>(data_0'=data_0∧first_8'=first_8∧lo_9'=lo_9∧hi_10'=hi_10)∧I i_11' w'∧μ i_11' w' < μ i_11 w) w
def qh.j5 (data_0:Sl) (first_8:Int) (lo_9 hi_10 i_11:Int) (Q:VWP) (w:World):Prop :=
 qh.l2 data_0 first_8 lo_9 hi_10 i_11 Q w
def qh.j2 (data_0:Sl) (first_8:Int) (lo_9 hi_10:Int) (Q:VWP) (w:World):Prop :=
 lt (IntKind.i64.wrap (hi_10 - 1)) fun x19 =>
 (2:Int) ≠ 0 ∧
 lt (IntKind.i64.wrap (Int.tdiv x19 2)) fun x20 =>
 qh.j5 data_0 first_8 lo_9 hi_10 x20 Q w
def qh.j1 (data_0:Sl) (a_1:Int) (b_2 first_8:Int) (Q:VWP) (w:World):Prop :=
 lt (IntKind.i64.wrap (b_2 - a_1)) fun x21 =>
 qh.j2 data_0 first_8 0 x21 Q w
def qh (data_0:Sl) (a_1:Int) (b_2:Int) (Q:VWP) (w:World):Prop :=
 qh.j1 data_0 a_1 b_2 a_1 Q w
theorem qh.ok (data_0:Sl) (a_1:Int) (b_2:Int) (Q:VWP) (w:World) (h:qh data_0 a_1 b_2 Q w):Calls Try.prog 63 ⟨[sV data_0,.int .i64 a_1,.int .i64 b_2,.func (.func 18) ⟨[]⟩ ⟨[]⟩]⟩ w (Ret Q) :=
 qqb [] qed Try.func63 rfl rfl rfl rfl (.sq [sL 0,sI 1,sI 2,(3,.c0 18),sI 8] (fun a b c _ d w=>qh.j1 a b c d Q w) .lf (.pr 1 [sL 0,(3,.c0 18),sI 8,sI 9,sI 10] (fun a _ b c d w=>qh.j2 a b c d Q w) (.sq [sL 0,(3,.c0 18),sI 8,sI 9,sI 10] (fun a _ b c d w=>qh.j3 a b c d Q w) (.sq [sL 0,(3,.c0 18),sI 8,sI 9,sI 10,sI 11] (fun a _ b c d e w=>qh.j5 a b c d e Q w) .lf (.bk (.lo [sL 0,(3,.c0 18),sI 8,sI 9,sI 10] [sI 11] (fun a _ b c d e w=>qh.l2 a b c d e Q w) (fun nx2 a _ b c d e w=>qh.b2 a b c d e Q (fun x0 x8 x9 x10 x11 w=>nx2 x0 () x8 x9 x10 x11 w) w) fun nx2=>.lf))) (.sq [sL 0,(3,.c0 18),sI 8,sI 9,sI 12] (fun a _ b c d w=>qh.j4 a b c d Q w) .lf (.bk (.lo [sL 0,(3,.c0 18),sI 8,sI 9] [sI 12] (fun a _ b c d w=>qh.l1 a b c d Q w) (fun nx1 a _ b c d w=>qh.b1 a b c d Q (fun x0 x8 x9 x12 w=>nx1 x0 () x8 x9 x12 w) w) fun nx1=>.lf)))))) (by kernel_rfl) h
def qe.j5 (d_0:Sl) (i_1:Int) (t8:Int) (t9:Addr) (t10 t11:Int) (Q:VWP) (nx1:Sl→Int→Int→Addr→Int→Int→WP) (w:World):Prop :=
 lt (IntKind.i64.wrap (t11+1)) fun x1 =>
 nx1 d_0 i_1 t8 t9 t10 x1 w
def qe.j6 (d_0:Sl) (i_1:Int) (t8:Int) (t9:Addr) (t10 t11 t12:Int) (Q:VWP) (nx1:Sl→Int→Int→Addr→Int→Int→WP) (w:World):Prop :=
 lt (World.drew w) fun w2 =>
 lt (IntKind.i64.wrap (i_1+t12)) fun x3 =>
 lt (IntKind.i64.wrap (i_1+t12)) fun x4 =>
 ixS d_0.a d_0.len x4 42 fun a5 =>
 ldA w2 a5 42 fun c6 =>
 ixS d_0.a d_0.len t11 42 fun a7 =>
 ldA w2 a7 42 fun c8 =>
 ixS d_0.a d_0.len t11 42 fun a9 =>
 (c6).size=42 ∧
 stA w2 a9 c6 fun w10 =>
 ixS d_0.a d_0.len x3 42 fun a11 =>
 (c8).size=42 ∧
 stA w10 a11 c8 fun w12 =>
 qe.j5 d_0 i_1 t8 t9 t10 t11 Q nx1 w12
def qe.j4 (d_0:Sl) (i_1:Int) (t8:Int) (t9:Addr) (t10 t11:Int) (Q:VWP) (nx1:Sl→Int→Int→Addr→Int→Int→WP) (w:World):Prop :=
 Calls Try.prog 81 ⟨[.pointer (some t9)]⟩ w fun e13 w14 =>
 ∃ r15:Int,e13=.returned (.int .u64 r15) ∧
 lt (IntKind.u64.wrap (t10 - 1)) fun x16 =>
 lt (andV .u64 r15 x16) fun x17 =>
 lt (IntKind.i64.wrap x17) fun x18 =>
 br (decide (x18 ≥ t8)) (
 lt (IntKind.i64.wrap (x18 - t8)) fun x19 =>
 qe.j6 d_0 i_1 t8 t9 t10 t11 x19 Q nx1 w14) (
 qe.j6 d_0 i_1 t8 t9 t10 t11 x18 Q nx1 w14)
def qe.b1 (d_0:Sl) (i_1:Int) (t8:Int) (t9:Addr) (t10 t11:Int) (Q:VWP) (nx1:Sl→Int→Int→Addr→Int→Int→WP) (w:World):Prop :=
 (4:Int) ≠ 0 ∧
 lt (IntKind.i64.wrap (Int.tdiv t8 4)) fun x20 =>
 lt (IntKind.i64.wrap (x20 * 2)) fun x21 =>
 lt (IntKind.i64.wrap (i_1+x21)) fun x22 =>
 lt (IntKind.i64.wrap (x22+1)) fun x23 =>
 br (decide (t11≤x23)) (
 qe.j4 d_0 i_1 t8 t9 t10 t11 Q nx1 w) (
 Q (.tuple ⟨[]⟩) w)
def qe.l1 (d_0:Sl) (i_1:Int) (t8:Int) (t9:Addr) (t10 t11:Int) (Q:VWP) (w:World):Prop :=
 ∃ (I:Int→WP) (μ:Int→World→Nat),I t11 w∧∀ t11:Int,∀ w:World,I t11 w→qe.b1 d_0 i_1 t8 t9 t10 t11 Q (fun d_0' i_1' t8' t9' t10' t11' w'=>(d_0'=d_0∧i_1'=i_1∧t8'=t8∧t9'=t9∧t10'=t10)∧I t11' w'∧μ t11' w' < μ t11 w) w
def qe.j3 (d_0:Sl) (i_1:Int) (t8:Int) (t9:Addr) (t10 t11:Int) (Q:VWP) (w:World):Prop :=
 qe.l1 d_0 i_1 t8 t9 t10 t11 Q w
def qe.j2 (d_0:Sl) (i_1:Int) (t8:Int) (t9:Addr) (Q:VWP) (w:World):Prop :=
 Calls Try.prog 80 ⟨[.int .i64 t8]⟩ w fun e24 w25 =>
 ∃ r26:Int,e24=.returned (.int .u64 r26) ∧
 (4:Int) ≠ 0 ∧
 lt (IntKind.i64.wrap (Int.tdiv t8 4)) fun x27 =>
 lt (IntKind.i64.wrap (x27 * 2)) fun x28 =>
 lt (IntKind.i64.wrap (i_1+x28)) fun x29 =>
 lt (IntKind.i64.wrap (x29 - 1)) fun x30 =>
 qe.j3 d_0 i_1 t8 t9 r26 x30 Q w25
def qe.j1 (d_0:Sl) (i_1:Int) (t8:Int) (t17:Bool) (Q:VWP) (w:World):Prop :=
 br t17 (
 lt (IntKind.u64.wrap t8) fun x31 =>
 nw w (zc Try.prog 118) 118 fun a32 w33 =>
 st w33 a32 (.int .u64 x31) fun w34 =>
 qe.j2 d_0 i_1 t8 a32 Q w34) (
 Q (.tuple ⟨[]⟩) w)
def qe (d_0:Sl) (i_1:Int) (t2:Int) (Q:VWP) (w:World):Prop :=
 lt (IntKind.i64.wrap (t2 - i_1)) fun x35 =>
 qe.j1 d_0 i_1 x35 (decide (x35 ≥ 8)) Q w
theorem qe.ok (d_0:Sl) (i_1:Int) (t2:Int) (Q:VWP) (w:World) (h:qe d_0 i_1 t2 Q w):Calls Try.prog 64 ⟨[sV d_0,.int .i64 i_1,.int .i64 t2,.func (.func 18) ⟨[]⟩ ⟨[]⟩]⟩ w (Ret Q) :=
 qqb [] qed Try.func64 rfl rfl rfl rfl (.pr 1 [sL 0,sI 1,sI 8,sB 17] (fun a b c d w=>qe.j1 a b c d Q w) (.cd (.sq [sL 0,sI 1,sI 8,sA 9] (fun a b c d w=>qe.j2 a b c d Q w) .lf (.pr 1 [sL 0,sI 1,sI 8,sA 9,(10,.I .u64),sI 11] (fun a b c d e f w=>qe.j3 a b c d e f Q w) (.bk (.lo [sL 0,sI 1,sI 8,sA 9,(10,.I .u64)] [sI 11] (fun a b c d e f w=>qe.l1 a b c d e f Q w) (fun nx1 a b c d e f w=>qe.b1 a b c d e f Q nx1 w) fun nx1=>(.sq [sL 0,sI 1,sI 8,sA 9,(10,.I .u64),sI 11] (fun a b c d e f w=>qe.j4 a b c d e f Q nx1 w) .lf (.sq [sL 0,sI 1,sI 8,sA 9,(10,.I .u64),sI 11] (fun a b c d e f w=>qe.j5 a b c d e f Q nx1 w) (.bk (.pr 1 [sL 0,sI 1,sI 8,sA 9,(10,.I .u64),sI 11,sI 12] (fun a b c d e f g w=>qe.j6 a b c d e f g Q nx1 w) .lf)) .lf)))))) .lf)) (by kernel_rfl) h
def qub (data_0:Sl) (a_1:Int) (b_2:Int) (swaps_3:OAd) (Q:VWP) (w:World):Prop :=
 lt (World.drew w) fun w1 =>
 ixS data_0.a data_0.len b_2 42 fun a2 =>
 ldA w1 a2 42 fun c3 =>
 ixS data_0.a data_0.len a_1 42 fun a4 =>
 ldA w1 a4 42 fun c5 =>
 qhf 18 [.agg c3,.agg c5] w1 fun r8 w7 =>
 br (decide (r8 < 0)) (
 nz swaps_3 fun a9 =>
 ldI .i64 w7 a9 fun x10 =>
 lt (IntKind.i64.wrap (x10+1)) fun x11 =>
 nz swaps_3 fun a12 =>
 st w7 a12 (.int .i64 x11) fun w13 =>
 Q (.tuple ⟨[.int .i64 b_2,.int .i64 a_1]⟩) w13) (
 Q (.tuple ⟨[.int .i64 a_1,.int .i64 b_2]⟩) w7)
theorem qub.ok (data_0:Sl) (a_1:Int) (b_2:Int) (swaps_3:OAd) (Q:VWP) (w:World) (h:qub data_0 a_1 b_2 swaps_3 Q w):Calls Try.prog 87 ⟨[sV data_0,.int .i64 a_1,.int .i64 b_2,.pointer swaps_3,.func (.func 18) ⟨[]⟩ ⟨[]⟩]⟩ w (Ret Q) :=
 qqb [.tmp 10,.tmp 11] qed Try.func87 rfl rfl rfl rfl .lf (by kernel_rfl) h
def qvb (data_0:Sl) (a_1:Int) (b_2 c_3:Int) (swaps_4:OAd) (Q:VWP) (w:World):Prop :=
 ct_II 87 [sV data_0,.int .i64 a_1,.int .i64 b_2,.pointer swaps_4,.func (.func 18) ⟨[]⟩ ⟨[]⟩] w fun r3 r4 w2 =>
 ct_II 87 [sV data_0,.int .i64 r4,.int .i64 c_3,.pointer swaps_4,.func (.func 18) ⟨[]⟩ ⟨[]⟩] w2 fun r7 r8 w6 =>
 ct_II 87 [sV data_0,.int .i64 r3,.int .i64 r7,.pointer swaps_4,.func (.func 18) ⟨[]⟩ ⟨[]⟩] w6 fun r11 r12 w10 =>
 Q (.int .i64 r12) w10
theorem qvb.ok (data_0:Sl) (a_1:Int) (b_2:Int) (c_3:Int) (swaps_4:OAd) (Q:VWP) (w:World) (h:qvb data_0 a_1 b_2 c_3 swaps_4 Q w):Calls Try.prog 83 ⟨[sV data_0,.int .i64 a_1,.int .i64 b_2,.int .i64 c_3,.pointer swaps_4,.func (.func 18) ⟨[]⟩ ⟨[]⟩]⟩ w (Ret Q) :=
 qqb [.tmp 12] qed Try.func83 rfl rfl rfl rfl .lf (by kernel_rfl) h
def qmb (data_0:Sl) (a_1:Int) (swaps_2:OAd) (Q:VWP) (w:World):Prop :=
 lt (IntKind.i64.wrap (a_1 - 1)) fun x1 =>
 lt (IntKind.i64.wrap (a_1+1)) fun x2 =>
 qhf 83 [sV data_0,.int .i64 x1,.int .i64 a_1,.int .i64 x2,.pointer swaps_2,.func (.func 18) ⟨[]⟩ ⟨[]⟩] w fun r5 w4 =>
 Q (.int .i64 r5) w4
theorem qmb.ok (data_0:Sl) (a_1:Int) (swaps_2:OAd) (Q:VWP) (w:World) (h:qmb data_0 a_1 swaps_2 Q w):Calls Try.prog 82 ⟨[sV data_0,.int .i64 a_1,.pointer swaps_2,.func (.func 18) ⟨[]⟩ ⟨[]⟩]⟩ w (Ret Q) :=
 qqb [.tmp 8] qed Try.func82 rfl rfl rfl rfl .lf (by kernel_rfl) h
def qk.j4 (swaps_11:Addr) (j_13:Int) (Q:VWP) (w:World):Prop :=
 ldI .i64 w swaps_11 fun x1 =>
 br (x1 == 0) (
 Q (.tuple ⟨[.int .i64 j_13,.int .i64 1]⟩) w) (
 br (x1 == 12) (
 Q (.tuple ⟨[.int .i64 j_13,.int .i64 2]⟩) w) (
 Q (.tuple ⟨[.int .i64 j_13,.int .i64 0]⟩) w))
def qk.j3 (data_0:Sl) (a_1:Int) (l_10:Int) (swaps_11:Addr) (i_12 j_13:Int) (Q:VWP) (w:World):Prop :=
 (4:Int) ≠ 0 ∧
 lt (IntKind.i64.wrap (Int.tdiv l_10 4)) fun x2 =>
 lt (IntKind.i64.wrap (x2 * 3)) fun x3 =>
 lt (IntKind.i64.wrap (a_1+x3)) fun x4 =>
 br (decide (l_10 ≥ 8)) (
 br (decide (l_10 ≥ 50)) (
 qhf 82 [sV data_0,.int .i64 i_12,.pointer (some swaps_11),.func (.func 18) ⟨[]⟩ ⟨[]⟩] w fun r7 w6 =>
 qhf 82 [sV data_0,.int .i64 j_13,.pointer (some swaps_11),.func (.func 18) ⟨[]⟩ ⟨[]⟩] w6 fun r10 w9 =>
 qhf 82 [sV data_0,.int .i64 x4,.pointer (some swaps_11),.func (.func 18) ⟨[]⟩ ⟨[]⟩] w9 fun r13 w12 =>
 qhf 83 [sV data_0,.int .i64 r7,.int .i64 r10,.int .i64 r13,.pointer (some swaps_11),.func (.func 18) ⟨[]⟩ ⟨[]⟩] w12 fun r16 w15 =>
 qk.j4 swaps_11 r16 Q w15) (
 qhf 83 [sV data_0,.int .i64 i_12,.int .i64 j_13,.int .i64 x4,.pointer (some swaps_11),.func (.func 18) ⟨[]⟩ ⟨[]⟩] w fun r19 w18 =>
 qk.j4 swaps_11 r19 Q w18)) (
 qk.j4 swaps_11 j_13 Q w)
def qk.j2 (data_0:Sl) (a_1:Int) (l_10:Int) (swaps_11:Addr) (Q:VWP) (w:World):Prop :=
 (4:Int) ≠ 0 ∧
 lt (IntKind.i64.wrap (Int.tdiv l_10 4)) fun x20 =>
 lt (IntKind.i64.wrap (x20 * 1)) fun x21 =>
 lt (IntKind.i64.wrap (a_1+x21)) fun x22 =>
 (4:Int) ≠ 0 ∧
 lt (IntKind.i64.wrap (Int.tdiv l_10 4)) fun x23 =>
 lt (IntKind.i64.wrap (x23 * 2)) fun x24 =>
 lt (IntKind.i64.wrap (a_1+x24)) fun x25 =>
 qk.j3 data_0 a_1 l_10 swaps_11 x22 x25 Q w
def qk.j1 (data_0:Sl) (a_1:Int) (b_2:Int) (Q:VWP) (w:World):Prop :=
 lt (IntKind.i64.wrap (b_2 - a_1)) fun x26 =>
 nw w (zc Try.prog 3) 3 fun a27 w28 =>
 qk.j2 data_0 a_1 x26 a27 Q w28
def qk (data_0:Sl) (a_1:Int) (b_2:Int) (Q:VWP) (w:World):Prop :=
 qk.j1 data_0 a_1 b_2 Q w
theorem qk.ok (data_0:Sl) (a_1:Int) (b_2:Int) (Q:VWP) (w:World) (h:qk data_0 a_1 b_2 Q w):Calls Try.prog 65 ⟨[sV data_0,.int .i64 a_1,.int .i64 b_2,.func (.func 18) ⟨[]⟩ ⟨[]⟩]⟩ w (Ret Q) :=
 qqb [.tmp 8,.tmp 9] qed Try.func65 rfl rfl rfl rfl (.sq [sL 0,sI 1,sI 2,(3,.c0 18)] (fun a b c _ w=>qk.j1 a b c Q w) .lf (.pr 1 [sL 0,sI 1,(3,.c0 18),sI 10,sA 11] (fun a b _ c d w=>qk.j2 a b c d Q w) (.pr 1 [sL 0,sI 1,(3,.c0 18),sI 10,sA 11,sI 12,sI 13] (fun a b _ c d e f w=>qk.j3 a b c d e f Q w) (.pr 1 [sA 11,sI 13] (fun a b w=>qk.j4 a b Q w) .lf)))) (by kernel_rfl) h
def qu.b1 (data_0:Sl) (i_8:Int) (j_9:Int) (Q:VWP) (nx1:Sl→Int→Int→WP) (w:World):Prop :=
 br (decide (i_8 < j_9)) (
 lt (World.drew w) fun w1 =>
 ixS data_0.a data_0.len j_9 42 fun a2 =>
 ldA w1 a2 42 fun c3 =>
 ixS data_0.a data_0.len i_8 42 fun a4 =>
 ldA w1 a4 42 fun c5 =>
 ixS data_0.a data_0.len i_8 42 fun a6 =>
 (c3).size=42 ∧
 stA w1 a6 c3 fun w7 =>
 ixS data_0.a data_0.len j_9 42 fun a8 =>
 (c5).size=42 ∧
 stA w7 a8 c5 fun w9 =>
 lt (IntKind.i64.wrap (i_8+1)) fun x10 =>
 lt (IntKind.i64.wrap (j_9 - 1)) fun x11 =>
 nx1 data_0 x10 x11 w9) (
 Q (.tuple ⟨[]⟩) w)
def qu.l1 (data_0:Sl) (i_8:Int) (j_9:Int) (Q:VWP) (w:World):Prop :=
 ∃ (I:Int→Int→WP) (μ:Int→Int→World→Nat),I i_8 j_9 w∧∀ i_8:Int,∀ j_9:Int,∀ w:World,I i_8 j_9 w→qu.b1 data_0 i_8 j_9 Q (fun data_0' i_8' j_9' w'=>(data_0'=data_0)∧I i_8' j_9' w'∧μ i_8' j_9' w' < μ i_8 j_9 w) w
def qu.j1 (data_0:Sl) (i_8:Int) (j_9:Int) (Q:VWP) (w:World):Prop :=
 qu.l1 data_0 i_8 j_9 Q w
def qu (data_0:Sl) (a_1:Int) (b_2:Int) (Q:VWP) (w:World):Prop :=
 lt (IntKind.i64.wrap (b_2 - 1)) fun x12 =>
 qu.j1 data_0 a_1 x12 Q w
theorem qu.ok (data_0:Sl) (a_1:Int) (b_2:Int) (Q:VWP) (w:World) (h:qu data_0 a_1 b_2 Q w):Calls Try.prog 66 ⟨[sV data_0,.int .i64 a_1,.int .i64 b_2,.func (.func 18) ⟨[]⟩ ⟨[]⟩]⟩ w (Ret Q) :=
 qqb [] qed Try.func66 rfl rfl rfl rfl (.pr 1 [sL 0,sI 8,sI 9] (fun a b c w=>qu.j1 a b c Q w) (.bk (.lo [sL 0] [sI 8,sI 9] (fun a b c w=>qu.l1 a b c Q w) (fun nx1 a b c w=>qu.b1 a b c Q nx1 w) fun nx1=>.lf))) (by kernel_rfl) h
def qa.j2  (Q:VWP) (w:World):Prop :=
 Q (.bool false) w
def qa.j5 (d_0:Sl) (i_1:Int) (t2 t9 t10:Int) (Q:VWP) (nx1:Sl→Int→Int→Int→Int→WP) (w:World):Prop :=
 lt (IntKind.i64.wrap (t10+1)) fun x1 =>
 nx1 d_0 i_1 t2 t9 x1 w
def qa.b2 (d_0:Sl) (i_1:Int) (t2 t9 t10 t12:Int) (Q:VWP) (nx1:Sl→Int→Int→Int→Int→WP) (nx2:Sl→Int→Int→Int→Int→Int→WP) (w:World):Prop :=
 br (decide (t12 < t2)) (
 lt (World.drew w) fun w2 =>
 ixS d_0.a d_0.len t12 42 fun a3 =>
 ldA w2 a3 42 fun c4 =>
 lt (IntKind.i64.wrap (t12 - 1)) fun x5 =>
 ixS d_0.a d_0.len x5 42 fun a6 =>
 ldA w2 a6 42 fun c7 =>
 qhf 18 [.agg c4,.agg c7] w2 fun r10 w9 =>
 br (!(decide (r10 < 0))) (
 qa.j5 d_0 i_1 t2 t9 t10 Q nx1 w9) (
 lt (World.drew w9) fun w11 =>
 lt (IntKind.i64.wrap (t12 - 1)) fun x12 =>
 lt (IntKind.i64.wrap (t12 - 1)) fun x13 =>
 ixS d_0.a d_0.len x13 42 fun a14 =>
 ldA w11 a14 42 fun c15 =>
 ixS d_0.a d_0.len t12 42 fun a16 =>
 ldA w11 a16 42 fun c17 =>
 ixS d_0.a d_0.len t12 42 fun a18 =>
 (c15).size=42 ∧
 stA w11 a18 c15 fun w19 =>
 ixS d_0.a d_0.len x12 42 fun a20 =>
 (c17).size=42 ∧
 stA w19 a20 c17 fun w21 =>
 lt (IntKind.i64.wrap (t12+1)) fun x22 =>
 nx2 d_0 i_1 t2 t9 t10 x22 w21)) (
 qa.j5 d_0 i_1 t2 t9 t10 Q nx1 w)
def qa.l2 (d_0:Sl) (i_1:Int) (t2 t9 t10 t12:Int) (Q:VWP) (nx1:Sl→Int→Int→Int→Int→WP) (w:World):Prop :=
 ∃ (I:Int→WP) (μ:Int→World→Nat),I t12 w∧∀ t12:Int,∀ w:World,I t12 w→qa.b2 d_0 i_1 t2 t9 t10 t12 Q nx1 (fun d_0' i_1' t2' t9' t10' t12' w'=>(d_0'=d_0∧i_1'=i_1∧t2'=t2∧t9'=t9∧t10'=t10)∧I t12' w'∧μ t12' w' < μ t12 w) w
def qa.j11 (d_0:Sl) (i_1:Int) (t2 t9 t10 t12:Int) (Q:VWP) (nx1:Sl→Int→Int→Int→Int→WP) (w:World):Prop :=
 qa.l2 d_0 i_1 t2 t9 t10 t12 Q nx1 w
def qa.j10 (d_0:Sl) (i_1:Int) (t2 t9 t10:Int) (t104:Bool) (Q:VWP) (nx1:Sl→Int→Int→Int→Int→WP) (w:World):Prop :=
 br t104 (
 lt (IntKind.i64.wrap (t9+1)) fun x23 =>
 qa.j11 d_0 i_1 t2 t9 t10 x23 Q nx1 w) (
 qa.j5 d_0 i_1 t2 t9 t10 Q nx1 w)
def qa.j9 (d_0:Sl) (i_1:Int) (t2 t9 t10:Int) (Q:VWP) (nx1:Sl→Int→Int→Int→Int→WP) (w:World):Prop :=
 lt (IntKind.i64.wrap (t2 - t9)) fun x24 =>
 qa.j10 d_0 i_1 t2 t9 t10 (decide (x24 ≥ 2)) Q nx1 w
def qa.b3 (d_0:Sl) (i_1:Int) (t2 t9 t10 t11:Int) (Q:VWP) (nx1:Sl→Int→Int→Int→Int→WP) (nx3:Sl→Int→Int→Int→Int→Int→WP) (w:World):Prop :=
 br (decide (t11 ≥ 1)) (
 lt (World.drew w) fun w25 =>
 ixS d_0.a d_0.len t11 42 fun a26 =>
 ldA w25 a26 42 fun c27 =>
 lt (IntKind.i64.wrap (t11 - 1)) fun x28 =>
 ixS d_0.a d_0.len x28 42 fun a29 =>
 ldA w25 a29 42 fun c30 =>
 qhf 18 [.agg c27,.agg c30] w25 fun r33 w32 =>
 br (!(decide (r33 < 0))) (
 qa.j9 d_0 i_1 t2 t9 t10 Q nx1 w32) (
 lt (World.drew w32) fun w34 =>
 lt (IntKind.i64.wrap (t11 - 1)) fun x35 =>
 lt (IntKind.i64.wrap (t11 - 1)) fun x36 =>
 ixS d_0.a d_0.len x36 42 fun a37 =>
 ldA w34 a37 42 fun c38 =>
 ixS d_0.a d_0.len t11 42 fun a39 =>
 ldA w34 a39 42 fun c40 =>
 ixS d_0.a d_0.len t11 42 fun a41 =>
 (c38).size=42 ∧
 stA w34 a41 c38 fun w42 =>
 ixS d_0.a d_0.len x35 42 fun a43 =>
 (c40).size=42 ∧
 stA w42 a43 c40 fun w44 =>
 lt (IntKind.i64.wrap (t11 - 1)) fun x45 =>
 nx3 d_0 i_1 t2 t9 t10 x45 w44)) (
 qa.j9 d_0 i_1 t2 t9 t10 Q nx1 w)
def qa.l3 (d_0:Sl) (i_1:Int) (t2 t9 t10 t11:Int) (Q:VWP) (nx1:Sl→Int→Int→Int→Int→WP) (w:World):Prop :=
 ∃ (I:Int→WP) (μ:Int→World→Nat),I t11 w∧∀ t11:Int,∀ w:World,I t11 w→qa.b3 d_0 i_1 t2 t9 t10 t11 Q nx1 (fun d_0' i_1' t2' t9' t10' t11' w'=>(d_0'=d_0∧i_1'=i_1∧t2'=t2∧t9'=t9∧t10'=t10)∧I t11' w'∧μ t11' w' < μ t11 w) w
def qa.j13 (d_0:Sl) (i_1:Int) (t2 t9 t10 t11:Int) (Q:VWP) (nx1:Sl→Int→Int→Int→Int→WP) (w:World):Prop :=
 qa.l3 d_0 i_1 t2 t9 t10 t11 Q nx1 w
def qa.j12 (d_0:Sl) (i_1:Int) (t2 t9 t10:Int) (t65:Bool) (Q:VWP) (nx1:Sl→Int→Int→Int→Int→WP) (w:World):Prop :=
 br t65 (
 lt (IntKind.i64.wrap (t9 - 1)) fun x46 =>
 qa.j13 d_0 i_1 t2 t9 t10 x46 Q nx1 w) (
 qa.j9 d_0 i_1 t2 t9 t10 Q nx1 w)
def qa.j8 (d_0:Sl) (i_1:Int) (t2 t9 t10:Int) (Q:VWP) (nx1:Sl→Int→Int→Int→Int→WP) (w:World):Prop :=
 lt (IntKind.i64.wrap (t9 - i_1)) fun x47 =>
 qa.j12 d_0 i_1 t2 t9 t10 (decide (x47 ≥ 2)) Q nx1 w
def qa.j7 (d_0:Sl) (i_1:Int) (t2 t9 t10:Int) (Q:VWP) (nx1:Sl→Int→Int→Int→Int→WP) (w:World):Prop :=
 lt (IntKind.i64.wrap (t2 - i_1)) fun x48 =>
 br (decide (x48 < 50)) (
 Q (.bool false) w) (
 lt (World.drew w) fun w49 =>
 lt (IntKind.i64.wrap (t9 - 1)) fun x50 =>
 lt (IntKind.i64.wrap (t9 - 1)) fun x51 =>
 ixS d_0.a d_0.len x51 42 fun a52 =>
 ldA w49 a52 42 fun c53 =>
 ixS d_0.a d_0.len t9 42 fun a54 =>
 ldA w49 a54 42 fun c55 =>
 ixS d_0.a d_0.len t9 42 fun a56 =>
 (c53).size=42 ∧
 stA w49 a56 c53 fun w57 =>
 ixS d_0.a d_0.len x50 42 fun a58 =>
 (c55).size=42 ∧
 stA w57 a58 c55 fun w59 =>
 qa.j8 d_0 i_1 t2 t9 t10 Q nx1 w59)
def qa.j6 (d_0:Sl) (i_1:Int) (t2 t9 t10:Int) (Q:VWP) (nx1:Sl→Int→Int→Int→Int→WP) (w:World):Prop :=
 br (t9 == t2) (
 Q (.bool true) w) (
 qa.j7 d_0 i_1 t2 t9 t10 Q nx1 w)
def qa.b4 (d_0:Sl) (i_1:Int) (t2 t10 t9:Int) (Q:VWP) (nx1 nx4:Sl→Int→Int→Int→Int→WP) (w:World):Prop :=
 lt (World.drew w) fun w60 =>
 br (decide (t9 < t2)) (
 ixS d_0.a d_0.len t9 42 fun a61 =>
 ldA w60 a61 42 fun c62 =>
 lt (IntKind.i64.wrap (t9 - 1)) fun x63 =>
 ixS d_0.a d_0.len x63 42 fun a64 =>
 ldA w60 a64 42 fun c65 =>
 qhf 18 [.agg c62,.agg c65] w60 fun r68 w67 =>
 br (!(decide (r68 < 0))) (
 lt (IntKind.i64.wrap (t9+1)) fun x69 =>
 nx4 d_0 i_1 t2 t10 x69 w67) (
 qa.j6 d_0 i_1 t2 t9 t10 Q nx1 w67)) (
 qa.j6 d_0 i_1 t2 t9 t10 Q nx1 w60)
def qa.l4 (d_0:Sl) (i_1:Int) (t2 t10 t9:Int) (Q:VWP) (nx1:Sl→Int→Int→Int→Int→WP) (w:World):Prop :=
 ∃ (I:Int→WP) (μ:Int→World→Nat),I t9 w∧∀ t9:Int,∀ w:World,I t9 w→qa.b4 d_0 i_1 t2 t10 t9 Q nx1 (fun d_0' i_1' t2' t10' t9' w'=>(d_0'=d_0∧i_1'=i_1∧t2'=t2∧t10'=t10)∧I t9' w'∧μ t9' w' < μ t9 w) w
def qa.j4 (d_0:Sl) (i_1:Int) (t2 t9 t10:Int) (Q:VWP) (nx1:Sl→Int→Int→Int→Int→WP) (w:World):Prop :=
 qa.l4 d_0 i_1 t2 t10 t9 Q nx1 w
def qa.b1 (d_0:Sl) (i_1:Int) (t2 t9 t10:Int) (Q:VWP) (nx1:Sl→Int→Int→Int→Int→WP) (w:World):Prop :=
 br (decide (t10 < 5)) (
 qa.j4 d_0 i_1 t2 t9 t10 Q nx1 w) (
 qa.j2 Q w)
def qa.l1 (d_0:Sl) (i_1:Int) (t2 t9 t10:Int) (Q:VWP) (w:World):Prop :=
 ∃ (I:Int→Int→WP) (μ:Int→Int→World→Nat),I t9 t10 w∧∀ t9:Int,∀ t10:Int,∀ w:World,I t9 t10 w→qa.b1 d_0 i_1 t2 t9 t10 Q (fun d_0' i_1' t2' t9' t10' w'=>(d_0'=d_0∧i_1'=i_1∧t2'=t2)∧I t9' t10' w'∧μ t9' t10' w' < μ t9 t10 w) w
def qa.j3 (d_0:Sl) (i_1:Int) (t2 t9 t10:Int) (Q:VWP) (w:World):Prop :=
 qa.l1 d_0 i_1 t2 t9 t10 Q w
def qa.j1 (d_0:Sl) (i_1:Int) (t2 t9:Int) (Q:VWP) (w:World):Prop :=
 qa.j3 d_0 i_1 t2 t9 0 Q w
def qa (d_0:Sl) (i_1:Int) (t2:Int) (Q:VWP) (w:World):Prop :=
 lt (IntKind.i64.wrap (i_1+1)) fun x70 =>
 qa.j1 d_0 i_1 t2 x70 Q w
theorem qa.ok (d_0:Sl) (i_1:Int) (t2:Int) (Q:VWP) (w:World) (h:qa d_0 i_1 t2 Q w):Calls Try.prog 67 ⟨[sV d_0,.int .i64 i_1,.int .i64 t2,.func (.func 18) ⟨[]⟩ ⟨[]⟩]⟩ w (Ret Q) :=
 qqb [.tmp 8] qed Try.func67 rfl rfl rfl rfl (.pr 1 [sL 0,sI 1,sI 2,(3,.c0 18),sI 9] (fun a b c _ d w=>qa.j1 a b c d Q w) (.sq [] (fun  w=>qa.j2 Q w) (.sq [sL 0,sI 1,sI 2,(3,.c0 18),sI 9,sI 10] (fun a b c _ d e w=>qa.j3 a b c d e Q w) .lf (.bk (.lo [sL 0,sI 1,sI 2,(3,.c0 18)] [sI 9,sI 10] (fun a b c _ d e w=>qa.l1 a b c d e Q w) (fun nx1 a b c _ d e w=>qa.b1 a b c d e Q (fun x0 x1 x2 x9 x10 w=>nx1 x0 x1 x2 () x9 x10 w) w) fun nx1=>(.sq [sL 0,sI 1,sI 2,(3,.c0 18),sI 9,sI 10] (fun a b c _ d e w=>qa.j4 a b c d e Q (fun x0 x1 x2 x9 x10 w=>nx1 x0 x1 x2 () x9 x10 w) w) .lf (.sq [sL 0,sI 1,sI 2,(3,.c0 18),sI 9,sI 10] (fun a b c _ d e w=>qa.j5 a b c d e Q (fun x0 x1 x2 x9 x10 w=>nx1 x0 x1 x2 () x9 x10 w) w) (.bk (.sq [sL 0,sI 1,sI 2,(3,.c0 18),sI 9,sI 10] (fun a b c _ d e w=>qa.j6 a b c d e Q (fun x0 x1 x2 x9 x10 w=>nx1 x0 x1 x2 () x9 x10 w) w) (.bk (.lo [sL 0,sI 1,sI 2,(3,.c0 18),sI 10] [sI 9] (fun a b c _ d e w=>qa.l4 a b c d e Q (fun x0 x1 x2 x9 x10 w=>nx1 x0 x1 x2 () x9 x10 w) w) (fun nx4 a b c _ d e w=>qa.b4 a b c d e Q (fun x0 x1 x2 x9 x10 w=>nx1 x0 x1 x2 () x9 x10 w) (fun x0 x1 x2 x10 x9 w=>nx4 x0 x1 x2 () x10 x9 w) w) fun nx4=>.lf)) (.sq [sL 0,sI 1,sI 2,(3,.c0 18),sI 9,sI 10] (fun a b c _ d e w=>qa.j7 a b c d e Q (fun x0 x1 x2 x9 x10 w=>nx1 x0 x1 x2 () x9 x10 w) w) .lf (.pr 1 [sL 0,sI 1,sI 2,(3,.c0 18),sI 9,sI 10] (fun a b c _ d e w=>qa.j8 a b c d e Q (fun x0 x1 x2 x9 x10 w=>nx1 x0 x1 x2 () x9 x10 w) w) (.sq [sL 0,sI 1,sI 2,(3,.c0 18),sI 9,sI 10] (fun a b c _ d e w=>qa.j9 a b c d e Q (fun x0 x1 x2 x9 x10 w=>nx1 x0 x1 x2 () x9 x10 w) w) (.sq [sL 0,sI 1,sI 2,(3,.c0 18),sI 9,sI 10,sB 65] (fun a b c _ d e f w=>qa.j12 a b c d e f Q (fun x0 x1 x2 x9 x10 w=>nx1 x0 x1 x2 () x9 x10 w) w) .lf (.cd (.sq [sL 0,sI 1,sI 2,(3,.c0 18),sI 9,sI 10,sI 11] (fun a b c _ d e f w=>qa.j13 a b c d e f Q (fun x0 x1 x2 x9 x10 w=>nx1 x0 x1 x2 () x9 x10 w) w) .lf (.bk (.lo [sL 0,sI 1,sI 2,(3,.c0 18),sI 9,sI 10] [sI 11] (fun a b c _ d e f w=>qa.l3 a b c d e f Q (fun x0 x1 x2 x9 x10 w=>nx1 x0 x1 x2 () x9 x10 w) w) (fun nx3 a b c _ d e f w=>qa.b3 a b c d e f Q (fun x0 x1 x2 x9 x10 w=>nx1 x0 x1 x2 () x9 x10 w) (fun x0 x1 x2 x9 x10 x11 w=>nx3 x0 x1 x2 () x9 x10 x11 w) w) fun nx3=>.lf))) .lf)) (.sq [sL 0,sI 1,sI 2,(3,.c0 18),sI 9,sI 10,sB 104] (fun a b c _ d e f w=>qa.j10 a b c d e f Q (fun x0 x1 x2 x9 x10 w=>nx1 x0 x1 x2 () x9 x10 w) w) .lf (.cd (.sq [sL 0,sI 1,sI 2,(3,.c0 18),sI 9,sI 10,sI 12] (fun a b c _ d e f w=>qa.j11 a b c d e f Q (fun x0 x1 x2 x9 x10 w=>nx1 x0 x1 x2 () x9 x10 w) w) .lf (.bk (.lo [sL 0,sI 1,sI 2,(3,.c0 18),sI 9,sI 10] [sI 12] (fun a b c _ d e f w=>qa.l2 a b c d e f Q (fun x0 x1 x2 x9 x10 w=>nx1 x0 x1 x2 () x9 x10 w) w) (fun nx2 a b c _ d e f w=>qa.b2 a b c d e f Q (fun x0 x1 x2 x9 x10 w=>nx1 x0 x1 x2 () x9 x10 w) (fun x0 x1 x2 x9 x10 x12 w=>nx2 x0 x1 x2 () x9 x10 x12 w) w) fun nx2=>.lf))) .lf))))))) .lf))))) .lf)) (by kernel_rfl) h
def qc.j7 (d_0:Sl) (i_1:Int) (t13:Int) (Q:VWP) (w:World):Prop :=
 lt (World.drew w) fun w1 =>
 ixS d_0.a d_0.len i_1 42 fun a2 =>
 ldA w1 a2 42 fun c3 =>
 ixS d_0.a d_0.len t13 42 fun a4 =>
 ldA w1 a4 42 fun c5 =>
 ixS d_0.a d_0.len t13 42 fun a6 =>
 (c3).size=42 ∧
 stA w1 a6 c3 fun w7 =>
 ixS d_0.a d_0.len i_1 42 fun a8 =>
 (c5).size=42 ∧
 stA w7 a8 c5 fun w9 =>
 Q (.tuple ⟨[.int .i64 t13,.bool false]⟩) w9
def qc.j9 (d_0:Sl) (i_1:Int) (t12 t13:Int) (Q:VWP) (nx1:Sl→Int→Int→Int→WP) (w:World):Prop :=
 br (decide (t12 > t13)) (
 qc.j7 d_0 i_1 t13 Q w) (
 lt (World.drew w) fun w10 =>
 ixS d_0.a d_0.len t13 42 fun a11 =>
 ldA w10 a11 42 fun c12 =>
 ixS d_0.a d_0.len t12 42 fun a13 =>
 ldA w10 a13 42 fun c14 =>
 ixS d_0.a d_0.len t12 42 fun a15 =>
 (c12).size=42 ∧
 stA w10 a15 c12 fun w16 =>
 ixS d_0.a d_0.len t13 42 fun a17 =>
 (c14).size=42 ∧
 stA w16 a17 c14 fun w18 =>
 lt (IntKind.i64.wrap (t12+1)) fun x19 =>
 lt (IntKind.i64.wrap (t13 - 1)) fun x20 =>
 nx1 d_0 i_1 x19 x20 w18)
def qc.b2 (d_0:Sl) (i_1:Int) (t12 t13:Int) (Q:VWP) (nx1 nx2:Sl→Int→Int→Int→WP) (w:World):Prop :=
 lt (World.drew w) fun w21 =>
 br (decide (t12≤t13)) (
 ixS d_0.a d_0.len t13 42 fun a22 =>
 ldA w21 a22 42 fun c23 =>
 ixS d_0.a d_0.len i_1 42 fun a24 =>
 ldA w21 a24 42 fun c25 =>
 qhf 18 [.agg c23,.agg c25] w21 fun r28 w27 =>
 br (!(decide (r28 < 0))) (
 lt (IntKind.i64.wrap (t13 - 1)) fun x29 =>
 nx2 d_0 i_1 t12 x29 w27) (
 qc.j9 d_0 i_1 t12 t13 Q nx1 w27)) (
 qc.j9 d_0 i_1 t12 t13 Q nx1 w21)
def qc.l2 (d_0:Sl) (i_1:Int) (t12 t13:Int) (Q:VWP) (nx1:Sl→Int→Int→Int→WP) (w:World):Prop :=
 ∃ (I:Int→WP) (μ:Int→World→Nat),I t13 w∧∀ t13:Int,∀ w:World,I t13 w→qc.b2 d_0 i_1 t12 t13 Q nx1 (fun d_0' i_1' t12' t13' w'=>(d_0'=d_0∧i_1'=i_1∧t12'=t12)∧I t13' w'∧μ t13' w' < μ t13 w) w
def qc.j8 (d_0:Sl) (i_1:Int) (t12 t13:Int) (Q:VWP) (nx1:Sl→Int→Int→Int→WP) (w:World):Prop :=
 qc.l2 d_0 i_1 t12 t13 Q nx1 w
def qc.b3 (d_0:Sl) (i_1:Int) (t13 t12:Int) (Q:VWP) (nx1 nx3:Sl→Int→Int→Int→WP) (w:World):Prop :=
 lt (World.drew w) fun w30 =>
 br (decide (t12≤t13)) (
 ixS d_0.a d_0.len t12 42 fun a31 =>
 ldA w30 a31 42 fun c32 =>
 ixS d_0.a d_0.len i_1 42 fun a33 =>
 ldA w30 a33 42 fun c34 =>
 qhf 18 [.agg c32,.agg c34] w30 fun r37 w36 =>
 br (decide (r37 < 0)) (
 lt (IntKind.i64.wrap (t12+1)) fun x38 =>
 nx3 d_0 i_1 t13 x38 w36) (
 qc.j8 d_0 i_1 t12 t13 Q nx1 w36)) (
 qc.j8 d_0 i_1 t12 t13 Q nx1 w30)
def qc.l3 (d_0:Sl) (i_1:Int) (t13 t12:Int) (Q:VWP) (nx1:Sl→Int→Int→Int→WP) (w:World):Prop :=
 ∃ (I:Int→WP) (μ:Int→World→Nat),I t12 w∧∀ t12:Int,∀ w:World,I t12 w→qc.b3 d_0 i_1 t13 t12 Q nx1 (fun d_0' i_1' t13' t12' w'=>(d_0'=d_0∧i_1'=i_1∧t13'=t13)∧I t12' w'∧μ t12' w' < μ t12 w) w
def qc.b1 (d_0:Sl) (i_1:Int) (t12 t13:Int) (Q:VWP) (nx1:Sl→Int→Int→Int→WP) (w:World):Prop :=
 qc.l3 d_0 i_1 t13 t12 Q nx1 w
def qc.l1 (d_0:Sl) (i_1:Int) (t12 t13:Int) (Q:VWP) (w:World):Prop :=
 ∃ (I:Int→Int→WP) (μ:Int→Int→World→Nat),I t12 t13 w∧∀ t12:Int,∀ t13:Int,∀ w:World,I t12 t13 w→qc.b1 d_0 i_1 t12 t13 Q (fun d_0' i_1' t12' t13' w'=>(d_0'=d_0∧i_1'=i_1)∧I t12' t13' w'∧μ t12' t13' w' < μ t12 t13 w) w
def qc.j6 (d_0:Sl) (i_1:Int) (t12 t13:Int) (Q:VWP) (w:World):Prop :=
 qc.l1 d_0 i_1 t12 t13 Q w
def qc.j5 (d_0:Sl) (i_1:Int) (t12 t13:Int) (Q:VWP) (w:World):Prop :=
 lt (IntKind.i64.wrap (t12+1)) fun x39 =>
 lt (IntKind.i64.wrap (t13 - 1)) fun x40 =>
 qc.j6 d_0 i_1 x39 x40 Q w
def qc.j4 (d_0:Sl) (i_1:Int) (t12 t13:Int) (Q:VWP) (w:World):Prop :=
 br (decide (t12 > t13)) (
 lt (World.drew w) fun w41 =>
 ixS d_0.a d_0.len i_1 42 fun a42 =>
 ldA w41 a42 42 fun c43 =>
 ixS d_0.a d_0.len t13 42 fun a44 =>
 ldA w41 a44 42 fun c45 =>
 ixS d_0.a d_0.len t13 42 fun a46 =>
 (c43).size=42 ∧
 stA w41 a46 c43 fun w47 =>
 ixS d_0.a d_0.len i_1 42 fun a48 =>
 (c45).size=42 ∧
 stA w47 a48 c45 fun w49 =>
 Q (.tuple ⟨[.int .i64 t13,.bool true]⟩) w49) (
 lt (World.drew w) fun w50 =>
 ixS d_0.a d_0.len t13 42 fun a51 =>
 ldA w50 a51 42 fun c52 =>
 ixS d_0.a d_0.len t12 42 fun a53 =>
 ldA w50 a53 42 fun c54 =>
 ixS d_0.a d_0.len t12 42 fun a55 =>
 (c52).size=42 ∧
 stA w50 a55 c52 fun w56 =>
 ixS d_0.a d_0.len t13 42 fun a57 =>
 (c54).size=42 ∧
 stA w56 a57 c54 fun w58 =>
 qc.j5 d_0 i_1 t12 t13 Q w58)
def qc.b4 (d_0:Sl) (i_1:Int) (t12 t13:Int) (Q:VWP) (nx4:Sl→Int→Int→Int→WP) (w:World):Prop :=
 lt (World.drew w) fun w59 =>
 br (decide (t12≤t13)) (
 ixS d_0.a d_0.len t13 42 fun a60 =>
 ldA w59 a60 42 fun c61 =>
 ixS d_0.a d_0.len i_1 42 fun a62 =>
 ldA w59 a62 42 fun c63 =>
 qhf 18 [.agg c61,.agg c63] w59 fun r66 w65 =>
 br (!(decide (r66 < 0))) (
 lt (IntKind.i64.wrap (t13 - 1)) fun x67 =>
 nx4 d_0 i_1 t12 x67 w65) (
 qc.j4 d_0 i_1 t12 t13 Q w65)) (
 qc.j4 d_0 i_1 t12 t13 Q w59)
def qc.l4 (d_0:Sl) (i_1:Int) (t12 t13:Int) (Q:VWP) (w:World):Prop :=
 ∃ (I:Int→WP) (μ:Int→World→Nat),I t13 w∧∀ t13:Int,∀ w:World,I t13 w→qc.b4 d_0 i_1 t12 t13 Q (fun d_0' i_1' t12' t13' w'=>(d_0'=d_0∧i_1'=i_1∧t12'=t12)∧I t13' w'∧μ t13' w' < μ t13 w) w
def qc.j3 (d_0:Sl) (i_1:Int) (t12 t13:Int) (Q:VWP) (w:World):Prop :=
 qc.l4 d_0 i_1 t12 t13 Q w
def qc.b5 (d_0:Sl) (i_1:Int) (t13 t12:Int) (Q:VWP) (nx5:Sl→Int→Int→Int→WP) (w:World):Prop :=
 lt (World.drew w) fun w68 =>
 br (decide (t12≤t13)) (
 ixS d_0.a d_0.len t12 42 fun a69 =>
 ldA w68 a69 42 fun c70 =>
 ixS d_0.a d_0.len i_1 42 fun a71 =>
 ldA w68 a71 42 fun c72 =>
 qhf 18 [.agg c70,.agg c72] w68 fun r75 w74 =>
 br (decide (r75 < 0)) (
 lt (IntKind.i64.wrap (t12+1)) fun x76 =>
 nx5 d_0 i_1 t13 x76 w74) (
 qc.j3 d_0 i_1 t12 t13 Q w74)) (
 qc.j3 d_0 i_1 t12 t13 Q w68)
def qc.l5 (d_0:Sl) (i_1:Int) (t13 t12:Int) (Q:VWP) (w:World):Prop :=
 ∃ (I:Int→WP) (μ:Int→World→Nat),I t12 w∧∀ t12:Int,∀ w:World,I t12 w→qc.b5 d_0 i_1 t13 t12 Q (fun d_0' i_1' t13' t12' w'=>(d_0'=d_0∧i_1'=i_1∧t13'=t13)∧I t12' w'∧μ t12' w' < μ t12 w) w
def qc.j2 (d_0:Sl) (i_1:Int) (t12 t13:Int) (Q:VWP) (w:World):Prop :=
 qc.l5 d_0 i_1 t13 t12 Q w
def qc.j1 (d_0:Sl) (i_1:Int) (t2 t3:Int) (Q:VWP) (w:World):Prop :=
 lt (World.drew w) fun w77 =>
 ixS d_0.a d_0.len t3 42 fun a78 =>
 ldA w77 a78 42 fun c79 =>
 ixS d_0.a d_0.len i_1 42 fun a80 =>
 ldA w77 a80 42 fun c81 =>
 ixS d_0.a d_0.len i_1 42 fun a82 =>
 (c79).size=42 ∧
 stA w77 a82 c79 fun w83 =>
 ixS d_0.a d_0.len t3 42 fun a84 =>
 (c81).size=42 ∧
 stA w83 a84 c81 fun w85 =>
 lt (IntKind.i64.wrap (i_1+1)) fun x86 =>
 lt (IntKind.i64.wrap (t2 - 1)) fun x87 =>
 qc.j2 d_0 i_1 x86 x87 Q w85
def qc (d_0:Sl) (i_1:Int) (t2 t3:Int) (Q:VWP) (w:World):Prop :=
 qc.j1 d_0 i_1 t2 t3 Q w
theorem qc.ok (d_0:Sl) (i_1:Int) (t2:Int) (t3:Int) (Q:VWP) (w:World) (h:qc d_0 i_1 t2 t3 Q w):Calls Try.prog 69 ⟨[sV d_0,.int .i64 i_1,.int .i64 t2,.int .i64 t3,.func (.func 18) ⟨[]⟩ ⟨[]⟩]⟩ w (Ret Q) :=
 qqb [.tmp 10,.tmp 11] qed Try.func69 rfl rfl rfl rfl (.sq [sL 0,sI 1,sI 2,sI 3,(4,.c0 18)] (fun a b c d _ w=>qc.j1 a b c d Q w) .lf (.pr 1 [sL 0,sI 1,(4,.c0 18),sI 12,sI 13] (fun a b _ c d w=>qc.j2 a b c d Q w) (.sq [sL 0,sI 1,(4,.c0 18),sI 12,sI 13] (fun a b _ c d w=>qc.j3 a b c d Q w) (.bk (.lo [sL 0,sI 1,(4,.c0 18),sI 13] [sI 12] (fun a b _ c d w=>qc.l5 a b c d Q w) (fun nx5 a b _ c d w=>qc.b5 a b c d Q (fun x0 x1 x13 x12 w=>nx5 x0 x1 () x13 x12 w) w) fun nx5=>.lf)) (.sq [sL 0,sI 1,(4,.c0 18),sI 12,sI 13] (fun a b _ c d w=>qc.j4 a b c d Q w) (.bk (.lo [sL 0,sI 1,(4,.c0 18),sI 12] [sI 13] (fun a b _ c d w=>qc.l4 a b c d Q w) (fun nx4 a b _ c d w=>qc.b4 a b c d Q (fun x0 x1 x12 x13 w=>nx4 x0 x1 () x12 x13 w) w) fun nx4=>.lf)) (.pr 1 [sL 0,sI 1,(4,.c0 18),sI 12,sI 13] (fun a b _ c d w=>qc.j5 a b c d Q w) (.pr 1 [sL 0,sI 1,(4,.c0 18),sI 12,sI 13] (fun a b _ c d w=>qc.j6 a b c d Q w) (.sq [sL 0,sI 1,sI 13] (fun a b c w=>qc.j7 a b c Q w) (.bk (.lo [sL 0,sI 1,(4,.c0 18)] [sI 12,sI 13] (fun a b _ c d w=>qc.l1 a b c d Q w) (fun nx1 a b _ c d w=>qc.b1 a b c d Q (fun x0 x1 x12 x13 w=>nx1 x0 x1 () x12 x13 w) w) fun nx1=>(.bk (.sq [sL 0,sI 1,(4,.c0 18),sI 12,sI 13] (fun a b _ c d w=>qc.j8 a b c d Q (fun x0 x1 x12 x13 w=>nx1 x0 x1 () x12 x13 w) w) (.bk (.lo [sL 0,sI 1,(4,.c0 18),sI 13] [sI 12] (fun a b _ c d w=>qc.l3 a b c d Q (fun x0 x1 x12 x13 w=>nx1 x0 x1 () x12 x13 w) w) (fun nx3 a b _ c d w=>qc.b3 a b c d Q (fun x0 x1 x12 x13 w=>nx1 x0 x1 () x12 x13 w) (fun x0 x1 x13 x12 w=>nx3 x0 x1 () x13 x12 w) w) fun nx3=>.lf)) (.sq [sL 0,sI 1,(4,.c0 18),sI 12,sI 13] (fun a b _ c d w=>qc.j9 a b c d Q (fun x0 x1 x12 x13 w=>nx1 x0 x1 () x12 x13 w) w) (.bk (.lo [sL 0,sI 1,(4,.c0 18),sI 12] [sI 13] (fun a b _ c d w=>qc.l2 a b c d Q (fun x0 x1 x12 x13 w=>nx1 x0 x1 () x12 x13 w) w) (fun nx2 a b _ c d w=>qc.b2 a b c d Q (fun x0 x1 x12 x13 w=>nx1 x0 x1 () x12 x13 w) (fun x0 x1 x12 x13 w=>nx2 x0 x1 () x12 x13 w) w) fun nx2=>.lf)) .lf))))) .lf))))))) (by kernel_rfl) h
def qd.j6 (d_0:Sl) (i_1:Int) (t2 t3 t12 t13:Int) (Q:VWP) (nx1:Sl→Int→Int→Int→Bool→Bool→WP) (w:World):Prop :=
 ct_IB 69 [sV d_0,.int .i64 i_1,.int .i64 t2,.int .i64 t13,.func (.func 18) ⟨[]⟩ ⟨[]⟩] w fun r3 r4 w2 =>
 lt (IntKind.i64.wrap (r3 - i_1)) fun x5 =>
 lt (IntKind.i64.wrap (t2 - r3)) fun x6 =>
 (8:Int) ≠ 0 ∧
 lt (IntKind.i64.wrap (Int.tdiv t12 8)) fun x7 =>
 br (decide (x5 < x6)) (
 ct_ 39 [sV d_0,.int .i64 i_1,.int .i64 r3,.int .i64 t3,.func (.func 18) ⟨[]⟩ ⟨[]⟩] w2 fun w9 =>
 lt (IntKind.i64.wrap (r3+1)) fun x10 =>
 nx1 d_0 x10 t2 t3 (decide (x5 ≥ x7)) r4 w9) (
 lt (IntKind.i64.wrap (r3+1)) fun x11 =>
 ct_ 39 [sV d_0,.int .i64 x11,.int .i64 t2,.int .i64 t3,.func (.func 18) ⟨[]⟩ ⟨[]⟩] w2 fun w13 =>
 nx1 d_0 i_1 r3 t3 (decide (x6 ≥ x7)) r4 w13)
def qd.j7 (d_0:Sl) (i_1:Int) (t2 t3:Int) (t10:Bool) (t11:Bool) (t12:Int) (t13:Int) (t97:Bool) (Q:VWP) (nx1:Sl→Int→Int→Int→Bool→Bool→WP) (w:World):Prop :=
 br t97 (
 qhf 68 [sV d_0,.int .i64 i_1,.int .i64 t2,.int .i64 t13,.func (.func 18) ⟨[]⟩ ⟨[]⟩] w fun r16 w15 =>
 nx1 d_0 r16 t2 t3 t10 t11 w15) (
 qd.j6 d_0 i_1 t2 t3 t12 t13 Q nx1 w)
def qd.j5 (d_0:Sl) (i_1:Int) (t2 t3:Int) (t10:Bool) (t11:Bool) (t12:Int) (t13:Int) (Q:VWP) (nx1:Sl→Int→Int→Int→Bool→Bool→WP) (w:World):Prop :=
 lt (World.drew w) fun w17 =>
 br (decide (i_1 > 0)) (
 lt (IntKind.i64.wrap (i_1 - 1)) fun x18 =>
 ixS d_0.a d_0.len x18 42 fun a19 =>
 ldA w17 a19 42 fun c20 =>
 ixS d_0.a d_0.len t13 42 fun a21 =>
 ldA w17 a21 42 fun c22 =>
 qhf 18 [.agg c20,.agg c22] w17 fun r25 w24 =>
 qd.j7 d_0 i_1 t2 t3 t10 t11 t12 t13 (!(decide (r25 < 0))) Q nx1 w24) (
 qd.j7 d_0 i_1 t2 t3 t10 t11 t12 t13 false Q nx1 w17)
def qd.j4 (d_0:Sl) (i_1:Int) (t2 t3:Int) (t10:Bool) (t11:Bool) (t12:Int) (t13 t14:Int) (Q:VWP) (nx1:Sl→Int→Int→Int→Bool→Bool→WP) (w:World):Prop :=
 br t10 (
 br t11 (
 br (t14 == 1) (
 cr_B 67 [sV d_0,.int .i64 i_1,.int .i64 t2,.func (.func 18) ⟨[]⟩ ⟨[]⟩] w fun r28 w27 =>
 br r28 (
 Q (.tuple ⟨[]⟩) w27) (
 qd.j5 d_0 i_1 t2 t3 t10 t11 t12 t13 Q nx1 w27)) (
 qd.j5 d_0 i_1 t2 t3 t10 t11 t12 t13 Q nx1 w)) (
 qd.j5 d_0 i_1 t2 t3 t10 t11 t12 t13 Q nx1 w)) (
 qd.j5 d_0 i_1 t2 t3 t10 t11 t12 t13 Q nx1 w)
def qd.j3 (d_0:Sl) (i_1:Int) (t2 t3:Int) (t10:Bool) (t11:Bool) (t12:Int) (Q:VWP) (nx1:Sl→Int→Int→Int→Bool→Bool→WP) (w:World):Prop :=
 ct_II 65 [sV d_0,.int .i64 i_1,.int .i64 t2,.func (.func 18) ⟨[]⟩ ⟨[]⟩] w fun r31 r32 w30 =>
 br (r32 == 2) (
 ct_ 66 [sV d_0,.int .i64 i_1,.int .i64 t2,.func (.func 18) ⟨[]⟩ ⟨[]⟩] w30 fun w34 =>
 lt (IntKind.i64.wrap (t2 - 1)) fun x35 =>
 lt (IntKind.i64.wrap (r31 - i_1)) fun x36 =>
 lt (IntKind.i64.wrap (x35 - x36)) fun x37 =>
 qd.j4 d_0 i_1 t2 t3 t10 t11 t12 x37 1 Q nx1 w34) (
 qd.j4 d_0 i_1 t2 t3 t10 t11 t12 r31 r32 Q nx1 w30)
def qd.j2 (d_0:Sl) (i_1:Int) (t2 t3:Int) (t10:Bool) (t11:Bool) (t12:Int) (Q:VWP) (nx1:Sl→Int→Int→Int→Bool→Bool→WP) (w:World):Prop :=
 br (t3 == 0) (
 ct_ 63 [sV d_0,.int .i64 i_1,.int .i64 t2,.func (.func 18) ⟨[]⟩ ⟨[]⟩] w fun w39 =>
 Q (.tuple ⟨[]⟩) w39) (
 br (!t10) (
 ct_ 64 [sV d_0,.int .i64 i_1,.int .i64 t2,.func (.func 18) ⟨[]⟩ ⟨[]⟩] w fun w41 =>
 lt (IntKind.i64.wrap (t3 - 1)) fun x42 =>
 qd.j3 d_0 i_1 t2 x42 t10 t11 t12 Q nx1 w41) (
 qd.j3 d_0 i_1 t2 t3 t10 t11 t12 Q nx1 w))
def qd.b1 (d_0:Sl) (i_1:Int) (t2 t3:Int) (t10:Bool) (t11:Bool) (Q:VWP) (nx1:Sl→Int→Int→Int→Bool→Bool→WP) (w:World):Prop :=
 lt (IntKind.i64.wrap (t2 - i_1)) fun x43 =>
 br (decide (x43≤12)) (
 ct_ 62 [sV d_0,.int .i64 i_1,.int .i64 t2,.func (.func 18) ⟨[]⟩ ⟨[]⟩] w fun w45 =>
 Q (.tuple ⟨[]⟩) w45) (
 qd.j2 d_0 i_1 t2 t3 t10 t11 x43 Q nx1 w)
def qd.l1 (d_0:Sl) (i_1:Int) (t2 t3:Int) (t10:Bool) (t11:Bool) (Q:VWP) (w:World):Prop :=
 ∃ (I:Int→Int→Int→Bool→Bool→WP) (μ:Int→Int→Int→Bool→Bool→World→Nat),I i_1 t2 t3 t10 t11 w∧∀ i_1:Int,∀ t2:Int,∀ t3:Int,∀ t10:Bool,∀ t11:Bool,∀ w:World,I i_1 t2 t3 t10 t11 w→qd.b1 d_0 i_1 t2 t3 t10 t11 Q (fun d_0' i_1' t2' t3' t10' t11' w'=>(d_0'=d_0)∧I i_1' t2' t3' t10' t11' w'∧μ i_1' t2' t3' t10' t11' w' < μ i_1 t2 t3 t10 t11 w) w
def qd.j1 (d_0:Sl) (i_1:Int) (t2 t3:Int) (t10:Bool) (t11:Bool) (Q:VWP) (w:World):Prop :=
 qd.l1 d_0 i_1 t2 t3 t10 t11 Q w
def qd (d_0:Sl) (i_1:Int) (t2 t3:Int) (Q:VWP) (w:World):Prop :=
 qd.j1 d_0 i_1 t2 t3 true true Q w
theorem qd.ok (d_0:Sl) (i_1:Int) (t2:Int) (t3:Int) (Q:VWP) (w:World) (h:qd d_0 i_1 t2 t3 Q w):Calls Try.prog 39 ⟨[sV d_0,.int .i64 i_1,.int .i64 t2,.int .i64 t3,.func (.func 18) ⟨[]⟩ ⟨[]⟩]⟩ w (Ret Q) :=
 qqb [] qed Try.func39 rfl rfl rfl rfl (.pr 1 [sL 0,sI 1,sI 2,sI 3,(4,.c0 18),sB 10,sB 11] (fun a b c d _ e f w=>qd.j1 a b c d e f Q w) (.bk (.lo [sL 0,(4,.c0 18)] [sI 1,sI 2,sI 3,sB 10,sB 11] (fun a _ b c d e f w=>qd.l1 a b c d e f Q w) (fun nx1 a _ b c d e f w=>qd.b1 a b c d e f Q (fun x0 x1 x2 x3 x10 x11 w=>nx1 x0 () x1 x2 x3 x10 x11 w) w) fun nx1=>(.bk (.pr 1 [sL 0,sI 1,sI 2,sI 3,(4,.c0 18),sB 10,sB 11,sI 12] (fun a b c d _ e f g w=>qd.j2 a b c d e f g Q (fun x0 x1 x2 x3 x10 x11 w=>nx1 x0 () x1 x2 x3 x10 x11 w) w) (.pr 1 [sL 0,sI 1,sI 2,sI 3,(4,.c0 18),sB 10,sB 11,sI 12] (fun a b c d _ e f g w=>qd.j3 a b c d e f g Q (fun x0 x1 x2 x3 x10 x11 w=>nx1 x0 () x1 x2 x3 x10 x11 w) w) (.pr 1 [sL 0,sI 1,sI 2,sI 3,(4,.c0 18),sB 10,sB 11,sI 12,sI 13,sI 14] (fun a b c d _ e f g h i w=>qd.j4 a b c d e f g h i Q (fun x0 x1 x2 x3 x10 x11 w=>nx1 x0 () x1 x2 x3 x10 x11 w) w) (.sq [sL 0,sI 1,sI 2,sI 3,(4,.c0 18),sB 10,sB 11,sI 12,sI 13] (fun a b c d _ e f g h w=>qd.j5 a b c d e f g h Q (fun x0 x1 x2 x3 x10 x11 w=>nx1 x0 () x1 x2 x3 x10 x11 w) w) .lf (.sq [sL 0,sI 1,sI 2,sI 3,(4,.c0 18),sI 12,sI 13] (fun a b c d _ e f w=>qd.j6 a b c d e f Q (fun x0 x1 x2 x3 x10 x11 w=>nx1 x0 () x1 x2 x3 x10 x11 w) w) (.sq [sL 0,sI 1,sI 2,sI 3,(4,.c0 18),sB 10,sB 11,sI 12,sI 13,sB 97] (fun a b c d _ e f g h i w=>qd.j7 a b c d e f g h i Q (fun x0 x1 x2 x3 x10 x11 w=>nx1 x0 () x1 x2 x3 x10 x11 w) w) .lf .lf) .lf))))))))) (by kernel_rfl) h
def qdc (x_0:Sl) (Q:VWP) (w:World):Prop :=
 lt (IntKind.u64.wrap (x_0.len:Int)) fun x1 =>
 qhf 40 [.int .u64 x1] w fun r4 w3 =>
 ct_ 39 [sV x_0,.int .i64 0,.int .i64 (x_0.len:Int),.int .i64 r4,.func (.func 18) ⟨[]⟩ ⟨[]⟩] w3 fun w6 =>
 Q (.tuple ⟨[]⟩) w6
theorem qdc.ok (x_0:Sl) (Q:VWP) (w:World) (h:qdc x_0 Q w):Calls Try.prog 17 ⟨[sV x_0,.func (.func 18) ⟨[]⟩ ⟨[]⟩]⟩ w (Ret Q) :=
 qqb [] qed Try.func17 rfl rfl rfl rfl .lf (by kernel_rfl) h
end Go.Proofs.Ytigmbblgfnkpbaa
namespace Go.Proofs.Ytigmbblgfnkpbaa
open Go Go.Proofs Go.Sort
set_option linter.unusedVariables false
set_option linter.unusedSimpArgs false
attribute [local irreducible] apK cpK mkK br
abbrev ndR (d:Array Nd):List Value:=d.toList.flatMap ndC
theorem qwc {x:Int} {n:Nat} (h:x=n) (hn:n < 9223372036854775808):IntKind.i64.wrap x=(n:Int):=by rw [h,qq (by omega) (by omega)]
section
variable {F0:List Nat} {w0 w:World} {ps rest:List As} {s:Sl} {d:Array Nd}
theorem St.cmpN {n1 n2:Int} {X:Int→World→Prop} (h:St F0 w0 w (qbb 42 s (ndR d) :: ps)) (i j:Nat) (e1:n1=i) (e2:n2=j) (hi:i < d.size) (hj:j < d.size) (hk:∀ r w',decide (r < 0)=ltN d[i]! d[j]!→St F0 w0 w' (qbb 42 s (ndR d) :: ps)→X r w') :
 ixS s.a s.len n1 42 fun a=>ldA w a 42 fun c=>ixS s.a s.len n2 42 fun a2=>ldA w a2 42 fun c2=>qhf 18 [.agg c,.agg c2] w X:=by
 refine h.lD (s:=s) i e1 hi ?_
 refine h.lD (s:=s) j e2 hj ?_
 exact qce.c h fun w h=>⟨_,rfl,hk _ w rfl h⟩
theorem quj {b c:Bool} {A B:Prop} (e:b=c) (ht:c=true→A) (hf:c=false→B):br b A B:=by
 subst e
 exact qzc ht hf
theorem ins_in_size (a:Nat):∀ (j:Nat) (d:Array Nd),(insInner ltN a j d).size=d.size:=by
 intro j
 induction j with
 | zero=>intro d; rfl
 | succ j ih =>
   intro d
   rw [insInner]
   split
   · rw [ih,swp_size]
   · rfl
theorem que.c {a b:Nat} {K:Ending→World→Prop} (h:St F0 w0 w (qbb 42 s (ndR d) :: ps)) (hb:b≤d.size) (hL:d.size≤1000000) (ha:a≤1000000)
 (hk:∀ w',St F0 w0 w' (qbb 42 s (ndR (insertionSort ltN d a b)) :: ps)→K (.returned (.tuple ⟨[]⟩)) w') :
 Calls Try.prog 62 ⟨[sV s,.int .i64 (a:Int),.int .i64 (b:Int),.func (.func 18) ⟨[]⟩ ⟨[]⟩]⟩ w K:=by
 refine qnb (qf.ok _ _ _ _ _ ?_)
 unfold qf qf.j1
 refine qw (qwc (n:=a+1) (by omega) (by omega)) ?_
 refine loop1 (fun (g:Nat × Array Nd) (i':Int) w'=>i'=(g.1:Int)∧a+1≤g.1∧g.1≤1000001∧g.2.size=d.size∧insOuter ltN a b g.1 g.2=insertionSort ltN d a b∧St F0 w0 w' (qbb 42 s (ndR g.2) :: ps)) (fun g=>1000001 - g.1) (a+1,d) ⟨rfl,Nat.le_refl _,by simp only; omega,rfl,rfl,h⟩ ?_
 clear h
 rintro ⟨i,e⟩ i' wL I μ ⟨rfl,hai,hi,hsz,he,h⟩ hin
 simp only at hai hi hsz he h hin ⊢
 rw [insOuter] at he
 unfold qf.b1
 refine qlc (fun g=>?_) (fun g=>?_)
 · have g:i < b:=by omega
   rw [if_pos g] at he
   unfold qf.j2 qf.j4
   refine loop1 (fun (g:Nat × Array Nd) (j':Int) w'=>j'=(g.1:Int)∧g.1≤i∧g.2.size=d.size∧insInner ltN a g.1 g.2=insInner ltN a i e∧St F0 w0 w' (qbb 42 s (ndR g.2) :: ps)) (fun g=>g.1) (i,e) ⟨rfl,Nat.le_refl _,hsz,rfl,h⟩ ?_
   clear h
   rintro ⟨j,f⟩ j' wL2 I2 μ2 ⟨rfl,hj,hfz,hf,h⟩ hnx
   simp only at hj hfz hf h hnx ⊢
   have next:∀ w f,f=insInner ltN a i e→St F0 w0 w (qbb 42 s (ndR f) :: ps)→qf.j3 s (a:Int) (b:Int) (i:Int) (fun v w'=>K (.returned v) w') (fun data_0' a_1' b_2' i_8' w'=>(data_0'=s∧a_1'=(a:Int)∧b_2'=(b:Int))∧I i_8' w'∧μ i_8' w' < μ (i:Int) wL) w:=by
    rintro w f rfl h
    unfold qf.j3
    refine qw (qwc (n:=i+1) (by omega) (by omega)) ?_
    exact ⟨⟨rfl,rfl,rfl⟩,hin (i+1,_) _ _ ⟨rfl,by simp only; omega,by simp only; omega,by simp only; rw [ins_in_size]; exact hsz,he,h⟩ (by simp only; omega)⟩
   unfold qf.b2
   refine h.drewK fun w h=>?_
   refine qlc (fun g2=>?_) (fun g2=>?_)
   · obtain ⟨j,rfl⟩:∃ k,j=k+1:=⟨j - 1,by omega⟩
     rw [insInner] at hf
     have g2:j+1 > a:=by omega
     refine h.cmpN (j+1) j rfl (by rw [qwc (n:=j) (by omega) (by omega)]) (by omega) (by omega) fun r w hr h=>?_
     rw [decide_eq_true g2,Bool.true_and] at hf
     refine quj hr (fun g3=>?_) (fun g3=>?_)
     · rw [if_pos g3] at hf
       refine h.drewK fun w h=>?_
       refine qtd (qtd ?_)
       refine h.swap (j+1) j (qwc (by omega) (by omega)) rfl rfl (qwc (by omega) (by omega)) (by omega) (by omega) fun w h=>?_
       refine qw (qwc (n:=j) (by omega) (by omega)) ?_
       exact ⟨⟨rfl,rfl,rfl,rfl⟩,hnx (j,swp f (j+1) j) _ _ ⟨rfl,by simp only; omega,by simp only; rw [swp_size]; exact hfz,hf,h⟩ (by simp only; omega)⟩
     · rw [if_neg (by rw [g3]; decide)] at hf
       exact next w f hf h
   · have hff:f=insInner ltN a i e:=by
      rw [← hf]
      cases j with
      | zero=>rfl
      | succ j=>rw [insInner,if_neg (by simp; omega)]
     exact next w f hff h
 · rw [if_neg (by omega)] at he
   subst he
   exact hk wL h
theorem sift_size (hi first:Nat):∀ (n root:Nat) (d:Array Nd),hi - root≤n→(siftDown ltN hi first root d).size=d.size:=by
 intro n
 induction n with
 | zero =>
   intro root d h
   rw [siftDown,dif_pos (by omega)]
 | succ n ih =>
   intro root d h
   rw [siftDown]
   split
   · rfl
   · split
     · split
       · rfl
       · split
         · rw [ih _ _ (by omega),swp_size]
         · rfl
     · split
       · rfl
       · rw [ih _ _ (by omega),swp_size]
theorem qgg.c {lo hi first:Nat} {K:Ending→World→Prop} (h:St F0 w0 w (qbb 42 s (ndR d) :: ps)) (hb:first+hi≤d.size) (hL:d.size≤1000000) (hlo:lo≤1000000)
 (hk:∀ w',St F0 w0 w' (qbb 42 s (ndR (siftDown ltN hi first lo d)) :: ps)→K (.returned (.tuple ⟨[]⟩)) w') :
 Calls Try.prog 79 ⟨[sV s,.int .i64 (lo:Int),.int .i64 (hi:Int),.int .i64 (first:Int),.func (.func 18) ⟨[]⟩ ⟨[]⟩]⟩ w K:=by
 refine qnb (qj.ok _ _ _ _ _ _ ?_)
 unfold qj qj.j1
 refine loop1 (fun (g:Nat × Array Nd) (i':Int) w'=>i'=(g.1:Int)∧g.1≤1000000∧g.2.size=d.size∧siftDown ltN hi first g.1 g.2=siftDown ltN hi first lo d∧St F0 w0 w' (qbb 42 s (ndR g.2) :: ps)) (fun g=>1000001 - g.1) (lo,d) ⟨rfl,hlo,rfl,rfl,h⟩ ?_
 clear h
 rintro ⟨root,e⟩ i' wL I μ ⟨rfl,hr,hsz,he,h⟩ hin
 simp only at hr hsz he h hin ⊢
 rw [siftDown] at he
 unfold qj.b1
 refine qw (qwc (n:=2 * root) (by omega) (by omega)) (qw (qwc (n:=2 * root+1) (by omega) (by omega)) ?_)
 have step:∀ (c:Nat) w,c < hi→root < c→(if (!ltN e[first+root]! e[first+c]!)=true then e else siftDown ltN hi first c (swp e (first+root) (first+c)))=siftDown ltN hi first lo d→St F0 w0 w (qbb 42 s (ndR e) :: ps) →
  qj.j3 s (hi:Int) (first:Int) (root:Int) (c:Int) (fun v w'=>K (.returned v) w') (fun d_0' t2' t3' t10' w'=>(d_0'=s∧t2'=(hi:Int)∧t3'=(first:Int))∧I t10' w'∧μ t10' w' < μ (root:Int) wL) w:=by
  intro c w hc hrc he h
  unfold qj.j3
  refine h.drewK fun w h=>?_
  refine qw (qwc (n:=first+root) (by omega) (by omega)) ?_
  refine h.lD (s:=s) (first+root) rfl (by omega) ?_
  refine qw (qwc (n:=first+c) (by omega) (by omega)) ?_
  refine h.lD (s:=s) (first+c) rfl (by omega) ?_
  refine qce.c h fun w h=>⟨_,rfl,?_⟩
  refine quj (c:=!ltN e[first+root]! e[first+c]!) rfl (fun g=>?_) (fun g=>?_)
  · rw [if_pos g] at he
    rw [he] at h
    exact hk w h
  · rw [if_neg (by rw [g]; decide)] at he
    refine h.drewK fun w h=>?_
    refine qw (qwc (n:=first+root) (by omega) (by omega)) (qw (qwc (n:=first+c) (by omega) (by omega)) (qw (qwc (n:=first+c) (by omega) (by omega)) ?_))
    refine h.lD (s:=s) (first+c) rfl (by omega) ?_
    refine qw (qwc (n:=first+root) (by omega) (by omega)) ?_
    refine h.lD (s:=s) (first+root) rfl (by omega) ?_
    refine h.sD (first+root) rfl (by omega) fun w h=>?_
    refine h.sD (first+c) rfl (by simpa using (by omega:first+c < e.size)) fun w h=>?_
    exact ⟨⟨rfl,rfl,rfl⟩,hin (c,swp e (first+root) (first+c)) _ _ ⟨rfl,by simp only; omega,by simp only; rw [swp_size]; exact hsz,he,h⟩ (by simp only; omega)⟩
 unfold qj.j2
 refine qlc (fun g=>?_) (fun g=>?_)
 · rw [dif_pos (by omega)] at he
   rw [he] at h
   exact hk wL h
 · rw [dif_neg (by omega)] at he
   refine h.drewK fun w h=>?_
   refine qw (qwc (n:=2 * root+2) (by omega) (by omega)) ?_
   refine qlc (fun g2=>?_) (fun g2=>?_)
   · refine qw (qwc (n:=first+(2 * root+1)) (by omega) (by omega)) ?_
     refine h.lD (s:=s) (first+(2 * root+1)) rfl (by omega) ?_
     refine qw (qwc (n:=first+(2 * root+1)) (by omega) (by omega)) (qw (qwc (n:=first+(2 * root+1)+1) (by omega) (by omega)) ?_)
     refine h.lD (s:=s) (first+(2 * root+1)+1) rfl (by omega) ?_
     refine qce.c h fun w h=>⟨_,rfl,?_⟩
     refine quj (c:=ltN e[first+(2 * root+1)]! e[first+(2 * root+1)+1]!) rfl (fun g3=>?_) (fun g3=>?_)
     · rw [if_pos (by rw [g3,Bool.and_true]; exact decide_eq_true (by omega)),dif_pos (show 2 * root+2 < hi by omega)] at he
       refine qw (qwc (n:=2 * root+2) (by omega) (by omega)) ?_
       exact step (2 * root+2) w (by omega) (by omega) he h
     · rw [if_neg (by rw [g3,Bool.and_false]; decide)] at he
       exact step (2 * root+1) w (by omega) (by omega) he h
   · rw [if_neg (by rw [decide_eq_false (by omega),Bool.false_and]; decide)] at he
     exact step (2 * root+1) w (by omega) (by omega) he h
theorem qdj.c {a b:Nat} {K:Ending→World→Prop} (h:St F0 w0 w (qbb 42 s (ndR d) :: ps)) (hab:a≤b) (hb:b≤d.size) (hL:d.size≤1000000)
 (hk:∀ w',St F0 w0 w' (qbb 42 s (ndR (heapSort ltN d a b)) :: ps)→K (.returned (.tuple ⟨[]⟩)) w') :
 Calls Try.prog 63 ⟨[sV s,.int .i64 (a:Int),.int .i64 (b:Int),.func (.func 18) ⟨[]⟩ ⟨[]⟩]⟩ w K:=by
 refine qnb (qh.ok _ _ _ _ _ ?_)
 unfold qh qh.j1
 refine qw (qwc (n:=b - a) (by omega) (by omega)) ?_
 unfold qh.j2 qh.j5
 have hhi:IntKind.i64.wrap (((b - a:Nat):Int) - 1)=(((b - a:Nat):Int) - 1):=qq (by omega) (by omega)
 have htd:IntKind.i64.wrap (Int.tdiv (((b - a:Nat):Int) - 1) 2)=(((b - a - 1) / 2+1:Nat):Int) - 1:=by
  have:Int.tdiv (((b - a:Nat):Int) - 1) 2=(((b - a - 1) / 2:Nat):Int):=by
   rcases Nat.eq_zero_or_pos (b - a) with e | e
   · rw [e]; rfl
   · rw [show ((b - a:Nat):Int) - 1=((b - a - 1:Nat):Int) by omega]
     rfl
  rw [this,qq (by omega) (by omega)]; omega
 refine qw hhi ⟨by decide,qw htd ?_⟩
 refine loop1 (fun (g:Nat × Array Nd) (i':Int) w'=>i'=(g.1:Int) - 1∧g.1≤1000000∧g.2.size=d.size∧heapBuild ltN (b - a) a g.1 g.2=heapBuild ltN (b - a) a ((b - a - 1) / 2+1) d∧St F0 w0 w' (qbb 42 s (ndR g.2) :: ps)) (fun g=>g.1) ((b - a - 1) / 2+1,d) ⟨rfl,by simp only; omega,rfl,rfl,h⟩ ?_
 clear h
 rintro ⟨k,e⟩ i' wL I μ ⟨rfl,hk1,hsz,he,h⟩ hin
 simp only at hk1 hsz he h hin ⊢
 unfold qh.b2
 refine qlc (fun g=>?_) (fun g=>?_)
 · obtain ⟨k,rfl⟩:∃ j,k=j+1:=⟨k - 1,by omega⟩
   rw [heapBuild] at he
   rw [show ((k+1:Nat):Int) - 1=(k:Int) by omega]
   refine qgg.c (lo:=k) (hi:=b - a) (first:=a) h (by omega) (by omega) (by omega) fun w h=>⟨rfl,?_⟩
   refine qw (qq (by omega) (by omega)) ?_
   refine ⟨⟨rfl,rfl,rfl,rfl⟩,?_⟩
   have:=hin (k,_) ((k:Int) - 1) w ⟨rfl,by simp only; omega,by simp only; rw [sift_size _ _ _ _ _ (Nat.le_refl _)]; exact hsz,he,h⟩ (by simp only; omega)
   rw [show ((k+1:Nat):Int) - 1=(k:Int) by omega] at this
   exact this
 · have:k=0:=by omega
   subst this
   rw [heapBuild] at he
   clear hin
   unfold qh.j3 qh.j4
   refine qw hhi ?_
   refine loop1 (fun (g:Nat × Array Nd) (i':Int) w'=>i'=(g.1:Int) - 1∧g.1≤b - a∧g.2.size=d.size∧heapPop ltN a g.1 g.2=heapSort ltN d a b∧St F0 w0 w' (qbb 42 s (ndR g.2) :: ps)) (fun g=>g.1) (b - a,e) ⟨rfl,Nat.le_refl _,hsz,by rw [heapSort,← he],h⟩ ?_
   clear h
   rintro ⟨k,e⟩ i' wL I μ ⟨rfl,hk1,hsz,he,h⟩ hin
   simp only at hk1 hsz he h hin ⊢
   unfold qh.b1
   refine qlc (fun g=>?_) (fun g=>?_)
   · obtain ⟨k,rfl⟩:∃ j,k=j+1:=⟨k - 1,by omega⟩
     rw [heapPop] at he
     have ek:((k+1:Nat):Int) - 1=(k:Int):=by omega
     rw [ek] at hin ⊢
     refine h.drewK fun w h=>?_
     refine qw (qwc (n:=a+k) (by omega) (by omega)) (qw (qwc (n:=a+k) (by omega) (by omega)) ?_)
     refine h.swap a (a+k) rfl rfl rfl rfl (by omega) (by omega) fun w h=>?_
     refine qgg.c (lo:=0) (hi:=k) (first:=a) h (by rw [swp_size]; omega) (by rw [swp_size]; omega) (by omega) fun w h=>⟨rfl,?_⟩
     refine qw (qq (by omega) (by omega)) ?_
     exact ⟨⟨rfl,rfl,rfl⟩,hin (k,_) ((k:Int) - 1) w ⟨rfl,by simp only; omega,by simp only; rw [sift_size _ _ _ _ _ (Nat.le_refl _),swp_size]; exact hsz,he,h⟩ (by simp only; omega)⟩
   · have:k=0:=by omega
     subst this
     rw [heapPop] at he
     rw [he] at h
     exact hk wL h
end
end Go.Proofs.Ytigmbblgfnkpbaa
namespace Go.Proofs.Ytigmbblgfnkpbaa
open Go Go.Proofs
set_option linter.unusedVariables false
set_option maxRecDepth 100000
def qeg (x_0:Int) (Q:VWP) (w:World):Prop :=
 qhf 71 [.int .u64 x_0] w fun r3 w2 =>
 Q (.int .i64 r3) w2
theorem qeg.ok (x_0:Int) (Q:VWP) (w:World) (h:qeg x_0 Q w):Calls Try.prog 40 ⟨[.int .u64 x_0]⟩ w (Ret Q) :=
 qqb [.tmp 2] qed Try.func40 rfl rfl rfl rfl .lf (by kernel_rfl) h
def qfc.j2 (x_0 n_2:Int) (Q:VWP) (w:World):Prop :=
 br (decide (x_0 ≥ 256)) (
 (0:Int)≤8 ∧
 lt (shrV .u64 x_0 8) fun x1 =>
 lt (IntKind.i64.wrap (n_2+8)) fun x2 =>
 lt (IntKind.u8.wrap x1) fun x3 =>
 ((0:Int)≤x3∧x3 < (ByteArray.size ({ data:=(List.toArray (List.append (List.append [0,1,2,2,3,3,3,3,4,4,4,4,4,4,4,4,5,5,5,5,5,5,5,5,5,5,5,5,5,5,5,5,6,6,6,6,6,6,6,6,6,6,6,6,6,6,6,6,6,6,6,6,6,6,6,6,6,6,6,6,6,6,6,6] [7,7,7,7,7,7,7,7,7,7,7,7,7,7,7,7,7,7,7,7,7,7,7,7,7,7,7,7,7,7,7,7,7,7,7,7,7,7,7,7,7,7,7,7,7,7,7,7,7,7,7,7,7,7,7,7,7,7,7,7,7,7,7,7]) (List.append [8,8,8,8,8,8,8,8,8,8,8,8,8,8,8,8,8,8,8,8,8,8,8,8,8,8,8,8,8,8,8,8,8,8,8,8,8,8,8,8,8,8,8,8,8,8,8,8,8,8,8,8,8,8,8,8,8,8,8,8,8,8,8,8] [8,8,8,8,8,8,8,8,8,8,8,8,8,8,8,8,8,8,8,8,8,8,8,8,8,8,8,8,8,8,8,8,8,8,8,8,8,8,8,8,8,8,8,8,8,8,8,8,8,8,8,8,8,8,8,8,8,8,8,8,8,8,8,8]))) }):Int)) ∧
 lt (byteAt ({ data:=(List.toArray (List.append (List.append [0,1,2,2,3,3,3,3,4,4,4,4,4,4,4,4,5,5,5,5,5,5,5,5,5,5,5,5,5,5,5,5,6,6,6,6,6,6,6,6,6,6,6,6,6,6,6,6,6,6,6,6,6,6,6,6,6,6,6,6,6,6,6,6] [7,7,7,7,7,7,7,7,7,7,7,7,7,7,7,7,7,7,7,7,7,7,7,7,7,7,7,7,7,7,7,7,7,7,7,7,7,7,7,7,7,7,7,7,7,7,7,7,7,7,7,7,7,7,7,7,7,7,7,7,7,7,7,7]) (List.append [8,8,8,8,8,8,8,8,8,8,8,8,8,8,8,8,8,8,8,8,8,8,8,8,8,8,8,8,8,8,8,8,8,8,8,8,8,8,8,8,8,8,8,8,8,8,8,8,8,8,8,8,8,8,8,8,8,8,8,8,8,8,8,8] [8,8,8,8,8,8,8,8,8,8,8,8,8,8,8,8,8,8,8,8,8,8,8,8,8,8,8,8,8,8,8,8,8,8,8,8,8,8,8,8,8,8,8,8,8,8,8,8,8,8,8,8,8,8,8,8,8,8,8,8,8,8,8,8]))) }) (Int.toNat x3)) fun x4 =>
 lt (IntKind.i64.wrap x4) fun x5 =>
 lt (IntKind.i64.wrap (x2+x5)) fun x6 =>
 Q (.int .i64 x6) w) (
 lt (IntKind.u8.wrap x_0) fun x7 =>
 ((0:Int)≤x7∧x7 < (ByteArray.size ({ data:=(List.toArray (List.append (List.append [0,1,2,2,3,3,3,3,4,4,4,4,4,4,4,4,5,5,5,5,5,5,5,5,5,5,5,5,5,5,5,5,6,6,6,6,6,6,6,6,6,6,6,6,6,6,6,6,6,6,6,6,6,6,6,6,6,6,6,6,6,6,6,6] [7,7,7,7,7,7,7,7,7,7,7,7,7,7,7,7,7,7,7,7,7,7,7,7,7,7,7,7,7,7,7,7,7,7,7,7,7,7,7,7,7,7,7,7,7,7,7,7,7,7,7,7,7,7,7,7,7,7,7,7,7,7,7,7]) (List.append [8,8,8,8,8,8,8,8,8,8,8,8,8,8,8,8,8,8,8,8,8,8,8,8,8,8,8,8,8,8,8,8,8,8,8,8,8,8,8,8,8,8,8,8,8,8,8,8,8,8,8,8,8,8,8,8,8,8,8,8,8,8,8,8] [8,8,8,8,8,8,8,8,8,8,8,8,8,8,8,8,8,8,8,8,8,8,8,8,8,8,8,8,8,8,8,8,8,8,8,8,8,8,8,8,8,8,8,8,8,8,8,8,8,8,8,8,8,8,8,8,8,8,8,8,8,8,8,8]))) }):Int)) ∧
 lt (byteAt ({ data:=(List.toArray (List.append (List.append [0,1,2,2,3,3,3,3,4,4,4,4,4,4,4,4,5,5,5,5,5,5,5,5,5,5,5,5,5,5,5,5,6,6,6,6,6,6,6,6,6,6,6,6,6,6,6,6,6,6,6,6,6,6,6,6,6,6,6,6,6,6,6,6] [7,7,7,7,7,7,7,7,7,7,7,7,7,7,7,7,7,7,7,7,7,7,7,7,7,7,7,7,7,7,7,7,7,7,7,7,7,7,7,7,7,7,7,7,7,7,7,7,7,7,7,7,7,7,7,7,7,7,7,7,7,7,7,7]) (List.append [8,8,8,8,8,8,8,8,8,8,8,8,8,8,8,8,8,8,8,8,8,8,8,8,8,8,8,8,8,8,8,8,8,8,8,8,8,8,8,8,8,8,8,8,8,8,8,8,8,8,8,8,8,8,8,8,8,8,8,8,8,8,8,8] [8,8,8,8,8,8,8,8,8,8,8,8,8,8,8,8,8,8,8,8,8,8,8,8,8,8,8,8,8,8,8,8,8,8,8,8,8,8,8,8,8,8,8,8,8,8,8,8,8,8,8,8,8,8,8,8,8,8,8,8,8,8,8,8]))) }) (Int.toNat x7)) fun x8 =>
 lt (IntKind.i64.wrap x8) fun x9 =>
 lt (IntKind.i64.wrap (n_2+x9)) fun x10 =>
 Q (.int .i64 x10) w)
def qfc.j1 (x_0 n_2:Int) (Q:VWP) (w:World):Prop :=
 br (decide (x_0 ≥ 65536)) (
 (0:Int)≤16 ∧
 lt (shrV .u64 x_0 16) fun x11 =>
 lt (IntKind.i64.wrap (n_2+16)) fun x12 =>
 qfc.j2 x11 x12 Q w) (
 qfc.j2 x_0 n_2 Q w)
def qfc (x_0:Int) (Q:VWP) (w:World):Prop :=
 br (decide (x_0 ≥ 4294967296)) (
 (0:Int)≤32 ∧
 lt (shrV .u64 x_0 32) fun x13 =>
 qfc.j1 x13 32 Q w) (
 qfc.j1 x_0 0 Q w)
theorem qfc.ok (x_0:Int) (Q:VWP) (w:World) (h:qfc x_0 Q w):Calls Try.prog 71 ⟨[.int .u64 x_0]⟩ w (Ret Q) :=
 qqb [.tmp 2] qed Try.func71 rfl rfl rfl rfl (.pr 1 [(0,.I .u64),sI 2] (fun a b w=>qfc.j1 a b Q w) (.sq [(0,.I .u64),sI 2] (fun a b w=>qfc.j2 a b Q w) .lf .lf)) (by kernel_rfl) h
end Go.Proofs.Ytigmbblgfnkpbaa
namespace Go.Proofs.Ytigmbblgfnkpbaa
open Go Go.Proofs Go.Sort
set_option linter.unusedVariables false
set_option linter.unusedSimpArgs false
attribute [local irreducible] apK cpK mkK br
theorem tab_i {T:ByteArray} {x:Int} {K:Int→Prop} (hT:((List.range 256).all fun i=>decide (0≤byteAt T i) && (decide (byteAt T i≤8) && (decide (i=0) || decide (2 ^ (byteAt T i).toNat≤2 * i))))=true) (hs:T.size=256) (h0:0≤x) (h1:x < 256)
 (hk:∀ z:Nat,z≤8→(x=0 ∨ 2 ^ z≤2 * x.toNat)→K z):((0:Int)≤x∧x < (ByteArray.size T:Int))∧lt (byteAt T x.toNat) K:=by
 refine ⟨⟨h0,by rw [hs]; omega⟩,?_⟩
 have:=(List.all_eq_true.1 hT) x.toNat (List.mem_range.2 (by omega))
 simp only [Bool.and_eq_true,Bool.or_eq_true,decide_eq_true_eq] at this
 obtain ⟨a,b,c⟩:=this
 refine qw (show byteAt T x.toNat=(((byteAt T x.toNat).toNat:Nat):Int) by omega) ?_
 refine hk _ (by omega) ?_
 rcases c with c | c
 · left; omega
 · right; exact c
section
variable {F0:List Nat} {w0 w:World} {ps rest:List As} {s:Sl} {d:Array Nd}
theorem len_j2.c {x n:Int} {Q:VWP} (h0:0≤x) (h1:x < 65536) (hn:0≤n) (hn2:n≤64) (hk:∀ z:Nat,z≤16→(x=0 ∨ 2 ^ z≤2 * x.toNat)→Q (.int .i64 (n+z)) w):qfc.j2 x n Q w:=by
 unfold qfc.j2
 refine qlc (fun g=>?_) (fun g=>?_)
 · refine ⟨by decide,qw (qmh .u64 x (t:=8) (by decide)) (qw (qq (by omega) (by omega)) (qw (e':=x / 256) ?_ ?_))⟩
   · rw [qai]; omega
   refine tab_i (by decide +kernel) (by decide +kernel) (by omega) (by omega) fun z hz hz2=>?_
   refine qw (qq (by omega) (by omega)) (qw (qq (by omega) (by omega)) ?_)
   have:=hk (8+z) (by omega) (Or.inr ?_)
   · rw [show n+((8+z:Nat):Int)=n+8+(z:Int) by omega] at this
     exact this
   · rw [Nat.pow_add]
     have:2 ^ z≤2 * (x / 256).toNat:=by omega
     omega
 · refine qw (e':=x) (by rw [qai]; omega) ?_
   refine tab_i (by decide +kernel) (by decide +kernel) (by omega) (by omega) fun z hz hz2=>?_
   refine qw (qq (by omega) (by omega)) (qw (qq (by omega) (by omega)) ?_)
   exact hk z (by omega) hz2
theorem qeg.c {n:Nat} {K:Ending→World→Prop} (hn:n≤1000000) (hk:∀ z:Nat,z≤32→(n=0 ∨ 2 ^ z≤2 * n)→K (.returned (.int .i64 (z:Int))) w) :
 Calls Try.prog 40 ⟨[.int .u64 (n:Int)]⟩ w K:=by
 refine qnb (qeg.ok _ _ _ ?_)
 unfold qeg
 refine qnb (qfc.ok _ _ _ ?_)
 unfold qfc
 refine qlc (fun g=>by exfalso; omega) (fun g=>?_)
 unfold qfc.j1
 refine qlc (fun g=>?_) (fun g=>?_)
 · refine ⟨by decide,qw (qmh .u64 (n:Int) (t:=16) (by decide)) (qw (qq (by omega) (by omega)) ?_)⟩
   refine len_j2.c (by omega) (by omega) (by omega) (by omega) fun z hz hz2=>⟨_,rfl,?_⟩
   have:=hk (16+z) (by omega) (Or.inr ?_)
   · rw [show (0:Int)+16+(z:Int)=((16+z:Nat):Int) by omega]
     exact this
   · rw [Nat.pow_add]
     have:2 ^ z≤2 * ((n:Int) / 2 ^ 16).toNat:=by omega
     omega
 · refine len_j2.c (by omega) (by omega) (by omega) (by omega) fun z hz hz2=>⟨_,rfl,?_⟩
   rw [show (0:Int)+(z:Int)=(z:Int) by omega]
   exact hk z (by omega) (by omega)
theorem nextPow.c {n:Nat} {K:Ending→World→Prop} (hn:n≤1000000) (hk:∀ z:Nat,z≤32→(n=0 ∨ 2 ^ z≤2 * n)→K (.returned (.int .u64 ((2 ^ z:Nat):Int))) w) :
 Calls Try.prog 80 ⟨[.int .i64 (n:Int)]⟩ w K:=by
 refine qnb (qxc.ok _ _ _ ?_)
 unfold qxc
 refine qw (show IntKind.u64.wrap (n:Int)=(n:Int) by rw [qvi]; omega) ?_
 refine qeg.c hn fun z hz hz2=>⟨_,rfl,by omega,?_⟩
 have hp:2 ^ z≤2 ^ 32:=Nat.pow_le_pow_right (by decide) hz
 have e:((2 ^ z:Nat):Int)=(2:Int) ^ z:=by simp
 refine qw (show qxe .u64 1 (z:Int)=((2 ^ z:Nat):Int) from ?_) (hk z hz hz2)
 rw [shlV_nat .u64 (t:=z) (Nat.le_trans hz (by decide)) (by decide) (by rw [Int.one_mul,← e]; exact Int.lt_of_le_of_lt (Int.ofNat_le.2 hp) (by decide)),Int.one_mul,e]
theorem zc_xor:zc Try.prog 118=⟨[.int .u64 0]⟩:=by kernel_rfl
theorem zc_i64:zc Try.prog 3=⟨[.int .i64 0]⟩:=by kernel_rfl
theorem xorNext.c {b:Nat} {v:Int} {K:Ending→World→Prop} (h:St F0 w0 w ps) [PkB b ps [.int .u64 v] rest] (hk:∀ v' w',St F0 w0 w' (qfb b [.int .u64 v'] :: rest)→K (.returned (.int .u64 v')) w') :
 Calls Try.prog 81 ⟨[.pointer (some ⟨b,0,none⟩)]⟩ w K:=by
 refine qnb (qbd.ok _ _ _ ?_)
 unfold qbd
 refine (h.toB b).drewK fun w h=>?_
 refine qee (h.fI (b:=b) (qee (h.fI (b:=b) ⟨by decide,qtd (qtd (qee (h.fst (b:=b) trivial fun w h=>?_)))⟩)))
 refine h.drewK fun w h=>?_
 refine qee (h.fI (b:=b) (qee (h.fI (b:=b) ⟨by decide,qtd (qtd (qee (h.fst (b:=b) trivial fun w h=>?_)))⟩)))
 refine h.drewK fun w h=>?_
 refine qee (h.fI (b:=b) (qee (h.fI (b:=b) ⟨by decide,qtd (qtd (qee (h.fst (b:=b) trivial fun w h=>?_)))⟩)))
 refine qee (h.fI (b:=b) ?_)
 exact hk _ w h
theorem breakPatterns.c {a b:Nat} {K:Ending→World→Prop} (h:St F0 w0 w (qbb 42 s (ndR d) :: ps)) (hab:a≤b) (hb:b≤d.size) (hL:d.size≤1000000)
 (hk:∀ d' w',PermIn a b d d'→St F0 w0 w' (qbb 42 s (ndR d') :: ps)→K (.returned (.tuple ⟨[]⟩)) w') :
 Calls Try.prog 64 ⟨[sV s,.int .i64 (a:Int),.int .i64 (b:Int),.func (.func 18) ⟨[]⟩ ⟨[]⟩]⟩ w K:=by
 refine qnb (qe.ok _ _ _ _ _ ?_)
 unfold qe
 generalize hl:b - a=l
 refine qw (qwc (n:=l) (by omega) (by omega)) ?_
 unfold qe.j1
 refine qlc (fun g=>?_) (fun g=>hk d w (permIn_refl _ _ _) h)
 refine qtd ?_
 rw [zc_xor]
 refine h.new fun xb w h=>?_
 have h:St F0 w0 w (qfb xb [.int .u64 0] :: qbb 42 s (ndR d) :: ps):=h
 refine h.fst (b:=xb) trivial fun w h=>?_
 unfold qe.j2
 refine nextPow.c (n:=l) (by omega) fun z hz hz2=>⟨_,rfl,?_⟩
 have hp:2 ^ z≤2 * l:=by omega
 have htd:Int.tdiv (l:Int) 4=((l / 4:Nat):Int):=rfl
 rw [htd]
 refine ⟨by decide,qw (qwc (n:=l / 4) (by omega) (by omega)) (qw (qwc (n:=l / 4 * 2) (by omega) (by omega)) (qw (qwc (n:=a+l / 4 * 2) (by omega) (by omega)) (qw (qwc (n:=a+l / 4 * 2 - 1) (by omega) (by omega)) ?_)))⟩
 unfold qe.j3
 refine loop1 (fun (g:Nat × Array Nd × Int) (i':Int) w'=>i'=(g.1:Int)∧a+l / 4 * 2 - 1≤g.1∧g.1≤a+l / 4 * 2+2∧PermIn a b d g.2.1∧St F0 w0 w' (qfb xb [.int .u64 g.2.2] :: qbb 42 s (ndR g.2.1) :: ps)) (fun g=>a+l / 4 * 2+2 - g.1) (a+l / 4 * 2 - 1,d,_) ⟨rfl,Nat.le_refl _,by simp only; omega,permIn_refl _ _ _,h⟩ ?_
 clear h
 rintro ⟨i,e,v⟩ i' wL I μ ⟨rfl,hi1,hi2,hpe,h⟩ hin
 simp only at hi1 hi2 hpe h hin ⊢
 unfold qe.b1
 rw [htd]
 refine ⟨by decide,qw (qwc (n:=l / 4) (by omega) (by omega)) (qw (qwc (n:=l / 4 * 2) (by omega) (by omega)) (qw (qwc (n:=a+l / 4 * 2) (by omega) (by omega)) (qw (qwc (n:=a+l / 4 * 2+1) (by omega) (by omega)) ?_)))⟩
 refine qlc (fun g2=>?_) (fun g2=>hk e wL hpe h.drop)
 unfold qe.j4
 refine xorNext.c (b:=xb) h fun v' w h=>⟨_,rfl,?_⟩
 have hpz:0 < 2 ^ z:=Nat.two_pow_pos z
 have hm:andV .u64 v' (IntKind.u64.wrap (((2 ^ z:Nat):Int) - 1))=(((v' % 2 ^ z).toNat:Nat):Int):=by
  rw [qvi,Int.emod_eq_of_lt (by omega) (by omega)]
  have e1:(((2 ^ z:Nat):Int) - 1)=2 ^ z - 1:=by simp
  rw [e1,andV_mod .u64 v' (t:=z) (Nat.lt_of_le_of_lt hz (by decide)),Int.toNat_of_nonneg]
  exact Int.emod_nonneg _ (by have:(0:Int) < 2 ^ z:=Int.pow_pos (by decide); omega)
 have hlt:(v' % 2 ^ z).toNat < 2 ^ z:=by
  have h2:(0:Int) < 2 ^ z:=Int.pow_pos (by decide)
  have:=Int.emod_lt_of_pos v' h2
  have e1:((2 ^ z:Nat):Int)=(2:Int) ^ z:=by simp
  omega
 generalize (v' % 2 ^ z).toNat=o at hm hlt
 refine qtd (qw hm (qw (qwc (n:=o) rfl (by omega)) ?_))
 have hsz:e.size=d.size:=hpe.1
 have fin:∀ (q:Nat),q < l→qe.j6 s (a:Int) (l:Int) ⟨xb,0,none⟩ ((2 ^ z:Nat):Int) (i:Int) (q:Int) (fun v w'=>K (.returned v) w') (fun d_0' i_1' t8' t9' t10' t11' w'=>(d_0'=s∧i_1'=(a:Int)∧t8'=(l:Int)∧t9'=⟨xb,0,none⟩∧t10'=((2 ^ z:Nat):Int))∧I t11' w'∧μ t11' w' < μ (i:Int) wL) w:=by
  intro q hq
  unfold qe.j6
  refine h.at1.drewK fun w h=>?_
  refine qw (qwc (n:=a+q) (by omega) (by omega)) (qw (qwc (n:=a+q) (by omega) (by omega)) ?_)
  refine h.swap i (a+q) rfl rfl rfl rfl (by omega) (by omega) fun w h=>?_
  unfold qe.j5
  refine qw (qwc (n:=i+1) (by omega) (by omega)) ?_
  exact ⟨⟨rfl,rfl,rfl,rfl,rfl⟩,hin (i+1,swp e i (a+q),v') _ _ ⟨rfl,by simp only; omega,by simp only; omega,permIn_trans _ _ _ _ _ hpe (swp_permIn _ _ _ _ _ (by omega) (by omega) (by omega) (by omega) (by omega)),h.at1⟩ (by simp only; omega)⟩
 refine qlc (fun g3=>?_) (fun g3=>?_)
 · refine qw (qwc (n:=o - l) (by omega) (by omega)) ?_
   exact fin (o - l) (by omega)
 · exact fin o (by omega)
theorem order2.c {b i j:Nat} {v:Int} {K:Ending→World→Prop} (h:St F0 w0 w (qfb b [.int .i64 v] :: qbb 42 s (ndR d) :: ps)) (hi:i < d.size) (hj:j < d.size)
 (hk:∀ (x y:Nat) v' w',(x=i∧y=j ∨ x=j∧y=i)→St F0 w0 w' (qfb b [.int .i64 v'] :: qbb 42 s (ndR d) :: ps)→K (.returned (.tuple ⟨[.int .i64 (x:Int),.int .i64 (y:Int)]⟩)) w') :
 Calls Try.prog 87 ⟨[sV s,.int .i64 (i:Int),.int .i64 (j:Int),.pointer (some ⟨b,0,none⟩),.func (.func 18) ⟨[]⟩ ⟨[]⟩]⟩ w K:=by
 refine qnb (qub.ok _ _ _ _ _ _ ?_)
 unfold qub
 refine h.drewK fun w h=>?_
 have h:St F0 w0 w (qbb 42 s (ndR d) :: qfb b [.int .i64 v] :: ps):=h.at1
 refine h.cmpN j i rfl rfl hj hi fun r w hr h=>?_
 have h:St F0 w0 w (qfb b [.int .i64 v] :: qbb 42 s (ndR d) :: ps):=h.at1
 refine qzc (fun g=>?_) (fun g=>?_)
 · refine qee (h.fI (b:=b) (qtd (qee (h.fst (b:=b) trivial fun w h=>?_))))
   exact hk j i _ w (Or.inr ⟨rfl,rfl⟩) h
 · exact hk i j _ w (Or.inl ⟨rfl,rfl⟩) h
theorem median.c {b i j k:Nat} {v:Int} {K:Ending→World→Prop} (h:St F0 w0 w (qfb b [.int .i64 v] :: qbb 42 s (ndR d) :: ps)) (hi:i < d.size) (hj:j < d.size) (hk':k < d.size)
 (hk:∀ (x:Nat) v' w',(x=i ∨ x=j ∨ x=k)→St F0 w0 w' (qfb b [.int .i64 v'] :: qbb 42 s (ndR d) :: ps)→K (.returned (.int .i64 (x:Int))) w') :
 Calls Try.prog 83 ⟨[sV s,.int .i64 (i:Int),.int .i64 (j:Int),.int .i64 (k:Int),.pointer (some ⟨b,0,none⟩),.func (.func 18) ⟨[]⟩ ⟨[]⟩]⟩ w K:=by
 refine qnb (qvb.ok _ _ _ _ _ _ _ ?_)
 unfold qvb
 refine order2.c h hi hj fun x1 y1 v1 w e1 h=>⟨_,_,rfl,?_⟩
 refine order2.c h (i:=y1) (by omega) hk' fun x2 y2 v2 w e2 h=>⟨_,_,rfl,?_⟩
 refine order2.c h (i:=x1) (by omega) (j:=x2) (by omega) fun x3 y3 v3 w e3 h=>⟨_,_,rfl,?_⟩
 exact hk y3 _ w (by omega) h
theorem medianAdj.c {b i:Nat} {v:Int} {K:Ending→World→Prop} (h:St F0 w0 w (qfb b [.int .i64 v] :: qbb 42 s (ndR d) :: ps)) (hi:1≤i) (hj:i+1 < d.size) (hL:d.size≤1000000)
 (hk:∀ (x:Nat) v' w',(x=i - 1 ∨ x=i ∨ x=i+1)→St F0 w0 w' (qfb b [.int .i64 v'] :: qbb 42 s (ndR d) :: ps)→K (.returned (.int .i64 (x:Int))) w') :
 Calls Try.prog 82 ⟨[sV s,.int .i64 (i:Int),.pointer (some ⟨b,0,none⟩),.func (.func 18) ⟨[]⟩ ⟨[]⟩]⟩ w K:=by
 refine qnb (qmb.ok _ _ _ _ _ ?_)
 unfold qmb
 refine qw (qwc (n:=i - 1) (by omega) (by omega)) (qw (qwc (n:=i+1) (by omega) (by omega)) ?_)
 refine median.c h (by omega) (by omega) (by omega) fun x v w e h=>⟨_,rfl,?_⟩
 exact hk x v w e h
theorem choosePivot.c {a b:Nat} {K:Ending→World→Prop} (h:St F0 w0 w (qbb 42 s (ndR d) :: ps)) (hab:a < b) (hb:b≤d.size) (hL:d.size≤1000000)
 (hk:∀ (p:Nat) (t:Int) w',a≤p→p < b→St F0 w0 w' (qbb 42 s (ndR d) :: ps)→K (.returned (.tuple ⟨[.int .i64 (p:Int),.int .i64 t]⟩)) w') :
 Calls Try.prog 65 ⟨[sV s,.int .i64 (a:Int),.int .i64 (b:Int),.func (.func 18) ⟨[]⟩ ⟨[]⟩]⟩ w K:=by
 refine qnb (qk.ok _ _ _ _ _ ?_)
 unfold qk qk.j1
 generalize hl:b - a=l
 refine qw (qwc (n:=l) (by omega) (by omega)) ?_
 rw [zc_i64]
 refine h.new fun xb w h=>?_
 have h:St F0 w0 w (qfb xb [.int .i64 0] :: qbb 42 s (ndR d) :: ps):=h
 have htd:Int.tdiv (l:Int) 4=((l / 4:Nat):Int):=rfl
 unfold qk.j2
 rw [htd]
 refine ⟨by decide,qw (qwc (n:=l / 4) (by omega) (by omega)) (qw (qwc (n:=l / 4 * 1) (by omega) (by omega)) (qw (qwc (n:=a+l / 4 * 1) (by omega) (by omega)) ?_))⟩
 refine ⟨by decide,qw (qwc (n:=l / 4) (by omega) (by omega)) (qw (qwc (n:=l / 4 * 2) (by omega) (by omega)) (qw (qwc (n:=a+l / 4 * 2) (by omega) (by omega)) ?_))⟩
 unfold qk.j3
 rw [htd]
 refine ⟨by decide,qw (qwc (n:=l / 4) (by omega) (by omega)) (qw (qwc (n:=l / 4 * 3) (by omega) (by omega)) (qw (qwc (n:=a+l / 4 * 3) (by omega) (by omega)) ?_))⟩
 have fin:∀ (p:Nat) (v:Int) w,a≤p→p < b→St F0 w0 w (qfb xb [.int .i64 v] :: qbb 42 s (ndR d) :: ps)→qk.j4 ⟨xb,0,none⟩ (p:Int) (fun v w'=>K (.returned v) w') w:=by
  intro p v w h1 h2 h
  unfold qk.j4
  refine h.fI (b:=xb) ?_
  refine qzc (fun g=>hk p _ w h1 h2 h.drop) (fun g=>?_)
  exact qzc (fun g=>hk p _ w h1 h2 h.drop) (fun g=>hk p _ w h1 h2 h.drop)
 refine qlc (fun g=>?_) (fun g=>fin _ _ w (by omega) (by omega) h)
 refine qlc (fun g2=>?_) (fun g2=>?_)
 · refine medianAdj.c h (by omega) (by omega) hL fun x1 v w e1 h=>⟨_,rfl,?_⟩
   refine medianAdj.c h (by omega) (by omega) hL fun x2 v w e2 h=>⟨_,rfl,?_⟩
   refine medianAdj.c h (by omega) (by omega) hL fun x3 v w e3 h=>⟨_,rfl,?_⟩
   refine median.c h (i:=x1) (j:=x2) (k:=x3) (by omega) (by omega) (by omega) fun x v w e h=>⟨_,rfl,?_⟩
   exact fin x v w (by omega) (by omega) h
 · refine median.c h (by omega) (by omega) (by omega) fun x v w e h=>⟨_,rfl,?_⟩
   exact fin x v w (by omega) (by omega) h
theorem reverseRange.c {a b:Nat} {K:Ending→World→Prop} (h:St F0 w0 w (qbb 42 s (ndR d) :: ps)) (hab:a < b) (hb:b≤d.size) (hL:d.size≤1000000)
 (hk:∀ d' w',PermIn a b d d'→St F0 w0 w' (qbb 42 s (ndR d') :: ps)→K (.returned (.tuple ⟨[]⟩)) w') :
 Calls Try.prog 66 ⟨[sV s,.int .i64 (a:Int),.int .i64 (b:Int),.func (.func 18) ⟨[]⟩ ⟨[]⟩]⟩ w K:=by
 refine qnb (qu.ok _ _ _ _ _ ?_)
 unfold qu qu.j1
 refine qw (qwc (n:=b - 1) (by omega) (by omega)) ?_
 refine loop2 (fun (g:Nat × Nat × Array Nd) (i' j':Int) w'=>i'=(g.1:Int)∧j'=(g.2.1:Int)∧a≤g.1∧g.1≤g.2.1+1∧g.2.1 < b∧PermIn a b d g.2.2∧St F0 w0 w' (qbb 42 s (ndR g.2.2) :: ps)) (fun g=>g.2.1+1 - g.1) (a,b - 1,d) ⟨rfl,rfl,Nat.le_refl _,by simp only; omega,by simp only; omega,permIn_refl _ _ _,h⟩ ?_
 clear h
 rintro ⟨i,j,e⟩ i' j' wL I μ ⟨rfl,rfl,h1,h2,h3,hpe,h⟩ hin
 simp only at h1 h2 h3 hpe h hin ⊢
 have hsz:e.size=d.size:=hpe.1
 unfold qu.b1
 refine qlc (fun g=>?_) (fun g=>hk e wL hpe h)
 refine h.drewK fun w h=>?_
 refine h.swap i j rfl rfl rfl rfl (by omega) (by omega) fun w h=>?_
 refine qw (qwc (n:=i+1) (by omega) (by omega)) (qw (qwc (n:=j - 1) (by omega) (by omega)) ?_)
 exact ⟨rfl,hin (i+1,j - 1,swp e i j) _ _ _ ⟨rfl,rfl,by simp only; omega,by simp only; omega,by simp only; omega,permIn_trans _ _ _ _ _ hpe (swp_permIn _ _ _ _ _ (by omega) (by omega) (by omega) (by omega) (by omega)),h⟩ (by simp only; omega)⟩
end
end Go.Proofs.Ytigmbblgfnkpbaa
namespace Go.Proofs.Ytigmbblgfnkpbaa
open Go Go.Proofs Go.Sort
set_option linter.unusedVariables false
set_option linter.unusedSimpArgs false
attribute [local irreducible] apK cpK mkK br
section
variable {F0:List Nat} {w0 w:World} {ps rest:List As} {s:Sl} {d:Array Nd}
theorem sc_go {b i:Nat} (h1:i < b) (h2:ltN d[i]! d[i - 1]! = false):scanSorted ltN d b i=scanSorted ltN d b (i+1):=by
 rw [scanSorted,if_pos (by rw [h2,decide_eq_true h1]; rfl)]
theorem sc_no {b i:Nat} (h:i < b→ltN d[i]! d[i - 1]! = true):scanSorted ltN d b i=i:=by
 rw [scanSorted,if_neg]
 by_cases g:i < b
 · rw [h g]; simp
 · simp [g]
theorem sd_go {j:Nat} (h:ltN d[j+1]! d[j]! = true):shiftDown ltN (j+1) d=shiftDown ltN j (swp d (j+1) j):=by
 rw [shiftDown,h]; rfl
theorem sd_no {j:Nat} (h:1≤j→ltN d[j]! d[j - 1]! = false):shiftDown ltN j d=d:=by
 cases j with
 | zero=>rfl
 | succ j=>rw [shiftDown,show ltN d[j+1]! d[j]! = false from h (by omega)]; rfl
theorem su_go {b j:Nat} (h1:j < b) (h:ltN d[j]! d[j - 1]! = true):shiftUp ltN b j d=shiftUp ltN b (j+1) (swp d j (j - 1)):=by
 rw [shiftUp,if_pos h1,h]; rfl
theorem su_no {b j:Nat} (h:j < b→ltN d[j]! d[j - 1]! = false):shiftUp ltN b j d=d:=by
 rw [shiftUp]
 split
 · rename_i g
   rw [h g]; rfl
 · rfl
theorem pi_eq {a b n i i1:Nat} {e:Array Nd} (h:scanSorted ltN e b i=i1):partialIns ltN a b (n+1) i e=if i1=b then (e,true) else if b - a < 50 then (e,false) else
 partialIns ltN a b n i1 (if b - i1 ≥ 2 then shiftUp ltN b (i1+1) (if i1 - a ≥ 2 then shiftDown ltN (i1 - 1) (swp e i1 (i1 - 1)) else swp e i1 (i1 - 1)) else (if i1 - a ≥ 2 then shiftDown ltN (i1 - 1) (swp e i1 (i1 - 1)) else swp e i1 (i1 - 1))):=by
 subst h
 rfl
theorem partialIns.c {a b:Nat} {K:Ending→World→Prop} (h:St F0 w0 w (qbb 42 s (ndR d) :: ps)) (hab:a < b) (hb:b≤d.size) (hL:d.size≤1000000)
 (hk:∀ w',St F0 w0 w' (qbb 42 s (ndR (partialInsertionSort ltN d a b).1) :: ps)→K (.returned (.bool (partialInsertionSort ltN d a b).2)) w') :
 Calls Try.prog 67 ⟨[sV s,.int .i64 (a:Int),.int .i64 (b:Int),.func (.func 18) ⟨[]⟩ ⟨[]⟩]⟩ w K:=by
 refine qnb (qa.ok _ _ _ _ _ ?_)
 unfold qa qa.j1 qa.j3
 refine qw (qwc (n:=a+1) (by omega) (by omega)) ?_
 generalize hR:partialInsertionSort ltN d a b=R at hk
 unfold partialInsertionSort at hR
 refine loop2 (fun (g:Nat × Nat × Array Nd) (i' t':Int) w'=>i'=(g.2.1:Int)∧t'=5 - (g.1:Int)∧g.1≤5∧a+1≤g.2.1∧g.2.1≤b∧g.2.2.size=d.size∧partialIns ltN a b g.1 g.2.1 g.2.2=R∧St F0 w0 w' (qbb 42 s (ndR g.2.2) :: ps)) (fun g=>g.1) (5,a+1,d) ⟨rfl,rfl,Nat.le_refl _,Nat.le_refl _,by simp only; omega,rfl,hR,h⟩ ?_
 clear h hR
 rintro ⟨n,i,e⟩ i' t' wL I μ ⟨rfl,rfl,hn,hi1,hi2,hsz,hR,h⟩ hin
 simp only at hn hi1 hi2 hsz hR h hin ⊢
 unfold qa.b1
 refine qlc (fun g=>?_) (fun g=>?_)
 rotate_left
 · have:n=0:=by omega
   subst this
   unfold qa.j2
   rw [partialIns] at hR
   subst hR
   exact hk wL h
 obtain ⟨n,rfl⟩:∃ k,n=k+1:=⟨n - 1,by omega⟩
 unfold qa.j4
 generalize hs1:scanSorted ltN e b i=i1
 rw [pi_eq hs1] at hR
 refine loop1 (fun (g:Nat) (i':Int) w'=>i'=(g:Int)∧a+1≤g∧g≤b∧scanSorted ltN e b g=i1∧St F0 w0 w' (qbb 42 s (ndR e) :: ps)) (fun g=>b - g) i ⟨rfl,hi1,hi2,hs1,h⟩ ?_
 clear h hi1 hi2 hs1
 rintro i' _ wL2 I2 μ2 ⟨rfl,hi1,hi2,hs1,h⟩ hnx
 try simp only at hi1 hi2 hs1 h hnx ⊢
 unfold qa.b4
 refine h.drewK fun w h=>?_
 have stop:∀ w,i'=i1→St F0 w0 w (qbb 42 s (ndR e) :: ps)→qa.j6 s (a:Int) (b:Int) (i':Int) (5 - ((n+1:Nat):Int)) (fun v w'=>K (.returned v) w') (fun d_0' i_1' t2' t9' t10' w'=>(d_0'=s∧i_1'=(a:Int)∧t2'=(b:Int))∧I t9' t10' w'∧μ t9' t10' w' < μ (i:Int) (5 - ((n+1:Nat):Int)) wL) w:=by
  rintro w rfl h
  unfold qa.j6
  refine qzc (fun g2=>?_) (fun g2=>?_)
  · have g2:i'=b:=by have:(i':Int)=b:=by simpa using g2
                     omega
    rw [if_pos g2] at hR
    subst hR
    exact hk w h
  have g2:¬ i'=b:=by
   intro e1
   subst e1
   simp at g2
  rw [if_neg g2] at hR
  unfold qa.j7
  refine qw (qwc (n:=b - a) (by omega) (by omega)) ?_
  refine qlc (fun g3=>?_) (fun g3=>?_)
  · rw [if_pos (by omega)] at hR
    subst hR
    exact hk w h
  rw [if_neg (by omega)] at hR
  refine h.drewK fun w h=>?_
  refine qw (qwc (n:=i' - 1) (by omega) (by omega)) (qw (qwc (n:=i' - 1) (by omega) (by omega)) ?_)
  refine h.swap i' (i' - 1) rfl rfl rfl rfl (by omega) (by omega) fun w h=>?_
  generalize hA:swp e i' (i' - 1)=A at hR h
  have hAz:A.size=d.size:=by rw [← hA,swp_size]; exact hsz
  have last:∀ (C:Array Nd) w,C.size=d.size→partialIns ltN a b n i' C=R→St F0 w0 w (qbb 42 s (ndR C) :: ps)→qa.j5 s (a:Int) (b:Int) (i':Int) (5 - ((n+1:Nat):Int)) (fun v w'=>K (.returned v) w') (fun d_0' i_1' t2' t9' t10' w'=>(d_0'=s∧i_1'=(a:Int)∧t2'=(b:Int))∧I t9' t10' w'∧μ t9' t10' w' < μ (i:Int) (5 - ((n+1:Nat):Int)) wL) w:=by
   intro C w hC hRC h
   unfold qa.j5
   refine qw (e':=5 - (n:Int)) (by rw [qq (by omega) (by omega)]; omega) ?_
   exact ⟨⟨rfl,rfl,rfl⟩,hin (n,i',C) _ _ _ ⟨rfl,rfl,by simp only; omega,hi1,hi2,hC,hRC,h⟩ (by simp only; omega)⟩
  have up:∀ (B:Array Nd) w,B.size=d.size→partialIns ltN a b n i' (if b - i' ≥ 2 then shiftUp ltN b (i'+1) B else B)=R→St F0 w0 w (qbb 42 s (ndR B) :: ps)→qa.j9 s (a:Int) (b:Int) (i':Int) (5 - ((n+1:Nat):Int)) (fun v w'=>K (.returned v) w') (fun d_0' i_1' t2' t9' t10' w'=>(d_0'=s∧i_1'=(a:Int)∧t2'=(b:Int))∧I t9' t10' w'∧μ t9' t10' w' < μ (i:Int) (5 - ((n+1:Nat):Int)) wL) w:=by
   intro B w hB hRB h
   unfold qa.j9
   refine qw (qwc (n:=b - i') (by omega) (by omega)) ?_
   unfold qa.j10
   refine qlc (fun g4=>?_) (fun g4=>?_)
   · rw [if_pos (by omega)] at hRB
     refine qw (qwc (n:=i'+1) (by omega) (by omega)) ?_
     unfold qa.j11
     refine loop1 (fun (g:Nat × Array Nd) (j':Int) w'=>j'=(g.1:Int)∧1≤g.1∧g.1≤b∧g.2.size=d.size∧partialIns ltN a b n i' (shiftUp ltN b g.1 g.2)=R∧St F0 w0 w' (qbb 42 s (ndR g.2) :: ps)) (fun g=>b - g.1) (i'+1,B) ⟨rfl,by simp only; omega,by simp only; omega,hB,hRB,h⟩ ?_
     clear h
     rintro ⟨j,C⟩ _ wL3 I3 μ3 ⟨rfl,hj1,hj2,hC,hRC,h⟩ hn3
     simp only at hj1 hj2 hC hRC h hn3 ⊢
     unfold qa.b2
     refine qlc (fun g5=>?_) (fun g5=>?_)
     · refine h.drewK fun w h=>?_
       refine h.cmpN j (j - 1) rfl (by rw [qwc (n:=j - 1) (by omega) (by omega)]) (by omega) (by omega) fun r w hr h=>?_
       refine quj (c:=!ltN C[j]! C[j - 1]!) (by rw [hr]) (fun g6=>?_) (fun g6=>?_)
       · rw [su_no (fun _=>by simpa using g6)] at hRC
         exact last C w hC hRC h
       · rw [su_go (by omega) (by simpa using g6)] at hRC
         refine h.drewK fun w h=>?_
         refine qw (qwc (n:=j - 1) (by omega) (by omega)) (qw (qwc (n:=j - 1) (by omega) (by omega)) ?_)
         refine h.swap j (j - 1) rfl rfl rfl rfl (by omega) (by omega) fun w h=>?_
         refine qw (qwc (n:=j+1) (by omega) (by omega)) ?_
         exact ⟨⟨rfl,rfl,rfl,rfl,rfl⟩,hn3 (j+1,swp C j (j - 1)) _ _ ⟨rfl,by simp only; omega,by simp only; omega,by simp only; rw [swp_size]; exact hC,hRC,h⟩ (by simp only; omega)⟩
     · rw [su_no (fun g6=>by exfalso; omega)] at hRC
       exact last C wL3 hC hRC h
   · rw [if_neg (by omega)] at hRB
     exact last B w hB hRB h
  unfold qa.j8
  refine qw (qwc (n:=i' - a) (by omega) (by omega)) ?_
  unfold qa.j12
  refine qlc (fun g4=>?_) (fun g4=>?_)
  · rw [if_pos (show i' - a ≥ 2 by omega)] at hR
    refine qw (qwc (n:=i' - 1) (by omega) (by omega)) ?_
    unfold qa.j13
    refine loop1 (fun (g:Nat × Array Nd) (j':Int) w'=>j'=(g.1:Int)∧g.1 < b∧g.2.size=d.size∧shiftDown ltN g.1 g.2=shiftDown ltN (i' - 1) A∧St F0 w0 w' (qbb 42 s (ndR g.2) :: ps)) (fun g=>g.1) (i' - 1,A) ⟨rfl,by simp only; omega,hAz,rfl,h⟩ ?_
    clear h
    rintro ⟨j,C⟩ _ wL3 I3 μ3 ⟨rfl,hj2,hC,hRC,h⟩ hn3
    simp only at hj2 hC hRC h hn3 ⊢
    have out:∀ w,C=shiftDown ltN (i' - 1) A→St F0 w0 w (qbb 42 s (ndR C) :: ps)→qa.j9 s (a:Int) (b:Int) (i':Int) (5 - ((n+1:Nat):Int)) (fun v w'=>K (.returned v) w') (fun d_0' i_1' t2' t9' t10' w'=>(d_0'=s∧i_1'=(a:Int)∧t2'=(b:Int))∧I t9' t10' w'∧μ t9' t10' w' < μ (i:Int) (5 - ((n+1:Nat):Int)) wL) w:=by
     intro w hC2 h
     rw [← hC2] at hR
     exact up C w hC hR h
    unfold qa.b3
    refine qlc (fun g5=>?_) (fun g5=>?_)
    · obtain ⟨j,rfl⟩:∃ k,j=k+1:=⟨j - 1,by omega⟩
      refine h.drewK fun w h=>?_
      refine h.cmpN (j+1) j rfl (by rw [qwc (n:=j) (by omega) (by omega)]) (by omega) (by omega) fun r w hr h=>?_
      refine quj (c:=!ltN C[j+1]! C[j]!) (by rw [hr]) (fun g6=>?_) (fun g6=>?_)
      · rw [sd_no (fun _=>by simpa using g6)] at hRC
        exact out w hRC h
      · rw [sd_go (by simpa using g6)] at hRC
        refine h.drewK fun w h=>?_
        refine qw (qwc (n:=j) (by omega) (by omega)) (qw (qwc (n:=j) (by omega) (by omega)) ?_)
        refine h.swap (j+1) j rfl rfl rfl rfl (by omega) (by omega) fun w h=>?_
        refine qw (qwc (n:=j) (by omega) (by omega)) ?_
        exact ⟨⟨rfl,rfl,rfl,rfl,rfl⟩,hn3 (j,swp C (j+1) j) _ _ ⟨rfl,by simp only; omega,by simp only; rw [swp_size]; exact hC,hRC,h⟩ (by simp only; omega)⟩
    · rw [sd_no (fun g6=>by exfalso; omega)] at hRC
      exact out wL3 hRC h
  · rw [if_neg (show ¬ i' - a ≥ 2 by omega)] at hR
    exact up A w hAz hR h
 refine qlc (fun g1=>?_) (fun g1=>?_)
 · refine h.cmpN i' (i' - 1) rfl (by rw [qwc (n:=i' - 1) (by omega) (by omega)]) (by omega) (by omega) fun r w hr h=>?_
   refine quj (c:=!ltN e[i']! e[i' - 1]!) (by rw [hr]) (fun g2=>?_) (fun g2=>?_)
   · rw [sc_go (by omega) (by simpa using g2)] at hs1
     refine qw (qwc (n:=i'+1) (by omega) (by omega)) ?_
     exact ⟨⟨rfl,rfl,rfl,rfl⟩,hnx (i'+1) _ _ ⟨rfl,by omega,by omega,hs1,h⟩ (by omega)⟩
   · rw [sc_no (fun _=>by simpa using g2)] at hs1
     exact stop w hs1 h
 · rw [sc_no (fun g2=>by exfalso; omega)] at hs1
   exact stop w hs1 h
theorem up_go {p:Nd→Bool} {i j:Nat} (h1:i≤j) (h2:p d[i]! = true):scanUp p d j i=scanUp p d j (i+1):=by
 rw [scanUp,if_pos (by rw [h2,decide_eq_true h1]; rfl)]
theorem up_no {p:Nd→Bool} {i j:Nat} (h:i≤j→p d[i]! = false):scanUp p d j i=i:=by
 rw [scanUp,if_neg]
 by_cases g:i≤j
 · rw [h g]; simp
 · simp [g]
theorem dn_go {p:Nd→Bool} {i j:Nat} (h1:i≤j+1) (h2:p d[j+1]! = true):scanDown p d i (j+1)=scanDown p d i j:=by
 rw [scanDown,if_pos (by rw [h2,decide_eq_true h1]; rfl)]
theorem dn_no {p:Nd→Bool} {i j:Nat} (h:i≤j→p d[j]! = false):scanDown p d i j=j:=by
 cases j with
 | zero=>rfl
 | succ j =>
   rw [scanDown,if_neg]
   by_cases g:i≤j+1
   · rw [h g]; simp
   · simp [g]
theorem pt_eq {a b p i1 j1:Nat} {d0:Array Nd} (h0:swp d a p=d0) (hi:scanUp (fun x=>ltN x d0[a]!) d0 (b - 1) (a+1)=i1) (hj:scanDown (fun x=>!ltN x d0[a]!) d0 i1 (b - 1)=j1) :
 partition ltN d a b p=if i1 > j1 then (j1,true,swp d0 j1 a) else ((partLoop ltN a (i1+1) (j1 - 1) (swp d0 i1 j1)).1,false,swp (partLoop ltN a (i1+1) (j1 - 1) (swp d0 i1 j1)).2 (partLoop ltN a (i1+1) (j1 - 1) (swp d0 i1 j1)).1 a):=by
 subst h0
 subst hi
 subst hj
 rfl
theorem pl_eq {a i j i1 j1:Nat} {e:Array Nd} (hi:scanUp (fun x=>ltN x e[a]!) e j i=i1) (hj:scanDown (fun x=>!ltN x e[a]!) e i1 j=j1) :
 partLoop ltN a i j e=if i1 > j1 then (j1,e) else partLoop ltN a (i1+1) (j1 - 1) (swp e i1 j1):=by
 rw [partLoop_eq,hi,hj]
theorem partition.c {a b p:Nat} {K:Ending→World→Prop} (h:St F0 w0 w (qbb 42 s (ndR d) :: ps)) (hp1:a≤p) (hp2:p < b) (hb:b≤d.size) (hL:d.size≤1000000)
 (hk:∀ w',St F0 w0 w' (qbb 42 s (ndR (partition ltN d a b p).2.2) :: ps)→K (.returned (.tuple ⟨[.int .i64 ((partition ltN d a b p).1:Int),.bool (partition ltN d a b p).2.1]⟩)) w') :
 Calls Try.prog 69 ⟨[sV s,.int .i64 (a:Int),.int .i64 (b:Int),.int .i64 (p:Int),.func (.func 18) ⟨[]⟩ ⟨[]⟩]⟩ w K:=by
 refine qnb (qc.ok _ _ _ _ _ _ ?_)
 unfold qc qc.j1
 generalize hR:partition ltN d a b p=R at hk
 generalize hd:swp d a p=d0
 generalize hi:scanUp (fun x=>ltN x d0[a]!) d0 (b - 1) (a+1)=i1
 generalize hj:scanDown (fun x=>!ltN x d0[a]!) d0 i1 (b - 1)=j1
 rw [pt_eq hd hi hj] at hR
 refine h.drewK fun w h=>?_
 refine h.swap a p rfl rfl rfl rfl (by omega) (by omega) fun w h=>?_
 rw [hd] at h
 have hsz:d0.size=d.size:=by rw [← hd,swp_size]
 refine qw (qwc (n:=a+1) (by omega) (by omega)) (qw (qwc (n:=b - 1) (by omega) (by omega)) ?_)
 unfold qc.j2
 refine loop1 (fun (g:Nat) (i':Int) w'=>i'=(g:Int)∧a+1≤g∧g≤b∧scanUp (fun x=>ltN x d0[a]!) d0 (b - 1) g=i1∧St F0 w0 w' (qbb 42 s (ndR d0) :: ps)) (fun g=>b - g) (a+1) ⟨rfl,Nat.le_refl _,by omega,hi,h⟩ ?_
 clear h hi
 rintro i _ wL I μ ⟨rfl,h1,h2,hi,h⟩ hin
 try simp only at h1 h2 hi h hin ⊢
 unfold qc.b5
 refine h.drewK fun w h=>?_
 have stop:∀ w,i=i1→St F0 w0 w (qbb 42 s (ndR d0) :: ps)→qc.j3 s (a:Int) (i:Int) ((b - 1:Nat):Int) (fun v w'=>K (.returned v) w') w:=by
  rintro w rfl h
  clear hin
  unfold qc.j3
  refine loop1 (fun (g:Nat) (j':Int) w'=>j'=(g:Int)∧a≤g∧g < b∧scanDown (fun x=>!ltN x d0[a]!) d0 i g=j1∧St F0 w0 w' (qbb 42 s (ndR d0) :: ps)) (fun g=>g) (b - 1) ⟨rfl,by omega,by omega,hj,h⟩ ?_
  clear h hj
  rintro j _ wL I μ ⟨rfl,h3,h4,hj,h⟩ hin
  try simp only at h3 h4 hj h hin ⊢
  have fin:∀ w,j=j1→St F0 w0 w (qbb 42 s (ndR d0) :: ps)→qc.j4 s (a:Int) (i:Int) (j:Int) (fun v w'=>K (.returned v) w') w:=by
   rintro w rfl h
   clear hin
   unfold qc.j4
   refine qlc (fun g=>?_) (fun g=>?_)
   · rw [if_pos (by omega)] at hR
     refine h.drewK fun w h=>?_
     refine h.swap j a rfl rfl rfl rfl (by omega) (by omega) fun w h=>?_
     subst hR
     exact hk w h
   rw [if_neg (by omega)] at hR
   refine h.drewK fun w h=>?_
   refine h.swap i j rfl rfl rfl rfl (by omega) (by omega) fun w h=>?_
   unfold qc.j5 qc.j6
   refine qw (qwc (n:=i+1) (by omega) (by omega)) (qw (qwc (n:=j - 1) (by omega) (by omega)) ?_)
   generalize hP:partLoop ltN a (i+1) (j - 1) (swp d0 i j)=P at hR
   refine loop2 (fun (g:Nat × Nat × Array Nd) (i' j':Int) w'=>i'=(g.1:Int)∧j'=(g.2.1:Int)∧a < g.1∧a≤g.2.1∧g.1≤b+1∧g.2.1 < b∧g.2.2.size=d.size∧partLoop ltN a g.1 g.2.1 g.2.2=P∧St F0 w0 w' (qbb 42 s (ndR g.2.2) :: ps)) (fun g=>g.2.1+1 - g.1) (i+1,j - 1,swp d0 i j)
    ⟨rfl,rfl,by simp only; omega,by simp only; omega,by simp only; omega,by simp only; omega,by simp only; rw [swp_size]; exact hsz,hP,h⟩ ?_
   clear h hP h1 h2 h3 h4 hi hj g
   rintro ⟨i0,j0,e⟩ _ _ wL I μ ⟨rfl,rfl,h1,h2,h3,h4,hez,hP,h⟩ hin
   simp only at h1 h2 h3 h4 hez hP h hin ⊢
   generalize hi:scanUp (fun x=>ltN x e[a]!) e j0 i0=i1
   generalize hj:scanDown (fun x=>!ltN x e[a]!) e i1 j0=j1
   rw [pl_eq hi hj] at hP
   have q1:i0≤i1:=by rw [← hi]; exact scanUp_ge _ _ _ _
   have q2:j1≤j0:=by rw [← hj]; exact scanDown_le _ _ _ _
   unfold qc.b1
   refine loop1 (fun (g:Nat) (i':Int) w'=>i'=(g:Int)∧a < g∧g≤b+1∧scanUp (fun x=>ltN x e[a]!) e j0 g=i1∧St F0 w0 w' (qbb 42 s (ndR e) :: ps)) (fun g=>b+1 - g) i0 ⟨rfl,h1,h3,hi,h⟩ ?_
   clear h hi
   rintro ia _ wL2 I2 μ2 ⟨rfl,k1,k2,hi,h⟩ hnx
   try simp only at k1 k2 hi h hnx ⊢
   have out:∀ w,ia=i1→St F0 w0 w (qbb 42 s (ndR e) :: ps)→qc.j8 s (a:Int) (ia:Int) (j0:Int) (fun v w'=>K (.returned v) w') (fun d_0' i_1' t12' t13' w'=>(d_0'=s∧i_1'=(a:Int))∧I t12' t13' w'∧μ t12' t13' w' < μ (i0:Int) (j0:Int) wL) w:=by
    rintro w rfl h
    clear hnx
    unfold qc.j8
    refine loop1 (fun (g:Nat) (j':Int) w'=>j'=(g:Int)∧a≤g∧g < b∧scanDown (fun x=>!ltN x e[a]!) e ia g=j1∧St F0 w0 w' (qbb 42 s (ndR e) :: ps)) (fun g=>g) j0 ⟨rfl,h2,h4,hj,h⟩ ?_
    clear h hj
    rintro ja _ wL3 I3 μ3 ⟨rfl,m1,m2,hj,h⟩ hn3
    try simp only at m1 m2 hj h hn3 ⊢
    have end':∀ w,ja=j1→St F0 w0 w (qbb 42 s (ndR e) :: ps)→qc.j9 s (a:Int) (ia:Int) (ja:Int) (fun v w'=>K (.returned v) w') (fun d_0' i_1' t12' t13' w'=>(d_0'=s∧i_1'=(a:Int))∧I t12' t13' w'∧μ t12' t13' w' < μ (i0:Int) (j0:Int) wL) w:=by
     rintro w rfl h
     clear hn3
     unfold qc.j9
     refine qlc (fun g=>?_) (fun g=>?_)
     · rw [if_pos (by omega)] at hP
       unfold qc.j7
       refine h.drewK fun w h=>?_
       refine h.swap ja a rfl rfl rfl rfl (by omega) (by omega) fun w h=>?_
       subst hP
       subst hR
       exact hk w h
     · rw [if_neg (by omega)] at hP
       refine h.drewK fun w h=>?_
       refine h.swap ia ja rfl rfl rfl rfl (by omega) (by omega) fun w h=>?_
       refine qw (qwc (n:=ia+1) (by omega) (by omega)) (qw (qwc (n:=ja - 1) (by omega) (by omega)) ?_)
       exact ⟨⟨rfl,rfl⟩,hin (ia+1,ja - 1,swp e ia ja) _ _ _ ⟨rfl,rfl,by simp only; omega,by simp only; omega,by simp only; omega,by simp only; omega,by simp only; rw [swp_size]; exact hez,hP,h⟩ (by simp only; omega)⟩
    unfold qc.b2
    refine h.drewK fun w h=>?_
    refine qlc (fun g=>?_) (fun g=>?_)
    · obtain ⟨ja,rfl⟩:∃ k,ja=k+1:=⟨ja - 1,by omega⟩
      refine h.cmpN (ja+1) a rfl rfl (by omega) (by omega) fun r w hr h=>?_
      refine quj (c:=!ltN e[ja+1]! e[a]!) (by rw [hr]) (fun g2=>?_) (fun g2=>?_)
      · rw [dn_go (p:=fun x=>!ltN x e[a]!) (by omega) g2] at hj
        refine qw (qwc (n:=ja) (by omega) (by omega)) ?_
        exact ⟨⟨rfl,rfl,rfl⟩,hn3 ja _ _ ⟨rfl,by omega,by omega,hj,h⟩ (by omega)⟩
      · rw [dn_no (p:=fun x=>!ltN x e[a]!) (fun _=>g2)] at hj
        exact end' w hj h
    · rw [dn_no (p:=fun x=>!ltN x e[a]!) (fun g2=>by exfalso; omega)] at hj
      exact end' w hj h
   unfold qc.b3
   refine h.drewK fun w h=>?_
   refine qlc (fun g=>?_) (fun g=>?_)
   · refine h.cmpN ia a rfl rfl (by omega) (by omega) fun r w hr h=>?_
     refine quj (c:=ltN e[ia]! e[a]!) hr (fun g2=>?_) (fun g2=>?_)
     · rw [up_go (p:=fun x=>ltN x e[a]!) (by omega) g2] at hi
       refine qw (qwc (n:=ia+1) (by omega) (by omega)) ?_
       exact ⟨⟨rfl,rfl,rfl⟩,hnx (ia+1) _ _ ⟨rfl,by omega,by omega,hi,h⟩ (by omega)⟩
     · rw [up_no (p:=fun x=>ltN x e[a]!) (fun _=>g2)] at hi
       exact out w hi h
   · rw [up_no (p:=fun x=>ltN x e[a]!) (fun g2=>by exfalso; omega)] at hi
     exact out w hi h
  unfold qc.b4
  refine h.drewK fun w h=>?_
  refine qlc (fun g=>?_) (fun g=>?_)
  · obtain ⟨j,rfl⟩:∃ k,j=k+1:=⟨j - 1,by omega⟩
    refine h.cmpN (j+1) a rfl rfl (by omega) (by omega) fun r w hr h=>?_
    refine quj (c:=!ltN d0[j+1]! d0[a]!) (by rw [hr]) (fun g2=>?_) (fun g2=>?_)
    · rw [dn_go (p:=fun x=>!ltN x d0[a]!) (by omega) g2] at hj
      refine qw (qwc (n:=j) (by omega) (by omega)) ?_
      exact ⟨⟨rfl,rfl,rfl⟩,hin j _ _ ⟨rfl,by omega,by omega,hj,h⟩ (by omega)⟩
    · rw [dn_no (p:=fun x=>!ltN x d0[a]!) (fun _=>g2)] at hj
      exact fin w hj h
  · rw [dn_no (p:=fun x=>!ltN x d0[a]!) (fun g2=>by exfalso; omega)] at hj
    exact fin w hj h
 refine qlc (fun g=>?_) (fun g=>?_)
 · refine h.cmpN i a rfl rfl (by omega) (by omega) fun r w hr h=>?_
   refine quj (c:=ltN d0[i]! d0[a]!) hr (fun g2=>?_) (fun g2=>?_)
   · rw [up_go (p:=fun x=>ltN x d0[a]!) (by omega) g2] at hi
     refine qw (qwc (n:=i+1) (by omega) (by omega)) ?_
     exact ⟨⟨rfl,rfl,rfl⟩,hin (i+1) _ _ ⟨rfl,by omega,by omega,hi,h⟩ (by omega)⟩
   · rw [up_no (p:=fun x=>ltN x d0[a]!) (fun _=>g2)] at hi
     exact stop w hi h
 · rw [up_no (p:=fun x=>ltN x d0[a]!) (fun g2=>by exfalso; omega)] at hi
   exact stop w hi h
end
end Go.Proofs.Ytigmbblgfnkpbaa
namespace Go.Proofs.Ytigmbblgfnkpbaa
open Go Go.Proofs Go.Sort
set_option linter.unusedVariables false
set_option linter.unusedSimpArgs false
attribute [local irreducible] apK cpK mkK br
theorem swoN:SWO ltN:=⟨fun x=>qqf _,fun x y z=>qqh,fun x y z=>ltI_ntrans⟩
theorem qgj {a b:Nat} {d d':Array Nd} (hb:b≤d.size) (h:PermIn a b d d'):d'.toList.Perm d.toList:=by
 have h0:PermIn 0 d.size d d':=permIn_mono _ _ a b 0 d.size (Nat.zero_le _) hb (Nat.le_refl _) h
 have h1:=h0.2.2
 have e1:d.extract 0 d.size=d:=by simp
 have e2:d'.extract 0 d.size=d':=by rw [← h0.1]; simp
 rw [e1,e2] at h1
 exact h1
def Dst (d:Array Nd):Prop:=(d.toList.map (·.id)).Nodup
theorem Dst.perm {a b:Nat} {d d':Array Nd} (hd:Dst d) (hb:b≤d.size) (h:PermIn a b d d'):Dst d' :=
 (List.Perm.nodup_iff ((qgj hb h).map (fun x:Nd=>x.id))).2 hd
theorem Dst.ne {d:Array Nd} (hd:Dst d) {i j:Nat} (hij:i < j) (hj:j < d.size):d[i]!.id ≠ d[j]!.id:=by
 have:=(List.pairwise_iff_getElem.1 hd) i j (by simpa using (by omega:i < d.size)) (by simpa using hj) hij
 simpa [hj,(by omega:i < d.size)] using this
section
variable {F0:List Nat} {w0 w:World} {ps rest:List As} {s:Sl} {d:Array Nd}
theorem pdq.c:∀ (n:Nat) {w:World} {d:Array Nd} {a b:Nat} {lim:Int} {K:Ending→World→Prop},b - a≤n→a≤b→b≤d.size→d.size≤1000000→0≤lim→lim≤64→Below ltN a b d→Dst d→St F0 w0 w (qbb 42 s (ndR d) :: ps) →
 (∀ d' w',PermIn a b d d'→SortedIn ltN a b d'→St F0 w0 w' (qbb 42 s (ndR d') :: ps)→K (.returned (.tuple ⟨[]⟩)) w') →
 Calls Try.prog 39 ⟨[sV s,.int .i64 (a:Int),.int .i64 (b:Int),.int .i64 lim,.func (.func 18) ⟨[]⟩ ⟨[]⟩]⟩ w K:=by
 intro n
 induction n with
 | zero =>
   intro w d a b lim K hn hab hb hL hl0 hl1 hB hD h hk
   refine qnb (qd.ok _ _ _ _ _ _ ?_)
   unfold qd qd.j1
   refine ⟨fun i t2 t3 t10 t11 w'=>i=a∧t2=b∧St F0 w0 w' (qbb 42 s (ndR d) :: ps),fun _ _ _ _ _ _=>0,⟨rfl,rfl,h⟩,?_⟩
   clear h
   rintro _ _ l1 q1 q2 w ⟨rfl,rfl,h⟩
   unfold qd.b1
   refine qw (qwc (n:=b - a) (by omega) (by omega)) ?_
   refine qlc (fun g=>?_) (fun g=>by exfalso; omega)
   obtain ⟨r1,r2⟩:=insertionSort_holds swoN d a b hab hb
   refine que.c h hb hL (by omega) fun w h=>⟨rfl,?_⟩
   exact hk _ w r1 r2 h
 | succ n ih =>
   intro w d a b lim K hn hab hb hL hl0 hl1 hB hD h hk
   refine qnb (qd.ok _ _ _ _ _ _ ?_)
   unfold qd qd.j1
   refine ⟨fun i t2 t3 t10 t11 w'=>∃ (a' b':Nat) (e:Array Nd),i=a'∧t2=b'∧0≤t3∧t3≤64∧a'≤b'∧b' - a'≤n+1∧b'≤d.size∧e.size=d.size∧Below ltN a' b' e∧Dst e ∧
    (∀ d',PermIn a' b' e d'→SortedIn ltN a' b' d'→PermIn a b d d'∧SortedIn ltN a b d')∧St F0 w0 w' (qbb 42 s (ndR e) :: ps),fun i t2 _ _ _ _=>(t2 - i).toNat,⟨a,b,d,rfl,rfl,hl0,hl1,hab,hn,hb,rfl,hB,hD,fun d' h1 h2=>⟨h1,h2⟩,h⟩,?_⟩
   have hds:d.size=d.size:=rfl
   generalize hsz:d.size=N at *
   clear h hB hD hl0 hl1 hn
   rintro _ _ l1 q1 q2 w ⟨a',b',e,rfl,rfl,hl0,hl1,hab',hn',hb',hez,hB,hD,hfin,h⟩
   generalize hI:(fun i t2 (t3:Int) (t10 t11:Bool) w'=>∃ (a' b':Nat) (e:Array Nd),i=(a':Int)∧t2=(b':Int)∧0≤t3∧t3≤64∧a'≤b'∧b' - a'≤n+1∧b'≤N∧e.size=N∧Below ltN a' b' e∧Dst e ∧
    (∀ d',PermIn a' b' e d'→SortedIn ltN a' b' d'→PermIn a b d d'∧SortedIn ltN a b d')∧St F0 w0 w' (qbb 42 s (ndR e) :: ps))=I
   have done:∀ d' w,PermIn a' b' e d'→SortedIn ltN a' b' d'→St F0 w0 w (qbb 42 s (ndR d') :: ps)→K (.returned (.tuple ⟨[]⟩)) w:=fun d' w h1 h2 h=>hk d' w (hfin d' h1 h2).1 (hfin d' h1 h2).2 h
   have next:∀ (a2 b2:Nat) (l2:Int) (q3 q4:Bool) (f:Array Nd) w,0≤l2→l2≤64→a'≤a2→a2≤b2→b2≤b'→b2 - a2 < b' - a'→f.size=N→Below ltN a2 b2 f→Dst f→(∀ d',PermIn a2 b2 f d'→SortedIn ltN a2 b2 d'→PermIn a' b' e d'∧SortedIn ltN a' b' d')→St F0 w0 w (qbb 42 s (ndR f) :: ps) →
    (s=s∧I (a2:Int) (b2:Int) l2 q3 q4 w∧((b2:Int) - (a2:Int)).toNat < ((b':Int) - (a':Int)).toNat):=by
    intro a2 b2 l2 q3 q4 f w g1 g2 g3 g4 g5 g6 g7 g8 g9 g10 h
    subst hI
    exact ⟨rfl,⟨a2,b2,f,rfl,rfl,g1,g2,g4,by omega,by omega,g7,g8,g9,fun d' h1 h2=>hfin d' (g10 d' h1 h2).1 (g10 d' h1 h2).2,h⟩,by omega⟩
   clear hfin hI
   unfold qd.b1
   refine qw (qwc (n:=b' - a') (by omega) (by omega)) ?_
   refine qlc (fun g=>?_) (fun g=>?_)
   · obtain ⟨r1,r2⟩:=insertionSort_holds swoN e a' b' hab' (by omega)
     refine que.c h (by omega) (by omega) (by omega) fun w h=>⟨rfl,?_⟩
     exact done _ w r1 r2 h
   unfold qd.j2
   refine qzc (fun g1=>?_) (fun g1=>?_)
   · obtain ⟨r1,r2⟩:=heapSort_holds swoN e a' b' hab' (by omega)
     refine qdj.c h (by omega) (by omega) (by omega) fun w h=>⟨rfl,?_⟩
     exact done _ w r1 r2 h
   have g1:l1 ≠ 0:=by simpa using g1
   have j3:∀ (l2:Int) (e1:Array Nd) w,0≤l2→l2≤64→PermIn a' b' e e1→St F0 w0 w (qbb 42 s (ndR e1) :: ps)→qd.j3 s (a':Int) (b':Int) l2 q1 q2 ((b' - a':Nat):Int) (fun v w'=>K (.returned v) w') (fun d_0' i_1' t2' t3' t10' t11' w'=>(d_0'=s)∧I i_1' t2' t3' t10' t11' w'∧(t2' - i_1').toNat < ((b':Int) - (a':Int)).toNat) w:=by
    intro l2 e1 w hl2 hl3 hp1 h
    have z1:e1.size=N:=by rw [hp1.1,hez]
    have j6:∀ (p:Nat) (e3:Array Nd) w,a'≤p→p < b'→PermIn a' b' e e3→St F0 w0 w (qbb 42 s (ndR e3) :: ps)→qd.j6 s (a':Int) (b':Int) l2 ((b' - a':Nat):Int) (p:Int) (fun v w'=>K (.returned v) w') (fun d_0' i_1' t2' t3' t10' t11' w'=>(d_0'=s)∧I i_1' t2' t3' t10' t11' w'∧(t2' - i_1').toNat < ((b':Int) - (a':Int)).toNat) w:=by
     intro p e3 w hpa hpb hp3 h
     have z3:e3.size=N:=by rw [hp3.1,hez]
     have B3:Below ltN a' b' e3:=hB.perm (by omega) hp3
     have D3:Dst e3:=hD.perm (by omega) hp3
     unfold qd.j6
     refine partition.c h hpa hpb (by omega) (by omega) fun w h=>⟨_,_,rfl,?_⟩
     obtain ⟨_,_,hp4,_,_⟩:=partition_holds ltN swoN e3 a' b' p hpa hpb (by omega)
     obtain ⟨m1,m2,z4,Ba,Bb,hl,hr⟩:=round_part swoN (partition_holds ltN) hpa hpb (by omega) B3 (show partition ltN e3 a' b' p=((partition ltN e3 a' b' p).1,(partition ltN e3 a' b' p).2.1,(partition ltN e3 a' b' p).2.2) from rfl)
     generalize (partition ltN e3 a' b' p).1=mid at *
     generalize (partition ltN e3 a' b' p).2.1=ap at *
     generalize (partition ltN e3 a' b' p).2.2=e4 at *
     have D4:Dst e4:=D3.perm (by omega) hp4
     refine qw (qwc (n:=mid - a') (by omega) (by omega)) (qw (qwc (n:=b' - mid) (by omega) (by omega)) ⟨by decide,qtd ?_⟩)
     refine qlc (fun g2=>?_) (fun g2=>?_)
     · refine ih (a:=a') (b:=mid) (by omega) m1 (by omega) (by omega) hl2 hl3 Ba D4 h fun e5 w hp5 hs5 h=>⟨rfl,?_⟩
       obtain ⟨B5,hfin⟩:=hl e5 hp5 hs5
       have z5:e5.size=N:=by rw [hp5.1,z4,z3]
       refine qw (qwc (n:=mid+1) (by omega) (by omega)) ?_
       exact next (mid+1) b' l2 _ _ e5 w hl2 hl3 (by omega) (by omega) (Nat.le_refl _) (by omega) z5 B5 (D4.perm (by omega) hp5) (fun d' h1 h2=>⟨permIn_trans _ _ _ _ _ hp3 (hfin d' h1 h2).1,(hfin d' h1 h2).2⟩) h
     · refine qw (qwc (n:=mid+1) (by omega) (by omega)) ?_
       refine ih (a:=mid+1) (b:=b') (by omega) (by omega) (by omega) (by omega) hl2 hl3 Bb D4 h fun e5 w hp5 hs5 h=>⟨rfl,?_⟩
       obtain ⟨B5,hfin⟩:=hr e5 hp5 hs5
       have z5:e5.size=N:=by rw [hp5.1,z4,z3]
       exact next a' mid l2 _ _ e5 w hl2 hl3 (Nat.le_refl _) m1 (by omega) (by omega) z5 B5 (D4.perm (by omega) hp5) (fun d' h1 h2=>⟨permIn_trans _ _ _ _ _ hp3 (hfin d' h1 h2).1,(hfin d' h1 h2).2⟩) h
    have j5:∀ (p:Nat) (e3:Array Nd) w,a'≤p→p < b'→PermIn a' b' e e3→St F0 w0 w (qbb 42 s (ndR e3) :: ps)→qd.j5 s (a':Int) (b':Int) l2 q1 q2 ((b' - a':Nat):Int) (p:Int) (fun v w'=>K (.returned v) w') (fun d_0' i_1' t2' t3' t10' t11' w'=>(d_0'=s)∧I i_1' t2' t3' t10' t11' w'∧(t2' - i_1').toNat < ((b':Int) - (a':Int)).toNat) w:=by
     intro p e3 w hpa hpb hp3 h
     have z3:e3.size=N:=by rw [hp3.1,hez]
     have B3:Below ltN a' b' e3:=hB.perm (by omega) hp3
     have D3:Dst e3:=hD.perm (by omega) hp3
     unfold qd.j5
     refine h.drewK fun w h=>?_
     refine qlc (fun g2=>?_) (fun g2=>?_)
     · refine qw (qwc (n:=a' - 1) (by omega) (by omega)) ?_
       refine h.cmpN (a' - 1) p rfl rfl (by omega) (by omega) fun r w hr h=>?_
       unfold qd.j7
       refine quj (c:=!ltN e3[a' - 1]! e3[p]!) (by rw [hr]) (fun g3=>?_) (fun g3=>j6 p e3 w hpa hpb hp3 h)
       exfalso
       rcases B3 with h0 | h0
       · omega
       · exact D3.ne (i:=a' - 1) (j:=p) (by omega) (by omega) (qjj (show ltN e3[a' - 1]! e3[p]! = false by simpa using g3) (h0 p hpa hpb))
     · unfold qd.j7
       refine qzc (fun g3=>by cases g3) (fun g3=>j6 p e3 w hpa hpb hp3 h)
    have j4:∀ (p:Nat) (t:Int) (e2:Array Nd) w,a'≤p→p < b'→PermIn a' b' e e2→St F0 w0 w (qbb 42 s (ndR e2) :: ps)→qd.j4 s (a':Int) (b':Int) l2 q1 q2 ((b' - a':Nat):Int) (p:Int) t (fun v w'=>K (.returned v) w') (fun d_0' i_1' t2' t3' t10' t11' w'=>(d_0'=s)∧I i_1' t2' t3' t10' t11' w'∧(t2' - i_1').toNat < ((b':Int) - (a':Int)).toNat) w:=by
     intro p t e2 w hpa hpb hp2 h
     have z2:e2.size=N:=by rw [hp2.1,hez]
     have B2:Below ltN a' b' e2:=hB.perm (by omega) hp2
     unfold qd.j4
     refine qzc (fun g2=>?_) (fun g2=>j5 p e2 w hpa hpb hp2 h)
     refine qzc (fun g3=>?_) (fun g3=>j5 p e2 w hpa hpb hp2 h)
     refine qzc (fun g4=>?_) (fun g4=>j5 p e2 w hpa hpb hp2 h)
     obtain ⟨r1,r2⟩:=partialInsertionSort_holds swoN e2 a' b' (by omega) (by omega) B2
     refine partialIns.c h (by omega) (by omega) (by omega) fun w h=>⟨_,rfl,?_⟩
     refine qzc (fun g5=>?_) (fun g5=>?_)
     · exact done _ w (permIn_trans _ _ _ _ _ hp2 r1) (r2 g5) h
     · exact j5 p _ w hpa hpb (permIn_trans _ _ _ _ _ hp2 r1) h
    unfold qd.j3
    refine choosePivot.c h (by omega) (by omega) (by omega) fun p t w hpa hpb h=>⟨_,_,rfl,?_⟩
    refine qzc (fun g2=>?_) (fun g2=>?_)
    · refine reverseRange.c h (by omega) (by omega) (by omega) fun e2 w hp2 h=>⟨rfl,?_⟩
      refine qw (qwc (n:=b' - 1) (by omega) (by omega)) (qw (qwc (n:=p - a') (by omega) (by omega)) (qw (qwc (n:=(b' - 1) - (p - a')) (by omega) (by omega)) ?_))
      exact j4 _ 1 e2 w (by omega) (by omega) (permIn_trans _ _ _ _ _ hp1 hp2) h
    · exact j4 p t e1 w hpa hpb hp1 h
   refine qzc (fun g2=>?_) (fun g2=>?_)
   · refine breakPatterns.c h hab' (by omega) (by omega) fun e1 w hp1 h=>⟨rfl,?_⟩
     refine qw (qq (by omega) (by omega)) ?_
     exact j3 _ e1 w (by omega) (by omega) hp1 h
   · exact j3 l1 e w hl0 hl1 (permIn_refl _ _ _) h
theorem SortFunc.c {L:List Nd} {K:Ending→World→Prop} (h:St F0 w0 w ps) [PkO s ps 42 (L.flatMap ndC) rest] (hL:L.length≤1000000) (hd:(L.map (·.id)).Nodup)
 (hk:∀ (L':List Nd) w',L'.Perm L→L'.Pairwise (fun x y=>ltN x y=true)→St F0 w0 w' (qbb 42 s (L'.flatMap ndC) :: rest)→K (.returned (.tuple ⟨[]⟩)) w') :
 Calls Try.prog 17 ⟨[sV s,.func (.func 18) ⟨[]⟩ ⟨[]⟩]⟩ w K:=by
 have h:=h.toO s
 have hl:=h.len
 rw [qoc] at hl
 have hl:=Nat.eq_of_mul_eq_mul_right (by decide) hl
 refine qnb (qdc.ok _ _ _ ?_)
 unfold qdc
 refine qw (show IntKind.u64.wrap (s.len:Int)=(s.len:Int) by rw [qvi]; omega) ?_
 refine qeg.c (by omega) fun z hz _=>⟨_,rfl,?_⟩
 have h:St F0 w0 w (qbb 42 s (ndR L.toArray) :: rest):=h
 have hs:L.toArray.size=s.len:=by simpa using hl
 refine pdq.c s.len (d:=L.toArray) (a:=0) (b:=s.len) (by omega) (Nat.zero_le _) (by omega) (by omega) (by omega) (by omega) (Or.inl rfl) hd h fun d' w hp hso h=>⟨rfl,?_⟩
 have hpm:=qgj (by omega) hp
 refine hk d'.toList w hpm (List.pairwise_iff_getElem.2 fun i j hi hj hij=>?_) h
 have hi':i < d'.size:=by simpa using hi
 have hj':j < d'.size:=by simpa using hj
 have h1:=hso i j (Nat.zero_le _) hij (by rw [hp.1] at hj'; omega)
 have h2:Dst d':=(Dst.perm (d:=L.toArray) hd (by omega) hp)
 have h3:=h2.ne hij hj'
 rw [arrN_get hi',arrN_get hj']
 cases hc:ltN d'[i]! d'[j]! with
 | true=>rfl
 | false=>exact absurd (qjj hc h1) h3
end
end Go.Proofs.Ytigmbblgfnkpbaa
namespace Go.Proofs.Ytigmbblgfnkpbaa
open Go Go.Proofs
set_option linter.unusedVariables false
set_option linter.unusedSimpArgs false
attribute [local irreducible] apK cpK mkK br
abbrev Tw:=Nd × Sl
def twN (x:Tw):Nd:=x.1.setP x.2
def twA (pr:Nd→List Nm) (x:Tw):As:=rdA 20 x.2 ((pr x.1).flatMap nmC)
section
variable {F0:List Nat} {w0 w:World} {ps rest:List As} {s:Sl} {L:List Nd} {n:Nd} {P:List Nm} {pr:Nd→List Nm} {K:Ending→World→Prop}
theorem nds_Clip.c (h:St F0 w0 w (qbb 42 s (L.flatMap ndC) :: ps)) (hk:∀ t w',t.len=s.len→St F0 w0 w' (rdA 42 t (L.flatMap ndC) :: ps)→K (.returned (slV t)) w') :
 Calls Try.prog 32 ⟨[sV s]⟩ w K:=by
 have hc:=own_cap (by decide) h
 refine qnb (qsc.ok _ _ _ ?_)
 unfold qsc
 refine qyj rfl hc (qyj rfl (Nat.le_refl _) (qtd ?_))
 refine hk _ w ?_ (h.ro.recap ?_ ?_)
 · show s.len - 0=s.len
   omega
 · show qvd s.a s.len 0 42=s.a
   unfold qvd
   split
   · rfl
   · rw [Nat.zero_mul]
     cases s.a with
     | none=>rfl
     | some a=>simp [Addr.add]
 · show s.len - 0=s.len
   omega
theorem qeb.c (h:St F0 w0 w ps) [Rdb F0 w0 s ps 42 (L.flatMap ndC)] (hL:L.length≤1000000) (hown:ownN (qcc L)) (hsum:((qcc L).map fun e=>(pr e.2).length).sum≤1000000) (hP:∀ e ∈ qcc L,Rdb F0 w0 e.2.par ps 20 ((pr e.2).flatMap nmC)) (hlen:(qcc L).length≤1000000)
 (hk:∀ (O:List Nm) (G:Rws Int) (tw:List Tw) (R:List Nd) t w',WkE (qcc L) pr false O G→(∀ x ∈ tw,(x.1.id,x.1) ∈ qcc L)→(∀ k:Nm,k.1 ∈ tw.map (fun x=>x.1.id) ↔ k ∈ O)→(tw.map fun x=>x.1.id).Nodup→R.Perm (tw.map twN)→R.Pairwise (fun x y=>ltN x y=true) →
   t.len=R.length→St F0 w0 w' (rdA 42 t (R.flatMap ndC) :: qzd (tw.map (twA pr)) :: ps)→K (.returned (slV t)) w') :
 Calls Try.prog 9 ⟨[sV s]⟩ w K:=by
 have lenC:∀ p:Nm,(nmC p).length=20:=fun p=>(inferInstance:Rec nmC 20).len p
 refine qnb (qeb.ok _ _ _ ?_)
 unfold qeb qeb.j1
 refine qjb.c h hL fun mb w h=>⟨_,rfl,?_⟩
 generalize qcc L=M at h hown hsum hP hlen hk
 have hnM:=(h.okE mb).1
 have hidM:=(h.okE mb).2
 have hpr:∀ e ∈ M,(pr e.2).length≤1000000:=fun e he=>Nat.le_trans (qpf (f:=fun e:List Int × Nd=>(pr e.2).length) he) hsum
 unfold qeb.j2
 refine qi.c (lost:=false) (pr:=pr) h hlen hown hsum hP fun gb O G w hE h=>⟨_,rfl,?_⟩
 have hnG:=(h.okE gb).1
 have hGl:G.length≤M.length:=by
  have:=qaf (O:=kys G) (S:=kys M) hnG hE.mem
  simpa [kys] using this
 refine h.trange gb 49 fun r w h=>?_
 unfold qeb.j4
 have h:St F0 w0 w (trA inV gb r G [] :: tmA ndV mb M :: qzd [] :: qbb 42 ⟨none,0,0⟩ [] :: ps):=by
  have h1:St F0 w0 w (qbb 42 ⟨none,0,0⟩ [] :: _):=h.nilO
  have h2:St F0 w0 w (qzd [] :: _):=h1.bag0
  exact h2.sub
 refine loop1 (fun (a:Rws Int × List Tw) (o:Sl) w'=>kys a.1=a.2.map (fun x=>x.1.id)∧(∀ x ∈ a.2,(x.1.id,x.1) ∈ M)∧St F0 w0 w' (trA inV gb r G a.1 :: tmA ndV mb M :: qzd (a.2.map (twA pr)) :: qbb 42 o ((a.2.map twN).flatMap ndC) :: ps)) (fun a=>G.length - a.1.length) ([],[]) ⟨rfl,by simp,h⟩ ?_
 clear h
 rintro ⟨D,tw⟩ o wL I μ ⟨hD,htw,h⟩ hin
 simp only at hD htw h hin ⊢
 have htl:tw.length=D.length:=by
  have:=congrArg List.length hD
  simp [kys] at this
  omega
 have hDl:=h.trle.2.2
 unfold qeb.b1
 refine h.tnext 0 (fun w hp h=>?_) fun f w hf hfD h hen=>?_
 · refine qzc (fun g=>by cases g) (fun _=>?_)
   unfold qeb.j3
   have hkp:(kys D).Perm (kys G):=List.Perm.map (fun x:List Int × Int=>x.1) hp
   have hnd:(tw.map fun x=>x.1.id).Nodup:=by rw [← hD]; exact hkp.nodup_iff.2 hnG
   have hid:(tw.map twN).map (·.id)=tw.map fun x=>x.1.id:=by rw [List.map_map]; rfl
   refine SortFunc.c (s:=o) (L:=tw.map twN) h (by rw [List.length_map]; omega) (by rw [hid]; exact hnd) fun R w hR hs h=>⟨rfl,?_⟩
   have hlR:=h.rlen (s:=o) (f:=ndC) (L:=R)
   refine nds_Clip.c h fun t w ht h=>⟨t,rfl,?_⟩
   refine hk O G tw R t w hE htw (fun k=>?_) hnd hR hs (by omega) h.sub
   rw [← hD,hkp.mem_iff]
   exact hE.keys k
 · have hok:idOk f.1:=(h.okE gb).2 f hf
   have hlt:=h.trle.2.2
   simp only [List.length_append,List.length_singleton] at hlt
   refine qzc (fun _=>⟨⟨nmC ⟨f.1,hok⟩⟩,f.2,hen,?_⟩) (fun g=>by cases g)
   refine h.newNm (p:=⟨f.1,hok⟩) fun xb w h=>?_
   refine h.lA (b:=xb) (lenC _) ?_
   have hfM:f.1 ∈ kys M:=hE.mem f.1 (List.mem_map.2 ⟨f,hf,rfl⟩)
   obtain ⟨n,hn⟩:∃ n,lkE M f.1=some n:=by
    cases hl:lkE M f.1 with
    | none=>exact absurd hfM (qod.1 hl)
    | some n=>exact ⟨n,rfl⟩
   have hnM2:=qre hn
   have hni:f.1=n.id:=hown _ hnM2
   refine ⟨⟨ndC n⟩,?_,?_⟩
   · have:=h.tlook1 mb 68 hok
     rw [hn] at this
     exact this
   haveI:=hP _ hnM2
   refine qke.c (n:=n) (P:=pr n) h (hpr _ hnM2) fun t w ht h=>⟨_,rfl,qz _,?_⟩
   rw [qde (by rw [qz,qmd]; rfl)]
   refine h.pushR (s:=o) (L:=tw.map twN) (x:=n.setP t) (by rw [List.length_map]; omega) rfl fun s' w' hs h=>?_
   refine ⟨⟨rfl,rfl⟩,hin (D ++ [f],tw ++ [(n,t)]) s' w' ⟨?_,fun x hx=>?_,?_⟩ (by simp only [List.length_append,List.length_singleton]; omega)⟩
   · unfold kys at hD ⊢
     rw [List.map_append,List.map_append,hD]
     show _ ++ [f.1]=_ ++ [n.id]
     rw [hni]
   · rcases List.mem_append.1 hx with hx | hx
     · exact htw x hx
     · have:x=(n,t):=by simpa using hx
       rw [this]
       simp only
       rw [← hni]
       exact hnM2
   · simp only
     have h1:St F0 w0 w' (rdA 20 t ((pr n).flatMap nmC) :: qzd (tw.map (twA pr)) :: qbb 42 s' ((tw.map twN ++ [n.setP t]).flatMap ndC) :: trA inV gb r G (D ++ [f]) :: tmA ndV mb M :: ps):=h.sub
     have h2:St F0 w0 w' (qzd (((n,t) :: tw).map (twA pr)) :: qbb 42 s' ((tw.map twN ++ [n.setP t]).flatMap ndC) :: trA inV gb r G (D ++ [f]) :: tmA ndV mb M :: ps):=h1.bagIn
     have h3:=h2.bagP (l':=(tw ++ [(n,t)]).map (twA pr)) ((List.perm_append_singleton (n,t) tw).symm.map _)
     have e:(tw ++ [(n,t)]).map twN=tw.map twN ++ [n.setP t]:=by rw [List.map_append]; rfl
     rw [e]
     exact h3.sub
end
end Go.Proofs.Ytigmbblgfnkpbaa
namespace Go.Proofs.Ytigmbblgfnkpbaa
open Go Go.Proofs
set_option linter.unusedVariables false
set_option linter.unusedSimpArgs false
attribute [local irreducible] apK cpK mkK br
def atD:List Nd→Nm→Int
 | [],_=>-1
 | n :: L,q=>if n.id=q.1 then 0 else if atD L q < 0 then -1 else atD L q+1
theorem atD_hit:∀ {L:List Nd} {q:Nm} {i:Nat} (hi:i < L.length),L[i].id=q.1→(∀ j (h:j < L.length),j < i→L[j].id ≠ q.1)→atD L q=i:=by
 intro L
 induction L with
 | nil=>intro q i hi; simp at hi
 | cons n L ih =>
   intro q i hi h1 h2
   rw [atD]
   cases i with
   | zero =>
     simp only [List.getElem_cons_zero] at h1
     rw [if_pos h1]; rfl
   | succ i =>
     have h0:=h2 0 (by simp) (by omega)
     simp only [List.getElem_cons_zero] at h0
     have:=ih (q:=q) (i:=i) (by simpa using hi) (by simpa using h1) (fun j hj hji=>by
      have:=h2 (j+1) (by simpa using hj) (by omega)
      simpa using this)
     rw [if_neg h0,this,if_neg (by omega)]
     rfl
section
variable {F0:List Nat} {w0 w:World} {ps rest:List As} {s:Sl} {L:List Nd} {n:Nd} {P:List Nm} {q:Nm} {pr:Nd→List Nm} {K:Ending→World→Prop}
theorem St.lrId {i:Int} {X:Array Value→Prop} (h:St F0 w0 w ps) [Rdb F0 w0 s ps 42 (L.flatMap ndC)] (j:Nat) (hi:i=j) (hj:j < L.length) (hk:X ⟨ivs .u8 L[j].id⟩):ixS s.a s.len i 42 fun a=>Go.Proofs.Ytigmbblgfnkpbaa.ldA w (Addr.add a 0) 20 X:=by
 refine h.rix (f:=ndC) (L:=L) j hi hj fun a0 ha=>?_
 refine ⟨⟨ivs .u8 L[j].id⟩,by simp [L[j].hid],fun o ho=>?_,hk⟩
 have hr:=h.rdb s
 rw [qbk,qbk,show j * 42+(0+o)=j * 42+o by omega,← qbk,hr.rcell ha hj (by omega)]
 have e:=ndC_id L[j]
 rw [List.drop_zero] at e
 have h2:=congrArg (fun l=>l[o]?) e
 simp only [List.getElem?_take,ho,if_true] at h2
 rw [h2]
 simp
end
end Go.Proofs.Ytigmbblgfnkpbaa
namespace Go.Proofs.Ytigmbblgfnkpbaa
open Go Go.Proofs
set_option linter.unusedVariables false
set_option linter.unusedSimpArgs false
attribute [local irreducible] apK cpK mkK br
theorem ndC_par (n:Nd):(ndC n)[40]?=some (.slice n.par.a n.par.len n.par.cap):=by
 unfold ndC
 rw [List.getElem?_append_right (by rw [qt,n.hid]; decide),qt,n.hid,List.getElem?_append_right (by rw [qt,n.htr]; decide),qt,n.htr]
 rfl
section
variable {F0:List Nat} {w0 w:World} {ps rest:List As} {sa sn sg:Sl} {L:List Nd} {gl:List Int} {q:Nm} {pr:Nd→List Nm} {gb:Nat} {i:Int} {K:Ending→World→Prop}
abbrev grL (sa sn sg:Sl):List Value:=[.slice sa.a sa.len sa.cap,.slice sn.a sn.len sn.cap,.slice sg.a sg.len sg.cap]
theorem Graph_Len.c (h:St F0 w0 w ps) [PkB gb ps (grL sa sn sg) rest] (hk:K (.returned (.int .i64 (sa.len:Int))) w):Calls Try.prog 8 ⟨[.pointer (some ⟨gb,0,none⟩)]⟩ w K:=by
 refine qnb (qge.ok _ _ _ ?_)
 unfold qge
 exact qee (h.gL (b:=gb) hk)
theorem Graph_is.c (h:St F0 w0 w ps) [PkB gb ps (grL sa sn sg) rest] (hk:K (.returned (.bool (decide (0≤i∧i < (sn.len:Int))))) w):Calls Try.prog 34 ⟨[.pointer (some ⟨gb,0,none⟩),.int .i64 i]⟩ w K:=by
 refine qnb (qme.ok _ _ _ _ ?_)
 unfold qme
 refine qlc (fun g=>?_) (fun g=>?_)
 · refine qee (h.gL (b:=gb) ?_)
   have e:decide (0≤i∧i < (sn.len:Int))=decide (i < (sn.len:Int)):=by
    by_cases g2:i < (sn.len:Int)
    · rw [decide_eq_true g2,decide_eq_true ⟨g,g2⟩]
    · rw [decide_eq_false g2,decide_eq_false fun e=>g2 e.2]
   rw [e] at hk
   exact hk
 · rw [decide_eq_false fun e=>g e.1] at hk
   exact hk
theorem Graph_Generation.c (h:St F0 w0 w ps) [PkB gb ps (grL sa sn sg) rest] [Rdb F0 w0 sg ps 1 (ivs .i64 gl)] (hl:gl.length=sn.len) (hk:∀ w',St F0 w0 w' ps→K (.returned (.int .i64 (if 0≤i∧i < (sn.len:Int) then gl.getD i.toNat 0 else 0))) w'):Calls Try.prog 11 ⟨[.pointer (some ⟨gb,0,none⟩),.int .i64 i]⟩ w K:=by
 refine qnb (qtc.ok _ _ _ _ ?_)
 unfold qtc
 refine Graph_is.c h ⟨_,rfl,?_⟩
 by_cases g:0≤i∧i < (sn.len:Int)
 · rw [decide_eq_true g]
   refine qzc (fun g2=>by cases g2) (fun _=>?_)
   refine qee (h.gL (b:=gb) ?_)
   refine h.lx (s:=sg) (zs:=gl) i.toNat (by omega) (by omega) ?_
   have:=hk w h
   rw [if_pos g] at this
   exact this
 · rw [decide_eq_false g]
   refine qzc (fun _=>?_) (fun g2=>by cases g2)
   have:=hk w h
   rw [if_neg g] at this
   exact this
theorem Graph_Find.c (h:St F0 w0 w ps) [PkB gb ps (grL sa sn sg) rest] [Rdb F0 w0 sa ps 20 ((L.map Nd.nm).flatMap nmC)] (hA:Ris (L.map Nd.nm)) (hL:L.length≤1000000)
 (hk:∀ w',St F0 w0 w' ps→K (.returned (.tuple ⟨[.int .i64 (if q ∈ L.map Nd.nm then (qqe (L.map Nd.nm) q:Int) else 0),.bool (decide (q ∈ L.map Nd.nm))]⟩)) w'):Calls Try.prog 10 ⟨[.pointer (some ⟨gb,0,none⟩),.agg ⟨nmC q⟩]⟩ w K:=by
 refine qnb (qyd.ok _ _ _ _ ?_)
 unfold qyd
 refine h.new fun xb w h=>?_
 have h:St F0 w0 w (qfb xb (nmC q) :: ps):=h
 refine h.drewK fun w h=>?_
 refine qee (h.gL (b:=gb) ?_)
 refine h.lA (b:=xb) ((inferInstance:Rec nmC 20).len q) ?_
 refine qwf.c (A:=L.map Nd.nm) (s:=sa) (q:=q) h hA (by rw [List.length_map]; exact hL) fun w h=>⟨_,_,rfl,?_⟩
 have:=hk w h.drop
 by_cases g:q ∈ L.map Nd.nm
 · rw [decide_eq_true g]
   rw [if_pos g,decide_eq_true g] at this
   exact qzc (fun g2=>by cases g2) (fun _=>this)
 · rw [decide_eq_false g]
   rw [if_neg g,decide_eq_false g] at this
   exact qzc (fun _=>this) (fun g2=>by cases g2)
theorem Graph_Parents.c (h:St F0 w0 w ps) [PkB gb ps (grL sa sn sg) rest] [Rdb F0 w0 sa ps 20 ((L.map Nd.nm).flatMap nmC)] [Rdb F0 w0 sn ps 42 (L.flatMap ndC)] (hA:Ris (L.map Nd.nm)) (hL:L.length≤1000000) (hpr:∀ n ∈ L,(pr n).length≤1000000) (hP:∀ n ∈ L,Rdb F0 w0 n.par ps 20 ((pr n).flatMap nmC))
 (hk1:¬ (0≤i∧i < (L.length:Int))→∀ w',St F0 w0 w' ps→K (.returned (slV ⟨none,0,0⟩)) w')
 (hk2:∀ (hi:i.toNat < L.length),0≤i→∀ u w',u.len=(pr L[i.toNat]).length→St F0 w0 w' (qbb 1 u (ivs .i64 ((pr L[i.toNat]).map fun p=>(qqe (L.map Nd.nm) p:Int))) :: ps)→K (.returned (slV u)) w') :
 Calls Try.prog 13 ⟨[.pointer (some ⟨gb,0,none⟩),.int .i64 i]⟩ w K:=by
 have hl:=h.rlen (s:=sn) (f:=ndC) (L:=L)
 refine qnb (qhd.ok _ _ _ _ ?_)
 unfold qhd
 refine Graph_is.c h ⟨_,rfl,?_⟩
 by_cases g:0≤i∧i < (sn.len:Int)
 · rw [decide_eq_true g]
   refine qzc (fun g2=>by cases g2) (fun _=>?_)
   have hi:i.toNat < L.length:=by omega
   refine h.drewK fun w h=>?_
   refine qee (h.gL (b:=gb) (qee (h.gL (b:=gb) ?_)))
   refine h.lrL (s:=sn) (L:=L) (o:=40) i.toNat (by omega) hi (by decide) (ndC_par _) ?_
   haveI:=hP _ (List.getElem_mem hi)
   refine numbers.c (A:=L.map Nd.nm) (P:=pr L[i.toNat]) (s:=sa) (t:=L[i.toNat].par) h hA (by rw [List.length_map]; exact hL) (hpr _ (List.getElem_mem hi)) fun u w hu h=>⟨u,rfl,?_⟩
   exact hk2 hi g.1 u w hu h
 · rw [decide_eq_false g]
   refine qzc (fun _=>?_) (fun g2=>by cases g2)
   exact hk1 (by rw [hl]; exact g) w h
theorem Graph_Node.c (h:St F0 w0 w ps) [PkB gb ps (grL sa sn sg) rest] [Rdb F0 w0 sn ps 42 (L.flatMap ndC)] (hpr:∀ n ∈ L,(pr n).length≤1000000) (hP:∀ n ∈ L,Rdb F0 w0 n.par ps 20 ((pr n).flatMap nmC))
 (hk1:¬ (0≤i∧i < (L.length:Int))→∀ w',St F0 w0 w' ps→K (.returned (.tuple ⟨[.agg ⟨ndC ndZ⟩,.bool false]⟩)) w')
 (hk2:∀ (hi:i.toNat < L.length),0≤i→∀ t w',t.len=(pr L[i.toNat]).length→St F0 w0 w' (rdA 20 t ((pr L[i.toNat]).flatMap nmC) :: ps)→K (.returned (.tuple ⟨[.agg ⟨ndC (L[i.toNat].setP t)⟩,.bool true]⟩)) w') :
 Calls Try.prog 12 ⟨[.pointer (some ⟨gb,0,none⟩),.int .i64 i]⟩ w K:=by
 have hl:=h.rlen (s:=sn) (f:=ndC) (L:=L)
 refine qnb (qxd.ok _ _ _ _ ?_)
 unfold qxd
 rw [qmd]
 refine h.new fun xb w h=>?_
 have h:St F0 w0 w (qfb xb (ndC ndZ) :: ps):=h
 refine Graph_is.c (gb:=gb) (sn:=sn) (sa:=sa) (sg:=sg) h ⟨_,rfl,?_⟩
 by_cases g:0≤i∧i < (sn.len:Int)
 · rw [decide_eq_true g]
   refine qzc (fun g2=>by cases g2) (fun _=>?_)
   have hi:i.toNat < L.length:=by omega
   refine qee (h.gL (b:=gb) ?_)
   refine h.lr (s:=sn) (L:=L) i.toNat (by omega) hi ?_
   haveI:=hP _ (List.getElem_mem hi)
   refine qke.c (n:=L[i.toNat]) (P:=pr L[i.toNat]) h (hpr _ (List.getElem_mem hi)) fun t w ht h=>⟨_,rfl,qz _,?_⟩
   refine h.at1.setR (qz _) fun w h=>?_
   refine h.lA (b:=xb) (qz _) ?_
   exact hk2 hi g.1 t w ht h.drop
 · rw [decide_eq_false g]
   refine qzc (fun _=>?_) (fun g2=>by cases g2)
   refine ⟨qz _,?_⟩
   refine h.setR (f:=ndC) (x:=ndZ) (qz _) fun w h=>?_
   refine h.lA (b:=xb) (qz _) ?_
   exact hk1 (by rw [hl]; exact g) w h.drop
end
end Go.Proofs.Ytigmbblgfnkpbaa
namespace Go.Proofs.Ytigmbblgfnkpbaa
open Go Go.Proofs
set_option linter.unusedVariables false
set_option linter.unusedSimpArgs false
attribute [local irreducible] apK cpK mkK br
instance elt_20:EltR Try.prog 27 20 (ivs .u8 z20):=⟨⟨Try.t27,by kernel_rfl,rfl,by decide,by decide⟩,by kernel_rfl,rfl,by decide⟩
section
variable {F0:List Nat} {w0 w:World} {ps rest:List As} {s:Sl} {P:List Nm} {K:Ending→World→Prop}
end
end Go.Proofs.Ytigmbblgfnkpbaa
namespace Go.Proofs.Ytigmbblgfnkpbaa
open Go Go.Proofs
set_option linter.unusedVariables false
set_option maxRecDepth 100000
def quc  (Q:VWP) (w:World):Prop :=
 nw w (zc Try.prog 31) 31 fun a1 w2 =>
 ((⟨(List.set (zc Try.prog 31).toList 41 (.int .i64 5))⟩:Array Value)).size=42 ∧
 stA w2 a1 (⟨(List.set (zc Try.prog 31).toList 41 (.int .i64 5))⟩:Array Value) fun w3 =>
 ((⟨[.int .u8 0,.int .u8 0,.int .u8 0,.int .u8 0,.int .u8 0,.int .u8 0,.int .u8 0,.int .u8 0,.int .u8 0,.int .u8 0,.int .u8 0,.int .u8 0,.int .u8 0,.int .u8 0,.int .u8 0,.int .u8 0,.int .u8 0,.int .u8 0,.int .u8 0,.int .u8 0]⟩:Array Value)).size=20 ∧
 nw w3 ⟨(spl [.int .u8 0,.int .u8 0,.int .u8 0,.int .u8 0,.int .u8 0,.int .u8 0,.int .u8 0,.int .u8 0,.int .u8 0,.int .u8 0,.int .u8 0,.int .u8 0,.int .u8 0,.int .u8 0,.int .u8 0,.int .u8 0,.int .u8 0,.int .u8 0,.int .u8 0,.int .u8 0] 0 (⟨[.int .u8 0,.int .u8 0,.int .u8 0,.int .u8 0,.int .u8 0,.int .u8 0,.int .u8 0,.int .u8 0,.int .u8 0,.int .u8 0,.int .u8 0,.int .u8 0,.int .u8 0,.int .u8 0,.int .u8 0,.int .u8 0,.int .u8 0,.int .u8 0,.int .u8 0,.int .u8 0]⟩:Array Value))⟩ 28 fun a4 w5 =>
 nw w5 (zc Try.prog 31) 31 fun a6 w7 =>
 ((⟨(List.set (List.set (zc Try.prog 31).toList 40 (.slice (some a4) 1 1)) 41 (.int .i64 9))⟩:Array Value)).size=42 ∧
 stA w7 a6 (⟨(List.set (List.set (zc Try.prog 31).toList 40 (.slice (some a4) 1 1)) 41 (.int .i64 9))⟩:Array Value) fun w8 =>
 ixA (Addr.add a6 0) 20 0 1 fun a9 =>
 st w8 a9 (.int .u8 1) fun w10 =>
 ldA w10 a6 42 fun c11 =>
 ldA w10 a1 42 fun c12 =>
 (c11).size=42 ∧
 (c12).size=42 ∧
 nw w10 ⟨(spl (spl (qie 2 (zc Try.prog 31).toList) 0 c11) 42 c12)⟩ 31 fun a13 w14 =>
 ct_LI 6 [.slice (some a13) 2 2] w14 fun r17 r18 w16 =>
 ct_PI 7 [sV r17] w16 fun r21 r22 w20 =>
 lt (IntKind.i64.wrap (r18+r22)) fun x23 =>
 br (x23 != 0) (
 Q (.bool false) w20) (
 br (Option.isNone r21) (
 Q (.bool false) w20) (
 ldA w20 (Addr.add a6 0) 20 fun c24 =>
 ct_IB 10 [.pointer r21,.agg c24] w20 fun r27 r28 w26 =>
 ct_GB 12 [.pointer r21,.int .i64 r27] w26 fun r31 r32 w30 =>
 nw w30 (zc Try.prog 31) 31 fun a33 w34 =>
 (r31).size=42 ∧
 stA w34 a33 r31 fun w35 =>
 qhc 13 [.pointer r21,.int .i64 r27] w35 fun r38 w37 =>
 br r28 (
 br r32 (
 br (r27 == 1) (
 qhf 11 [.pointer r21,.int .i64 r27] w37 fun r41 w40 =>
 br (r41 == 2) (
 ldI .i64 w40 (Addr.add a33 41) fun x42 =>
 br (x42 == 9) (
 br ((r38.len:Int) == 1) (
 ixS r38.a r38.len 0 1 fun a43 =>
 ldI .i64 w40 a43 fun x44 =>
 br (x44 == 0) (
 qhf 8 [.pointer r21] w40 fun r47 w46 =>
 br (r47 == 2) (
 ldA w46 a6 42 fun c48 =>
 (c48).size=42 ∧
 nw w46 ⟨(spl (qie 1 (zc Try.prog 31).toList) 0 c48)⟩ 31 fun a49 w50 =>
 qhc 9 [.slice (some a49) 1 1] w50 fun r53 w52 =>
 Q (.bool ((r53.len:Int) == 0)) w52) (
 Q (.bool false) w46)) (
 Q (.bool false) w40)) (
 Q (.bool false) w40)) (
 Q (.bool false) w40)) (
 Q (.bool false) w40)) (
 Q (.bool false) w37)) (
 Q (.bool false) w37)) (
 Q (.bool false) w37)))
theorem quc.ok  (Q:VWP) (w:World) (h:quc  Q w):Calls Try.prog 5 ⟨[]⟩ w (Ret Q) :=
 qqb [.tmp 0] qed Try.func5 rfl rfl rfl rfl .lf (by kernel_rfl) h
def trovelaw19_GraphMany.j13 (d_0:Int) (t14:OAd) (t16:Int) (Q:VWP) (w:World):Prop :=
 br (decide (d_0 > 0)) (
 qhf 11 [.pointer t14,.int .i64 t16] w fun r3 w2 =>
 Q (.bool (r3 == 2)) w2) (
 qhf 11 [.pointer t14,.int .i64 t16] w fun r6 w5 =>
 Q (.bool (r6 == 1)) w5)
def trovelaw19_GraphMany.b1 (d_0:Int) (t6:Sl) (t14:OAd) (t16:Int) (t18:Addr) (t20:Sl) (t21:Int) (Q:VWP) (nx1:Int→Sl→OAd→Int→Addr→Sl→Int→WP) (w:World):Prop :=
 br (decide (t21 < d_0)) (
 ixS t20.a t20.len t21 1 fun a7 =>
 ldI .i64 w a7 fun x8 =>
 ct_GB 12 [.pointer t14,.int .i64 x8] w fun r11 r12 w10 =>
 nw w10 (zc Try.prog 31) 31 fun a13 w14 =>
 (r11).size=42 ∧
 stA w14 a13 r11 fun w15 =>
 lt (World.drew w15) fun w16 =>
 ldL w16 (Addr.add t18 40) fun x17 =>
 ixS x17.a x17.len t21 20 fun a18 =>
 ldA w16 a18 20 fun c19 =>
 ixS t6.a t6.len t21 20 fun a20 =>
 ldA w16 a20 20 fun c21 =>
 eqA .u8 20 c19 c21 fun x22 =>
 br (!x22) (
 Q (.bool false) w16) (
 br (!r12) (
 Q (.bool false) w16) (
 ldA w16 (Addr.add a13 0) 20 fun c23 =>
 ixS t6.a t6.len t21 20 fun a24 =>
 ldA w16 a24 20 fun c25 =>
 eqA .u8 20 c23 c25 fun x26 =>
 br (!x26) (
 Q (.bool false) w16) (
 lt (IntKind.i64.wrap (t21+1)) fun x27 =>
 nx1 d_0 t6 t14 t16 t18 t20 x27 w16)))) (
 trovelaw19_GraphMany.j13 d_0 t14 t16 Q w)
def trovelaw19_GraphMany.l1 (d_0:Int) (t6:Sl) (t14:OAd) (t16:Int) (t18:Addr) (t20:Sl) (t21:Int) (Q:VWP) (w:World):Prop :=
 ∃ (I:Int→WP) (μ:Int→World→Nat),I t21 w∧∀ t21:Int,∀ w:World,I t21 w→trovelaw19_GraphMany.b1 d_0 t6 t14 t16 t18 t20 t21 Q (fun d_0' t6' t14' t16' t18' t20' t21' w'=>(d_0'=d_0∧t6'=t6∧t14'=t14∧t16'=t16∧t18'=t18∧t20'=t20)∧I t21' w'∧μ t21' w' < μ t21 w) w
def trovelaw19_GraphMany.j14 (d_0:Int) (t6:Sl) (t14:OAd) (t16:Int) (t18:Addr) (t20:Sl) (t21:Int) (Q:VWP) (w:World):Prop :=
 trovelaw19_GraphMany.l1 d_0 t6 t14 t16 t18 t20 t21 Q w
def trovelaw19_GraphMany.j12 (d_0:Int) (t6:Sl) (t14:OAd) (t16:Int) (t18:Addr) (t20:Sl) (Q:VWP) (w:World):Prop :=
 trovelaw19_GraphMany.j14 d_0 t6 t14 t16 t18 t20 0 Q w
def trovelaw19_GraphMany.j11 (d_0:Int) (t6:Sl) (t14:OAd) (t16:Int) (t17:Bool) (t18:Addr) (t19:Bool) (Q:VWP) (w:World):Prop :=
 br (!t17) (
 Q (.bool false) w) (
 br (!t19) (
 Q (.bool false) w) (
 ldL w (Addr.add t18 40) fun x28 =>
 br ((x28.len:Int) != d_0) (
 Q (.bool false) w) (
 ldI .i64 w (Addr.add t18 41) fun x29 =>
 br (x29 != 17179869183) (
 Q (.bool false) w) (
 qhc 13 [.pointer t14,.int .i64 t16] w fun r32 w31 =>
 trovelaw19_GraphMany.j12 d_0 t6 t14 t16 t18 r32 Q w31))))
def trovelaw19_GraphMany.j10 (d_0:Int) (t6:Sl) (t10:Addr) (t14:OAd) (Q:VWP) (w:World):Prop :=
 ldA w (Addr.add t10 0) 20 fun c33 =>
 ct_IB 10 [.pointer t14,.agg c33] w fun r36 r37 w35 =>
 ct_GB 12 [.pointer t14,.int .i64 r36] w35 fun r40 r41 w39 =>
 nw w39 (zc Try.prog 31) 31 fun a42 w43 =>
 (r40).size=42 ∧
 stA w43 a42 r40 fun w44 =>
 trovelaw19_GraphMany.j11 d_0 t6 t14 r36 r37 a42 r41 Q w44
def trovelaw19_GraphMany.j9 (d_0:Int) (t6:Sl) (t10:Addr) (t12:Sl) (t13:Int) (Q:VWP) (w:World):Prop :=
 ct_PI 7 [sV t12] w fun r47 r48 w46 =>
 lt (IntKind.i64.wrap (t13+r48)) fun x49 =>
 br (x49 != 0) (
 Q (.bool false) w46) (
 br (Option.isNone r47) (
 Q (.bool false) w46) (
 trovelaw19_GraphMany.j10 d_0 t6 t10 r47 Q w46))
def trovelaw19_GraphMany.j8 (d_0:Int) (t5:Sl) (t6:Sl) (t10:Addr) (Q:VWP) (w:World):Prop :=
 ct_LI 6 [sV t5] w fun r52 r53 w51 =>
 br (decide (d_0 > 10)) (
 br (r53 == 0) (
 Q (.bool true) w51) (
 Q (.bool (r53 == 1)) w51)) (
 trovelaw19_GraphMany.j9 d_0 t6 t10 r52 r53 Q w51)
def trovelaw19_GraphMany.j7 (d_0:Int) (t5:Sl) (t6:Sl) (t10:Addr) (t11:Addr) (Q:VWP) (w:World):Prop :=
 ldA w t10 42 fun c54 =>
 (c54).size=42 ∧
 nw w ⟨(spl (qie 1 (zc Try.prog 31).toList) 0 c54)⟩ 31 fun a55 w56 =>
 rdO w56 (some a55) (1 * 42) fun c57 =>
 apK Try.prog 31 w56 t5.a t5.len t5.cap 1 c57 fun s58 w59 =>
 br (decide (d_0 < 10)) (
 ldA w59 t11 42 fun c60 =>
 (c60).size=42 ∧
 nw w59 ⟨(spl (qie 1 (zc Try.prog 31).toList) 0 c60)⟩ 31 fun a61 w62 =>
 rdO w62 (some a61) (1 * 42) fun c63 =>
 apK Try.prog 31 w62 s58.a s58.len s58.cap 1 c63 fun s64 w65 =>
 trovelaw19_GraphMany.j8 d_0 s64 t6 t10 Q w65) (
 trovelaw19_GraphMany.j8 d_0 s58 t6 t10 Q w59)
def trovelaw19_GraphMany.j6 (d_0:Int) (t5:Sl) (t6:Sl) (t10:Addr) (Q:VWP) (w:World):Prop :=
 ldA w (Addr.add t10 0) 20 fun c66 =>
 (c66).size=20 ∧
 nw w ⟨(spl [.int .u8 0,.int .u8 0,.int .u8 0,.int .u8 0,.int .u8 0,.int .u8 0,.int .u8 0,.int .u8 0,.int .u8 0,.int .u8 0,.int .u8 0,.int .u8 0,.int .u8 0,.int .u8 0,.int .u8 0,.int .u8 0,.int .u8 0,.int .u8 0,.int .u8 0,.int .u8 0] 0 c66)⟩ 28 fun a67 w68 =>
 rdO w68 t6.a (t6.len * 20) fun c69 =>
 apK Try.prog 28 w68 (some a67) 1 1 t6.len c69 fun s70 w71 =>
 nw w71 (zc Try.prog 31) 31 fun a72 w73 =>
 ((⟨(List.set (zc Try.prog 31).toList 40 (sV s70))⟩:Array Value)).size=42 ∧
 stA w73 a72 (⟨(List.set (zc Try.prog 31).toList 40 (sV s70))⟩:Array Value) fun w74 =>
 ixA (Addr.add a72 0) 20 0 1 fun a75 =>
 st w74 a75 (.int .u8 21) fun w76 =>
 trovelaw19_GraphMany.j7 d_0 t5 t6 t10 a72 Q w76
def trovelaw19_GraphMany.j5 (d_0:Int) (t5:Sl) (t6:Sl) (Q:VWP) (w:World):Prop :=
 nw w (zc Try.prog 31) 31 fun a77 w78 =>
 ((⟨(List.set (List.set (zc Try.prog 31).toList 40 (sV t6)) 41 (.int .i64 17179869183))⟩:Array Value)).size=42 ∧
 stA w78 a77 (⟨(List.set (List.set (zc Try.prog 31).toList 40 (sV t6)) 41 (.int .i64 17179869183))⟩:Array Value) fun w79 =>
 ixA (Addr.add a77 0) 20 0 1 fun a80 =>
 st w79 a80 (.int .u8 20) fun w81 =>
 trovelaw19_GraphMany.j6 d_0 t5 t6 a77 Q w81
def trovelaw19_GraphMany.b2 (d_0 i_1:Int) (t5:Sl) (t6:Sl) (t9:Int) (Q:VWP) (nx2:Int→Int→Sl→Sl→Int→WP) (w:World):Prop :=
 br (decide (t9 < d_0)) (
 (d_0:Int) ≠ 0 ∧
 lt (Int.tmod i_1 d_0) fun x82 =>
 lt (IntKind.i64.wrap (t9+x82)) fun x83 =>
 (d_0:Int) ≠ 0 ∧
 lt (Int.tmod x83 d_0) fun x84 =>
 ixS t5.a t5.len x84 42 fun a85 =>
 ldA w (Addr.add a85 0) 20 fun c86 =>
 (c86).size=20 ∧
 nw w ⟨(spl [.int .u8 0,.int .u8 0,.int .u8 0,.int .u8 0,.int .u8 0,.int .u8 0,.int .u8 0,.int .u8 0,.int .u8 0,.int .u8 0,.int .u8 0,.int .u8 0,.int .u8 0,.int .u8 0,.int .u8 0,.int .u8 0,.int .u8 0,.int .u8 0,.int .u8 0,.int .u8 0] 0 c86)⟩ 28 fun a87 w88 =>
 rdO w88 (some a87) (1 * 20) fun c89 =>
 apK Try.prog 28 w88 t6.a t6.len t6.cap 1 c89 fun s90 w91 =>
 lt (IntKind.i64.wrap (t9+1)) fun x92 =>
 nx2 d_0 i_1 t5 s90 x92 w91) (
 trovelaw19_GraphMany.j5 d_0 t5 t6 Q w)
def trovelaw19_GraphMany.l2 (d_0 i_1:Int) (t5:Sl) (t6:Sl) (t9:Int) (Q:VWP) (w:World):Prop :=
 ∃ (I:Sl→Int→WP) (μ:Sl→Int→World→Nat),I t6 t9 w∧∀ t6:Sl,∀ t9:Int,∀ w:World,I t6 t9 w→trovelaw19_GraphMany.b2 d_0 i_1 t5 t6 t9 Q (fun d_0' i_1' t5' t6' t9' w'=>(d_0'=d_0∧i_1'=i_1∧t5'=t5)∧I t6' t9' w'∧μ t6' t9' w' < μ t6 t9 w) w
def trovelaw19_GraphMany.j15 (d_0 i_1:Int) (t5:Sl) (t6:Sl) (t9:Int) (Q:VWP) (w:World):Prop :=
 trovelaw19_GraphMany.l2 d_0 i_1 t5 t6 t9 Q w
def trovelaw19_GraphMany.j4 (d_0 i_1:Int) (t5:Sl) (t6:Sl) (Q:VWP) (w:World):Prop :=
 trovelaw19_GraphMany.j15 d_0 i_1 t5 t6 0 Q w
def trovelaw19_GraphMany.b3 (d_0 i_1:Int) (t6:Sl) (t5:Sl) (t7:Int) (Q:VWP) (nx3:Int→Int→Sl→Sl→Int→WP) (w:World):Prop :=
 br (decide (t7 < d_0)) (
 nw w (zc Try.prog 31) 31 fun a93 w94 =>
 ((⟨(List.set (zc Try.prog 31).toList 41 (.int .i64 t7))⟩:Array Value)).size=42 ∧
 stA w94 a93 (⟨(List.set (zc Try.prog 31).toList 41 (.int .i64 t7))⟩:Array Value) fun w95 =>
 lt (IntKind.i64.wrap (2 * t7)) fun x96 =>
 lt (IntKind.i64.wrap (x96+1)) fun x97 =>
 lt (IntKind.u8.wrap x97) fun x98 =>
 ixA (Addr.add a93 0) 20 0 1 fun a99 =>
 st w95 a99 (.int .u8 x98) fun w100 =>
 ldA w100 a93 42 fun c101 =>
 (c101).size=42 ∧
 nw w100 ⟨(spl (qie 1 (zc Try.prog 31).toList) 0 c101)⟩ 31 fun a102 w103 =>
 rdO w103 (some a102) (1 * 42) fun c104 =>
 apK Try.prog 31 w103 t5.a t5.len t5.cap 1 c104 fun s105 w106 =>
 lt (IntKind.i64.wrap (t7+1)) fun x107 =>
 nx3 d_0 i_1 t6 s105 x107 w106) (
 trovelaw19_GraphMany.j4 d_0 i_1 t5 t6 Q w)
def trovelaw19_GraphMany.l3 (d_0 i_1:Int) (t6:Sl) (t5:Sl) (t7:Int) (Q:VWP) (w:World):Prop :=
 ∃ (I:Sl→Int→WP) (μ:Sl→Int→World→Nat),I t5 t7 w∧∀ t5:Sl,∀ t7:Int,∀ w:World,I t5 t7 w→trovelaw19_GraphMany.b3 d_0 i_1 t6 t5 t7 Q (fun d_0' i_1' t6' t5' t7' w'=>(d_0'=d_0∧i_1'=i_1∧t6'=t6)∧I t5' t7' w'∧μ t5' t7' w' < μ t5 t7 w) w
def trovelaw19_GraphMany.j16 (d_0 i_1:Int) (t5:Sl) (t6:Sl) (t7:Int) (Q:VWP) (w:World):Prop :=
 trovelaw19_GraphMany.l3 d_0 i_1 t6 t5 t7 Q w
def trovelaw19_GraphMany.j3 (d_0 i_1:Int) (t5:Sl) (t6:Sl) (Q:VWP) (w:World):Prop :=
 trovelaw19_GraphMany.j16 d_0 i_1 t5 t6 0 Q w
def trovelaw19_GraphMany.j2 (d_0 i_1:Int) (Q:VWP) (w:World):Prop :=
 trovelaw19_GraphMany.j3 d_0 i_1 ⟨none,0,0⟩ ⟨none,0,0⟩ Q w
def trovelaw19_GraphMany.j1 (d_0 i_1:Int) (Q:VWP) (w:World):Prop :=
 cr_B 5 [] w fun r110 w109 =>
 br (!r110) (
 Q (.bool false) w109) (
 br (decide (d_0 < 0)) (
 Q (.bool true) w109) (
 br (decide (d_0 > 30)) (
 Q (.bool true) w109) (
 br (decide (i_1 < 0)) (
 Q (.bool true) w109) (
 trovelaw19_GraphMany.j2 d_0 i_1 Q w109))))
def trovelaw19_GraphMany (d_0 i_1:Int) (Q:VWP) (w:World):Prop :=
 trovelaw19_GraphMany.j1 d_0 i_1 Q w
theorem trovelaw19_GraphMany.ok (d_0:Int) (i_1:Int) (Q:VWP) (w:World) (h:trovelaw19_GraphMany d_0 i_1 Q w):Calls Try.prog 4 ⟨[.int .i64 d_0,.int .i64 i_1]⟩ w (Ret Q) :=
 qqb [.tmp 4] qed Try.func4 rfl rfl rfl rfl (.sq [sI 0,sI 1] (fun a b w=>trovelaw19_GraphMany.j1 a b Q w) .lf (.pr 1 [sI 0,sI 1] (fun a b w=>trovelaw19_GraphMany.j2 a b Q w) (.pr 1 [sI 0,sI 1,sL 5,sL 6] (fun a b c d w=>trovelaw19_GraphMany.j3 a b c d Q w) (.sq [sI 0,sI 1,sL 5,sL 6] (fun a b c d w=>trovelaw19_GraphMany.j4 a b c d Q w) (.sq [sI 0,sI 1,sL 5,sL 6,sI 7] (fun a b c d e w=>trovelaw19_GraphMany.j16 a b c d e Q w) .lf (.bk (.lo [sI 0,sI 1,sL 6] [sL 5,sI 7] (fun a b c d e w=>trovelaw19_GraphMany.l3 a b c d e Q w) (fun nx3 a b c d e w=>trovelaw19_GraphMany.b3 a b c d e Q nx3 w) fun nx3=>.lf))) (.sq [sI 0,sL 5,sL 6] (fun a b c w=>trovelaw19_GraphMany.j5 a b c Q w) (.sq [sI 0,sI 1,sL 5,sL 6,sI 9] (fun a b c d e w=>trovelaw19_GraphMany.j15 a b c d e Q w) .lf (.bk (.lo [sI 0,sI 1,sL 5] [sL 6,sI 9] (fun a b c d e w=>trovelaw19_GraphMany.l2 a b c d e Q w) (fun nx2 a b c d e w=>trovelaw19_GraphMany.b2 a b c d e Q nx2 w) fun nx2=>.lf))) (.pr 1 [sI 0,sL 5,sL 6,sA 10] (fun a b c d w=>trovelaw19_GraphMany.j6 a b c d Q w) (.pr 1 [sI 0,sL 5,sL 6,sA 10,sA 11] (fun a b c d e w=>trovelaw19_GraphMany.j7 a b c d e Q w) (.pr 1 [sI 0,sL 5,sL 6,sA 10] (fun a b c d w=>trovelaw19_GraphMany.j8 a b c d Q w) (.pr 1 [sI 0,sL 6,sA 10,sL 12,sI 13] (fun a b c d e w=>trovelaw19_GraphMany.j9 a b c d e Q w) (.pr 1 [sI 0,sL 6,sA 10,sP 14] (fun a b c d w=>trovelaw19_GraphMany.j10 a b c d Q w) (.pr 1 [sI 0,sL 6,sP 14,sI 16,sB 17,sA 18,sB 19] (fun a b c d e f g w=>trovelaw19_GraphMany.j11 a b c d e f g Q w) (.pr 1 [sI 0,sL 6,sP 14,sI 16,sA 18,sL 20] (fun a b c d e f w=>trovelaw19_GraphMany.j12 a b c d e f Q w) (.sq [sI 0,sP 14,sI 16] (fun a b c w=>trovelaw19_GraphMany.j13 a b c Q w) (.sq [sI 0,sL 6,sP 14,sI 16,sA 18,sL 20,sI 21] (fun a b c d e f g w=>trovelaw19_GraphMany.j14 a b c d e f g Q w) .lf (.bk (.lo [sI 0,sL 6,sP 14,sI 16,sA 18,sL 20] [sI 21] (fun a b c d e f g w=>trovelaw19_GraphMany.l1 a b c d e f g Q w) (fun nx1 a b c d e f g w=>trovelaw19_GraphMany.b1 a b c d e f g Q nx1 w) fun nx1=>.lf))) .lf))))))))))))) (by kernel_rfl) h
end Go.Proofs.Ytigmbblgfnkpbaa
namespace Go.Proofs.Ytigmbblgfnkpbaa
open Go Go.Proofs
set_option linter.unusedVariables false
set_option linter.unusedSimpArgs false
structure Cm where
 id:Nm
 qwe:Nm
 par:List Nm
 date:Int
instance:Inhabited Cm:=⟨⟨default,default,[],0⟩⟩
def Nd.tr (n:Nd):Nm:=⟨n.qwe,n.htr,n.btr⟩
def cmN (pr:Nd→List Nm) (n:Nd):Cm:=⟨n.nm,n.tr,pr n,n.date⟩
section
variable (f:Nm→Option (List Nm)) (lost:Bool)
def fineF (ps:List Nm):Bool:=lost || ps.all fun p=>(f p).isSome
inductive EnF:List Nm→Prop
 | nil:EnF []
 | snoc {O:List Nm} {c:Nm} {ps:List Nm}:EnF O→f c=some ps→fineF f lost ps=true→(∀ p ∈ ps,(f p).isSome=true→p ∈ O)→EnF (O ++ [c])
def mxF (g:Nm→Int) (O:List Nm):List Nm→Int
 | []=>0
 | p :: ps=>if p ∈ O then max (g p+1) (mxF g O ps) else mxF g O ps
def MostF (O:List Nm):Prop:=∀ k ps,f k=some ps→fineF f lost ps=true→(∀ p ∈ ps,(f p).isSome=true→p ∈ O)→k ∈ O
structure Wk (O:List Nm) (g:Nm→Int):Prop where
 nd:O.Nodup
 en:EnF f lost O
 most:MostF f lost O
 gens:∀ c ps,c ∈ O→f c=some ps→g c=max 1 (mxF g O ps)
end
section
variable {f:Nm→Option (List Nm)} {lost:Bool} {O O1 O2 A:List Nm} {g g1 g2:Nm→Int}
theorem EnF.dom (h:EnF f lost A):∀ q ∈ A,∃ ps,f q=some ps∧fineF f lost ps=true∧∀ p ∈ ps,(f p).isSome=true→p ∈ A:=by
 induction h with
 | nil=>intro q hq; cases hq
 | @snoc O c ps _ h1 h2 h3 ih =>
   intro q hq
   rcases List.mem_append.1 hq with hq | hq
   · obtain ⟨ms,k1,k2,k3⟩:=ih q hq
     exact ⟨ms,k1,k2,fun p hp hm=>List.mem_append_left _ (k3 p hp hm)⟩
   · have:q=c:=by simpa using hq
     subst this
     exact ⟨ps,h1,h2,fun p hp hm=>List.mem_append_left _ (h3 p hp hm)⟩
theorem mxF_same {ps:List Nm} (h:∀ p ∈ ps,(p ∈ O1 ↔ p ∈ O2)∧(p ∈ O1→g1 p=g2 p)):mxF g1 O1 ps=mxF g2 O2 ps:=by
 induction ps with
 | nil=>rfl
 | cons p ps ih =>
   obtain ⟨h1,h2⟩:=h p (by simp)
   rw [mxF,mxF,ih fun q hq=>h q (by simp [hq])]
   by_cases g:p ∈ O1
   · rw [if_pos g,if_pos (h1.1 g),h2 g]
   · rw [if_neg g,if_neg fun e=>g (h1.2 e)]
theorem wk_sub (h1:Wk f lost O1 g1) (h2:Wk f lost O2 g2):∀ {A:List Nm},EnF f lost A→(∀ q ∈ A,q ∈ O1)→∀ q ∈ A,q ∈ O2∧g1 q=g2 q:=by
 intro A hA
 induction hA with
 | nil=>intro _ q hq; cases hq
 | @snoc A c ps hA hn hf hp ih =>
   intro hs q hq
   have ih:=ih fun q hq=>hs q (List.mem_append_left _ hq)
   rcases List.mem_append.1 hq with hq | hq
   · exact ih q hq
   · have:q=c:=by simpa using hq
     subst this
     have hq1:q ∈ O1:=hs q (by simp)
     have hq2:q ∈ O2:=h2.most q ps hn hf fun p hpp hm=>(ih p (hp p hpp hm)).1
     refine ⟨hq2,?_⟩
     rw [h1.gens q ps hq1 hn,h2.gens q ps hq2 hn]
     have:mxF g1 O1 ps=mxF g2 O2 ps:=mxF_same fun p hpp=>by
      by_cases hm:(f p).isSome=true
      · have hpA:=hp p hpp hm
        exact ⟨⟨fun _=>(ih p hpA).1,fun _=>hs p (List.mem_append_left _ hpA)⟩,fun _=>(ih p hpA).2⟩
      · have no:∀ {O g},Wk f lost O g→p ∉ O:=fun h hpO=>by
         obtain ⟨ms,k1,_⟩:=h.en.dom p hpO
         rw [k1] at hm
         exact hm rfl
        exact ⟨⟨fun e=>absurd e (no h1),fun e=>absurd e (no h2)⟩,fun e=>absurd e (no h1)⟩
     rw [this]
theorem wk_one (h1:Wk f lost O1 g1) (h2:Wk f lost O2 g2):(∀ q,q ∈ O1 ↔ q ∈ O2)∧∀ q ∈ O1,g1 q=g2 q :=
 ⟨fun q=>⟨fun h=>(wk_sub h1 h2 h1.en (fun q hq=>hq) q h).1,fun h=>(wk_sub h2 h1 h2.en (fun q hq=>hq) q h).1⟩,fun q h=>(wk_sub h1 h2 h1.en (fun q hq=>hq) q h).2⟩
theorem wk_len (h1:Wk f lost O1 g1) (h2:Wk f lost O2 g2):O1.length=O2.length :=
 Nat.le_antisymm (qaf h1.nd fun x hx=>((wk_one h1 h2).1 x).1 hx) (qaf h2.nd fun x hx=>((wk_one h1 h2).1 x).2 hx)
theorem Wk.bound (h:Wk f lost O g):∀ {A:List Nm},EnF f lost A→A.Nodup→(∀ q ∈ A,q ∈ O)→∀ q ∈ A,1≤g q∧g q≤A.length:=by
 intro A hA
 induction hA with
 | nil=>intro _ _ q hq; cases hq
 | @snoc A c ps hA hn hf hp ih =>
   intro hnd hs q hq
   have ih:=ih (List.nodup_append.1 hnd).1 fun q hq=>hs q (List.mem_append_left _ hq)
   rw [List.length_append,List.length_singleton]
   rcases List.mem_append.1 hq with hq | hq
   · have:=ih q hq; omega
   · have:q=c:=by simpa using hq
     subst this
     have e:=h.gens q ps (hs q (by simp)) hn
     have hb:∀ ps',(∀ p ∈ ps',p ∈ ps)→mxF g O ps'≤A.length+1:=by
      intro ps'
      induction ps' with
      | nil=>intro _; rw [mxF]; omega
      | cons p ps' ih2 =>
        intro hsub
        rw [mxF]
        have:=ih2 fun q hq=>hsub q (by simp [hq])
        split
        · rename_i hpO
          have hpA:=hp p (hsub p (by simp)) (by
           obtain ⟨ms,k1,_⟩:=h.en.dom p hpO
           rw [k1]; rfl)
          have:=ih p hpA
          omega
        · exact this
     have:=hb ps fun p hp=>hp
     omega
end
section
variable {M:Rws Nd} {pr:Nd→List Nm} {lost:Bool} {O:List Nm} {G:Rws Int}
theorem inM_map (p:Nm):inM M p=((lkE M p.1).map pr).isSome:=by
 unfold inM
 cases lkE M p.1 <;> rfl
theorem fine_map (n:Nd):fineN M pr lost n=fineF (fun k=>(lkE M k.1).map pr) lost (pr n):=by
 unfold fineN fineF
 congr 2
 funext p
 exact inM_map p
theorem mx_map (O:List Nm) (ps:List Nm):mxP G O ps=mxF (gD G) O ps:=by
 induction ps with
 | nil=>rfl
 | cons p ps ih=>rw [mxP,mxF,ih]
theorem WkE.wk (h:WkE M pr lost O G):Wk (fun k=>(lkE M k.1).map pr) lost O (gD G):=by
 refine ⟨h.nd,?_,?_,?_⟩
 · have:=h.en
   clear h
   induction this with
   | nil=>exact .nil
   | @snoc A c n hA h1 h2 h3 ih =>
     refine .snoc ih (by rw [h1]; rfl) (by rw [← fine_map]; exact h2) fun p hp hm=>h3 p hp ?_
     rw [inM_map (pr:=pr)]
     exact hm
 · intro k ps hk hf hp
   have hk:(lkE M k.1).map pr=some ps:=hk
   cases hl:lkE M k.1 with
   | none=>rw [hl] at hk; cases hk
   | some n =>
     rw [hl] at hk
     injection hk with hk
     subst hk
     refine h.most k n hl (by rw [fine_map]; exact hf) fun p hpp hm=>hp p hpp ?_
     rw [← inM_map (pr:=pr)]
     exact hm
 · intro c ps hc hk
   have hk:(lkE M c.1).map pr=some ps:=hk
   cases hl:lkE M c.1 with
   | none=>rw [hl] at hk; cases hk
   | some n =>
     rw [hl] at hk
     injection hk with hk
     subst hk
     have:=h.gens c n hc hl
     show (lkE G c.1).getD 0=_
     rw [this,Option.getD_some]
     unfold mx
     rw [mx_map]
end
def fC (C:List Cm) (k:Nm):Option (List Nm):=(C.find? fun c=>decide (c.id=k)).map (·.par)
def fstC (C:List Cm) (k:Nm):Option Cm:=C.find? fun c=>decide (c.id=k)
theorem lk_addE (E:Rws Nd) (n:Nd) (k:List Int):lkE (addE E n) k=(lkE E k).or (if n.id=k then some n else none):=by
 unfold addE
 cases h:lkE E n.id with
 | some x =>
   simp only [Option.isSome_some,if_true]
   by_cases g:n.id=k
   · subst g; rw [h]; rfl
   · rw [if_neg g]; simp
 | none =>
   simp only [Option.isSome_none,Bool.false_eq_true,if_false]
   rw [qrh]
   by_cases g:n.id=k
   · subst g; rw [if_pos rfl,h]; simp
   · rw [if_neg g,if_neg fun e=>g e.symm]; simp
theorem lk_foldE (L:List Nd) (k:List Int):∀ E:Rws Nd,lkE (L.foldl addE E) k=(lkE E k).or (L.find? fun n=>decide (n.id=k)):=by
 induction L with
 | nil=>intro E; simp
 | cons n L ih =>
   intro E
   rw [List.foldl_cons,ih,lk_addE,List.find?_cons]
   by_cases g:n.id=k
   · simp [g]
   · simp [g]
theorem lk_firstE (L:List Nd) (k:List Int):lkE (qcc L) k=L.find? fun n=>decide (n.id=k):=by
 unfold qcc
 rw [lk_foldE]
 simp [qjk]
theorem nm_eq {n:Nd} {k:Nm}:n.nm=k ↔ n.id=k.1:=⟨fun h=>by rw [← h]; rfl,fun h=>Nm.ext' h⟩
theorem find_cm (pr:Nd→List Nm) (L:List Nd) (k:Nm):fstC (L.map (cmN pr)) k=(L.find? fun n=>decide (n.id=k.1)).map (cmN pr):=by
 unfold fstC
 rw [List.find?_map]
 congr 2
 funext n
 show decide (n.nm=k)=_
 simp only [nm_eq]
theorem qqk (C:List Cm) (k:Nm):fC C k=(fstC C k).map (·.par):=rfl
theorem fC_first (pr:Nd→List Nm) (L:List Nd):(fun k:Nm=>(lkE (qcc L) k.1).map pr)=fC (L.map (cmN pr)):=by
 funext k
 rw [qqk,find_cm,lk_firstE,Option.map_map]
 rfl
theorem fC_rows (pr:Nd→List Nm) {L:List Nd} (h:(L.map (·.id)).Nodup):(fun k:Nm=>(lkE (rowsN L) k.1).map pr)=fC (L.map (cmN pr)):=by
 rw [← quh h]
 exact fC_first pr L
theorem fst_id {C:List Cm} {k:Nm} {c:Cm} (h:fstC C k=some c):c ∈ C∧c.id=k:=⟨List.mem_of_find?_eq_some h,by have:=List.find?_some h; simpa using this⟩
theorem qmj {C:List Cm} (hn:(C.map (·.id)).Nodup) {c:Cm} (hc:c ∈ C):fstC C c.id=some c:=by
 induction C with
 | nil=>cases hc
 | cons d C ih =>
   have hn':d.id ∉ C.map (·.id)∧(C.map (·.id)).Nodup:=List.nodup_cons.1 hn
   unfold fstC
   rw [List.find?_cons]
   rcases List.mem_cons.1 hc with rfl | hc
   · simp
   · have:¬ d.id=c.id:=fun e=>hn'.1 (by rw [e]; exact List.mem_map.2 ⟨c,hc,rfl⟩)
     simp only [this,decide_false]
     exact ih hn'.2 hc
theorem fst_none {C:List Cm} {k:Nm}:fstC C k=none ↔ k ∉ C.map (·.id):=by
 unfold fstC
 rw [List.find?_eq_none]
 constructor
 · intro h hm
   obtain ⟨c,hc,e⟩:=List.mem_map.1 hm
   exact h c hc (by simpa using e)
 · intro h c hc e
   exact h (List.mem_map.2 ⟨c,hc,by simpa using e⟩)
theorem qpg {C:List Cm} {k:Nm}:(fC C k).isSome=true ↔ k ∈ C.map (·.id):=by
 rw [qqk,Option.isSome_map]
 cases h:fstC C k with
 | none=>simp [fst_none.1 h]
 | some c =>
   obtain ⟨h1,h2⟩:=fst_id h
   simp
   exact ⟨c,h1,h2⟩
theorem fC_perm {C D:List Cm} (hn:(C.map (·.id)).Nodup) (hp:C.Perm D):fC C=fC D:=by
 have hn2:(D.map (·.id)).Nodup:=(hp.map _).nodup_iff.1 hn
 funext k
 rw [qqk,qqk]
 congr 1
 cases h:fstC D k with
 | none =>
   rw [fst_none] at h ⊢
   exact fun e=>h ((hp.map _).mem_iff.1 e)
 | some d =>
   obtain ⟨h1,h2⟩:=fst_id h
   subst h2
   exact qmj hn (hp.mem_iff.2 h1)
theorem srt_eq {α:Type} {r:α→α→Prop} (ha:∀ a b,r a b→¬ r b a):∀ {A B:List α},A.Pairwise r→B.Pairwise r→(∀ x,x ∈ A ↔ x ∈ B)→A=B:=by
 intro A
 induction A with
 | nil =>
   intro B _ _ h
   cases B with
   | nil=>rfl
   | cons b B=>exact absurd ((h b).2 (by simp)) (by simp)
 | cons a A ih =>
   intro B hA hB h
   cases B with
   | nil=>exact absurd ((h a).1 (by simp)) (by simp)
   | cons b B =>
     obtain ⟨a1,a2⟩:=List.pairwise_cons.1 hA
     obtain ⟨b1,b2⟩:=List.pairwise_cons.1 hB
     have irr:∀ x,¬ r x x:=fun x hx=>ha x x hx hx
     have e:a=b:=by
      rcases List.mem_cons.1 ((h a).1 (by simp)) with e | h1
      · exact e
      · rcases List.mem_cons.1 ((h b).2 (by simp)) with e | h2
        · exact e.symm
        · exact absurd (b1 a h1) (ha _ _ (a1 b h2))
     subst e
     rw [ih a2 b2 fun x=>⟨fun hx=>?_,fun hx=>?_⟩]
     · rcases List.mem_cons.1 ((h x).1 (by simp [hx])) with e | h1
       · subst e; exact absurd (a1 x hx) (irr x)
       · exact h1
     · rcases List.mem_cons.1 ((h x).2 (by simp [hx])) with e | h1
       · subst e; exact absurd (b1 x hx) (irr x)
       · exact h1
def ltC (a b:Cm):Prop:=ltI a.id.1 b.id.1=true
theorem ltC_asymm (a b:Cm) (h:ltC a b):¬ ltC b a:=fun e=>by
 have:=ltI_asymm h
 unfold ltC at e
 rw [this] at e
 cases e
theorem ltC_eq {A B:List Cm} (hA:A.Pairwise ltC) (hB:B.Pairwise ltC) (h:A.Perm B):A=B:=srt_eq ltC_asymm hA hB fun x=>h.mem_iff
end Go.Proofs.Ytigmbblgfnkpbaa
namespace Go.Proofs.Ytigmbblgfnkpbaa
open Go Go.Proofs
set_option linter.unusedVariables false
set_option linter.unusedSimpArgs false
attribute [local irreducible] apK cpK mkK br
abbrev Cx:=Nd × List Nm
def cxA (x:Cx):As:=rdA 20 x.1.par (x.2.flatMap nmC)
def cmX (x:Cx):Cm:=⟨x.1.nm,x.1.tr,x.2,x.1.date⟩
def ndX (X:List Cx):List Nd:=X.map (·.1)
theorem ndX_app (X Y:List Cx):ndX (X ++ Y)=ndX X ++ ndX Y:=by simp [ndX]
theorem qgi (X:List Cx):(ndX X).length=X.length:=by simp [ndX]
section
variable {F0:List Nat} {w0 w:World} {ps rest:List As} {s:Sl} {L:List Nd} {pr:Nd→List Nm} {X:List Cx} {K:Ending→World→Prop}
theorem mem_perm {α:Type} {x:α}:∀ {X:List α},x ∈ X→∃ Y,X.Perm (x :: Y):=by
 intro X
 induction X with
 | nil=>intro h; cases h
 | cons y X ih =>
   intro h
   rcases List.mem_cons.1 h with rfl | h
   · exact ⟨X,.refl _⟩
   · obtain ⟨Y,hY⟩:=ih h
     exact ⟨y :: Y,(hY.cons y).trans (.swap x y Y)⟩
theorem quk {x:Cx} (hx:x ∈ X):Rdb F0 w0 x.1.par (qzd (X.map cxA) :: ps) 20 (x.2.flatMap nmC):=by
 obtain ⟨Y,hY⟩:=mem_perm hx
 exact ⟨fun h=>((h.bagP (hY.map cxA)).bagOut).rd⟩
theorem nmC_inj:∀ {P Q:List Nm},P.flatMap nmC=Q.flatMap nmC→P=Q:=by
 intro P
 induction P with
 | nil =>
   intro Q h
   cases Q with
   | nil=>rfl
   | cons q Q =>
     have:=congrArg List.length h
     rw [qoc,qoc,List.length_cons] at this
     simp at this
 | cons p P ih =>
   intro Q h
   cases Q with
   | nil =>
     have:=congrArg List.length h
     rw [qoc,qoc,List.length_cons] at this
     simp at this
   | cons q Q =>
     rw [qff,qff] at h
     have lenC:∀ p:Nm,(nmC p).length=20:=fun p=>(inferInstance:Rec nmC 20).len p
     obtain ⟨h1,h2⟩:=List.append_inj h (by rw [lenC,lenC])
     rw [ih h2,Nm.ext' (ivs_inj h1)]
theorem rd_one {sz:Nat} {cs ds:List Value} (h1:Rd w sz s cs) (h2:Rd w sz s ds):cs=ds:=by
 have hl:cs.length=ds.length:=h1.1.trans h2.1.symm
 apply List.ext_getElem? 
 intro i
 by_cases hi:i < cs.length
 · obtain ⟨a,ha,c1⟩:=h1.2 i hi
   obtain ⟨b,hb,c2⟩:=h2.2 i (by omega)
   rw [ha] at hb
   injection hb with hb
   subst hb
   rw [← c1,← c2]
 · rw [List.getElem?_eq_none (by omega),List.getElem?_eq_none (by omega)]
open Classical in
theorem St.prX (h:St F0 w0 w ps) (hP:∀ x ∈ X,Rdb F0 w0 x.1.par ps 20 (x.2.flatMap nmC)):∃ pr:Nd→List Nm,∀ x ∈ X,pr x.1=x.2:=by
 refine ⟨fun n=>if hn:∃ x ∈ X,x.1=n then hn.choose.2 else [],fun x hx=>?_⟩
 have hn:∃ y ∈ X,y.1=x.1:=⟨x,hx,rfl⟩
 show (if hn:∃ y ∈ X,y.1=x.1 then hn.choose.2 else [])=_
 rw [dif_pos hn]
 obtain ⟨h1,h2⟩:=hn.choose_spec
 generalize hn.choose=y at h1 h2
 haveI:=hP y h1
 haveI:=hP x hx
 have r1:=h.rdb y.1.par
 have r2:=h.rdb x.1.par
 rw [h2] at r1
 exact nmC_inj (rd_one r1 r2)
theorem qaj (hpr:∀ x ∈ X,pr x.1=x.2):(ndX X).map (cmN pr)=X.map cmX:=by
 unfold ndX
 rw [List.map_map]
 refine List.map_congr_left fun x hx=>?_
 show (⟨x.1.nm,x.1.tr,pr x.1,x.1.date⟩:Cm)=_
 rw [hpr x hx]
 rfl
end
end Go.Proofs.Ytigmbblgfnkpbaa
namespace Go.Proofs.Ytigmbblgfnkpbaa
open Go Go.Proofs
set_option linter.unusedVariables false
set_option linter.unusedSimpArgs false
attribute [local irreducible] apK cpK mkK br
def fndN (L:List Nd) (k:List Int):Option Nd:=L.find? fun n=>decide (n.id=k)
theorem fnd_app (L M:List Nd) (k:List Int):fndN (L ++ M) k=(fndN L k).or (fndN M k):=by unfold fndN; exact List.find?_append ..
theorem fnd_cons (n:Nd) (L:List Nd) (k:List Int):fndN (n :: L) k=if n.id=k then some n else fndN L k:=by
 unfold fndN
 rw [List.find?_cons]
 by_cases g:n.id=k
 · simp [g]
 · simp [g]
theorem fnd_some {L:List Nd} {k:List Int} {n:Nd} (h:fndN L k=some n):n ∈ L∧n.id=k:=⟨List.mem_of_find?_eq_some h,by have:=List.find?_some h; simpa using this⟩
abbrev RisN (R:List Nd):Prop:=R.Pairwise fun x y=>ltN x y=true
theorem RisN.nd {R:List Nd} (h:RisN R):(R.map (·.id)).Nodup:=by
 unfold List.Nodup
 rw [List.pairwise_map]
 exact h.imp fun {a b} hab e=>by
  unfold ltN at hab
  rw [e,qqf] at hab
  cases hab
theorem qnj {R:List Nd} (hn:(R.map (·.id)).Nodup) {n:Nd} (h:n ∈ R):fndN R n.id=some n:=by
 induction R with
 | nil=>cases h
 | cons m R ih =>
   have hn':m.id ∉ R.map (·.id)∧(R.map (·.id)).Nodup:=List.nodup_cons.1 hn
   rw [fnd_cons]
   rcases List.mem_cons.1 h with rfl | h
   · simp
   · rw [if_neg fun e=>hn'.1 (by rw [e]; exact List.mem_map.2 ⟨n,h,rfl⟩),ih hn'.2 h]
structure SrtN (L R:List Nd):Prop where
 ris:RisN R
 fnd:∀ k,fndN R k=fndN L k
theorem SrtN.perm {L R:List Nd} (h:SrtN L R) (hn:(L.map (·.id)).Nodup):R.Perm L:=by
 have nd:∀ {A:List Nd},(A.map (·.id)).Nodup→A.Nodup:=fun h=>by
  unfold List.Nodup at h ⊢
  rw [List.pairwise_map] at h
  exact h.imp fun hab e=>hab (by rw [e])
 rw [List.perm_ext_iff_of_nodup (nd h.ris.nd) (nd hn)]
 intro n
 constructor
 · intro hm
   have:=qnj h.ris.nd hm
   rw [h.fnd] at this
   exact (fnd_some this).1
 · intro hm
   have:=qnj hn hm
   rw [← h.fnd] at this
   exact (fnd_some this).1
theorem SrtN.skip {L R:List Nd} {n m:Nd} (h:SrtN L R) (hm:m ∈ R) (e:m.id=n.id):SrtN (L ++ [n]) R:=by
 refine ⟨h.ris,fun k=>?_⟩
 rw [fnd_app,h.fnd,fnd_cons]
 by_cases g:n.id=k
 · rw [if_pos g]
   have:=qnj h.ris.nd hm
   rw [e,g,h.fnd] at this
   rw [this]; rfl
 · rw [if_neg g]
   show _=Option.or _ none
   simp
section
variable {F0:List Nat} {w0 w:World} {ps rest:List As} {s t:Sl} {L R:List Nd} {n:Nd} {K:Ending→World→Prop} {k i:Nat}
 {Q:VWP} {nx1:Sl→Sl→Int→World→Prop}
end
end Go.Proofs.Ytigmbblgfnkpbaa
namespace Go.Proofs.Ytigmbblgfnkpbaa
open Go Go.Proofs
set_option linter.unusedVariables false
set_option linter.unusedSimpArgs false
attribute [local irreducible] apK cpK mkK br
theorem atD_neg:∀ {L:List Nd} {q:Nm},atD L q < 0 ↔ q ∉ L.map Nd.nm:=by
 intro L
 induction L with
 | nil=>intro q; simp [atD]
 | cons n L ih =>
   intro q
   rw [atD,List.map_cons,List.mem_cons]
   by_cases g:n.id=q.1
   · rw [if_pos g]
     have:q=n.nm:=(nm_eq.2 g).symm
     simp [this]
   · rw [if_neg g]
     have hne:¬ q=n.nm:=fun e=>g (nm_eq.1 e.symm)
     by_cases g2:atD L q < 0
     · rw [if_pos g2]
       have:=ih.1 g2
       simp [hne,this]
     · rw [if_neg g2]
       have:q ∈ L.map Nd.nm:=Classical.byContradiction fun e=>g2 (ih.2 e)
       constructor
       · intro; omega
       · intro h; exact absurd (Or.inr this) h
theorem SrtN.sub {L S:List Nd} (h:SrtN L S) {n:Nd} (hn:n ∈ S):n ∈ L∧fndN L n.id=some n:=by
 have:=qnj h.ris.nd hn
 rw [h.fnd] at this
 exact ⟨(fnd_some this).1,this⟩
section
variable {F0:List Nat} {w0 w:World} {ps rest:List As} {s t:Sl} {L R:List Nd} {n:Nd} {pr:Nd→List Nm} {K:Ending→World→Prop}
end
end Go.Proofs.Ytigmbblgfnkpbaa
namespace Go.Proofs.Ytigmbblgfnkpbaa
open Go Go.Proofs
set_option linter.unusedVariables false
set_option linter.unusedSimpArgs false
attribute [local irreducible] apK cpK mkK br
theorem atD_get:∀ {L:List Nd} {q:Nm} (h:0≤atD L q),∃ hj:(atD L q).toNat < L.length,L[(atD L q).toNat].nm=q:=by
 intro L q h
 have hm:q ∈ L.map Nd.nm:=Classical.byContradiction fun e=>by have:=atD_neg.2 e; omega
 obtain ⟨n,hn,e⟩:=List.mem_map.1 hm
 have:∀ {M:List Nd},0≤atD M q→∃ hj:(atD M q).toNat < M.length,M[(atD M q).toNat].nm=q:=by
  intro M
  induction M with
  | nil=>intro h; simp [atD] at h
  | cons m M ih =>
    intro h
    rw [atD] at h
    by_cases g:m.id=q.1
    · have e:atD (m :: M) q=0:=by rw [atD,if_pos g]
      simp only [e]
      exact ⟨by simp,nm_eq.2 g⟩
    · rw [if_neg g] at h
      by_cases g2:atD M q < 0
      · rw [if_pos g2] at h; omega
      · obtain ⟨hj,e1⟩:=ih (by omega)
        have e:(atD (m :: M) q).toNat=(atD M q).toNat+1:=by rw [atD,if_neg g,if_neg g2]; omega
        simp only [e]
        exact ⟨by rw [List.length_cons]; omega,by simpa using e1⟩
 exact this h
theorem atD_nd {L:List Nd} (hn:(L.map (·.id)).Nodup) {i:Nat} (hi:i < L.length):atD L L[i].nm=i :=
 atD_hit hi rfl fun j hj hji e=>by
  unfold List.Nodup at hn
  rw [List.pairwise_map] at hn
  exact List.pairwise_iff_getElem.1 hn j i hj hi hji e
def gF (L:List Nd) (gl:List Int) (q:Nm):Int:=if atD L q < 0 then 0 else gl.getD (atD L q).toNat 0
structure GnS (L:List Nd) (f:Nm→Option (List Nm)) (gl:List Int) (O:List Nm):Prop where
 len:gl.length=L.length
 nd:O.Nodup
 en:EnF f true O
 dn:∀ j (h:j < L.length),(L[j].nm ∈ O→1≤gl.getD j 0)∧(L[j].nm ∉ O→gl.getD j 0=0)
 gens:∀ c ps,c ∈ O→f c=some ps→gF L gl c=max 1 (mxF (gF L gl) O ps)
 bd:∀ q,gF L gl q≤O.length
theorem mxF_le {g:Nm→Int} {B:Int} (hB:0≤B) (h:∀ q,g q+1≤B) (O:List Nm):∀ ps,mxF g O ps≤B:=by
 intro ps
 induction ps with
 | nil=>exact hB
 | cons p ps ih =>
   rw [mxF]
   have:=h p
   split <;> omega
theorem GnS.step {L:List Nd} {f:Nm→Option (List Nm)} {gl:List Int} {O:List Nm} (h:GnS L f gl O) (hn:(L.map (·.id)).Nodup) {pr:Nd→List Nm} (hf:∀ k:Nm,f k=(fndN L k.1).map pr) {i:Nat} (hi:i < L.length) (hO:L[i].nm ∉ O) (hp:∀ p ∈ pr L[i],(f p).isSome=true→p ∈ O) :
 GnS L f (gl.set i (max 1 (mxF (gF L gl) O (pr L[i])))) (O ++ [L[i].nm]):=by
 have hfi:f L[i].nm=some (pr L[i]):=by
  rw [hf]
  show (fndN L L[i].id).map pr=_
  rw [qnj hn (List.getElem_mem hi)]
  rfl
 generalize hv:max 1 (mxF (gF L gl) O (pr L[i]))=v
 have hset:∀ j,j < L.length→(gl.set i v).getD j 0=if i=j then v else gl.getD j 0:=fun j hj=>getD_setL (by rw [h.len]; exact hi)
 have hgF:∀ q,q ≠ L[i].nm→gF L (gl.set i v) q=gF L gl q:=by
  intro q hq
  unfold gF
  by_cases g:atD L q < 0
  · rw [if_pos g,if_pos g]
  · rw [if_neg g,if_neg g]
    obtain ⟨hj,e⟩:=atD_get (L:=L) (q:=q) (by omega)
    rw [hset _ hj,if_neg fun e2=>hq (by
     subst e2
     exact e.symm)]
 have hgi:gF L (gl.set i v) L[i].nm=v:=by
  unfold gF
  rw [atD_nd hn hi,if_neg (by omega),Int.toNat_natCast,hset i hi,if_pos rfl]
 have hno:L[i].nm ∉ pr L[i]:=fun e=>hO (hp _ e (by rw [hfi]; rfl))
 have hmx:∀ ps,L[i].nm ∉ ps→mxF (gF L (gl.set i v)) (O ++ [L[i].nm]) ps=mxF (gF L gl) O ps:=by
  intro ps hps
  refine mxF_same fun p hpp=>?_
  have hne:p ≠ L[i].nm:=fun e=>hps (e ▸ hpp)
  exact ⟨by simp [hne],fun _=>hgF p hne⟩
 refine ⟨by rw [List.length_set]; exact h.len,?_,.snoc h.en hfi rfl hp,fun j hj=>?_,fun c ps hc hfc=>?_,fun q=>?_⟩
 · rw [List.nodup_append]
   exact ⟨h.nd,by simp,fun a ha b hb e=>hO (by
    have:b=L[i].nm:=by simpa using hb
    rw [← this,← e]; exact ha)⟩
 · rw [hset j hj]
   by_cases e:i=j
   · subst e
     rw [if_pos rfl]
     exact ⟨fun _=>by omega,fun e=>absurd (by simp) e⟩
   · rw [if_neg e]
     have hne:L[j].nm ≠ L[i].nm:=fun e2=>by
      have h1:=atD_nd hn hj
      rw [e2,atD_nd hn hi] at h1
      omega
     have:=h.dn j hj
     exact ⟨fun hm=>this.1 (by simpa [hne] using hm),fun hm=>this.2 fun h2=>hm (by simp [h2])⟩
 · rcases List.mem_append.1 hc with hc | hc
   · have hne:c ≠ L[i].nm:=fun e=>hO (e ▸ hc)
     rw [hgF c hne,h.gens c ps hc hfc,hmx]
     intro hps
     obtain ⟨ms,k1,_,k3⟩:=h.en.dom c hc
     rw [hfc] at k1
     injection k1 with k1
     subst k1
     exact hO (k3 _ hps (by rw [hfi]; rfl))
   · have:c=L[i].nm:=by simpa using hc
     subst this
     rw [hfi] at hfc
     injection hfc with hfc
     subst hfc
     rw [hgi,hmx _ hno]
     exact hv.symm
 · rw [List.length_append,List.length_singleton]
   have hb:=h.bd
   by_cases e:q=L[i].nm
   · subst e
     rw [hgi]
     have:=mxF_le (g:=gF L gl) (B:=(O.length:Int)+1) (by omega) (fun q=>by have:=hb q; omega) O (pr L[i])
     omega
   · rw [hgF q e]
     have:=hb q
     omega
end Go.Proofs.Ytigmbblgfnkpbaa
namespace Go.Proofs.Ytigmbblgfnkpbaa
open Go Go.Proofs
set_option linter.unusedVariables false
set_option linter.unusedSimpArgs false
attribute [local irreducible] apK cpK mkK br
section
variable {F0:List Nat} {w0 w:World} {ps rest:List As} {s t:Sl} {L R:List Nd} {n:Nd} {pr:Nd→List Nm} {K:Ending→World→Prop} {gl:List Int} {O:List Nm}
theorem GnS.at (h:GnS L (fC (L.map (cmN pr))) gl O) {p:Nm} (hp:0≤atD L p):∃ hj:(atD L p).toNat < L.length,gl.getD (atD L p).toNat 0=gF L gl p∧(p ∈ O→1≤gF L gl p)∧(p ∉ O→gF L gl p=0):=by
 obtain ⟨hj,e⟩:=atD_get hp
 have:=h.dn _ hj
 rw [e] at this
 have e2:gl.getD (atD L p).toNat 0=gF L gl p:=by unfold gF; rw [if_neg (by omega)]
 rw [e2] at this
 exact ⟨hj,e2,this⟩
end
end Go.Proofs.Ytigmbblgfnkpbaa
namespace Go.Proofs.Ytigmbblgfnkpbaa
open Go Go.Proofs
set_option linter.unusedVariables false
set_option linter.unusedSimpArgs false
attribute [local irreducible] apK cpK mkK br
structure OkC (C:List Cm):Prop where
 nd:(C.map (·.id)).Nodup
 dt:∀ c ∈ C,0≤c.date∧c.date < 17179869184
 par:∀ c ∈ C,∀ p ∈ c.par,p ∈ C.map (·.id)
theorem qsj (pr:Nd→List Nm) (L:List Nd):(L.map (cmN pr)).map (·.id)=L.map Nd.nm:=by
 rw [List.map_map]
 rfl
theorem qxf {L:List Nd}:(L.map Nd.nm).Nodup ↔ (L.map (·.id)).Nodup:=by
 unfold List.Nodup
 rw [List.pairwise_map,List.pairwise_map]
 exact ⟨fun h=>h.imp fun hab e=>hab (nm_eq.2 e),fun h=>h.imp fun hab e=>hab (nm_eq.1 e)⟩
theorem OkC.perm {C D:List Cm} (h:OkC C) (hp:C.Perm D):OkC D :=
 ⟨(hp.map _).nodup_iff.1 h.nd,fun c hc=>h.dt c (hp.mem_iff.2 hc),fun c hc p hpp=>(hp.map _).mem_iff.1 (h.par c (hp.mem_iff.2 hc) p hpp)⟩
section
variable {F0:List Nat} {w0 w:World} {ps rest:List As} {s t:Sl} {L R:List Nd} {n:Nd} {pr:Nd→List Nm} {K:Ending→World→Prop}
end
end Go.Proofs.Ytigmbblgfnkpbaa
