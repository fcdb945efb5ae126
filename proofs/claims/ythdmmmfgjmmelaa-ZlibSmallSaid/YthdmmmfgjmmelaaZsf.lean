/- Own texts as one, only what is reached (shake.py). -/
import Derived.Test.YthdmmmfgjmmelaaZse
import Derived.Test.YthdmmmfgjmmelaaProg
namespace Go.Proofs.Ythdmmmfgjmmelaa
open Go Go.Proofs
set_option linter.unusedVariables false
set_option linter.unusedSimpArgs false
attribute [local irreducible] apK cpK mkK br
abbrev Pk:=Int × Sl
def pkC (x:Pk):List Value:=[.int .i64 x.1,.slice x.2.a x.2.len x.2.cap]
def pks (L:List Pk):List Value:=L.flatMap pkC
theorem qtm (x:Pk) (L:List Pk):pks (x :: L)=pkC x ++ pks L:=rfl
theorem qrl (A B:List Pk):pks (A ++ B)=pks A ++ pks B:=by simp [pks]
theorem qhf (L:List Pk):(pks L).length=L.length * 2:=by
 induction L with
 | nil=>rfl
 | cons x L ih=>rw [qtm,List.length_append,ih,List.length_cons]; simp [pkC]; omega
theorem pkC_storable (x:Pk):∀ v ∈ (⟨pkC x⟩:Array Value),storable v:=by
 intro v hv
 have hv:v ∈ pkC x:=by simpa using hv
 simp [pkC] at hv
 rcases hv with rfl | rfl <;> trivial
section
variable {F0:List Nat} {w0 w:World} {ps rest:List As} {D A B:List Pk} {x y:Pk} {s:Sl}
theorem St.lpk {i:Int} {K:Array Value→Prop} (h:St F0 w0 w ps) [Rdb F0 w0 s ps 2 (pks D)] (A:List Pk) (x:Pk) (B:List Pk) (hD:D=A ++ x :: B) (hi:i=A.length) (hk:K ⟨pkC x⟩):ixS s.a s.len i 2 fun a=>ldA w a 2 K:=by
 have hr:=h.rdb s
 have hl:=hr.1
 rw [qhf,hD,List.length_append,List.length_cons] at hl
 subst hi
 refine hr.ix (by decide) (by omega) (by omega) fun a ha=>?_
 refine ⟨⟨pkC x⟩,rfl,fun j hj=>?_,hk⟩
 rw [qwk,hr.cell ha (by rw [qhf,hD,List.length_append,List.length_cons]; omega),hD,qrl,qtm,List.getElem?_append_right (by rw [qhf]; omega),qhf,List.getElem?_append_left (by simp [pkC]; omega)]
 rw [show ((A.length:Nat):Int).toNat * 2+j - A.length * 2=j by omega]
 simp
theorem St.spk {i:Int} {K:World→Prop} (h:St F0 w0 w (qdc 2 s (pks D) :: ps)) (A:List Pk) (x:Pk) (B:List Pk) (y:Pk) (hD:D=A ++ x :: B) (hi:i=A.length) (hk:∀ w',St F0 w0 w' (qdc 2 s (pks (A ++ y :: B)) :: ps)→K w') :
 ixS s.a s.len i 2 fun a=>(⟨pkC y⟩:Array Value).size=2∧Go.Proofs.Ythdmmmfgjmmelaa.stA w a ⟨pkC y⟩ K:=by
 subst hi
 subst hD
 have hl:=h.len
 rw [qhf,List.length_append,List.length_cons] at hl
 obtain ⟨f,ho,hst⟩:=h.step
 rcases ho with ⟨rfl,hnil,_⟩ | ⟨ob,rs,h1,hb,h2,h3,rfl⟩
 · simp only at hl; omega
 · unfold ixS
   rw [h1]
   refine ⟨⟨by omega,by omega⟩,rfl,?_⟩
   rw [qme,Nat.zero_add,Int.toNat_natCast]
   have e:pks (A ++ x :: B) ++ rs=pks A ++ (pkC x ++ (pks B ++ rs)):=by rw [qrl,qtm]; simp
   rw [e] at hb
   refine qnn hb ?_ (pkC_storable y) fun w' hm hb'=>hk w' (hst w' [ob] _ hm (Gr.refl _ _) (Or.inr ⟨ob,rs,h1,?_,?_,?_,rfl⟩))
   · simp only [List.length_append,qhf,pkC,List.length_cons,List.length_nil]
     show A.length * 2+2≤_
     omega
   · rw [show A.length * 2=(pks A).length from (qhf A).symm,List.take_left' rfl,← List.drop_drop,List.drop_left' rfl] at hb'
     rw [show (⟨pkC y⟩:Array Value).size=(pkC x).length from rfl,List.drop_left' rfl] at hb'
     rw [qrl,qtm]
     simpa using hb'
   · rw [qhf]; simp only [List.length_append,List.length_cons]; omega
   · rw [← h3]; simp only [List.length_append,qhf,List.length_cons]
theorem cmp_isNaN.c {n:Int} {K:Ending→World→Prop} (hk:K (.returned (.bool false)) w):Calls Try.prog 90 ⟨[.int .i64 n]⟩ w K:=by
 refine qoc (qyg.ok _ _ _ ?_)
 unfold qyg
 rw [show (n != n)=false by simp]
 exact hk
theorem qfk.c {K:Ending→World→Prop} (h:St F0 w0 w ps) (hk:∀ (r:Int) w',(r < 0 ↔ x.1 < y.1)→St F0 w0 w' ps→K (.returned (.int .i64 r)) w'):Calls Try.prog 41 ⟨[.agg ⟨pkC x⟩,.agg ⟨pkC y⟩]⟩ w K:=by
 refine qoc (qog.ok _ _ _ _ ?_)
 unfold qog
 refine h.new fun na w h=>?_
 refine h.new fun nb w h=>?_
 have h:St F0 w0 w (qxc nb (pkC y) :: qxc na (pkC x) :: ps):=h
 refine (h.blk1).ldI (o:=0) rfl ?_
 refine (h.blk).ldI (o:=0) rfl ?_
 refine qoc (qpg.ok _ _ _ _ ?_)
 unfold qpg
 refine cmp_isNaN.c ⟨_,rfl,?_⟩
 refine cmp_isNaN.c ⟨_,rfl,?_⟩
 refine qkl (qkl ?_)
 refine qzc (fun g=>?_) (fun g=>?_)
 · exact ⟨_,rfl,hk _ w (by omega) h.drop.drop⟩
 · refine qzc (fun g2=>?_) (fun g2=>?_)
   · exact ⟨_,rfl,hk _ w (by omega) h.drop.drop⟩
   · exact ⟨_,rfl,hk _ w (by omega) h.drop.drop⟩
theorem swapRange.c {P X M Y S:List Pk} {n:Nat} {K:Ending→World→Prop} (h:St F0 w0 w (qdc 2 s (pks (P ++ X ++ M ++ Y ++ S)) :: ps)) (hX:X.length=n) (hY:Y.length=n) (hlen:(P ++ X ++ M ++ Y ++ S).length≤1000000)
 (hk:∀ w',St F0 w0 w' (qdc 2 s (pks (P ++ Y ++ M ++ X ++ S)) :: ps)→K (.returned (.tuple ⟨[]⟩)) w') :
 Calls Try.prog 179 ⟨[.slice s.a s.len s.cap,.int .i64 (P.length:Int),.int .i64 ((P.length+X.length+M.length:Nat):Int),.int .i64 (n:Int),.func (.func 41) ⟨[]⟩ ⟨[]⟩]⟩ w K:=by
 refine qoc (qfb.ok _ _ _ _ _ _ ?_)
 unfold qfb qfb.j1
 simp only [List.length_append] at hlen
 refine qsf (fun (i:Nat) (i':Int) w'=>i'=i∧i≤n∧St F0 w0 w' (qdc 2 s (pks (P ++ (Y.take i ++ X.drop i) ++ M ++ (X.take i ++ Y.drop i) ++ S)) :: ps)) (fun i=>n - i) 0 ⟨rfl,by omega,by simpa using h⟩ ?_
 clear h
 rintro i i' wL I μ ⟨rfl,hi,h⟩ hin
 unfold qfb.b1
 refine qzc (fun g=>?_) (fun g=>?_)
 · have hiX:i < X.length:=by omega
   have hiY:i < Y.length:=by omega
   have eX:X.drop i=X[i] :: X.drop (i+1):=List.drop_eq_getElem_cons hiX
   have eY:Y.drop i=Y[i] :: Y.drop (i+1):=List.drop_eq_getElem_cons hiY
   have l1:(Y.take i).length=i:=by rw [List.length_take]; omega
   have l2:(X.take i).length=i:=by rw [List.length_take]; omega
   have l3:(X.drop (i+1)).length=X.length - (i+1):=List.length_drop
   refine h.drewK fun w h=>?_
   refine qy (qk (by omega) (by omega)) (qy (qk (by omega) (by omega)) (qy (qk (by omega) (by omega)) ?_))
   refine h.lpk (s:=s) (P ++ (Y.take i ++ X.drop i) ++ M ++ X.take i) Y[i] (Y.drop (i+1) ++ S) (by rw [eY]; simp only [List.append_assoc,List.cons_append]) (by simp only [List.length_append,l1,l2,List.length_drop]; omega) ?_
   refine qy (qk (by omega) (by omega)) ?_
   refine h.lpk (s:=s) (P ++ Y.take i) X[i] (X.drop (i+1) ++ M ++ (X.take i ++ Y.drop i) ++ S) (by rw [eX]; simp only [List.append_assoc,List.cons_append]) (by simp only [List.length_append,l1]; omega) ?_
   refine h.spk (P ++ Y.take i) X[i] (X.drop (i+1) ++ M ++ (X.take i ++ Y.drop i) ++ S) Y[i] (by rw [eX]; simp only [List.append_assoc,List.cons_append]) (by simp only [List.length_append,l1]; omega) fun w h=>?_
   refine h.spk (P ++ Y.take i ++ Y[i] :: (X.drop (i+1) ++ M ++ X.take i)) Y[i] (Y.drop (i+1) ++ S) X[i] (by rw [eY]; simp only [List.append_assoc,List.cons_append]) (by simp only [List.length_append,List.length_cons,l1,l2,l3]; omega) fun w h=>?_
   refine qy (qk (by omega) (by omega)) ?_
   refine ⟨⟨rfl,rfl,rfl,rfl⟩,hin (i+1) _ _ ⟨by omega,by omega,?_⟩ (by omega)⟩
   rw [List.take_succ_eq_append_getElem hiY,List.take_succ_eq_append_getElem hiX]
   simp only [List.append_assoc,List.cons_append,List.nil_append] at h ⊢
   exact h
 · have:i=n:=by omega
   subst this
   rw [List.take_of_length_le (by omega),List.drop_of_length_le (by omega),List.take_of_length_le (by omega),List.drop_of_length_le (by omega),List.append_nil,List.append_nil] at h
   exact hk wL h
end
end Go.Proofs.Ythdmmmfgjmmelaa
namespace Go.Proofs.Ythdmmmfgjmmelaa
open Go Go.Proofs
set_option linter.unusedVariables false
set_option linter.unusedSimpArgs false
attribute [local irreducible] apK cpK mkK br
def wt (x:Pk):Int:=x.1
theorem insR_at {α:Type} {k:α→Int} {x:α}:∀ {T1 T2:List α},(∀ y ∈ T1,¬ k x < k y)→(∀ y ∈ T2,k x < k y)→insR k x (T1 ++ T2)=T1 ++ x :: T2:=by
 intro T1
 induction T1 with
 | nil =>
   intro T2 _ h2
   cases T2 with
   | nil=>rfl
   | cons y T2 =>
     show insR k x (y :: T2)=_
     rw [insR,if_pos (h2 y (by simp))]; rfl
 | cons y T1 ih =>
   intro T2 h1 h2
   rw [List.cons_append,insR,if_neg (h1 y (by simp)),ih (fun z hz=>h1 z (by simp [hz])) h2]; rfl
section
variable {F0:List Nat} {w0 w:World} {ps rest:List As} {s:Sl}
theorem rotate.c {P A B S:List Pk} {K:Ending→World→Prop} (h:St F0 w0 w (qdc 2 s (pks (P ++ A ++ B ++ S)) :: ps)) (hA:0 < A.length) (hB:0 < B.length) (hlen:(P ++ A ++ B ++ S).length≤1000000)
 (hk:∀ w',St F0 w0 w' (qdc 2 s (pks (P ++ B ++ A ++ S)) :: ps)→K (.returned (.tuple ⟨[]⟩)) w') :
 Calls Try.prog 165 ⟨[.slice s.a s.len s.cap,.int .i64 (P.length:Int),.int .i64 ((P.length+A.length:Nat):Int),.int .i64 ((P.length+A.length+B.length:Nat):Int),.func (.func 41) ⟨[]⟩ ⟨[]⟩]⟩ w K:=by
 simp only [List.length_append] at hlen
 refine qoc (qz.ok _ _ _ _ _ _ ?_)
 unfold qz qz.j1
 refine qy (show IntKind.i64.wrap (((P.length+A.length:Nat):Int) - (P.length:Int))=(A.length:Int) by rw [qk (by omega) (by omega)]; omega) ?_
 refine qy (show IntKind.i64.wrap (((P.length+A.length+B.length:Nat):Int) - ((P.length+A.length:Nat):Int))=(B.length:Int) by rw [qk (by omega) (by omega)]; omega) ?_
 generalize hT:P ++ B ++ A ++ S=T at hk
 generalize hM:P.length+A.length=M
 refine loop2 (fun (a:List Pk × List Pk × List Pk × List Pk) (i j:Int) w'=>i=(a.2.1.length:Int)∧j=(a.2.2.1.length:Int)∧a.1.length+a.2.1.length=M∧0 < a.2.1.length∧0 < a.2.2.1.length∧a.1.length+a.2.1.length+a.2.2.1.length+a.2.2.2.length≤1000000 ∧
  a.1 ++ a.2.2.1 ++ a.2.1 ++ a.2.2.2=T∧St F0 w0 w' (qdc 2 s (pks (a.1 ++ a.2.1 ++ a.2.2.1 ++ a.2.2.2)) :: ps)) (fun a=>a.2.1.length+a.2.2.1.length) (P,A,B,S) ⟨rfl,rfl,hM,hA,hB,by simp only; omega,hT,h⟩ ?_
 clear h hA hB hT hM hlen
 rintro ⟨P,A,B,S⟩ i j wL I μ ⟨rfl,rfl,hM,hA,hB,hlen,hT,h⟩ hin
 simp only at hM hA hB hlen hT h hin ⊢
 unfold qz.b1
 refine qpf (fun g=>?_) (fun g=>?_)
 · have g:¬ (A.length:Int)=(B.length:Int):=by simpa using g
   refine qzc (fun g2=>?_) (fun g2=>?_)
   · refine qy (show IntKind.i64.wrap ((M:Int) - (A.length:Int))=(P.length:Int) by rw [qk (by omega) (by omega)]; omega) ?_
     have l1:(A.take B.length).length=B.length:=by rw [List.length_take]; omega
     have l2:(A.drop B.length).length=A.length - B.length:=List.length_drop
     have h':St F0 w0 wL (qdc 2 s (pks (P ++ A.take B.length ++ A.drop B.length ++ B ++ S)) :: ps):=by rw [List.append_assoc P,List.take_append_drop]; exact h
     have hc:=swapRange.c (n:=B.length) (K:=fun e w'=>e=.returned (.tuple ⟨[]⟩)∧lt (IntKind.i64.wrap ((A.length:Int) - (B.length:Int))) fun x7=>((s=s∧(M:Int)=(M:Int))∧I x7 (B.length:Int) w'∧μ x7 (B.length:Int) w' < μ (A.length:Int) (B.length:Int) wL)) h' l1 rfl (by simp only [List.length_append,l1,l2]; omega) fun w h=>⟨rfl,?_⟩
     · rw [l1,l2,show P.length+B.length+(A.length - B.length)=M by omega] at hc
       exact hc
     · refine qy (show IntKind.i64.wrap ((A.length:Int) - (B.length:Int))=((A.drop B.length).length:Int) by rw [qk (by omega) (by omega),l2]; omega) ?_
       refine ⟨⟨rfl,rfl⟩,hin (P ++ B,A.drop B.length,A.take B.length,S) _ _ _ ⟨rfl,by rw [l1],by simp only [List.length_append]; omega,by simp only; omega,by simp only; omega,by simp only [List.length_append]; omega,?_,h⟩ (by simp only; omega)⟩
       simp only
       rw [← hT,List.append_assoc (P ++ B) (A.take _),List.take_append_drop]
   · refine qy (show IntKind.i64.wrap ((M:Int) - (A.length:Int))=(P.length:Int) by rw [qk (by omega) (by omega)]; omega) ?_
     refine qy (qk (by omega) (by omega)) ?_
     refine qy (show IntKind.i64.wrap ((M:Int)+(B.length:Int) - (A.length:Int))=((P.length+A.length+(B.length - A.length):Nat):Int) by rw [qk (by omega) (by omega)]; omega) ?_
     have l1:(B.take (B.length - A.length)).length=B.length - A.length:=by rw [List.length_take]; omega
     have l2:(B.drop (B.length - A.length)).length=A.length:=by rw [List.length_drop]; omega
     have h':St F0 w0 wL (qdc 2 s (pks (P ++ A ++ B.take (B.length - A.length) ++ B.drop (B.length - A.length) ++ S)) :: ps):=by rw [List.append_assoc (P ++ A),List.take_append_drop]; exact h
     have hc:=swapRange.c (n:=A.length) (K:=fun e w'=>e=.returned (.tuple ⟨[]⟩)∧lt (IntKind.i64.wrap ((B.length:Int) - (A.length:Int))) fun x7=>((s=s∧(M:Int)=(M:Int))∧I (A.length:Int) x7 w'∧μ (A.length:Int) x7 w' < μ (A.length:Int) (B.length:Int) wL)) h' rfl l2 (by simp only [List.length_append,l1,l2]; omega) fun w h=>⟨rfl,?_⟩
     · rw [l1] at hc
       exact hc
     · refine qy (show IntKind.i64.wrap ((B.length:Int) - (A.length:Int))=((B.take (B.length - A.length)).length:Int) by rw [qk (by omega) (by omega),l1]; omega) ?_
       refine ⟨⟨rfl,rfl⟩,hin (P,B.drop (B.length - A.length),B.take (B.length - A.length),A ++ S) _ _ _ ⟨by rw [l2],rfl,by simp only; omega,by simp only; omega,by simp only; omega,by simp only [List.length_append]; omega,?_,by simpa using h⟩ (by simp only; omega)⟩
       simp only
       rw [← hT,List.append_assoc P (B.take _),List.take_append_drop]
       simp only [List.append_assoc]
 · have g:(A.length:Int)=(B.length:Int):=by simpa using g
   unfold qz.j2
   refine qy (show IntKind.i64.wrap ((M:Int) - (A.length:Int))=(P.length:Int) by rw [qk (by omega) (by omega)]; omega) ?_
   have h':St F0 w0 wL (qdc 2 s (pks (P ++ A ++ [] ++ B ++ S)) :: ps):=by rw [List.append_nil]; exact h
   have hc:=swapRange.c (n:=A.length) (K:=fun e w'=>e=.returned (.tuple ⟨[]⟩)∧K (.returned (.tuple ⟨[]⟩)) w') h' rfl (by omega) (by simp only [List.length_append,List.length_nil]; omega) fun w h=>⟨rfl,hk w (by rw [← hT]; simpa using h)⟩
   rw [List.length_nil,Nat.add_zero,hM] at hc
   exact hc
theorem insertion.c {P X S:List Pk} {K:Ending→World→Prop} (h:St F0 w0 w (qdc 2 s (pks (P ++ X ++ S)) :: ps)) (hlen:(P ++ X ++ S).length≤1000000)
 (hk:∀ w',St F0 w0 w' (qdc 2 s (pks (P ++ qpc wt X ++ S)) :: ps)→K (.returned (.tuple ⟨[]⟩)) w') :
 Calls Try.prog 135 ⟨[.slice s.a s.len s.cap,.int .i64 (P.length:Int),.int .i64 ((P.length+X.length:Nat):Int),.func (.func 41) ⟨[]⟩ ⟨[]⟩]⟩ w K:=by
 simp only [List.length_append] at hlen
 refine qoc (qi.ok _ _ _ _ _ ?_)
 unfold qi qi.j1
 refine qy (show IntKind.i64.wrap ((P.length:Int)+1)=((P.length+1:Nat):Int) by rw [qk (by omega) (by omega)]; omega) ?_
 have e1:qpc wt (X.take 1) ++ X.drop 1=X:=by
  cases X with
  | nil=>rfl
  | cons x X=>rfl
 refine qsf (fun (c:Nat) (i':Int) w'=>i'=((P.length+c:Nat):Int)∧1≤c∧c≤X.length+1∧St F0 w0 w' (qdc 2 s (pks (P ++ (qpc wt (X.take c) ++ X.drop c) ++ S)) :: ps)) (fun c=>X.length+1 - c) 1 ⟨rfl,by omega,by omega,by rw [e1]; exact h⟩ ?_
 clear h e1
 rintro c i' wL I μ ⟨rfl,hc1,hc2,h⟩ hin
 unfold qi.b1
 refine qzc (fun g=>?_) (fun g=>?_)
 · have hcX:c < X.length:=by omega
   have eX:X.drop c=X[c] :: X.drop (c+1):=List.drop_eq_getElem_cons hcX
   have lS:(qpc wt (X.take c)).length=c:=by rw [qkc,List.length_take]; omega
   have hS:=qmg (k:=wt) (X.take c)
   have hnx:qpc wt (X.take (c+1))=insR wt X[c] (qpc wt (X.take c)):=by rw [List.take_succ_eq_append_getElem hcX,qhg]
   rw [eX] at h
   generalize X[c]=x at h hnx
   generalize qpc wt (X.take c)=T at h hnx lS hS
   unfold qi.j2 qi.j4
   have h0:St F0 w0 wL (qdc 2 s (pks (P ++ T ++ x :: ([] ++ (X.drop (c+1) ++ S)))) :: ps):=by
    simp only [List.append_assoc,List.cons_append,List.nil_append] at h ⊢
    exact h
   have done:∀ (T1 T2:List Pk) (w:World),T1 ++ T2=T→(∀ y ∈ T1,¬ wt x < wt y)→(∀ y ∈ T2,wt x < wt y)→St F0 w0 w (qdc 2 s (pks (P ++ T1 ++ x :: (T2 ++ (X.drop (c+1) ++ S)))) :: ps) →
    qi.j3 s (P.length:Int) ((P.length+X.length:Nat):Int) ((P.length+c:Nat):Int) (fun v w'=>K (.returned v) w') (fun d' a' b' i' w'=>(d'=s∧a'=(P.length:Int)∧b'=((P.length+X.length:Nat):Int))∧I i' w'∧μ i' w' < μ ((P.length+c:Nat):Int) wL) w:=by
    intro T1 T2 w hT h1 h2 h
    unfold qi.j3
    refine qy (show IntKind.i64.wrap (((P.length+c:Nat):Int)+1)=((P.length+(c+1):Nat):Int) by rw [qk (by omega) (by omega)]; omega) ?_
    refine ⟨⟨rfl,rfl,rfl⟩,hin (c+1) _ _ ⟨rfl,by omega,by omega,?_⟩ (by omega)⟩
    rw [hnx,← hT,insR_at h1 h2]
    simp only [List.append_assoc,List.cons_append] at h ⊢
    exact h
   refine qsf (fun (a:List Pk × List Pk) (j':Int) w'=>j'=((P.length+a.1.length:Nat):Int)∧a.1 ++ a.2=T∧(∀ y ∈ a.2,wt x < wt y)∧St F0 w0 w' (qdc 2 s (pks (P ++ a.1 ++ x :: (a.2 ++ (X.drop (c+1) ++ S)))) :: ps)) (fun a=>a.1.length) (T,[]) ⟨by rw [lS],List.append_nil _,by simp,h0⟩ ?_
   clear h h0
   rintro ⟨T1,T2⟩ j' w2 I2 μ2 ⟨rfl,hT,h2,h⟩ hin2
   simp only at hT h2 h hin2 ⊢
   have lT:T1.length+T2.length=c:=by rw [← lS,← hT,List.length_append]
   unfold qi.b2
   refine h.drewK fun w h=>?_
   refine qzc (fun g1=>?_) (fun g1=>?_)
   · have hne:T1 ≠ []:=by intro e; subst e; simp at g1
     obtain ⟨T0,y,rfl⟩:∃ T0 y,T1=T0 ++ [y]:=⟨T1.dropLast,T1.getLast hne,(List.dropLast_concat_getLast hne).symm⟩
     rw [List.length_append,List.length_singleton] at lT
     have eD:P ++ (T0 ++ [y]) ++ x :: (T2 ++ (X.drop (c+1) ++ S))=(P ++ T0) ++ y :: x :: (T2 ++ (X.drop (c+1) ++ S)):=by simp only [List.append_assoc,List.cons_append,List.nil_append]
     have ejy:IntKind.i64.wrap (((P.length+(T0 ++ [y]).length:Nat):Int) - 1)=((P ++ T0).length:Int):=by rw [List.length_append,List.length_append,List.length_singleton,qk (by omega) (by omega)]; omega
     have ejx:((P.length+(T0 ++ [y]).length:Nat):Int)=((P ++ (T0 ++ [y])).length:Int):=by rw [@List.length_append _ P]
     refine h.lpk (s:=s) (P ++ (T0 ++ [y])) x (T2 ++ (X.drop (c+1) ++ S)) rfl ejx ?_
     refine qy ejy ?_
     refine h.lpk (s:=s) (P ++ T0) y (x :: (T2 ++ (X.drop (c+1) ++ S))) eD rfl ?_
     refine qfk.c (x:=x) (y:=y) h fun r w hr h=>⟨_,rfl,?_⟩
     refine qzc (fun g2=>?_) (fun g2=>?_)
     · refine h.drewK fun w h=>?_
       refine qy ejy (qy ejy ?_)
       refine h.lpk (s:=s) (P ++ T0) y (x :: (T2 ++ (X.drop (c+1) ++ S))) eD rfl ?_
       refine h.lpk (s:=s) (P ++ (T0 ++ [y])) x (T2 ++ (X.drop (c+1) ++ S)) rfl ejx ?_
       refine h.spk (P ++ (T0 ++ [y])) x (T2 ++ (X.drop (c+1) ++ S)) y rfl ejx fun w h=>?_
       refine h.spk (P ++ T0) y (y :: (T2 ++ (X.drop (c+1) ++ S))) x (by simp only [List.append_assoc,List.cons_append,List.nil_append]) rfl fun w h=>?_
       refine qy (ejy.trans (show ((P ++ T0).length:Int)=((P.length+T0.length:Nat):Int) by rw [List.length_append])) ?_
       refine ⟨⟨rfl,rfl,rfl,rfl⟩,hin2 (T0,y :: T2) _ _ ⟨rfl,by rw [← hT]; simp,?_,?_⟩ (by simp)⟩
       · intro z hz
         rcases List.mem_cons.1 hz with rfl | hz
         · exact hr.1 g2
         · exact h2 z hz
       · simp only [List.append_assoc,List.cons_append] at h ⊢
         exact h
     · refine done (T0 ++ [y]) T2 w hT ?_ h2 h
       intro z hz
       have hxy:¬ wt x < wt y:=fun e=>g2 (hr.2 e)
       rw [← hT] at hS
       have hS:=(List.pairwise_append.1 (List.pairwise_append.1 hS).1).2.2
       rcases List.mem_append.1 hz with hz | hz
       · have:=hS z hz y (by simp)
         omega
       · rw [List.mem_singleton.1 hz]; exact hxy
   · have hne:T1=[]:=by
      cases T1 with
      | nil=>rfl
      | cons y T1=>exfalso; simp only [List.length_cons] at g1; omega
     subst hne
     exact done [] T2 w hT (by simp) h2 h
 · refine hk wL ?_
   rw [List.take_of_length_le (by omega),List.drop_of_length_le (by omega),List.append_nil] at h
   exact h
end
end Go.Proofs.Ythdmmmfgjmmelaa
namespace Go.Proofs.Ythdmmmfgjmmelaa
open Go Go.Proofs
set_option linter.unusedVariables false
set_option linter.unusedSimpArgs false
attribute [local irreducible] apK cpK mkK br
theorem srt_take {α:Type} {k:α→Int} {l:List α} (h:srt k l) (n:Nat):srt k (l.take n):=List.Pairwise.sublist (List.take_sublist n l) h
theorem srt_drop {α:Type} {k:α→Int} {l:List α} (h:srt k l) (n:Nat):srt k (l.drop n):=List.Pairwise.sublist (List.drop_sublist n l) h
theorem qgm {α:Type} {k:α→Int} {l:List α} (h:srt k l) {i j:Nat} (hij:i≤j) (hj:j < l.length):k (l[i]'(by omega))≤k l[j]:=by
 rcases Nat.eq_or_lt_of_le hij with e | e
 · subst e; exact Int.le_refl _
 · exact List.pairwise_iff_getElem.1 h i j (by omega) hj e
theorem qti {α:Type} {l:List α} {n:Nat} {x:α} (h:x ∈ l.take n):∃ i,∃ (hi:i < l.length),i < n∧l[i]=x:=by
 obtain ⟨i,hi,e⟩:=List.mem_iff_getElem.1 h
 rw [List.length_take] at hi
 exact ⟨i,by omega,by omega,by rw [← e,List.getElem_take]⟩
theorem qui {α:Type} {l:List α} {n:Nat} {x:α} (h:x ∈ l.drop n):∃ i,∃ (hi:i < l.length),n≤i∧l[i]=x:=by
 obtain ⟨i,hi,e⟩:=List.mem_iff_getElem.1 h
 rw [List.length_drop] at hi
 exact ⟨n+i,by omega,by omega,by rw [← e,List.getElem_drop]⟩
theorem half_i {lo hi:Nat} {K:Int→Prop} (h:lo+hi < 4611686018427387904) (hk:K (((lo+hi) / 2:Nat):Int)) :
 lt (IntKind.i64.wrap ((lo:Int)+(hi:Int))) fun x8=>lt (IntKind.u64.wrap x8) fun x9=>(0:Int)≤1∧lt (shrV .u64 x9 1) fun x10=>lt (IntKind.i64.wrap x10) fun x11=>K x11:=by
 refine qy (qk (by omega) (by omega)) ?_
 have e1:IntKind.u64.wrap ((lo:Int)+hi)=(lo:Int)+hi:=by
  have e:∀ x,IntKind.u64.wrap x=x % 18446744073709551616:=fun x=>by simp [IntKind.wrap,IntKind.bits,IntKind.signed]
  rw [e]; omega
 refine qy e1 ⟨by decide,?_⟩
 have e2:shrV .u64 ((lo:Int)+hi) 1=(((lo+hi) / 2:Nat):Int):=by
  unfold shrV
  have:((lo:Int)+(hi:Int))=((lo+hi:Nat):Int):=by omega
  rw [this]
  show Int.fdiv ((lo+hi:Nat):Int) 2=_
  rw [Int.fdiv_eq_ediv_of_nonneg _ (by decide)]
  omega
 refine qy e2 ?_
 exact qy (qk (by omega) (by omega)) hk
section
variable {F0:List Nat} {w0 w:World} {ps rest:List As} {s:Sl}
theorem ix_split {D:List Pk} {i:Nat} (h:i < D.length):D=D.take i ++ D[i] :: D.drop (i+1):=by
 rw [← List.drop_eq_getElem_cons h,List.take_append_drop]
theorem St.lpi {D:List Pk} {i:Int} {K:Array Value→Prop} (h:St F0 w0 w ps) [Rdb F0 w0 s ps 2 (pks D)] (j:Nat) (hi:i=j) (hj:j < D.length) (hk:K ⟨pkC D[j]⟩):ixS s.a s.len i 2 fun a=>ldA w a 2 K :=
 h.lpk (D.take j) D[j] (D.drop (j+1)) (ix_split hj) (by rw [List.length_take]; omega) hk
theorem getA {P A B S:List Pk} {i:Nat} (h:i < A.length) (h2:P.length+i < (P ++ A ++ B ++ S).length):(P ++ A ++ B ++ S)[P.length+i]=A[i]:=by
 simp only [List.append_assoc]
 rw [List.getElem_append_right (by omega)]
 simp [List.getElem_append_left,h]
theorem getB {P A B S:List Pk} {i:Nat} (h:i < B.length) (h2:P.length+A.length+i < (P ++ A ++ B ++ S).length):(P ++ A ++ B ++ S)[P.length+A.length+i]=B[i]:=by
 have e:P ++ A ++ B ++ S=(P ++ A) ++ B ++ [] ++ S:=by simp
 have h3:(P ++ A).length+i < ((P ++ A) ++ B ++ [] ++ S).length:=by simp only [List.length_append] at h2 ⊢; simp; omega
 have:=getA (P:=P ++ A) (A:=B) (B:=[]) (S:=S) h h3
 rw [← this]
 congr 1
 simp
theorem up.c {P B1 R:List Pk} {x:Pk} {K:Ending→World→Prop} (h:St F0 w0 w (qdc 2 s (pks (P ++ x :: (B1 ++ R))) :: ps)) (hlen:(P ++ x :: (B1 ++ R)).length≤1000000)
 (hk:∀ w',St F0 w0 w' (qdc 2 s (pks (P ++ B1 ++ x :: R)) :: ps)→K (.returned (.tuple ⟨[]⟩)) w') :
 qc.j16 s (P.length:Int) ((P.length+1+B1.length:Nat):Int) (fun v w'=>K (.returned v) w') w:=by
 simp only [List.length_append,List.length_cons] at hlen
 unfold qc.j16 qc.j18
 refine qsf (fun (c:Nat) (k':Int) w'=>k'=((P.length+c:Nat):Int)∧c≤B1.length∧St F0 w0 w' (qdc 2 s (pks (P ++ B1.take c ++ x :: (B1.drop c ++ R))) :: ps)) (fun c=>B1.length - c) 0 ⟨by simp,by omega,by simpa using h⟩ ?_
 clear h
 rintro c k' wL I μ ⟨rfl,hc,h⟩ hin
 unfold qc.b4
 refine qy (qk (by omega) (by omega)) ?_
 refine qzc (fun g=>?_) (fun g=>?_)
 · have hcB:c < B1.length:=by omega
   have eB:B1.drop c=B1[c] :: B1.drop (c+1):=List.drop_eq_getElem_cons hcB
   have lT:(B1.take c).length=c:=by rw [List.length_take]; omega
   rw [eB] at h
   refine h.drewK fun w h=>?_
   have e1:IntKind.i64.wrap (((P.length+c:Nat):Int)+1)=((P ++ B1.take c ++ [x]).length:Int):=by simp only [List.length_append,List.length_singleton,lT]; rw [qk (by omega) (by omega)]; omega
   have e2:((P.length+c:Nat):Int)=((P ++ B1.take c).length:Int):=by rw [@List.length_append _ P,lT]
   refine qy e1 (qy e1 ?_)
   refine h.lpk (s:=s) (P ++ B1.take c ++ [x]) B1[c] (B1.drop (c+1) ++ R) (by simp only [List.append_assoc,List.cons_append,List.nil_append]) rfl ?_
   refine h.lpk (s:=s) (P ++ B1.take c) x (B1[c] :: B1.drop (c+1) ++ R) rfl e2 ?_
   refine h.spk (P ++ B1.take c) x (B1[c] :: B1.drop (c+1) ++ R) B1[c] rfl e2 fun w h=>?_
   refine h.spk (P ++ B1.take c ++ [B1[c]]) B1[c] (B1.drop (c+1) ++ R) x (by simp only [List.append_assoc,List.cons_append,List.nil_append]) (by simp only [List.length_append,List.length_singleton]) fun w h=>?_
   refine qy (show IntKind.i64.wrap (((P.length+c:Nat):Int)+1)=((P.length+(c+1):Nat):Int) by rw [qk (by omega) (by omega)]; omega) ?_
   refine ⟨⟨rfl,rfl⟩,hin (c+1) _ _ ⟨rfl,by omega,?_⟩ (by omega)⟩
   rw [List.take_succ_eq_append_getElem hcB]
   simp only [List.append_assoc,List.cons_append,List.nil_append] at h ⊢
   exact h
 · have:c=B1.length:=by omega
   subst this
   rw [List.take_length,List.drop_length,List.nil_append] at h
   unfold qc.j17
   exact hk wL h
theorem down.c {P A2 R:List Pk} {y:Pk} {K:Ending→World→Prop} (h:St F0 w0 w (qdc 2 s (pks (P ++ A2 ++ y :: R)) :: ps)) (hlen:(P ++ A2 ++ y :: R).length≤1000000)
 (hk:∀ w',St F0 w0 w' (qdc 2 s (pks (P ++ y :: (A2 ++ R))) :: ps)→K (.returned (.tuple ⟨[]⟩)) w') :
 qc.j11 s ((P.length+A2.length:Nat):Int) (P.length:Int) (fun v w'=>K (.returned v) w') w:=by
 simp only [List.length_append,List.length_cons] at hlen
 unfold qc.j11 qc.j13
 refine qsf (fun (a:List Pk × List Pk) (k':Int) w'=>k'=((P.length+a.1.length:Nat):Int)∧a.1 ++ a.2=A2∧St F0 w0 w' (qdc 2 s (pks (P ++ a.1 ++ y :: (a.2 ++ R))) :: ps)) (fun a=>a.1.length) (A2,[]) ⟨rfl,by simp,by simpa using h⟩ ?_
 clear h
 rintro ⟨T1,T2⟩ k' wL I μ ⟨rfl,hT,h⟩ hin
 simp only at hT h hin ⊢
 have lT:T1.length+T2.length=A2.length:=by rw [← hT,List.length_append]
 unfold qc.b2
 refine qzc (fun g=>?_) (fun g=>?_)
 · have hne:T1 ≠ []:=by intro e; subst e; simp at g
   obtain ⟨T0,z,rfl⟩:∃ T0 z,T1=T0 ++ [z]:=⟨T1.dropLast,T1.getLast hne,(List.dropLast_concat_getLast hne).symm⟩
   rw [List.length_append,List.length_singleton] at lT
   refine h.drewK fun w h=>?_
   have e1:IntKind.i64.wrap (((P.length+(T0 ++ [z]).length:Nat):Int) - 1)=((P ++ T0).length:Int):=by rw [List.length_append,List.length_append,List.length_singleton,qk (by omega) (by omega)]; omega
   have e2:((P.length+(T0 ++ [z]).length:Nat):Int)=((P ++ (T0 ++ [z])).length:Int):=by rw [@List.length_append _ P]
   refine qy e1 (qy e1 ?_)
   refine h.lpk (s:=s) (P ++ T0) z (y :: (T2 ++ R)) (by simp only [List.append_assoc,List.cons_append,List.nil_append]) rfl ?_
   refine h.lpk (s:=s) (P ++ (T0 ++ [z])) y (T2 ++ R) rfl e2 ?_
   refine h.spk (P ++ (T0 ++ [z])) y (T2 ++ R) z rfl e2 fun w h=>?_
   refine h.spk (P ++ T0) z (z :: (T2 ++ R)) y (by simp only [List.append_assoc,List.cons_append,List.nil_append]) rfl fun w h=>?_
   refine qy (e1.trans (show ((P ++ T0).length:Int)=((P.length+T0.length:Nat):Int) by rw [List.length_append])) ?_
   refine ⟨⟨rfl,rfl⟩,hin (T0,z :: T2) _ _ ⟨rfl,by rw [← hT]; simp,?_⟩ (by simp)⟩
   simp only [List.append_assoc,List.cons_append] at h ⊢
   exact h
 · have hne:T1=[]:=by
    cases T1 with
    | nil=>rfl
    | cons z T1=>exfalso; simp only [List.length_cons] at g; omega
   subst hne
   rw [List.nil_append] at hT
   subst hT
   rw [List.append_nil] at h
   unfold qc.j12
   exact hk wL h
end
end Go.Proofs.Ythdmmmfgjmmelaa
namespace Go.Proofs.Ythdmmmfgjmmelaa
open Go Go.Proofs
set_option linter.unusedVariables false
set_option linter.unusedSimpArgs false
attribute [local irreducible] apK cpK mkK br
section
variable {F0:List Nat} {w0 w:World} {ps rest:List As} {s:Sl}
theorem symMerge.one {P B S:List Pk} {x:Pk} {K:Ending→World→Prop} (h:St F0 w0 w (qdc 2 s (pks (P ++ [x] ++ B ++ S)) :: ps)) (hB:srt wt B) (hlen:(P ++ [x] ++ B ++ S).length≤1000000)
 (hk:∀ w',St F0 w0 w' (qdc 2 s (pks (P ++ mrg wt [x] B ++ S)) :: ps)→K (.returned (.tuple ⟨[]⟩)) w') :
 qc.j15 s (P.length:Int) ((P.length+1:Nat):Int) ((P.length+1+B.length:Nat):Int) (fun v w'=>K (.returned v) w') w:=by
 have hlen2:=hlen
 simp only [List.length_append,List.length_singleton] at hlen
 unfold qc.j15
 refine loop2 (fun (a:Nat × Nat) (i j:Int) w'=>i=((P.length+1+a.1:Nat):Int)∧j=((P.length+1+a.2:Nat):Int)∧a.1≤a.2∧a.2≤B.length∧(∀ y ∈ B.take a.1,wt y < wt x)∧(∀ y ∈ B.drop a.2,¬ wt y < wt x)∧St F0 w0 w' (qdc 2 s (pks (P ++ [x] ++ B ++ S)) :: ps)) (fun a=>a.2 - a.1) (0,B.length) ⟨rfl,rfl,by simp,by simp,by simp,by simp,h⟩ ?_
 clear h
 rintro ⟨lo,hi⟩ i j wL I μ ⟨rfl,rfl,hlh,hhB,h1,h2,h⟩ hin
 simp only at hlh hhB h1 h2 h hin ⊢
 unfold qc.b5
 refine qzc (fun g=>?_) (fun g=>?_)
 · refine half_i (by omega) ?_
   obtain ⟨q,hq⟩:∃ q,(P.length+1+lo+(P.length+1+hi)) / 2=P.length+1+q:=⟨(lo+hi) / 2,by omega⟩
   rw [hq]
   have hqB:q < B.length:=by omega
   refine h.drewK fun w h=>?_
   refine h.lpi (s:=s) (P.length+1+q) rfl (by simp only [List.length_append,List.length_singleton]; omega) ?_
   have eg:=getB (P:=P) (A:=[x]) (B:=B) (S:=S) hqB (by simp only [List.length_append,List.length_singleton]; omega)
   simp only [List.length_singleton] at eg
   rw [eg]
   refine h.lpi (s:=s) P.length rfl (by simp only [List.length_append,List.length_singleton]; omega) ?_
   have eg2:=getA (P:=P) (A:=[x]) (B:=B) (S:=S) (i:=0) (by simp) (by simp only [List.length_append,List.length_singleton]; omega)
   simp only [Nat.add_zero,List.getElem_cons_zero] at eg2
   rw [eg2]
   refine qfk.c (x:=B[q]) (y:=x) h fun r w hr h=>⟨_,rfl,?_⟩
   refine qzc (fun g2=>?_) (fun g2=>?_)
   · refine qy (show IntKind.i64.wrap (((P.length+1+q:Nat):Int)+1)=((P.length+1+(q+1):Nat):Int) by rw [qk (by omega) (by omega)]; omega) ?_
     refine ⟨⟨rfl,rfl⟩,hin (q+1,hi) _ _ _ ⟨rfl,rfl,by simp only; omega,hhB,?_,h2,h⟩ (by simp only; omega)⟩
     intro y hy
     obtain ⟨i,hi1,hi2,rfl⟩:=qti hy
     have:=qgm hB (show i≤q by omega) hqB
     have h3:wt B[q] < wt x:=hr.1 g2
     omega
   · refine ⟨⟨rfl,rfl⟩,hin (lo,q) _ _ _ ⟨rfl,rfl,by simp only; omega,by simp only; omega,h1,?_,h⟩ (by simp only; omega)⟩
     intro y hy
     obtain ⟨i,hi1,hi2,rfl⟩:=qui hy
     have:=qgm hB (show q≤i by omega) hi1
     have h3:¬ wt B[q] < wt x:=fun e=>g2 (hr.2 e)
     omega
 · have:lo=hi:=by omega
   subst this
   have lT:(B.take lo).length=lo:=by rw [List.length_take]; omega
   have hu:=up.c (P:=P) (B1:=B.take lo) (R:=B.drop lo ++ S) (x:=x) (K:=K) (s:=s) (F0:=F0) (w0:=w0) (ps:=ps) (w:=wL) (by
    rw [← List.append_assoc (B.take lo),List.take_append_drop]
    simpa using h) (by rw [← List.append_assoc (B.take lo),List.take_append_drop]; simpa using hlen2) fun w h=>hk w (by
     have e:=mrg_cut (k:=wt) _ [] [x] (B.take lo) (B.drop lo) rfl (by intro a ha b hb; rw [List.mem_singleton.1 ha]; exact h1 b hb) (by simp)
     rw [List.nil_append,List.take_append_drop,qnf,mrg_left [x] (B.drop lo) (by intro a ha b hb; rw [List.mem_singleton.1 ha]; have:=h2 b hb; omega)] at e
     rw [e]
     simpa using h)
   rw [lT] at hu
   exact hu
theorem symMerge.last {P A S:List Pk} {y:Pk} {K:Ending→World→Prop} (h:St F0 w0 w (qdc 2 s (pks (P ++ A ++ [y] ++ S)) :: ps)) (hA:srt wt A) (hlen:(P ++ A ++ [y] ++ S).length≤1000000)
 (hk:∀ w',St F0 w0 w' (qdc 2 s (pks (P ++ mrg wt A [y] ++ S)) :: ps)→K (.returned (.tuple ⟨[]⟩)) w') :
 qc.j10 s ((P.length+A.length:Nat):Int) (P.length:Int) ((P.length+A.length:Nat):Int) (fun v w'=>K (.returned v) w') w:=by
 have hlen2:=hlen
 simp only [List.length_append,List.length_singleton] at hlen
 unfold qc.j10
 refine loop2 (fun (a:Nat × Nat) (i j:Int) w'=>i=((P.length+a.1:Nat):Int)∧j=((P.length+a.2:Nat):Int)∧a.1≤a.2∧a.2≤A.length∧(∀ z ∈ A.take a.1,¬ wt y < wt z)∧(∀ z ∈ A.drop a.2,wt y < wt z)∧St F0 w0 w' (qdc 2 s (pks (P ++ A ++ [y] ++ S)) :: ps)) (fun a=>a.2 - a.1) (0,A.length) ⟨by simp,rfl,by simp,by simp,by simp,by simp,h⟩ ?_
 clear h
 rintro ⟨lo,hi⟩ i j wL I μ ⟨rfl,rfl,hlh,hhA,h1,h2,h⟩ hin
 simp only at hlh hhA h1 h2 h hin ⊢
 unfold qc.b3
 refine qzc (fun g=>?_) (fun g=>?_)
 · refine half_i (by omega) ?_
   obtain ⟨q,hq⟩:∃ q,(P.length+lo+(P.length+hi)) / 2=P.length+q:=⟨(lo+hi) / 2,by omega⟩
   rw [hq]
   have hqA:q < A.length:=by omega
   refine h.drewK fun w h=>?_
   refine h.lpi (s:=s) (P.length+A.length) rfl (by simp only [List.length_append,List.length_singleton]; omega) ?_
   have eg:=getB (P:=P) (A:=A) (B:=[y]) (S:=S) (i:=0) (by simp) (by simp only [List.length_append,List.length_singleton]; omega)
   simp only [Nat.add_zero,List.getElem_cons_zero] at eg
   rw [eg]
   refine h.lpi (s:=s) (P.length+q) rfl (by simp only [List.length_append,List.length_singleton]; omega) ?_
   rw [getA (P:=P) (A:=A) (B:=[y]) (S:=S) hqA]
   refine qfk.c (x:=y) (y:=A[q]) h fun r w hr h=>⟨_,rfl,?_⟩
   refine qpf (fun g2=>?_) (fun g2=>?_)
   · have g2:¬ r < 0:=by simpa using g2
     refine qy (show IntKind.i64.wrap (((P.length+q:Nat):Int)+1)=((P.length+(q+1):Nat):Int) by rw [qk (by omega) (by omega)]; omega) ?_
     refine ⟨⟨rfl,rfl⟩,hin (q+1,hi) _ _ _ ⟨rfl,rfl,by simp only; omega,hhA,?_,h2,h⟩ (by simp only; omega)⟩
     intro z hz
     obtain ⟨i,hi1,hi2,rfl⟩:=qti hz
     have:=qgm hA (show i≤q by omega) hqA
     have h3:¬ wt y < wt A[q]:=fun e=>g2 (hr.2 e)
     omega
   · have g2:r < 0:=by simpa using g2
     refine ⟨⟨rfl,rfl⟩,hin (lo,q) _ _ _ ⟨rfl,rfl,by simp only; omega,by simp only; omega,h1,?_,h⟩ (by simp only; omega)⟩
     intro z hz
     obtain ⟨i,hi1,hi2,rfl⟩:=qui hz
     have:=qgm hA (show q≤i by omega) hi1
     have h3:wt y < wt A[q]:=hr.1 g2
     omega
 · have:lo=hi:=by omega
   subst this
   have lT:(A.take lo).length=lo:=by rw [List.length_take]; omega
   have lD:(A.drop lo).length=A.length - lo:=List.length_drop
   have hu:=down.c (P:=P ++ A.take lo) (A2:=A.drop lo) (R:=S) (y:=y) (K:=K) (s:=s) (F0:=F0) (w0:=w0) (ps:=ps) (w:=wL) (by
    rw [List.append_assoc P,List.take_append_drop]
    simpa using h) (by rw [List.append_assoc P,List.take_append_drop]; simpa using hlen2) fun w h=>hk w (by
     have e:=mrg_cut (k:=wt) _ (A.take lo) (A.drop lo) [y] [] rfl (by intro a ha b hb; rw [List.mem_singleton.1 hb]; exact h2 a ha) (by simp)
     rw [List.append_nil,List.take_append_drop,qlf,mrg_left (A.take lo) [y] (by intro a ha b hb; rw [List.mem_singleton.1 hb]; have:=h1 a ha; omega)] at e
     rw [e]
     simpa using h)
   rw [List.length_append,lT,lD,show P.length+lo+(A.length - lo)=P.length+A.length by omega] at hu
   exact hu
end
end Go.Proofs.Ythdmmmfgjmmelaa
namespace Go.Proofs.Ythdmmmfgjmmelaa
open Go Go.Proofs
set_option linter.unusedVariables false
set_option linter.unusedSimpArgs false
attribute [local irreducible] apK cpK mkK br
theorem symMerge.c:∀ (n:Nat) {F0:List Nat} {w0 w:World} {ps:List As} {s:Sl} {P A B S:List Pk} {K:Ending→World→Prop},A.length+B.length≤n→St F0 w0 w (qdc 2 s (pks (P ++ A ++ B ++ S)) :: ps)→srt wt A→srt wt B→0 < A.length→0 < B.length→(P ++ A ++ B ++ S).length≤1000000 →
 (∀ w',St F0 w0 w' (qdc 2 s (pks (P ++ mrg wt A B ++ S)) :: ps)→K (.returned (.tuple ⟨[]⟩)) w') →
 Calls Try.prog 136 ⟨[.slice s.a s.len s.cap,.int .i64 (P.length:Int),.int .i64 ((P.length+A.length:Nat):Int),.int .i64 ((P.length+A.length+B.length:Nat):Int),.func (.func 41) ⟨[]⟩ ⟨[]⟩]⟩ w K:=by
 intro n
 induction n with
 | zero=>intro F0 w0 w ps s P A B S K hn _ _ _ hA0 _ _ _; omega
 | succ n ih =>
   intro F0 w0 w ps s P A B S K hn h hA hB hA0 hB0 hlen2 hk
   have hlen:=hlen2
   simp only [List.length_append] at hlen
   refine qoc (qc.ok _ _ _ _ _ _ ?_)
   unfold qc qc.j14
   refine qy (show IntKind.i64.wrap (((P.length+A.length:Nat):Int) - (P.length:Int))=(A.length:Int) by rw [qk (by omega) (by omega)]; omega) ?_
   refine qpf (fun g=>?_) (fun g=>?_)
   · have g:(A.length:Int)=1:=by simpa using g
     obtain ⟨x,rfl⟩:∃ x,A=[x]:=List.length_eq_one_iff.1 (by omega)
     exact symMerge.one h hB hlen2 hk
   have gA:¬ (A.length:Int)=1:=by simpa using g
   unfold qc.j1 qc.j9
   refine qy (show IntKind.i64.wrap (((P.length+A.length+B.length:Nat):Int) - ((P.length+A.length:Nat):Int))=(B.length:Int) by rw [qk (by omega) (by omega)]; omega) ?_
   refine qpf (fun g=>?_) (fun g=>?_)
   · have g:(B.length:Int)=1:=by simpa using g
     obtain ⟨y,rfl⟩:∃ y,B=[y]:=List.length_eq_one_iff.1 (by omega)
     exact symMerge.last h hA hlen2 hk
   have gB:¬ (B.length:Int)=1:=by simpa using g
   unfold qc.j2
   refine half_i (by omega) ?_
   obtain ⟨md,hmd⟩:∃ md,(A.length+B.length) / 2=md:=⟨_,rfl⟩
   rw [show (P.length+(P.length+A.length+B.length)) / 2=P.length+md by omega]
   refine qy (show IntKind.i64.wrap (((P.length+md:Nat):Int)+((P.length+A.length:Nat):Int))=((P.length+md+(P.length+A.length):Nat):Int) by rw [qk (by omega) (by omega)]; omega) ?_
   have j6:∀ (t:Nat) (w:World),t≤A.length→t≤md→md - t≤B.length→(∀ (h1:t < A.length) (h2:0 < md - t) (h3:md - t - 1 < B.length),wt B[md - t - 1] < wt A[t])→(∀ (h1:0 < t) (h2:md - t < B.length) (h3:t - 1 < A.length),¬ wt B[md - t] < wt A[t - 1])→St F0 w0 w (qdc 2 s (pks (P ++ A ++ B ++ S)) :: ps) →
    qc.j6 s (P.length:Int) ((P.length+A.length:Nat):Int) ((P.length+A.length+B.length:Nat):Int) ((P.length+md:Nat):Int) ((P.length+md+(P.length+A.length):Nat):Int) ((P.length+t:Nat):Int) (fun v w'=>K (.returned v) w') w:=by
    intro t w ht1 ht2 ht3 hlt hge h
    have lA1:(A.take t).length=t:=by rw [List.length_take]; omega
    have lA2:(A.drop t).length=A.length - t:=List.length_drop
    have lB1:(B.take (md - t)).length=md - t:=by rw [List.length_take]; omega
    have lB2:(B.drop (md - t)).length=B.length - (md - t):=List.length_drop
    have c1:∀ a ∈ A.drop t,∀ b ∈ B.take (md - t),wt b < wt a:=by
     intro a ha b hb
     obtain ⟨i,hi1,hi2,rfl⟩:=qui ha
     obtain ⟨j,hj1,hj2,rfl⟩:=qti hb
     have h1:=hlt (by omega) (by omega) (by omega)
     have h2:=qgm hA (show t≤i by omega) hi1
     have h3:=qgm hB (show j≤md - t - 1 by omega) (by omega)
     omega
    have c2:∀ a ∈ A.take t,∀ b ∈ B.drop (md - t),wt a≤wt b:=by
     intro a ha b hb
     obtain ⟨i,hi1,hi2,rfl⟩:=qti ha
     obtain ⟨j,hj1,hj2,rfl⟩:=qui hb
     have h1:=hge (by omega) (by omega) (by omega)
     have h2:=qgm hA (show i≤t - 1 by omega) (by omega)
     have h3:=qgm hB (show md - t≤j by omega) hj1
     omega
    have hm:=mrg_cut (k:=wt) _ (A.take t) (A.drop t) (B.take (md - t)) (B.drop (md - t)) rfl c1 c2
    rw [List.take_append_drop,List.take_append_drop] at hm
    rw [hm] at hk
    have hA1:=srt_take hA t
    have hA2:=srt_drop hA t
    have hB1:=srt_take hB (md - t)
    have hB2:=srt_drop hB (md - t)
    have hsA:A=A.take t ++ A.drop t:=(List.take_append_drop t A).symm
    have hsB:B=B.take (md - t) ++ B.drop (md - t):=(List.take_append_drop (md - t) B).symm
    have hAl:A.length=(A.take t).length+(A.drop t).length:=by rw [lA1,lA2]; omega
    have hBl:B.length=(B.take (md - t)).length+(B.drop (md - t)).length:=by rw [lB1,lB2]; omega
    have h:St F0 w0 w (qdc 2 s (pks (P ++ (A.take t ++ A.drop t) ++ (B.take (md - t) ++ B.drop (md - t)) ++ S)) :: ps):=by rw [List.take_append_drop,List.take_append_drop]; exact h
    clear hm c1 c2 hlt hge hsA hsB hA hB
    generalize A.take t=A1 at *
    generalize A.drop t=A2 at *
    generalize B.take (md - t)=B1 at *
    generalize B.drop (md - t)=B2 at *
    have j8:∀ (C:List Pk) (w:World),C.length=A1.length+B1.length→C=mrg wt A1 B1→St F0 w0 w (qdc 2 s (pks (P ++ C ++ A2 ++ B2 ++ S)) :: ps)→qc.j8 s ((P.length+A.length+B.length:Nat):Int) ((P.length+md:Nat):Int) ((P.length+A.length+(md - t):Nat):Int) (fun v w'=>K (.returned v) w') w:=by
     intro C w hC hCe h
     subst hCe
     have fin:(A2=[] ∨ B2=[])→K (.returned (.tuple ⟨[]⟩)) w:=by
      intro e
      refine hk w ?_
      have:mrg wt A2 B2=A2 ++ B2:=by
       rcases e with e | e
       · subst e; rw [qnf]; rfl
       · subst e; rw [qlf,List.append_nil]
      rw [this]
      simp only [List.append_assoc] at h ⊢
      exact h
     unfold qc.j8
     refine qzc (fun g1=>?_) (fun g1=>fin (Or.inl (List.length_eq_zero_iff.1 (by omega))))
     refine qzc (fun g2=>?_) (fun g2=>fin (Or.inr (List.length_eq_zero_iff.1 (by omega))))
     have hc:=ih (P:=P ++ mrg wt A1 B1) (A:=A2) (B:=B2) (S:=S) (K:=fun e w'=>e=.returned (.tuple ⟨[]⟩)∧K (.returned (.tuple ⟨[]⟩)) w') (by omega) h hA2 hB2 (by omega) (by omega) (by simp only [List.length_append,hC]; omega) fun w h=>⟨rfl,hk w (by simp only [List.append_assoc] at h ⊢; exact h)⟩
     rw [List.length_append,hC,show P.length+(A1.length+B1.length)=P.length+md by omega,show P.length+md+A2.length=P.length+A.length+(md - t) by omega,show P.length+A.length+(md - t)+B2.length=P.length+A.length+B.length by omega] at hc
     exact hc
    have j7:∀ (w:World),St F0 w0 w (qdc 2 s (pks (P ++ A1 ++ B1 ++ (A2 ++ B2 ++ S))) :: ps)→qc.j7 s (P.length:Int) ((P.length+A.length+B.length:Nat):Int) ((P.length+md:Nat):Int) ((P.length+t:Nat):Int) ((P.length+A.length+(md - t):Nat):Int) (fun v w'=>K (.returned v) w') w:=by
     intro w h
     have fin:(A1=[] ∨ B1=[])→qc.j8 s ((P.length+A.length+B.length:Nat):Int) ((P.length+md:Nat):Int) ((P.length+A.length+(md - t):Nat):Int) (fun v w'=>K (.returned v) w') w:=by
      intro e
      have:mrg wt A1 B1=A1 ++ B1:=by
       rcases e with e | e
       · subst e; rw [qnf]; rfl
       · subst e; rw [qlf,List.append_nil]
      refine j8 (A1 ++ B1) w (by rw [List.length_append]) this.symm ?_
      simp only [List.append_assoc] at h ⊢
      exact h
     unfold qc.j7
     refine qzc (fun g1=>?_) (fun g1=>fin (Or.inl (List.length_eq_zero_iff.1 (by omega))))
     refine qzc (fun g2=>?_) (fun g2=>fin (Or.inr (List.length_eq_zero_iff.1 (by omega))))
     have hc:=ih (P:=P) (A:=A1) (B:=B1) (S:=A2 ++ B2 ++ S) (K:=fun e w'=>e=.returned (.tuple ⟨[]⟩)∧qc.j8 s ((P.length+A.length+B.length:Nat):Int) ((P.length+md:Nat):Int) ((P.length+A.length+(md - t):Nat):Int) (fun v w'=>K (.returned v) w') w') (by omega) h hA1 hB1 (by omega) (by omega) (by simp only [List.length_append]; omega) fun w h=>⟨rfl,j8 _ w (qep _ _ _ rfl) rfl (by simp only [List.append_assoc] at h ⊢; exact h)⟩
     rw [show P.length+A1.length=P.length+t by omega,show P.length+t+B1.length=P.length+md by omega] at hc
     exact hc
    have qqi:(A2=[] ∨ B1=[])→St F0 w0 w (qdc 2 s (pks (P ++ A1 ++ B1 ++ (A2 ++ B2 ++ S))) :: ps):=by
     intro e
     rcases e with e | e
     · subst e
       simp only [List.append_assoc,List.append_nil,List.nil_append] at h ⊢
       exact h
     · subst e
       simp only [List.append_assoc,List.append_nil,List.nil_append] at h ⊢
       exact h
    unfold qc.j6
    refine qy (show IntKind.i64.wrap (((P.length+md+(P.length+A.length):Nat):Int) - ((P.length+t:Nat):Int))=((P.length+A.length+(md - t):Nat):Int) by rw [qk (by omega) (by omega)]; omega) ?_
    refine qzc (fun g1=>?_) (fun g1=>j7 w (qqi (Or.inl (List.length_eq_zero_iff.1 (by omega)))))
    refine qzc (fun g2=>?_) (fun g2=>j7 w (qqi (Or.inr (List.length_eq_zero_iff.1 (by omega)))))
    have hc:=rotate.c (P:=P ++ A1) (A:=A2) (B:=B1) (S:=B2 ++ S) (s:=s) (F0:=F0) (w0:=w0) (w:=w) (ps:=ps) (K:=fun e w'=>e=.returned (.tuple ⟨[]⟩)∧qc.j7 s (P.length:Int) ((P.length+A.length+B.length:Nat):Int) ((P.length+md:Nat):Int) ((P.length+t:Nat):Int) ((P.length+A.length+(md - t):Nat):Int) (fun v w'=>K (.returned v) w') w') (by simp only [List.append_assoc] at h ⊢; exact h) (by omega) (by omega) (by simp only [List.length_append]; omega) fun w h=>⟨rfl,j7 w (by simp only [List.append_assoc] at h ⊢; exact h)⟩
    rw [List.length_append,show P.length+A1.length=P.length+t by omega,show P.length+t+A2.length=P.length+A.length by omega,show P.length+A.length+B1.length=P.length+A.length+(md - t) by omega] at hc
    exact hc
   have j4:∀ (lo0 hi0:Nat),lo0≤hi0→hi0≤md→hi0≤A.length→md - lo0≤B.length→(hi0=md ∨ hi0=A.length)→(lo0=0 ∨ md - lo0=B.length) →
    qc.j4 s (P.length:Int) ((P.length+A.length:Nat):Int) ((P.length+A.length+B.length:Nat):Int) ((P.length+md:Nat):Int) ((P.length+md+(P.length+A.length):Nat):Int) ((P.length+lo0:Nat):Int) ((P.length+hi0:Nat):Int) (fun v w'=>K (.returned v) w') w:=by
    intro lo0 hi0 h1 h2 h3 h4 h5 h6
    unfold qc.j4 qc.j5
    refine qy (show IntKind.i64.wrap (((P.length+md+(P.length+A.length):Nat):Int) - 1)=((P.length+md+(P.length+A.length) - 1:Nat):Int) by rw [qk (by omega) (by omega)]; omega) ?_
    refine loop2 (fun (a:Nat × Nat) (i j:Int) w'=>i=((P.length+a.1:Nat):Int)∧j=((P.length+a.2:Nat):Int)∧lo0≤a.1∧a.1≤a.2∧a.2≤hi0∧(a.1=lo0 ∨ ∀ (h2:md - a.1 < B.length) (h3:a.1 - 1 < A.length),¬ wt B[md - a.1] < wt A[a.1 - 1])∧(a.2=hi0 ∨ ∀ (h2:md - a.2 - 1 < B.length) (h3:a.2 < A.length),wt B[md - a.2 - 1] < wt A[a.2])∧St F0 w0 w' (qdc 2 s (pks (P ++ A ++ B ++ S)) :: ps)) (fun a=>a.2 - a.1) (lo0,hi0) ⟨rfl,rfl,Nat.le_refl _,h1,Nat.le_refl _,Or.inl rfl,Or.inl rfl,h⟩ ?_
    clear h
    rintro ⟨lo,hi⟩ i j wL I μ ⟨rfl,rfl,hl0,hlh,hh0,hq1,hq2,h⟩ hin
    simp only at hl0 hlh hh0 hq1 hq2 h hin ⊢
    unfold qc.b1
    refine qzc (fun g=>?_) (fun g=>?_)
    · refine half_i (by omega) ?_
      obtain ⟨q,hq⟩:∃ q,(P.length+lo+(P.length+hi)) / 2=P.length+q:=⟨(lo+hi) / 2,by omega⟩
      rw [hq]
      have hqA:q < A.length:=by omega
      have hqB:md - 1 - q < B.length:=by omega
      refine h.drewK fun w h=>?_
      refine qy (show IntKind.i64.wrap (((P.length+md+(P.length+A.length) - 1:Nat):Int) - ((P.length+q:Nat):Int))=((P.length+A.length+(md - 1 - q):Nat):Int) by rw [qk (by omega) (by omega)]; omega) ?_
      refine h.lpi (s:=s) (P.length+A.length+(md - 1 - q)) rfl (by simp only [List.length_append]; omega) ?_
      rw [getB (P:=P) (A:=A) (B:=B) (S:=S) hqB]
      refine h.lpi (s:=s) (P.length+q) rfl (by simp only [List.length_append]; omega) ?_
      rw [getA (P:=P) (A:=A) (B:=B) (S:=S) hqA]
      refine qfk.c (x:=B[md - 1 - q]) (y:=A[q]) h fun r w hr h=>⟨_,rfl,?_⟩
      refine qpf (fun g2=>?_) (fun g2=>?_)
      · have g2:¬ r < 0:=by simpa using g2
        refine qy (show IntKind.i64.wrap (((P.length+q:Nat):Int)+1)=((P.length+(q+1):Nat):Int) by rw [qk (by omega) (by omega)]; omega) ?_
        refine ⟨⟨rfl,rfl,rfl,rfl,rfl,rfl,rfl⟩,hin (q+1,hi) _ _ _ ⟨rfl,rfl,by simp only; omega,by simp only; omega,hh0,Or.inr fun k1 k2 e=>g2 (hr.2 ?_),hq2,h⟩ (by simp only; omega)⟩
        simp only [Nat.add_sub_cancel,show md - (q+1)=md - 1 - q by omega] at e
        exact e
      · have g2:r < 0:=by simpa using g2
        refine ⟨⟨rfl,rfl,rfl,rfl,rfl,rfl,rfl⟩,hin (lo,q) _ _ _ ⟨rfl,rfl,hl0,by simp only; omega,by simp only; omega,hq1,Or.inr fun k1 k2=>?_,h⟩ (by simp only; omega)⟩
        have h3:wt B[md - 1 - q] < wt A[q]:=hr.1 g2
        simp only [show md - q - 1=md - 1 - q by omega]
        exact h3
    · have:lo=hi:=by omega
      subst this
      refine j6 lo wL (by omega) (by omega) (by omega) (fun k1 k2 k3=>?_) (fun k1 k2 k3=>?_) h
      · rcases hq2 with e | e
        · exfalso; omega
        · exact e k3 k1
      · rcases hq1 with e | e
        · exfalso; omega
        · exact e k2 k3
   unfold qc.j3
   refine qzc (fun g=>?_) (fun g=>?_)
   · refine qy (show IntKind.i64.wrap (((P.length+md+(P.length+A.length):Nat):Int) - ((P.length+A.length+B.length:Nat):Int))=((P.length+(md - B.length):Nat):Int) by rw [qk (by omega) (by omega)]; omega) ?_
     exact j4 (md - B.length) md (by omega) (by omega) (by omega) (by omega) (Or.inl rfl) (Or.inr (by omega))
   · have:=j4 0 A.length (by omega) (by omega) (by omega) (by omega) (Or.inr rfl) (Or.inl rfl)
     exact this
end Go.Proofs.Ythdmmmfgjmmelaa
namespace Go.Proofs.Ythdmmmfgjmmelaa
open Go Go.Proofs
set_option linter.unusedVariables false
set_option linter.unusedSimpArgs false
attribute [local irreducible] apK cpK mkK br
def sb (c:Nat) (l:List Pk):List Pk:=bsort wt c l.length l
theorem bsort_fuel {c:Nat} (hc:0 < c):∀ (f g:Nat) (l:List Pk),l.length≤f→l.length≤g→bsort wt c f l=bsort wt c g l:=by
 intro f
 induction f with
 | zero =>
   intro g l h1 h2
   cases g with
   | zero=>rfl
   | succ g=>rw [bsort,bsort,if_pos (by omega)]
 | succ f ih =>
   intro g l h1 h2
   cases g with
   | zero=>rw [bsort,bsort,if_pos (by omega)]
   | succ g =>
     rw [bsort,bsort]
     split
     · rfl
     · rw [ih g (l.drop c) (by rw [List.length_drop]; omega) (by rw [List.length_drop]; omega)]
theorem sb_le {c:Nat} {l:List Pk} (h:l.length≤c):sb c l=qpc wt l:=by
 unfold sb
 cases hl:l.length with
 | zero=>rfl
 | succ f=>rw [bsort,if_pos h]
theorem sb_cut {c:Nat} {l:List Pk} (hc:0 < c) (h:c≤l.length):sb c l=qpc wt (l.take c) ++ sb c (l.drop c):=by
 rcases Nat.eq_or_lt_of_le h with e | e
 · have h2:l.drop c=[]:=List.drop_of_length_le (by omega)
   rw [sb_le (by omega),h2,List.take_of_length_le (by omega),sb_le (by simp)]
   exact (List.append_nil _).symm
 · unfold sb
   cases hl:l.length with
   | zero=>omega
   | succ f =>
     rw [bsort,if_neg (by omega),bsort_fuel hc f (l.drop c).length _ (by rw [List.length_drop]; omega) (Nat.le_refl _)]
section
variable {F0:List Nat} {w0 w:World} {ps rest:List As} {s:Sl}
theorem stable.c {L:List Pk} {K:Ending→World→Prop} (h:St F0 w0 w (qdc 2 s (pks L) :: ps)) (hlen:L.length≤1000000)
 (hk:∀ w',St F0 w0 w' (qdc 2 s (pks (qpc wt L)) :: ps)→K (.returned (.tuple ⟨[]⟩)) w') :
 Calls Try.prog 89 ⟨[.slice s.a s.len s.cap,.int .i64 (L.length:Int),.func (.func 41) ⟨[]⟩ ⟨[]⟩]⟩ w K:=by
 refine qoc (qf.ok _ _ _ _ ?_)
 unfold qf qf.j1
 have j3:∀ w,St F0 w0 w (qdc 2 s (pks (sb 20 L)) :: ps)→qf.j3 s (L.length:Int) 20 (fun v w'=>K (.returned v) w') w:=by
  intro w h
  unfold qf.j3
  refine qsf (fun (c:Nat) (b:Int) w'=>b=(c:Int)∧0 < c∧c≤2000000∧St F0 w0 w' (qdc 2 s (pks (sb c L)) :: ps)) (fun c=>L.length - c) 20 ⟨rfl,by decide,by decide,h⟩ ?_
  clear h
  rintro c b wL I μ ⟨rfl,hc0,hc1,h⟩ hin
  unfold qf.b1
  refine qzc (fun g=>?_) (fun g=>?_)
  · unfold qf.j4 qf.j5
    refine qy (show IntKind.i64.wrap (2 * (c:Int))=((0+2 * c:Nat):Int) by rw [qk (by omega) (by omega)]; omega) ?_
    refine loop2 (fun (a:List Pk × List Pk) (x y:Int) w'=>x=(a.1.length:Int)∧y=((a.1.length+2 * c:Nat):Int)∧a.1.length+a.2.length=L.length∧a.1 ++ sb (2 * c) a.2=sb (2 * c) L∧St F0 w0 w' (qdc 2 s (pks (a.1 ++ sb c a.2)) :: ps)) (fun a=>a.2.length) ([],L) ⟨rfl,by simp,by simp,rfl,h⟩ ?_
    clear h
    rintro ⟨R,Y⟩ x y w2 I2 μ2 ⟨rfl,rfl,hl,hT,h⟩ hin2
    simp only at hl hT h hin2 ⊢
    unfold qf.b2
    refine qzc (fun g2=>?_) (fun g2=>?_)
    · have hY:2 * c≤Y.length:=by omega
      have l1:(Y.take c).length=c:=by rw [List.length_take]; omega
      have l2:((Y.drop c).take c).length=c:=by rw [List.length_take,List.length_drop]; omega
      have e1:sb c Y=qpc wt (Y.take c) ++ (qpc wt ((Y.drop c).take c) ++ sb c (Y.drop (2 * c))):=by
       rw [sb_cut hc0 (by omega),sb_cut hc0 (l:=Y.drop c) (by rw [List.length_drop]; omega),List.drop_drop,show c+c=2 * c by omega]
      have e2:mrg wt (qpc wt (Y.take c)) (qpc wt ((Y.drop c).take c))=qpc wt (Y.take (2 * c)):=by
       rw [← qkj]
       congr 1
       rw [show 2 * c=c+c by omega,List.take_add]
      rw [e1] at h
      refine qy (show IntKind.i64.wrap ((R.length:Int)+(c:Int))=((R.length+c:Nat):Int) by rw [qk (by omega) (by omega)]; omega) ?_
      have hS:(sb c (Y.drop (2 * c))).length≤1000000→True:=fun _=>trivial
      have hlT:(R ++ qpc wt (Y.take c) ++ qpc wt ((Y.drop c).take c) ++ sb c (Y.drop (2 * c))).length=L.length:=by
       have hsl:∀ (f:Nat) (l:List Pk),(bsort wt c f l).length=l.length:=by
        intro f
        induction f with
        | zero=>intro l; exact qkc l
        | succ f ih =>
          intro l
          rw [bsort]
          split
          · exact qkc l
          · rw [List.length_append,qkc,ih,List.length_take,List.length_drop]; omega
       simp only [List.length_append,qkc,l1,l2]
       unfold sb
       rw [hsl,List.length_drop]; omega
      have hc:=symMerge.c _ (P:=R) (A:=qpc wt (Y.take c)) (B:=qpc wt ((Y.drop c).take c)) (S:=sb c (Y.drop (2 * c))) (s:=s) (F0:=F0) (w0:=w0) (w:=w2) (ps:=ps)
       (K:=fun e w'=>e=.returned (.tuple ⟨[]⟩)∧lt (IntKind.i64.wrap (2 * (c:Int))) fun x9=>lt (IntKind.i64.wrap (((R.length+2 * c:Nat):Int)+x9)) fun x10=>((s=s∧(L.length:Int)=(L.length:Int)∧(c:Int)=(c:Int))∧I2 ((R.length+2 * c:Nat):Int) x10 w'∧μ2 ((R.length+2 * c:Nat):Int) x10 w' < μ2 (R.length:Int) ((R.length+2 * c:Nat):Int) w2)) (Nat.le_refl _) (by simp only [List.append_assoc] at h ⊢; exact h) (qmg _) (qmg _) (by rw [qkc]; omega) (by rw [qkc]; omega) (by rw [hlT]; exact hlen) fun w h=>⟨rfl,?_⟩
      · rw [qkc,qkc,l1,l2,show R.length+c+c=R.length+2 * c by omega] at hc
        exact hc
      · have lR:(R ++ qpc wt (Y.take (2 * c))).length=R.length+2 * c:=by rw [List.length_append,qkc,List.length_take]; omega
        refine qy (qk (by omega) (by omega)) ?_
        refine qy (qk (by omega) (by omega)) ?_
        refine ⟨⟨rfl,rfl,rfl⟩,hin2 (R ++ qpc wt (Y.take (2 * c)),Y.drop (2 * c)) _ _ _ ⟨by rw [lR],by rw [lR]; omega,by rw [lR,List.length_drop]; omega,?_,by rw [← e2]; exact h⟩ (by rw [List.length_drop]; omega)⟩
        rw [← hT,sb_cut (by omega) hY,List.append_assoc]
    · have hY:Y.length < 2 * c:=by omega
      have nx:∀ w,St F0 w0 w (qdc 2 s (pks (R ++ qpc wt Y)) :: ps)→lt (IntKind.i64.wrap ((c:Int) * 2)) fun x4=>((s=s∧(L.length:Int)=(L.length:Int))∧I x4 w∧μ x4 w < μ (c:Int) wL):=by
       intro w h
       refine qy (show IntKind.i64.wrap ((c:Int) * 2)=((2 * c:Nat):Int) by rw [qk (by omega) (by omega)]; omega) ?_
       refine ⟨⟨rfl,rfl⟩,hin (2 * c) _ _ ⟨rfl,by omega,by omega,?_⟩ (by omega)⟩
       rw [← hT,sb_le (by omega)]
       exact h
      unfold qf.j6
      refine qy (show IntKind.i64.wrap ((R.length:Int)+(c:Int))=((R.length+c:Nat):Int) by rw [qk (by omega) (by omega)]; omega) ?_
      refine qzc (fun g3=>?_) (fun g3=>?_)
      · have l1:(Y.take c).length=c:=by rw [List.length_take]; omega
        have l2:(Y.drop c).length=Y.length - c:=List.length_drop
        rw [sb_cut hc0 (by omega),sb_le (l:=Y.drop c) (by omega)] at h
        have e2:mrg wt (qpc wt (Y.take c)) (qpc wt (Y.drop c))=qpc wt Y:=by rw [← qkj,List.take_append_drop]
        have hc:=symMerge.c _ (P:=R) (A:=qpc wt (Y.take c)) (B:=qpc wt (Y.drop c)) (S:=[]) (s:=s) (F0:=F0) (w0:=w0) (w:=w2) (ps:=ps)
         (K:=fun e w'=>e=.returned (.tuple ⟨[]⟩)∧lt (IntKind.i64.wrap ((c:Int) * 2)) fun x4=>((s=s∧(L.length:Int)=(L.length:Int))∧I x4 w'∧μ x4 w' < μ (c:Int) wL)) (Nat.le_refl _) (by simp only [List.append_assoc,List.append_nil] at h ⊢; exact h) (qmg _) (qmg _) (by rw [qkc]; omega) (by rw [qkc]; omega) (by simp only [List.length_append,qkc,List.length_nil]; omega) fun w h=>⟨rfl,nx w (by rw [e2,List.append_nil] at h; exact h)⟩
        rw [qkc,qkc,l1,l2,show R.length+c+(Y.length - c)=L.length by omega] at hc
        exact hc
      · rw [sb_le (by omega)] at h
        exact nx w2 h
  · refine hk wL ?_
    rw [sb_le (by omega)] at h
    exact h
 refine loop2 (fun (a:List Pk × List Pk) (x y:Int) w'=>x=(a.1.length:Int)∧y=((a.1.length+20:Nat):Int)∧a.1.length+a.2.length=L.length∧a.1 ++ sb 20 a.2=sb 20 L∧St F0 w0 w' (qdc 2 s (pks (a.1 ++ a.2)) :: ps)) (fun a=>a.2.length) ([],L) ⟨rfl,rfl,by simp,rfl,h⟩ ?_
 clear h
 rintro ⟨R,Y⟩ x y w2 I2 μ2 ⟨rfl,rfl,hl,hT,h⟩ hin2
 simp only at hl hT h hin2 ⊢
 unfold qf.b3
 refine qzc (fun g2=>?_) (fun g2=>?_)
 · have hY:20≤Y.length:=by omega
   have l1:(Y.take 20).length=20:=by rw [List.length_take]; omega
   have l2:(Y.drop 20).length=Y.length - 20:=List.length_drop
   have hc:=insertion.c (P:=R) (X:=Y.take 20) (S:=Y.drop 20) (s:=s) (F0:=F0) (w0:=w0) (w:=w2) (ps:=ps)
    (K:=fun e w'=>e=.returned (.tuple ⟨[]⟩)∧lt (IntKind.i64.wrap (((R.length+20:Nat):Int)+20)) fun x16=>((s=s∧(L.length:Int)=(L.length:Int)∧(20:Int)=20)∧I2 ((R.length+20:Nat):Int) x16 w'∧μ2 ((R.length+20:Nat):Int) x16 w' < μ2 (R.length:Int) ((R.length+20:Nat):Int) w2)) (by rw [List.append_assoc,List.take_append_drop]; exact h) (by simp only [List.length_append,l1,l2]; omega) fun w h=>⟨rfl,?_⟩
   · rw [l1] at hc
     exact hc
   · have lR:(R ++ qpc wt (Y.take 20)).length=R.length+20:=by rw [List.length_append,qkc,l1]
     refine qy (qk (by omega) (by omega)) ?_
     refine ⟨⟨rfl,rfl,rfl⟩,hin2 (R ++ qpc wt (Y.take 20),Y.drop 20) _ _ _ ⟨by rw [lR],by rw [lR]; omega,by rw [lR,l2]; omega,?_,h⟩ (by rw [l2]; omega)⟩
     rw [← hT,sb_cut (by decide) hY,List.append_assoc]
 · unfold qf.j2
   have hc:=insertion.c (P:=R) (X:=Y) (S:=[]) (s:=s) (F0:=F0) (w0:=w0) (w:=w2) (ps:=ps)
    (K:=fun e w'=>e=.returned (.tuple ⟨[]⟩)∧qf.j3 s (L.length:Int) 20 (fun v w'=>K (.returned v) w') w') (by rw [List.append_nil]; exact h) (by simp only [List.length_append,List.length_nil]; omega) fun w h=>⟨rfl,j3 w (by rw [← hT,sb_le (by omega)]; rw [List.append_nil] at h; exact h)⟩
   rw [hl] at hc
   exact hc
theorem SortStable.c {L:List Pk} {K:Ending→World→Prop} (h:St F0 w0 w ps) [PkO s ps 2 (pks L) rest] (hlen:L.length≤1000000)
 (hk:∀ w',St F0 w0 w' (qdc 2 s (pks (qpc wt L)) :: rest)→K (.returned (.tuple ⟨[]⟩)) w') :
 Calls Try.prog 40 ⟨[.slice s.a s.len s.cap,.func (.func 41) ⟨[]⟩ ⟨[]⟩]⟩ w K:=by
 have h:=h.toO s
 have hl:=h.len
 rw [qhf] at hl
 refine qoc (qad.ok _ _ _ ?_)
 unfold qad
 have hc:=stable.c (K:=fun e w'=>e=.returned (.tuple ⟨[]⟩)∧K (.returned (.tuple ⟨[]⟩)) w') h hlen fun w h=>⟨rfl,hk w h⟩
 rw [show L.length=s.len by omega] at hc
 exact hc
end
end Go.Proofs.Ythdmmmfgjmmelaa
namespace Go.Proofs.Ythdmmmfgjmmelaa
open Go Go.Proofs
set_option linter.unusedVariables false
set_option maxRecDepth 100000
def qwi (n_0:Int) (Q:VWP) (w:World):Prop :=
 br (decide ((n_0:Int) < 0)) (
 Q (.bool true) w) (
 Q (.bool (decide ((n_0:Int) > 16777216))) w)
theorem qwi.ok (n_0:Int) (Q:VWP) (w:World) (h:qwi n_0 Q w):Calls Try.prog 87 ⟨[.int .i64 n_0]⟩ w (Ret Q):=by
 refine qn [.tmp 2] Try.func87 rfl rfl rfl rfl ?_
 exact qg qpb _ (Eq.mp (by kernel_rfl) h)
def qkb.j2  (Q:VWP) (w:World):Prop :=
 Q (.int .i64 (-1)) w
def qkb.b1 (s_0:Sl) (t7:Int) (t8:Int) (Q:VWP) (nx1:Sl→Int→Int→World→Prop) (w:World):Prop :=
 br (decide ((t8:Int) < t7)) (
 ixS s_0.a s_0.len t8 1 fun a1 =>
 ldI .i64 w a1 fun x2 =>
 Calls Try.prog 87 ⟨[.int .i64 x2]⟩ w fun e3 w4 =>
 ∃ r5:Bool,e3=.returned (.bool r5) ∧
 br r5 (
 Q (.int .i64 t8) w4) (
 lt (IntKind.i64.wrap (t8+1)) fun x6 =>
 nx1 s_0 t7 x6 w4)) (
 qkb.j2 Q w)
def qkb.l1 (s_0:Sl) (t7:Int) (t8:Int) (Q:VWP) (w:World):Prop :=
 ∃ (I:Int→World→Prop) (μ:Int→World→Nat),I t8 w∧∀ t8:Int,∀ w:World,I t8 w→qkb.b1 s_0 t7 t8 Q (fun s_0' t7' t8' w'=>(s_0'=s_0∧t7'=t7)∧I t8' w'∧μ t8' w' < μ t8 w) w
def qkb.j3 (s_0:Sl) (t7:Int) (t8:Int) (Q:VWP) (w:World):Prop :=
 qkb.l1 s_0 t7 t8 Q w
def qkb.j1 (s_0:Sl) (Q:VWP) (w:World):Prop :=
 qkb.j3 s_0 ((s_0.len:Nat):Int) 0 Q w
def qkb (s_0:Sl) (Q:VWP) (w:World):Prop :=
 qkb.j1 s_0 Q w
theorem qkb.ok (s_0:Sl) (Q:VWP) (w:World) (h:qkb s_0 Q w):Calls Try.prog 133 ⟨[.slice s_0.a s_0.len s_0.cap,.func (.func 87) ⟨[]⟩ ⟨[]⟩]⟩ w (Ret Q):=by
 refine qn [.tmp 4] Try.func133 rfl rfl rfl rfl ?_
 refine qr (fun ρ w=>asL (ρ 0) fun s_0=>qth 87 (ρ 1) <| qkb.j1 s_0 Q w) ?_ ?_
 · skip
   exact qg qpb _ (Eq.mp (by kernel_rfl) h)
 · intro ρ w h
   obtain ⟨s_0,e0,h⟩:=qj h
   obtain ⟨e1,h⟩:=qsc h
   refine qb e0 (qb (qa e1 rfl) ?_)
   refine qr (fun ρ w=> qkb.j2  Q w) ?_ ?_
   · skip
     refine qr (fun ρ w=>asL (ρ 0) fun s_0=>qth 87 (ρ 1) <| asI .i64 (ρ 7) fun t7=>asI .i64 (ρ 8) fun t8=>qkb.j3 s_0 t7 t8 Q w) ?_ ?_
     · skip
       exact qg qpb _ (Eq.mp (by kernel_rfl) h)
     · intro ρ w h
       obtain ⟨s_0,e0,h⟩:=qj h
       obtain ⟨e1,h⟩:=qsc h
       obtain ⟨t7,e7,h⟩:=qe h
       obtain ⟨t8,e8,h⟩:=qe h
       refine qb e0 (qb (qa e1 rfl) (qb (qa (qa e7 rfl) rfl) (qb (qa (qa (qa e8 rfl) rfl) rfl) ?_)))
       refine qcb ?_
       obtain ⟨I,μ,hI,hr⟩:=h
       refine qhb (α:=Int) (fun s ρ=>ρ 8=.int .i64 s∧ρ 0=.slice s_0.a s_0.len s_0.cap∧ρ 1=.func (.func 87) ⟨[]⟩ ⟨[]⟩∧ρ 7=.int .i64 t7) (fun s w=>I s w) (fun s w=>μ s w) t8 ⟨rfl,rfl,rfl,rfl⟩ hI ?_
       rintro t8 ρ w ⟨e8,e0,e1,e7⟩ hI
       have h:=hr t8 w hI
       clear hr
       obtain ⟨nx1,hnx⟩:∃ nx:Sl→Int→Int→World→Prop,nx=(fun s_0' t7' t8' w'=>(s_0'=s_0∧t7'=t7)∧I t8' w'∧μ t8' w' < μ t8 w):=⟨_,rfl⟩
       rw [← hnx] at h
       refine qob (M:=fun ρ w=>asL (ρ 0) fun s_0=>qth 87 (ρ 1) <| asI .i64 (ρ 7) fun t7=>asI .i64 (ρ 8) fun t8=>nx1 s_0 t7 t8 w) ?_ (fun ρ w h=>?_)
       · skip
         refine qb e0 (qb (qa e1 rfl) (qb (qa (qa e7 rfl) rfl) (qb (qa (qa (qa e8 rfl) rfl) rfl) ?_)))
         exact qg qpb _ (Eq.mp (by kernel_rfl) h)
       · skip
         obtain ⟨s_0',e0',h⟩:=qj h
         obtain ⟨e1',h⟩:=qsc h
         obtain ⟨t7',e7',h⟩:=qe h
         obtain ⟨t8',e8',h⟩:=qe h
         rw [hnx] at h
         obtain ⟨hu,hI2,hμ⟩:=h
         obtain ⟨rfl,rfl⟩:=hu
         exact ⟨t8',⟨e8',e0',e1',e7'⟩,hI2,hμ⟩
   · intro ρ w h
     exact qg qpb _ (Eq.mp (by kernel_rfl) h)
def qde (s_0:Sl) (Q:VWP) (w:World):Prop :=
 Calls Try.prog 133 ⟨[.slice s_0.a s_0.len s_0.cap,.func (.func 87) ⟨[]⟩ ⟨[]⟩]⟩ w fun e1 w2 =>
 ∃ r3:Int,e1=.returned (.int .i64 r3) ∧
 Q (.bool (decide ((r3:Int) ≥ 0))) w2
theorem qde.ok (s_0:Sl) (Q:VWP) (w:World) (h:qde s_0 Q w):Calls Try.prog 86 ⟨[.slice s_0.a s_0.len s_0.cap,.func (.func 87) ⟨[]⟩ ⟨[]⟩]⟩ w (Ret Q):=by
 refine qn [.tmp 4] Try.func86 rfl rfl rfl rfl ?_
 exact qg qpb _ (Eq.mp (by kernel_rfl) h)
def qii (counts_0:Sl) (Q:VWP) (w:World):Prop :=
 br (decide ((((counts_0.len:Nat):Int):Int) > 288)) (
 Q (.bool true) w) (
 Calls Try.prog 86 ⟨[.slice counts_0.a counts_0.len counts_0.cap,.func (.func 87) ⟨[]⟩ ⟨[]⟩]⟩ w fun e1 w2 =>
 ∃ r3:Bool,e1=.returned (.bool r3) ∧
 Q (.bool r3) w2)
theorem qii.ok (counts_0:Sl) (Q:VWP) (w:World) (h:qii counts_0 Q w):Calls Try.prog 36 ⟨[.slice counts_0.a counts_0.len counts_0.cap]⟩ w (Ret Q):=by
 refine qn [.tmp 2] Try.func36 rfl rfl rfl rfl ?_
 exact qg qpb _ (Eq.mp (by kernel_rfl) h)
def qvc.j2 (out_3:Sl) (Q:VWP) (w:World):Prop :=
 Q (.slice out_3.a out_3.len out_3.cap) w
def qvc.b1 (t6:Sl) (t7:Int) (out_3:Sl) (t8:Int) (Q:VWP) (nx1:Sl→Int→Sl→Int→World→Prop) (w:World):Prop :=
 br (decide ((t8:Int) < t7)) (
 ixS t6.a t6.len t8 1 fun a1 =>
 ldI .i64 w a1 fun x2 =>
 br (decide ((x2:Int) > 0)) (
 lt (⟨World.heapSize w,0,none⟩:Addr) fun a3 =>
 lt (World.alloc w (.cells ⟨[.int .i64 t8]⟩ 3)) fun w4 =>
 rdO w4 (some a3) (1 * 1) fun c5 =>
 apK Try.prog 3 w4 out_3.a out_3.len out_3.cap 1 c5 fun s6 w7 =>
 lt (IntKind.i64.wrap (t8+1)) fun x8 =>
 nx1 t6 t7 s6 x8 w7) (
 lt (IntKind.i64.wrap (t8+1)) fun x9 =>
 nx1 t6 t7 out_3 x9 w)) (
 qvc.j2 out_3 Q w)
def qvc.l1 (t6:Sl) (t7:Int) (out_3:Sl) (t8:Int) (Q:VWP) (w:World):Prop :=
 ∃ (I:Sl→Int→World→Prop) (μ:Sl→Int→World→Nat),I out_3 t8 w∧∀ out_3:Sl,∀ t8:Int,∀ w:World,I out_3 t8 w→qvc.b1 t6 t7 out_3 t8 Q (fun t6' t7' out_3' t8' w'=>(t6'=t6∧t7'=t7)∧I out_3' t8' w'∧μ out_3' t8' w' < μ out_3 t8 w) w
def qvc.j3 (out_3 t6:Sl) (t7:Int) (t8:Int) (Q:VWP) (w:World):Prop :=
 qvc.l1 t6 t7 out_3 t8 Q w
def qvc.j1 (counts_0 out_3:Sl) (Q:VWP) (w:World):Prop :=
 qvc.j3 out_3 counts_0 ((counts_0.len:Nat):Int) 0 Q w
def qvc (counts_0:Sl) (Q:VWP) (w:World):Prop :=
 qvc.j1 counts_0 ⟨none,0,0⟩ Q w
theorem qvc.ok (counts_0:Sl) (Q:VWP) (w:World) (h:qvc counts_0 Q w):Calls Try.prog 37 ⟨[.slice counts_0.a counts_0.len counts_0.cap]⟩ w (Ret Q):=by
 refine qn [.tmp 2] Try.func37 rfl rfl rfl rfl ?_
 refine qib qpb (fun ρ w=>asL (ρ 0) fun counts_0=>asL (ρ 3) fun out_3=>qvc.j1 counts_0 out_3 Q w) (Eq.mp (by kernel_rfl) h) ?_
 intro ρ w h
 obtain ⟨counts_0,e0,h⟩:=qj h
 obtain ⟨out_3,e3,h⟩:=qj h
 refine qb e0 (qb (qa e3 rfl) ?_)
 refine qr (fun ρ w=>asL (ρ 3) fun out_3=>qvc.j2 out_3 Q w) ?_ ?_
 · skip
   refine qr (fun ρ w=>asL (ρ 3) fun out_3=>asL (ρ 6) fun t6=>asI .i64 (ρ 7) fun t7=>asI .i64 (ρ 8) fun t8=>qvc.j3 out_3 t6 t7 t8 Q w) ?_ ?_
   · skip
     exact qg qpb _ (Eq.mp (by kernel_rfl) h)
   · intro ρ w h
     obtain ⟨out_3,e3,h⟩:=qj h
     obtain ⟨t6,e6,h⟩:=qj h
     obtain ⟨t7,e7,h⟩:=qe h
     obtain ⟨t8,e8,h⟩:=qe h
     refine qb e3 (qb (qa e6 rfl) (qb (qa (qa e7 rfl) rfl) (qb (qa (qa (qa e8 rfl) rfl) rfl) ?_)))
     refine qcb ?_
     obtain ⟨I,μ,hI,hr⟩:=h
     refine qhb (α:=Sl × Int) (fun s ρ=>ρ 3=.slice s.1.a s.1.len s.1.cap∧ρ 8=.int .i64 s.2∧ρ 6=.slice t6.a t6.len t6.cap∧ρ 7=.int .i64 t7) (fun s w=>I s.1 s.2 w) (fun s w=>μ s.1 s.2 w) (out_3,t8) ⟨rfl,rfl,rfl,rfl⟩ hI ?_
     rintro ⟨out_3,t8⟩ ρ w ⟨e3,e8,e6,e7⟩ hI
     have h:=hr out_3 t8 w hI
     clear hr
     obtain ⟨nx1,hnx⟩:∃ nx:Sl→Int→Sl→Int→World→Prop,nx=(fun t6' t7' out_3' t8' w'=>(t6'=t6∧t7'=t7)∧I out_3' t8' w'∧μ out_3' t8' w' < μ out_3 t8 w):=⟨_,rfl⟩
     rw [← hnx] at h
     refine qob (M:=fun ρ w=>asL (ρ 6) fun t6=>asI .i64 (ρ 7) fun t7=>asL (ρ 3) fun out_3=>asI .i64 (ρ 8) fun t8=>nx1 t6 t7 out_3 t8 w) ?_ (fun ρ w h=>?_)
     · skip
       refine qb e3 (qb (qa e6 rfl) (qb (qa (qa e7 rfl) rfl) (qb (qa (qa (qa e8 rfl) rfl) rfl) ?_)))
       exact qg qpb _ (Eq.mp (by kernel_rfl) h)
     · skip
       obtain ⟨t6',e6',h⟩:=qj h
       obtain ⟨t7',e7',h⟩:=qe h
       obtain ⟨out_3',e3',h⟩:=qj h
       obtain ⟨t8',e8',h⟩:=qe h
       rw [hnx] at h
       obtain ⟨hu,hI2,hμ⟩:=h
       obtain ⟨rfl,rfl⟩:=hu
       exact ⟨(out_3',t8'),⟨e3',e8',e6',e7'⟩,hI2,hμ⟩
 · intro ρ w h
   obtain ⟨out_3,e3,h⟩:=qj h
   refine qb e3 ?_
   exact qg qpb _ (Eq.mp (by kernel_rfl) h)
def qze (s_0:Sl) (n_1:Int) (Q:VWP) (w:World):Prop :=
 br (decide ((n_1:Int) < 0)) (
 False) (
 lt (IntKind.i64.wrap (((s_0.cap:Nat):Int) - ((s_0.len:Nat):Int))) fun x1 =>
 lt (IntKind.i64.wrap (n_1 - x1)) fun x2 =>
 br (decide ((x2:Int) > 0)) (
 bd ((s_0.cap:Nat):Int) s_0.cap fun n3 =>
 lt (⟨qzf s_0.a s_0.cap 0 1,n3 - 0,s_0.cap - 0⟩:Sl) fun s4 =>
 zrK Try.prog 3 s4.len x2 fun c5 =>
 apK Try.prog 3 w s4.a s4.len s4.cap (Int.toNat x2) c5 fun s6 w7 =>
 bd ((s_0.len:Nat):Int) s6.cap fun n8 =>
 lt (⟨qzf s6.a s6.cap 0 1,n8 - 0,s6.cap - 0⟩:Sl) fun s9 =>
 Q (.slice s9.a s9.len s9.cap) w7) (
 Q (.slice s_0.a s_0.len s_0.cap) w))
theorem qze.ok (s_0:Sl) (n_1:Int) (Q:VWP) (w:World) (h:qze s_0 n_1 Q w):Calls Try.prog 134 ⟨[.slice s_0.a s_0.len s_0.cap,.int .i64 n_1]⟩ w (Ret Q):=by
 refine qn [.tmp 4] Try.func134 rfl rfl rfl rfl ?_
 exact qg qpb _ (Eq.mp (by kernel_rfl) h)
def qv.j4 (newslice_6:Sl) (Q:VWP) (w:World):Prop :=
 Q (.slice newslice_6.a newslice_6.len newslice_6.cap) w
def qv.b1 (t25:Sl) (t26:Int) (newslice_6:Sl) (t27:Int) (Q:VWP) (nx1:Sl→Int→Sl→Int→World→Prop) (w:World):Prop :=
 br (decide ((t27:Int) < t26)) (
 ixS t25.a t25.len t27 1 fun a1 =>
 ldL w a1 fun x2 =>
 rdO w x2.a (x2.len * 1) fun c3 =>
 apK Try.prog 3 w newslice_6.a newslice_6.len newslice_6.cap x2.len c3 fun s4 w5 =>
 lt (IntKind.i64.wrap (t27+1)) fun x6 =>
 nx1 t25 t26 s4 x6 w5) (
 qv.j4 newslice_6 Q w)
def qv.l1 (t25:Sl) (t26:Int) (newslice_6:Sl) (t27:Int) (Q:VWP) (w:World):Prop :=
 ∃ (I:Sl→Int→World→Prop) (μ:Sl→Int→World→Nat),I newslice_6 t27 w∧∀ newslice_6:Sl,∀ t27:Int,∀ w:World,I newslice_6 t27 w→qv.b1 t25 t26 newslice_6 t27 Q (fun t25' t26' newslice_6' t27' w'=>(t25'=t25∧t26'=t26)∧I newslice_6' t27' w'∧μ newslice_6' t27' w' < μ newslice_6 t27 w) w
def qv.j5 (newslice_6 t25:Sl) (t26:Int) (t27:Int) (Q:VWP) (w:World):Prop :=
 qv.l1 t25 t26 newslice_6 t27 Q w
def qv.j3 (slices_0 newslice_6:Sl) (Q:VWP) (w:World):Prop :=
 qv.j5 newslice_6 slices_0 ((slices_0.len:Nat):Int) 0 Q w
def qv.j2 (slices_0:Sl) (size_3:Int) (Q:VWP) (w:World):Prop :=
 Calls Try.prog 134 ⟨[.slice none 0 0,.int .i64 size_3]⟩ w fun e7 w8 =>
 ∃ r9:Sl,e7=.returned (.slice r9.a r9.len r9.cap) ∧
 qv.j3 slices_0 r9 Q w8
def qv.b2 (slices_0 t9:Sl) (t10:Int) (size_3 t11:Int) (Q:VWP) (nx2:Sl→Sl→Int→Int→Int→World→Prop) (w:World):Prop :=
 br (decide ((t11:Int) < t10)) (
 ixS t9.a t9.len t11 1 fun a10 =>
 ldL w a10 fun x11 =>
 lt (IntKind.i64.wrap (size_3+((x11.len:Nat):Int))) fun x12 =>
 br (decide ((x12:Int) < 0)) (
 False) (
 lt (IntKind.i64.wrap (t11+1)) fun x13 =>
 nx2 slices_0 t9 t10 x12 x13 w)) (
 qv.j2 slices_0 size_3 Q w)
def qv.l2 (slices_0 t9:Sl) (t10:Int) (size_3 t11:Int) (Q:VWP) (w:World):Prop :=
 ∃ (I:Int→Int→World→Prop) (μ:Int→Int→World→Nat),I size_3 t11 w∧∀ size_3:Int,∀ t11:Int,∀ w:World,I size_3 t11 w→qv.b2 slices_0 t9 t10 size_3 t11 Q (fun slices_0' t9' t10' size_3' t11' w'=>(slices_0'=slices_0∧t9'=t9∧t10'=t10)∧I size_3' t11' w'∧μ size_3' t11' w' < μ size_3 t11 w) w
def qv.j6 (slices_0:Sl) (size_3:Int) (t9:Sl) (t10:Int) (t11:Int) (Q:VWP) (w:World):Prop :=
 qv.l2 slices_0 t9 t10 size_3 t11 Q w
def qv.j1 (slices_0:Sl) (size_3:Int) (Q:VWP) (w:World):Prop :=
 qv.j6 slices_0 size_3 slices_0 ((slices_0.len:Nat):Int) 0 Q w
def qv (slices_0:Sl) (Q:VWP) (w:World):Prop :=
 qv.j1 slices_0 0 Q w
theorem qv.ok (slices_0:Sl) (Q:VWP) (w:World) (h:qv slices_0 Q w):Calls Try.prog 88 ⟨[.slice slices_0.a slices_0.len slices_0.cap]⟩ w (Ret Q):=by
 refine qn [.tmp 2] Try.func88 rfl rfl rfl rfl ?_
 refine qib qpb (fun ρ w=>asL (ρ 0) fun slices_0=>asI .i64 (ρ 3) fun size_3=>qv.j1 slices_0 size_3 Q w) (Eq.mp (by kernel_rfl) h) ?_
 intro ρ w h
 obtain ⟨slices_0,e0,h⟩:=qj h
 obtain ⟨size_3,e3,h⟩:=qe h
 refine qb e0 (qb (qa e3 rfl) ?_)
 refine qr (fun ρ w=>asL (ρ 0) fun slices_0=>asI .i64 (ρ 3) fun size_3=>qv.j2 slices_0 size_3 Q w) ?_ ?_
 · skip
   refine qr (fun ρ w=>asL (ρ 0) fun slices_0=>asI .i64 (ρ 3) fun size_3=>asL (ρ 9) fun t9=>asI .i64 (ρ 10) fun t10=>asI .i64 (ρ 11) fun t11=>qv.j6 slices_0 size_3 t9 t10 t11 Q w) ?_ ?_
   · skip
     exact qg qpb _ (Eq.mp (by kernel_rfl) h)
   · intro ρ w h
     obtain ⟨slices_0,e0,h⟩:=qj h
     obtain ⟨size_3,e3,h⟩:=qe h
     obtain ⟨t9,e9,h⟩:=qj h
     obtain ⟨t10,e10,h⟩:=qe h
     obtain ⟨t11,e11,h⟩:=qe h
     refine qb e0 (qb (qa e3 rfl) (qb (qa (qa e9 rfl) rfl) (qb (qa (qa (qa e10 rfl) rfl) rfl) (qb (qa (qa (qa (qa e11 rfl) rfl) rfl) rfl) ?_))))
     refine qcb ?_
     obtain ⟨I,μ,hI,hr⟩:=h
     refine qhb (α:=Int × Int) (fun s ρ=>ρ 3=.int .i64 s.1∧ρ 11=.int .i64 s.2∧ρ 0=.slice slices_0.a slices_0.len slices_0.cap∧ρ 9=.slice t9.a t9.len t9.cap∧ρ 10=.int .i64 t10) (fun s w=>I s.1 s.2 w) (fun s w=>μ s.1 s.2 w) (size_3,t11) ⟨rfl,rfl,rfl,rfl,rfl⟩ hI ?_
     rintro ⟨size_3,t11⟩ ρ w ⟨e3,e11,e0,e9,e10⟩ hI
     have h:=hr size_3 t11 w hI
     clear hr
     obtain ⟨nx2,hnx⟩:∃ nx:Sl→Sl→Int→Int→Int→World→Prop,nx=(fun slices_0' t9' t10' size_3' t11' w'=>(slices_0'=slices_0∧t9'=t9∧t10'=t10)∧I size_3' t11' w'∧μ size_3' t11' w' < μ size_3 t11 w):=⟨_,rfl⟩
     rw [← hnx] at h
     refine qob (M:=fun ρ w=>asL (ρ 0) fun slices_0=>asL (ρ 9) fun t9=>asI .i64 (ρ 10) fun t10=>asI .i64 (ρ 3) fun size_3=>asI .i64 (ρ 11) fun t11=>nx2 slices_0 t9 t10 size_3 t11 w) ?_ (fun ρ w h=>?_)
     · skip
       refine qb e0 (qb (qa e3 rfl) (qb (qa (qa e9 rfl) rfl) (qb (qa (qa (qa e10 rfl) rfl) rfl) (qb (qa (qa (qa (qa e11 rfl) rfl) rfl) rfl) ?_))))
       exact qg qpb _ (Eq.mp (by kernel_rfl) h)
     · skip
       obtain ⟨slices_0',e0',h⟩:=qj h
       obtain ⟨t9',e9',h⟩:=qj h
       obtain ⟨t10',e10',h⟩:=qe h
       obtain ⟨size_3',e3',h⟩:=qe h
       obtain ⟨t11',e11',h⟩:=qe h
       rw [hnx] at h
       obtain ⟨hu,hI2,hμ⟩:=h
       obtain ⟨rfl,rfl,rfl⟩:=hu
       exact ⟨(size_3',t11'),⟨e3',e11',e0',e9',e10'⟩,hI2,hμ⟩
 · intro ρ w h
   obtain ⟨slices_0,e0,h⟩:=qj h
   obtain ⟨size_3,e3,h⟩:=qe h
   refine qb e0 (qb (qa e3 rfl) ?_)
   refine qr (fun ρ w=>asL (ρ 0) fun slices_0=>asL (ρ 6) fun newslice_6=>qv.j3 slices_0 newslice_6 Q w) ?_ ?_
   · skip
     exact qg qpb _ (Eq.mp (by kernel_rfl) h)
   · intro ρ w h
     obtain ⟨slices_0,e0,h⟩:=qj h
     obtain ⟨newslice_6,e6,h⟩:=qj h
     refine qb e0 (qb (qa e6 rfl) ?_)
     refine qr (fun ρ w=>asL (ρ 6) fun newslice_6=>qv.j4 newslice_6 Q w) ?_ ?_
     · skip
       refine qr (fun ρ w=>asL (ρ 6) fun newslice_6=>asL (ρ 25) fun t25=>asI .i64 (ρ 26) fun t26=>asI .i64 (ρ 27) fun t27=>qv.j5 newslice_6 t25 t26 t27 Q w) ?_ ?_
       · skip
         exact qg qpb _ (Eq.mp (by kernel_rfl) h)
       · intro ρ w h
         obtain ⟨newslice_6,e6,h⟩:=qj h
         obtain ⟨t25,e25,h⟩:=qj h
         obtain ⟨t26,e26,h⟩:=qe h
         obtain ⟨t27,e27,h⟩:=qe h
         refine qb e6 (qb (qa e25 rfl) (qb (qa (qa e26 rfl) rfl) (qb (qa (qa (qa e27 rfl) rfl) rfl) ?_)))
         refine qcb ?_
         obtain ⟨I,μ,hI,hr⟩:=h
         refine qhb (α:=Sl × Int) (fun s ρ=>ρ 6=.slice s.1.a s.1.len s.1.cap∧ρ 27=.int .i64 s.2∧ρ 25=.slice t25.a t25.len t25.cap∧ρ 26=.int .i64 t26) (fun s w=>I s.1 s.2 w) (fun s w=>μ s.1 s.2 w) (newslice_6,t27) ⟨rfl,rfl,rfl,rfl⟩ hI ?_
         rintro ⟨newslice_6,t27⟩ ρ w ⟨e6,e27,e25,e26⟩ hI
         have h:=hr newslice_6 t27 w hI
         clear hr
         obtain ⟨nx1,hnx⟩:∃ nx:Sl→Int→Sl→Int→World→Prop,nx=(fun t25' t26' newslice_6' t27' w'=>(t25'=t25∧t26'=t26)∧I newslice_6' t27' w'∧μ newslice_6' t27' w' < μ newslice_6 t27 w):=⟨_,rfl⟩
         rw [← hnx] at h
         refine qob (M:=fun ρ w=>asL (ρ 25) fun t25=>asI .i64 (ρ 26) fun t26=>asL (ρ 6) fun newslice_6=>asI .i64 (ρ 27) fun t27=>nx1 t25 t26 newslice_6 t27 w) ?_ (fun ρ w h=>?_)
         · skip
           refine qb e6 (qb (qa e25 rfl) (qb (qa (qa e26 rfl) rfl) (qb (qa (qa (qa e27 rfl) rfl) rfl) ?_)))
           exact qg qpb _ (Eq.mp (by kernel_rfl) h)
         · skip
           obtain ⟨t25',e25',h⟩:=qj h
           obtain ⟨t26',e26',h⟩:=qe h
           obtain ⟨newslice_6',e6',h⟩:=qj h
           obtain ⟨t27',e27',h⟩:=qe h
           rw [hnx] at h
           obtain ⟨hu,hI2,hμ⟩:=h
           obtain ⟨rfl,rfl⟩:=hu
           exact ⟨(newslice_6',t27'),⟨e6',e27',e25',e26'⟩,hI2,hμ⟩
     · intro ρ w h
       obtain ⟨newslice_6,e6,h⟩:=qj h
       refine qb e6 ?_
       exact qg qpb _ (Eq.mp (by kernel_rfl) h)
def qmc.j2 (out_3:Sl) (Q:VWP) (w:World):Prop :=
 Q (.slice out_3.a out_3.len out_3.cap) w
def qmc.b1 (l_0 out_3:Sl) (i_4:Int) (Q:VWP) (nx1:Sl→Sl→Int→World→Prop) (w:World):Prop :=
 br (decide ((i_4:Int) < ((l_0.len:Nat):Int))) (
 lt (World.drew w) fun w1 =>
 lt (IntKind.i64.wrap (i_4 - 1)) fun x2 =>
 ixS l_0.a l_0.len x2 2 fun a3 =>
 ixS l_0.a l_0.len i_4 2 fun a4 =>
 lt (IntKind.i64.wrap (i_4 - 1)) fun x5 =>
 ixS l_0.a l_0.len x5 2 fun a6 =>
 ldL w1 (Addr.add a6 1) fun x7 =>
 ixS l_0.a l_0.len i_4 2 fun a8 =>
 ldL w1 (Addr.add a8 1) fun x9 =>
 (ldI .i64 w1 (Addr.add a3 0) fun x10 =>
 (ldI .i64 w1 (Addr.add a4 0) fun x11 =>
 lt (IntKind.i64.wrap (x10+x11)) fun x12 =>
 lt (⟨World.heapSize w1,0,none⟩:Addr) fun a13 =>
 lt (World.alloc w1 (.cells ⟨[.slice x7.a x7.len x7.cap,.slice x9.a x9.len x9.cap]⟩ 22)) fun w14 =>
 Calls Try.prog 88 ⟨[.slice (some a13) 2 2]⟩ w14 fun e15 w16 =>
 ∃ r17:Sl,e15=.returned (.slice r17.a r17.len r17.cap) ∧
 ((⟨[.int .i64 x12,.slice r17.a r17.len r17.cap]⟩:Array Value)).size=2 ∧
 lt (⟨World.heapSize w16,0,none⟩:Addr) fun a18 =>
 lt (World.alloc w16 (.cells ⟨(spl [.int .i64 0,.slice none 0 0] 0 (⟨[.int .i64 x12,.slice r17.a r17.len r17.cap]⟩:Array Value))⟩ 80)) fun w19 =>
 rdO w19 (some a18) (1 * 2) fun c20 =>
 apK Try.prog 80 w19 out_3.a out_3.len out_3.cap 1 c20 fun s21 w22 =>
 lt (IntKind.i64.wrap (i_4+2)) fun x23 =>
 nx1 l_0 s21 x23 w22)∧(
 lt (⟨World.heapSize w1,0,none⟩:Addr) fun a24 =>
 lt (World.alloc w1 (.cells ⟨[.slice x7.a x7.len x7.cap,.slice x9.a x9.len x9.cap]⟩ 22)) fun w25 =>
 (ldI .i64 w25 (Addr.add a4 0) fun x26 =>
 lt (IntKind.i64.wrap (x10+x26)) fun x27 =>
 Calls Try.prog 88 ⟨[.slice (some a24) 2 2]⟩ w25 fun e28 w29 =>
 ∃ r30:Sl,e28=.returned (.slice r30.a r30.len r30.cap) ∧
 ((⟨[.int .i64 x27,.slice r30.a r30.len r30.cap]⟩:Array Value)).size=2 ∧
 lt (⟨World.heapSize w29,0,none⟩:Addr) fun a31 =>
 lt (World.alloc w29 (.cells ⟨(spl [.int .i64 0,.slice none 0 0] 0 (⟨[.int .i64 x27,.slice r30.a r30.len r30.cap]⟩:Array Value))⟩ 80)) fun w32 =>
 rdO w32 (some a31) (1 * 2) fun c33 =>
 apK Try.prog 80 w32 out_3.a out_3.len out_3.cap 1 c33 fun s34 w35 =>
 lt (IntKind.i64.wrap (i_4+2)) fun x36 =>
 nx1 l_0 s34 x36 w35)∧(
 Calls Try.prog 88 ⟨[.slice (some a24) 2 2]⟩ w25 fun e37 w38 =>
 ∃ r39:Sl,e37=.returned (.slice r39.a r39.len r39.cap) ∧
 ldI .i64 w38 (Addr.add a4 0) fun x40 =>
 lt (IntKind.i64.wrap (x10+x40)) fun x41 =>
 ((⟨[.int .i64 x41,.slice r39.a r39.len r39.cap]⟩:Array Value)).size=2 ∧
 lt (⟨World.heapSize w38,0,none⟩:Addr) fun a42 =>
 lt (World.alloc w38 (.cells ⟨(spl [.int .i64 0,.slice none 0 0] 0 (⟨[.int .i64 x41,.slice r39.a r39.len r39.cap]⟩:Array Value))⟩ 80)) fun w43 =>
 rdO w43 (some a42) (1 * 2) fun c44 =>
 apK Try.prog 80 w43 out_3.a out_3.len out_3.cap 1 c44 fun s45 w46 =>
 lt (IntKind.i64.wrap (i_4+2)) fun x47 =>
 nx1 l_0 s45 x47 w46)))∧(
 ldI .i64 w1 (Addr.add a4 0) fun x48 =>
 (ldI .i64 w1 (Addr.add a3 0) fun x49 =>
 lt (IntKind.i64.wrap (x49+x48)) fun x50 =>
 lt (⟨World.heapSize w1,0,none⟩:Addr) fun a51 =>
 lt (World.alloc w1 (.cells ⟨[.slice x7.a x7.len x7.cap,.slice x9.a x9.len x9.cap]⟩ 22)) fun w52 =>
 Calls Try.prog 88 ⟨[.slice (some a51) 2 2]⟩ w52 fun e53 w54 =>
 ∃ r55:Sl,e53=.returned (.slice r55.a r55.len r55.cap) ∧
 ((⟨[.int .i64 x50,.slice r55.a r55.len r55.cap]⟩:Array Value)).size=2 ∧
 lt (⟨World.heapSize w54,0,none⟩:Addr) fun a56 =>
 lt (World.alloc w54 (.cells ⟨(spl [.int .i64 0,.slice none 0 0] 0 (⟨[.int .i64 x50,.slice r55.a r55.len r55.cap]⟩:Array Value))⟩ 80)) fun w57 =>
 rdO w57 (some a56) (1 * 2) fun c58 =>
 apK Try.prog 80 w57 out_3.a out_3.len out_3.cap 1 c58 fun s59 w60 =>
 lt (IntKind.i64.wrap (i_4+2)) fun x61 =>
 nx1 l_0 s59 x61 w60)∧(
 lt (⟨World.heapSize w1,0,none⟩:Addr) fun a62 =>
 lt (World.alloc w1 (.cells ⟨[.slice x7.a x7.len x7.cap,.slice x9.a x9.len x9.cap]⟩ 22)) fun w63 =>
 (ldI .i64 w63 (Addr.add a3 0) fun x64 =>
 lt (IntKind.i64.wrap (x64+x48)) fun x65 =>
 Calls Try.prog 88 ⟨[.slice (some a62) 2 2]⟩ w63 fun e66 w67 =>
 ∃ r68:Sl,e66=.returned (.slice r68.a r68.len r68.cap) ∧
 ((⟨[.int .i64 x65,.slice r68.a r68.len r68.cap]⟩:Array Value)).size=2 ∧
 lt (⟨World.heapSize w67,0,none⟩:Addr) fun a69 =>
 lt (World.alloc w67 (.cells ⟨(spl [.int .i64 0,.slice none 0 0] 0 (⟨[.int .i64 x65,.slice r68.a r68.len r68.cap]⟩:Array Value))⟩ 80)) fun w70 =>
 rdO w70 (some a69) (1 * 2) fun c71 =>
 apK Try.prog 80 w70 out_3.a out_3.len out_3.cap 1 c71 fun s72 w73 =>
 lt (IntKind.i64.wrap (i_4+2)) fun x74 =>
 nx1 l_0 s72 x74 w73)∧(
 Calls Try.prog 88 ⟨[.slice (some a62) 2 2]⟩ w63 fun e75 w76 =>
 ∃ r77:Sl,e75=.returned (.slice r77.a r77.len r77.cap) ∧
 ldI .i64 w76 (Addr.add a3 0) fun x78 =>
 lt (IntKind.i64.wrap (x78+x48)) fun x79 =>
 ((⟨[.int .i64 x79,.slice r77.a r77.len r77.cap]⟩:Array Value)).size=2 ∧
 lt (⟨World.heapSize w76,0,none⟩:Addr) fun a80 =>
 lt (World.alloc w76 (.cells ⟨(spl [.int .i64 0,.slice none 0 0] 0 (⟨[.int .i64 x79,.slice r77.a r77.len r77.cap]⟩:Array Value))⟩ 80)) fun w81 =>
 rdO w81 (some a80) (1 * 2) fun c82 =>
 apK Try.prog 80 w81 out_3.a out_3.len out_3.cap 1 c82 fun s83 w84 =>
 lt (IntKind.i64.wrap (i_4+2)) fun x85 =>
 nx1 l_0 s83 x85 w84)))∧(
 lt (⟨World.heapSize w1,0,none⟩:Addr) fun a86 =>
 lt (World.alloc w1 (.cells ⟨[.slice x7.a x7.len x7.cap,.slice x9.a x9.len x9.cap]⟩ 22)) fun w87 =>
 (ldI .i64 w87 (Addr.add a3 0) fun x88 =>
 (ldI .i64 w87 (Addr.add a4 0) fun x89 =>
 lt (IntKind.i64.wrap (x88+x89)) fun x90 =>
 Calls Try.prog 88 ⟨[.slice (some a86) 2 2]⟩ w87 fun e91 w92 =>
 ∃ r93:Sl,e91=.returned (.slice r93.a r93.len r93.cap) ∧
 ((⟨[.int .i64 x90,.slice r93.a r93.len r93.cap]⟩:Array Value)).size=2 ∧
 lt (⟨World.heapSize w92,0,none⟩:Addr) fun a94 =>
 lt (World.alloc w92 (.cells ⟨(spl [.int .i64 0,.slice none 0 0] 0 (⟨[.int .i64 x90,.slice r93.a r93.len r93.cap]⟩:Array Value))⟩ 80)) fun w95 =>
 rdO w95 (some a94) (1 * 2) fun c96 =>
 apK Try.prog 80 w95 out_3.a out_3.len out_3.cap 1 c96 fun s97 w98 =>
 lt (IntKind.i64.wrap (i_4+2)) fun x99 =>
 nx1 l_0 s97 x99 w98)∧(
 Calls Try.prog 88 ⟨[.slice (some a86) 2 2]⟩ w87 fun e100 w101 =>
 ∃ r102:Sl,e100=.returned (.slice r102.a r102.len r102.cap) ∧
 ldI .i64 w101 (Addr.add a4 0) fun x103 =>
 lt (IntKind.i64.wrap (x88+x103)) fun x104 =>
 ((⟨[.int .i64 x104,.slice r102.a r102.len r102.cap]⟩:Array Value)).size=2 ∧
 lt (⟨World.heapSize w101,0,none⟩:Addr) fun a105 =>
 lt (World.alloc w101 (.cells ⟨(spl [.int .i64 0,.slice none 0 0] 0 (⟨[.int .i64 x104,.slice r102.a r102.len r102.cap]⟩:Array Value))⟩ 80)) fun w106 =>
 rdO w106 (some a105) (1 * 2) fun c107 =>
 apK Try.prog 80 w106 out_3.a out_3.len out_3.cap 1 c107 fun s108 w109 =>
 lt (IntKind.i64.wrap (i_4+2)) fun x110 =>
 nx1 l_0 s108 x110 w109))∧(
 ldI .i64 w87 (Addr.add a4 0) fun x111 =>
 (ldI .i64 w87 (Addr.add a3 0) fun x112 =>
 lt (IntKind.i64.wrap (x112+x111)) fun x113 =>
 Calls Try.prog 88 ⟨[.slice (some a86) 2 2]⟩ w87 fun e114 w115 =>
 ∃ r116:Sl,e114=.returned (.slice r116.a r116.len r116.cap) ∧
 ((⟨[.int .i64 x113,.slice r116.a r116.len r116.cap]⟩:Array Value)).size=2 ∧
 lt (⟨World.heapSize w115,0,none⟩:Addr) fun a117 =>
 lt (World.alloc w115 (.cells ⟨(spl [.int .i64 0,.slice none 0 0] 0 (⟨[.int .i64 x113,.slice r116.a r116.len r116.cap]⟩:Array Value))⟩ 80)) fun w118 =>
 rdO w118 (some a117) (1 * 2) fun c119 =>
 apK Try.prog 80 w118 out_3.a out_3.len out_3.cap 1 c119 fun s120 w121 =>
 lt (IntKind.i64.wrap (i_4+2)) fun x122 =>
 nx1 l_0 s120 x122 w121)∧(
 Calls Try.prog 88 ⟨[.slice (some a86) 2 2]⟩ w87 fun e123 w124 =>
 ∃ r125:Sl,e123=.returned (.slice r125.a r125.len r125.cap) ∧
 ldI .i64 w124 (Addr.add a3 0) fun x126 =>
 lt (IntKind.i64.wrap (x126+x111)) fun x127 =>
 ((⟨[.int .i64 x127,.slice r125.a r125.len r125.cap]⟩:Array Value)).size=2 ∧
 lt (⟨World.heapSize w124,0,none⟩:Addr) fun a128 =>
 lt (World.alloc w124 (.cells ⟨(spl [.int .i64 0,.slice none 0 0] 0 (⟨[.int .i64 x127,.slice r125.a r125.len r125.cap]⟩:Array Value))⟩ 80)) fun w129 =>
 rdO w129 (some a128) (1 * 2) fun c130 =>
 apK Try.prog 80 w129 out_3.a out_3.len out_3.cap 1 c130 fun s131 w132 =>
 lt (IntKind.i64.wrap (i_4+2)) fun x133 =>
 nx1 l_0 s131 x133 w132))∧(
 Calls Try.prog 88 ⟨[.slice (some a86) 2 2]⟩ w87 fun e134 w135 =>
 ∃ r136:Sl,e134=.returned (.slice r136.a r136.len r136.cap) ∧
 (ldI .i64 w135 (Addr.add a3 0) fun x137 =>
 ldI .i64 w135 (Addr.add a4 0) fun x138 =>
 lt (IntKind.i64.wrap (x137+x138)) fun x139 =>
 ((⟨[.int .i64 x139,.slice r136.a r136.len r136.cap]⟩:Array Value)).size=2 ∧
 lt (⟨World.heapSize w135,0,none⟩:Addr) fun a140 =>
 lt (World.alloc w135 (.cells ⟨(spl [.int .i64 0,.slice none 0 0] 0 (⟨[.int .i64 x139,.slice r136.a r136.len r136.cap]⟩:Array Value))⟩ 80)) fun w141 =>
 rdO w141 (some a140) (1 * 2) fun c142 =>
 apK Try.prog 80 w141 out_3.a out_3.len out_3.cap 1 c142 fun s143 w144 =>
 lt (IntKind.i64.wrap (i_4+2)) fun x145 =>
 nx1 l_0 s143 x145 w144)∧(
 ldI .i64 w135 (Addr.add a4 0) fun x146 =>
 ldI .i64 w135 (Addr.add a3 0) fun x147 =>
 lt (IntKind.i64.wrap (x147+x146)) fun x148 =>
 ((⟨[.int .i64 x148,.slice r136.a r136.len r136.cap]⟩:Array Value)).size=2 ∧
 lt (⟨World.heapSize w135,0,none⟩:Addr) fun a149 =>
 lt (World.alloc w135 (.cells ⟨(spl [.int .i64 0,.slice none 0 0] 0 (⟨[.int .i64 x148,.slice r136.a r136.len r136.cap]⟩:Array Value))⟩ 80)) fun w150 =>
 rdO w150 (some a149) (1 * 2) fun c151 =>
 apK Try.prog 80 w150 out_3.a out_3.len out_3.cap 1 c151 fun s152 w153 =>
 lt (IntKind.i64.wrap (i_4+2)) fun x154 =>
 nx1 l_0 s152 x154 w153)))) (
 qmc.j2 out_3 Q w)
def qmc.l1 (l_0 out_3:Sl) (i_4:Int) (Q:VWP) (w:World):Prop :=
 ∃ (I:Sl→Int→World→Prop) (μ:Sl→Int→World→Nat),I out_3 i_4 w∧∀ out_3:Sl,∀ i_4:Int,∀ w:World,I out_3 i_4 w→qmc.b1 l_0 out_3 i_4 Q (fun l_0' out_3' i_4' w'=>(l_0'=l_0)∧I out_3' i_4' w'∧μ out_3' i_4' w' < μ out_3 i_4 w) w
def qmc.j3 (l_0 out_3:Sl) (i_4:Int) (Q:VWP) (w:World):Prop :=
 qmc.l1 l_0 out_3 i_4 Q w
def qmc.j1 (l_0 out_3:Sl) (Q:VWP) (w:World):Prop :=
 qmc.j3 l_0 out_3 1 Q w
def qmc (l_0:Sl) (Q:VWP) (w:World):Prop :=
 qmc.j1 l_0 ⟨none,0,0⟩ Q w
theorem qmc.ok (l_0:Sl) (Q:VWP) (w:World) (h:qmc l_0 Q w):Calls Try.prog 39 ⟨[.slice l_0.a l_0.len l_0.cap]⟩ w (Ret Q):=by
 refine qn [.tmp 2] Try.func39 rfl rfl rfl rfl ?_
 refine qib qpb (fun ρ w=>asL (ρ 0) fun l_0=>asL (ρ 3) fun out_3=>qmc.j1 l_0 out_3 Q w) (Eq.mp (by kernel_rfl) h) ?_
 intro ρ w h
 obtain ⟨l_0,e0,h⟩:=qj h
 obtain ⟨out_3,e3,h⟩:=qj h
 refine qb e0 (qb (qa e3 rfl) ?_)
 refine qr (fun ρ w=>asL (ρ 3) fun out_3=>qmc.j2 out_3 Q w) ?_ ?_
 · skip
   refine qr (fun ρ w=>asL (ρ 0) fun l_0=>asL (ρ 3) fun out_3=>asI .i64 (ρ 4) fun i_4=>qmc.j3 l_0 out_3 i_4 Q w) ?_ ?_
   · skip
     exact qg qpb _ (Eq.mp (by kernel_rfl) h)
   · intro ρ w h
     obtain ⟨l_0,e0,h⟩:=qj h
     obtain ⟨out_3,e3,h⟩:=qj h
     obtain ⟨i_4,e4,h⟩:=qe h
     refine qb e0 (qb (qa e3 rfl) (qb (qa (qa e4 rfl) rfl) ?_))
     refine qcb ?_
     obtain ⟨I,μ,hI,hr⟩:=h
     refine qhb (α:=Sl × Int) (fun s ρ=>ρ 3=.slice s.1.a s.1.len s.1.cap∧ρ 4=.int .i64 s.2∧ρ 0=.slice l_0.a l_0.len l_0.cap) (fun s w=>I s.1 s.2 w) (fun s w=>μ s.1 s.2 w) (out_3,i_4) ⟨rfl,rfl,rfl⟩ hI ?_
     rintro ⟨out_3,i_4⟩ ρ w ⟨e3,e4,e0⟩ hI
     have h:=hr out_3 i_4 w hI
     clear hr
     obtain ⟨nx1,hnx⟩:∃ nx:Sl→Sl→Int→World→Prop,nx=(fun l_0' out_3' i_4' w'=>(l_0'=l_0)∧I out_3' i_4' w'∧μ out_3' i_4' w' < μ out_3 i_4 w):=⟨_,rfl⟩
     rw [← hnx] at h
     refine qob (M:=fun ρ w=>asL (ρ 0) fun l_0=>asL (ρ 3) fun out_3=>asI .i64 (ρ 4) fun i_4=>nx1 l_0 out_3 i_4 w) ?_ (fun ρ w h=>?_)
     · skip
       refine qb e0 (qb (qa e3 rfl) (qb (qa (qa e4 rfl) rfl) ?_))
       exact qg qpb _ (Eq.mp (by kernel_rfl) h)
     · skip
       obtain ⟨l_0',e0',h⟩:=qj h
       obtain ⟨out_3',e3',h⟩:=qj h
       obtain ⟨i_4',e4',h⟩:=qe h
       rw [hnx] at h
       obtain ⟨hu,hI2,hμ⟩:=h
       obtain rfl:=hu
       exact ⟨(out_3',i_4'),⟨e3',e4',e0'⟩,hI2,hμ⟩
 · intro ρ w h
   obtain ⟨out_3,e3,h⟩:=qj h
   refine qb e3 ?_
   exact qg qpb _ (Eq.mp (by kernel_rfl) h)
def qee (s_0:Sl) (Q:VWP) (w:World):Prop :=
 br (Option.isNone s_0.a) (
 Q (.slice none 0 0) w) (
 lt (⟨World.heapSize w,0,none⟩:Addr) fun a1 =>
 lt (World.alloc w (.cells ⟨[]⟩ 80)) fun w2 =>
 rdO w2 s_0.a (s_0.len * 2) fun c3 =>
 apK Try.prog 80 w2 (some a1) 0 0 s_0.len c3 fun s4 w5 =>
 Q (.slice s4.a s4.len s4.cap) w5)
theorem qee.ok (s_0:Sl) (Q:VWP) (w:World) (h:qee s_0 Q w):Calls Try.prog 38 ⟨[.slice s_0.a s_0.len s_0.cap]⟩ w (Ret Q):=by
 refine qn [.tmp 2] Try.func38 rfl rfl rfl rfl ?_
 exact qg qpb _ (Eq.mp (by kernel_rfl) h)
def qm.j6 (t7:Sl) (Q:VWP) (w:World):Prop :=
 Q (.tuple ⟨[.slice t7.a t7.len t7.cap,.int .i64 0]⟩) w
def qm.j9 (t7 t85:Sl) (t86:Int) (t87:Int) (Q:VWP) (nx1:Sl→Sl→Int→Int→World→Prop) (w:World):Prop :=
 lt (IntKind.i64.wrap (t87+1)) fun x1 =>
 nx1 t7 t85 t86 x1 w
def qm.b2 (t7 t85:Sl) (t86:Int) (t87:Int) (t92:Sl) (t93 t94:Int) (Q:VWP) (nx1:Sl→Sl→Int→Int→World→Prop) (nx2:Sl→Sl→Int→Int→Sl→Int→Int→World→Prop) (w:World):Prop :=
 br (decide ((t94:Int) < t93)) (
 ixS t92.a t92.len t94 1 fun a2 =>
 ldI .i64 w a2 fun x3 =>
 ixS t7.a t7.len x3 1 fun a4 =>
 ldI .i64 w a4 fun x5 =>
 lt (IntKind.i64.wrap (x5+1)) fun x6 =>
 ixS t7.a t7.len x3 1 fun a7 =>
 st w a7 (.int .i64 x6) fun w8 =>
 lt (IntKind.i64.wrap (t94+1)) fun x9 =>
 nx2 t7 t85 t86 t87 t92 t93 x9 w8) (
 qm.j9 t7 t85 t86 t87 Q nx1 w)
def qm.l2 (t7 t85:Sl) (t86:Int) (t87:Int) (t92:Sl) (t93 t94:Int) (Q:VWP) (nx1:Sl→Sl→Int→Int→World→Prop) (w:World):Prop :=
 ∃ (I:Int→World→Prop) (μ:Int→World→Nat),I t94 w∧∀ t94:Int,∀ w:World,I t94 w→qm.b2 t7 t85 t86 t87 t92 t93 t94 Q nx1 (fun t7' t85' t86' t87' t92' t93' t94' w'=>(t7'=t7∧t85'=t85∧t86'=t86∧t87'=t87∧t92'=t92∧t93'=t93)∧I t94' w'∧μ t94' w' < μ t94 w) w
def qm.j10 (t7 t85:Sl) (t86:Int) (t87:Int) (t92:Sl) (t93 t94:Int) (Q:VWP) (nx1:Sl→Sl→Int→Int→World→Prop) (w:World):Prop :=
 qm.l2 t7 t85 t86 t87 t92 t93 t94 Q nx1 w
def qm.j8 (t7 t85:Sl) (t86:Int) (t87:Int) (Q:VWP) (nx1:Sl→Sl→Int→Int→World→Prop) (w:World):Prop :=
 ixS t85.a t85.len t87 2 fun a10 =>
 ldA w a10 2 fun c11 =>
 lt (⟨World.heapSize w,0,none⟩:Addr) fun a12 =>
 lt (World.alloc w (.cells (zc Try.prog 80) 80)) fun w13 =>
 (c11).size=2 ∧
 stA w13 a12 c11 fun w14 =>
 ldL w14 (Addr.add a12 1) fun x15 =>
 qm.j10 t7 t85 t86 t87 x15 ((x15.len:Nat):Int) 0 Q nx1 w14
def qm.b1 (t7 t85:Sl) (t86:Int) (t87:Int) (Q:VWP) (nx1:Sl→Sl→Int→Int→World→Prop) (w:World):Prop :=
 br (decide ((t87:Int) < t86)) (
 qm.j8 t7 t85 t86 t87 Q nx1 w) (
 qm.j6 t7 Q w)
def qm.l1 (t7 t85:Sl) (t86:Int) (t87:Int) (Q:VWP) (w:World):Prop :=
 ∃ (I:Int→World→Prop) (μ:Int→World→Nat),I t87 w∧∀ t87:Int,∀ w:World,I t87 w→qm.b1 t7 t85 t86 t87 Q (fun t7' t85' t86' t87' w'=>(t7'=t7∧t85'=t85∧t86'=t86)∧I t87' w'∧μ t87' w' < μ t87 w) w
def qm.j7 (t7 t85:Sl) (t86:Int) (t87:Int) (Q:VWP) (w:World):Prop :=
 qm.l1 t7 t85 t86 t87 Q w
def qm.j5 (t6 t7 t9:Sl) (Q:VWP) (w:World):Prop :=
 lt (IntKind.i64.wrap (2 * ((t6.len:Nat):Int))) fun x16 =>
 lt (IntKind.i64.wrap (x16 - 2)) fun x17 =>
 bd x17 t9.cap fun n18 =>
 lt (⟨qzf t9.a t9.cap 0 2,n18 - 0,t9.cap - 0⟩:Sl) fun s19 =>
 qm.j7 t7 s19 ((s19.len:Nat):Int) 0 Q w
def qm.b3 (t6 t7 t8:Sl) (t69:Int) (t9:Sl) (t70:Int) (Q:VWP) (nx3:Sl→Sl→Sl→Int→Sl→Int→World→Prop) (w:World):Prop :=
 br (decide ((t70:Int) < t69)) (
 Calls Try.prog 38 ⟨[.slice t8.a t8.len t8.cap]⟩ w fun e20 w21 =>
 ∃ r22:Sl,e20=.returned (.slice r22.a r22.len r22.cap) ∧
 Calls Try.prog 39 ⟨[.slice t9.a t9.len t9.cap]⟩ w21 fun e23 w24 =>
 ∃ r25:Sl,e23=.returned (.slice r25.a r25.len r25.cap) ∧
 rdO w24 r25.a (r25.len * 2) fun c26 =>
 apK Try.prog 80 w24 r22.a r22.len r22.cap r25.len c26 fun s27 w28 =>
 Calls Try.prog 40 ⟨[.slice s27.a s27.len s27.cap,.func (.func 41) ⟨[]⟩ ⟨[]⟩]⟩ w28 fun e29 w30 =>
 e29=.returned (.tuple ⟨[]⟩) ∧
 lt (IntKind.i64.wrap (t70+1)) fun x31 =>
 nx3 t6 t7 t8 t69 s27 x31 w30) (
 qm.j5 t6 t7 t9 Q w)
def qm.l3 (t6 t7 t8:Sl) (t69:Int) (t9:Sl) (t70:Int) (Q:VWP) (w:World):Prop :=
 ∃ (I:Sl→Int→World→Prop) (μ:Sl→Int→World→Nat),I t9 t70 w∧∀ t9:Sl,∀ t70:Int,∀ w:World,I t9 t70 w→qm.b3 t6 t7 t8 t69 t9 t70 Q (fun t6' t7' t8' t69' t9' t70' w'=>(t6'=t6∧t7'=t7∧t8'=t8∧t69'=t69)∧I t9' t70' w'∧μ t9' t70' w' < μ t9 t70 w) w
def qm.j11 (t6 t7 t8 t9:Sl) (t69:Int) (t70:Int) (Q:VWP) (w:World):Prop :=
 qm.l3 t6 t7 t8 t69 t9 t70 Q w
def qm.j4 (i_1:Int) (t6:Sl) (t7 t8 t9:Sl) (Q:VWP) (w:World):Prop :=
 qm.j11 t6 t7 t8 t9 i_1 0 Q w
def qm.b4 (d_0:Sl) (i_1:Int) (t6 t7 t9 t52:Sl) (t53:Int) (t8:Sl) (t54:Int) (Q:VWP) (nx4:Sl→Int→Sl→Sl→Sl→Sl→Int→Sl→Int→World→Prop) (w:World):Prop :=
 br (decide ((t54:Int) < t53)) (
 ixS t52.a t52.len t54 1 fun a32 =>
 ldI .i64 w a32 fun x33 =>
 ixS d_0.a d_0.len x33 1 fun a34 =>
 ldI .i64 w a34 fun x35 =>
 lt (⟨World.heapSize w,0,none⟩:Addr) fun a36 =>
 lt (World.alloc w (.cells ⟨[.int .i64 x33]⟩ 3)) fun w37 =>
 ((⟨[.int .i64 x35,.slice (some a36) 1 1]⟩:Array Value)).size=2 ∧
 lt (⟨World.heapSize w37,0,none⟩:Addr) fun a38 =>
 lt (World.alloc w37 (.cells ⟨(spl [.int .i64 0,.slice none 0 0] 0 (⟨[.int .i64 x35,.slice (some a36) 1 1]⟩:Array Value))⟩ 80)) fun w39 =>
 rdO w39 (some a38) (1 * 2) fun c40 =>
 apK Try.prog 80 w39 t8.a t8.len t8.cap 1 c40 fun s41 w42 =>
 lt (IntKind.i64.wrap (t54+1)) fun x43 =>
 nx4 d_0 i_1 t6 t7 t9 t52 t53 s41 x43 w42) (
 qm.j4 i_1 t6 t7 t8 t9 Q w)
def qm.l4 (d_0:Sl) (i_1:Int) (t6 t7 t9 t52:Sl) (t53:Int) (t8:Sl) (t54:Int) (Q:VWP) (w:World):Prop :=
 ∃ (I:Sl→Int→World→Prop) (μ:Sl→Int→World→Nat),I t8 t54 w∧∀ t8:Sl,∀ t54:Int,∀ w:World,I t8 t54 w→qm.b4 d_0 i_1 t6 t7 t9 t52 t53 t8 t54 Q (fun d_0' i_1' t6' t7' t9' t52' t53' t8' t54' w'=>(d_0'=d_0∧i_1'=i_1∧t6'=t6∧t7'=t7∧t9'=t9∧t52'=t52∧t53'=t53)∧I t8' t54' w'∧μ t8' t54' w' < μ t8 t54 w) w
def qm.j12 (d_0:Sl) (i_1:Int) (t6 t7 t8 t9 t52:Sl) (t53:Int) (t54:Int) (Q:VWP) (w:World):Prop :=
 qm.l4 d_0 i_1 t6 t7 t9 t52 t53 t8 t54 Q w
def qm.j3 (d_0:Sl) (i_1:Int) (t6 t7 t8 t9:Sl) (Q:VWP) (w:World):Prop :=
 qm.j12 d_0 i_1 t6 t7 t8 t9 t6 ((t6.len:Nat):Int) 0 Q w
def qm.j2 (d_0:Sl) (i_1:Int) (t6 t7:Sl) (Q:VWP) (w:World):Prop :=
 (0:Int)≤i_1 ∧
 lt (qej .i64 1 i_1) fun x44 =>
 br (decide ((((t6.len:Nat):Int):Int) > x44)) (
 Q (.tuple ⟨[.slice none 0 0,.int .i64 7]⟩) w) (
 br ((((t6.len:Nat):Int):Int) == 0) (
 Q (.tuple ⟨[.slice t7.a t7.len t7.cap,.int .i64 0]⟩) w) (
 br ((((t6.len:Nat):Int):Int) == 1) (
 ixS t6.a t6.len 0 1 fun a45 =>
 ldI .i64 w a45 fun x46 =>
 ixS t7.a t7.len x46 1 fun a47 =>
 st w a47 (.int .i64 1) fun w48 =>
 Q (.tuple ⟨[.slice t7.a t7.len t7.cap,.int .i64 0]⟩) w48) (
 qm.j3 d_0 i_1 t6 t7 ⟨none,0,0⟩ ⟨none,0,0⟩ Q w)))
def qm.j1 (d_0:Sl) (i_1:Int) (Q:VWP) (w:World):Prop :=
 Calls Try.prog 37 ⟨[.slice d_0.a d_0.len d_0.cap]⟩ w fun e49 w50 =>
 ∃ r51:Sl,e49=.returned (.slice r51.a r51.len r51.cap) ∧
 mkK Try.prog 3 w50 ((d_0.len:Nat):Int) ((d_0.len:Nat):Int) fun s52 w53 =>
 qm.j2 d_0 i_1 r51 s52 Q w53
def qm (d_0:Sl) (i_1:Int) (Q:VWP) (w:World):Prop :=
 Calls Try.prog 36 ⟨[.slice d_0.a d_0.len d_0.cap]⟩ w fun e54 w55 =>
 ∃ r56:Bool,e54=.returned (.bool r56) ∧
 br r56 (
 Q (.tuple ⟨[.slice none 0 0,.int .i64 1]⟩) w55) (
 br (decide ((i_1:Int) < 1)) (
 Q (.tuple ⟨[.slice none 0 0,.int .i64 1]⟩) w55) (
 br (decide ((i_1:Int) > 15)) (
 Q (.tuple ⟨[.slice none 0 0,.int .i64 1]⟩) w55) (
 qm.j1 d_0 i_1 Q w55)))
theorem qm.ok (d_0:Sl) (i_1:Int) (Q:VWP) (w:World) (h:qm d_0 i_1 Q w):Calls Try.prog 11 ⟨[.slice d_0.a d_0.len d_0.cap,.int .i64 i_1]⟩ w (Ret Q):=by
 refine qn [.tmp 4,.tmp 5] Try.func11 rfl rfl rfl rfl ?_
 refine qib qpb (fun ρ w=>asL (ρ 0) fun d_0=>asI .i64 (ρ 1) fun i_1=>qm.j1 d_0 i_1 Q w) (Eq.mp (by kernel_rfl) h) ?_
 intro ρ w h
 obtain ⟨d_0,e0,h⟩:=qj h
 obtain ⟨i_1,e1,h⟩:=qe h
 refine qb e0 (qb (qa e1 rfl) ?_)
 refine qib qpb (fun ρ w=>asL (ρ 0) fun d_0=>asI .i64 (ρ 1) fun i_1=>asL (ρ 6) fun t6=>asL (ρ 7) fun t7=>qm.j2 d_0 i_1 t6 t7 Q w) (Eq.mp (by kernel_rfl) h) ?_
 intro ρ w h
 obtain ⟨d_0,e0,h⟩:=qj h
 obtain ⟨i_1,e1,h⟩:=qe h
 obtain ⟨t6,e6,h⟩:=qj h
 obtain ⟨t7,e7,h⟩:=qj h
 refine qb e0 (qb (qa e1 rfl) (qb (qa (qa e6 rfl) rfl) (qb (qa (qa (qa e7 rfl) rfl) rfl) ?_)))
 refine qib qpb (fun ρ w=>asL (ρ 0) fun d_0=>asI .i64 (ρ 1) fun i_1=>asL (ρ 6) fun t6=>asL (ρ 7) fun t7=>asL (ρ 8) fun t8=>asL (ρ 9) fun t9=>qm.j3 d_0 i_1 t6 t7 t8 t9 Q w) (Eq.mp (by kernel_rfl) h) ?_
 intro ρ w h
 obtain ⟨d_0,e0,h⟩:=qj h
 obtain ⟨i_1,e1,h⟩:=qe h
 obtain ⟨t6,e6,h⟩:=qj h
 obtain ⟨t7,e7,h⟩:=qj h
 obtain ⟨t8,e8,h⟩:=qj h
 obtain ⟨t9,e9,h⟩:=qj h
 refine qb e0 (qb (qa e1 rfl) (qb (qa (qa e6 rfl) rfl) (qb (qa (qa (qa e7 rfl) rfl) rfl) (qb (qa (qa (qa (qa e8 rfl) rfl) rfl) rfl) (qb (qa (qa (qa (qa (qa e9 rfl) rfl) rfl) rfl) rfl) ?_)))))
 refine qr (fun ρ w=>asI .i64 (ρ 1) fun i_1=>asL (ρ 6) fun t6=>asL (ρ 7) fun t7=>asL (ρ 8) fun t8=>asL (ρ 9) fun t9=>qm.j4 i_1 t6 t7 t8 t9 Q w) ?_ ?_
 · skip
   refine qr (fun ρ w=>asL (ρ 0) fun d_0=>asI .i64 (ρ 1) fun i_1=>asL (ρ 6) fun t6=>asL (ρ 7) fun t7=>asL (ρ 8) fun t8=>asL (ρ 9) fun t9=>asL (ρ 52) fun t52=>asI .i64 (ρ 53) fun t53=>asI .i64 (ρ 54) fun t54=>qm.j12 d_0 i_1 t6 t7 t8 t9 t52 t53 t54 Q w) ?_ ?_
   · skip
     exact qg qpb _ (Eq.mp (by kernel_rfl) h)
   · intro ρ w h
     obtain ⟨d_0,e0,h⟩:=qj h
     obtain ⟨i_1,e1,h⟩:=qe h
     obtain ⟨t6,e6,h⟩:=qj h
     obtain ⟨t7,e7,h⟩:=qj h
     obtain ⟨t8,e8,h⟩:=qj h
     obtain ⟨t9,e9,h⟩:=qj h
     obtain ⟨t52,e52,h⟩:=qj h
     obtain ⟨t53,e53,h⟩:=qe h
     obtain ⟨t54,e54,h⟩:=qe h
     refine qb e0 (qb (qa e1 rfl) (qb (qa (qa e6 rfl) rfl) (qb (qa (qa (qa e7 rfl) rfl) rfl) (qb (qa (qa (qa (qa e8 rfl) rfl) rfl) rfl) (qb (qa (qa (qa (qa (qa e9 rfl) rfl) rfl) rfl) rfl) (qb (qa (qa (qa (qa (qa (qa e52 rfl) rfl) rfl) rfl) rfl) rfl) (qb (qa (qa (qa (qa (qa (qa (qa e53 rfl) rfl) rfl) rfl) rfl) rfl) rfl) (qb (qa (qa (qa (qa (qa (qa (qa (qa e54 rfl) rfl) rfl) rfl) rfl) rfl) rfl) rfl) ?_))))))))
     refine qcb ?_
     obtain ⟨I,μ,hI,hr⟩:=h
     refine qhb (α:=Sl × Int) (fun s ρ=>ρ 8=.slice s.1.a s.1.len s.1.cap∧ρ 54=.int .i64 s.2∧ρ 0=.slice d_0.a d_0.len d_0.cap∧ρ 1=.int .i64 i_1∧ρ 6=.slice t6.a t6.len t6.cap∧ρ 7=.slice t7.a t7.len t7.cap∧ρ 9=.slice t9.a t9.len t9.cap∧ρ 52=.slice t52.a t52.len t52.cap∧ρ 53=.int .i64 t53) (fun s w=>I s.1 s.2 w) (fun s w=>μ s.1 s.2 w) (t8,t54) ⟨rfl,rfl,rfl,rfl,rfl,rfl,rfl,rfl,rfl⟩ hI ?_
     rintro ⟨t8,t54⟩ ρ w ⟨e8,e54,e0,e1,e6,e7,e9,e52,e53⟩ hI
     have h:=hr t8 t54 w hI
     clear hr
     obtain ⟨nx4,hnx⟩:∃ nx:Sl→Int→Sl→Sl→Sl→Sl→Int→Sl→Int→World→Prop,nx=(fun d_0' i_1' t6' t7' t9' t52' t53' t8' t54' w'=>(d_0'=d_0∧i_1'=i_1∧t6'=t6∧t7'=t7∧t9'=t9∧t52'=t52∧t53'=t53)∧I t8' t54' w'∧μ t8' t54' w' < μ t8 t54 w):=⟨_,rfl⟩
     rw [← hnx] at h
     refine qob (M:=fun ρ w=>asL (ρ 0) fun d_0=>asI .i64 (ρ 1) fun i_1=>asL (ρ 6) fun t6=>asL (ρ 7) fun t7=>asL (ρ 9) fun t9=>asL (ρ 52) fun t52=>asI .i64 (ρ 53) fun t53=>asL (ρ 8) fun t8=>asI .i64 (ρ 54) fun t54=>nx4 d_0 i_1 t6 t7 t9 t52 t53 t8 t54 w) ?_ (fun ρ w h=>?_)
     · skip
       refine qb e0 (qb (qa e1 rfl) (qb (qa (qa e6 rfl) rfl) (qb (qa (qa (qa e7 rfl) rfl) rfl) (qb (qa (qa (qa (qa e8 rfl) rfl) rfl) rfl) (qb (qa (qa (qa (qa (qa e9 rfl) rfl) rfl) rfl) rfl) (qb (qa (qa (qa (qa (qa (qa e52 rfl) rfl) rfl) rfl) rfl) rfl) (qb (qa (qa (qa (qa (qa (qa (qa e53 rfl) rfl) rfl) rfl) rfl) rfl) rfl) (qb (qa (qa (qa (qa (qa (qa (qa (qa e54 rfl) rfl) rfl) rfl) rfl) rfl) rfl) rfl) ?_))))))))
       exact qg qpb _ (Eq.mp (by kernel_rfl) h)
     · skip
       obtain ⟨d_0',e0',h⟩:=qj h
       obtain ⟨i_1',e1',h⟩:=qe h
       obtain ⟨t6',e6',h⟩:=qj h
       obtain ⟨t7',e7',h⟩:=qj h
       obtain ⟨t9',e9',h⟩:=qj h
       obtain ⟨t52',e52',h⟩:=qj h
       obtain ⟨t53',e53',h⟩:=qe h
       obtain ⟨t8',e8',h⟩:=qj h
       obtain ⟨t54',e54',h⟩:=qe h
       rw [hnx] at h
       obtain ⟨hu,hI2,hμ⟩:=h
       obtain ⟨rfl,rfl,rfl,rfl,rfl,rfl,rfl⟩:=hu
       exact ⟨(t8',t54'),⟨e8',e54',e0',e1',e6',e7',e9',e52',e53'⟩,hI2,hμ⟩
 · intro ρ w h
   obtain ⟨i_1,e1,h⟩:=qe h
   obtain ⟨t6,e6,h⟩:=qj h
   obtain ⟨t7,e7,h⟩:=qj h
   obtain ⟨t8,e8,h⟩:=qj h
   obtain ⟨t9,e9,h⟩:=qj h
   refine qb e1 (qb (qa e6 rfl) (qb (qa (qa e7 rfl) rfl) (qb (qa (qa (qa e8 rfl) rfl) rfl) (qb (qa (qa (qa (qa e9 rfl) rfl) rfl) rfl) ?_))))
   refine qr (fun ρ w=>asL (ρ 6) fun t6=>asL (ρ 7) fun t7=>asL (ρ 9) fun t9=>qm.j5 t6 t7 t9 Q w) ?_ ?_
   · skip
     refine qr (fun ρ w=>asL (ρ 6) fun t6=>asL (ρ 7) fun t7=>asL (ρ 8) fun t8=>asL (ρ 9) fun t9=>asI .i64 (ρ 69) fun t69=>asI .i64 (ρ 70) fun t70=>qm.j11 t6 t7 t8 t9 t69 t70 Q w) ?_ ?_
     · skip
       exact qg qpb _ (Eq.mp (by kernel_rfl) h)
     · intro ρ w h
       obtain ⟨t6,e6,h⟩:=qj h
       obtain ⟨t7,e7,h⟩:=qj h
       obtain ⟨t8,e8,h⟩:=qj h
       obtain ⟨t9,e9,h⟩:=qj h
       obtain ⟨t69,e69,h⟩:=qe h
       obtain ⟨t70,e70,h⟩:=qe h
       refine qb e6 (qb (qa e7 rfl) (qb (qa (qa e8 rfl) rfl) (qb (qa (qa (qa e9 rfl) rfl) rfl) (qb (qa (qa (qa (qa e69 rfl) rfl) rfl) rfl) (qb (qa (qa (qa (qa (qa e70 rfl) rfl) rfl) rfl) rfl) ?_)))))
       refine qcb ?_
       obtain ⟨I,μ,hI,hr⟩:=h
       refine qhb (α:=Sl × Int) (fun s ρ=>ρ 9=.slice s.1.a s.1.len s.1.cap∧ρ 70=.int .i64 s.2∧ρ 6=.slice t6.a t6.len t6.cap∧ρ 7=.slice t7.a t7.len t7.cap∧ρ 8=.slice t8.a t8.len t8.cap∧ρ 69=.int .i64 t69) (fun s w=>I s.1 s.2 w) (fun s w=>μ s.1 s.2 w) (t9,t70) ⟨rfl,rfl,rfl,rfl,rfl,rfl⟩ hI ?_
       rintro ⟨t9,t70⟩ ρ w ⟨e9,e70,e6,e7,e8,e69⟩ hI
       have h:=hr t9 t70 w hI
       clear hr
       obtain ⟨nx3,hnx⟩:∃ nx:Sl→Sl→Sl→Int→Sl→Int→World→Prop,nx=(fun t6' t7' t8' t69' t9' t70' w'=>(t6'=t6∧t7'=t7∧t8'=t8∧t69'=t69)∧I t9' t70' w'∧μ t9' t70' w' < μ t9 t70 w):=⟨_,rfl⟩
       rw [← hnx] at h
       refine qob (M:=fun ρ w=>asL (ρ 6) fun t6=>asL (ρ 7) fun t7=>asL (ρ 8) fun t8=>asI .i64 (ρ 69) fun t69=>asL (ρ 9) fun t9=>asI .i64 (ρ 70) fun t70=>nx3 t6 t7 t8 t69 t9 t70 w) ?_ (fun ρ w h=>?_)
       · skip
         refine qb e6 (qb (qa e7 rfl) (qb (qa (qa e8 rfl) rfl) (qb (qa (qa (qa e9 rfl) rfl) rfl) (qb (qa (qa (qa (qa e69 rfl) rfl) rfl) rfl) (qb (qa (qa (qa (qa (qa e70 rfl) rfl) rfl) rfl) rfl) ?_)))))
         exact qg qpb _ (Eq.mp (by kernel_rfl) h)
       · skip
         obtain ⟨t6',e6',h⟩:=qj h
         obtain ⟨t7',e7',h⟩:=qj h
         obtain ⟨t8',e8',h⟩:=qj h
         obtain ⟨t69',e69',h⟩:=qe h
         obtain ⟨t9',e9',h⟩:=qj h
         obtain ⟨t70',e70',h⟩:=qe h
         rw [hnx] at h
         obtain ⟨hu,hI2,hμ⟩:=h
         obtain ⟨rfl,rfl,rfl,rfl⟩:=hu
         exact ⟨(t9',t70'),⟨e9',e70',e6',e7',e8',e69'⟩,hI2,hμ⟩
   · intro ρ w h
     obtain ⟨t6,e6,h⟩:=qj h
     obtain ⟨t7,e7,h⟩:=qj h
     obtain ⟨t9,e9,h⟩:=qj h
     refine qb e6 (qb (qa e7 rfl) (qb (qa (qa e9 rfl) rfl) ?_))
     refine qr (fun ρ w=>asL (ρ 7) fun t7=>qm.j6 t7 Q w) ?_ ?_
     · skip
       refine qr (fun ρ w=>asL (ρ 7) fun t7=>asL (ρ 85) fun t85=>asI .i64 (ρ 86) fun t86=>asI .i64 (ρ 87) fun t87=>qm.j7 t7 t85 t86 t87 Q w) ?_ ?_
       · skip
         exact qg qpb _ (Eq.mp (by kernel_rfl) h)
       · intro ρ w h
         obtain ⟨t7,e7,h⟩:=qj h
         obtain ⟨t85,e85,h⟩:=qj h
         obtain ⟨t86,e86,h⟩:=qe h
         obtain ⟨t87,e87,h⟩:=qe h
         refine qb e7 (qb (qa e85 rfl) (qb (qa (qa e86 rfl) rfl) (qb (qa (qa (qa e87 rfl) rfl) rfl) ?_)))
         refine qcb ?_
         obtain ⟨I,μ,hI,hr⟩:=h
         refine qhb (α:=Int) (fun s ρ=>ρ 87=.int .i64 s∧ρ 7=.slice t7.a t7.len t7.cap∧ρ 85=.slice t85.a t85.len t85.cap∧ρ 86=.int .i64 t86) (fun s w=>I s w) (fun s w=>μ s w) t87 ⟨rfl,rfl,rfl,rfl⟩ hI ?_
         rintro t87 ρ w ⟨e87,e7,e85,e86⟩ hI
         have h:=hr t87 w hI
         clear hr
         obtain ⟨nx1,hnx⟩:∃ nx:Sl→Sl→Int→Int→World→Prop,nx=(fun t7' t85' t86' t87' w'=>(t7'=t7∧t85'=t85∧t86'=t86)∧I t87' w'∧μ t87' w' < μ t87 w):=⟨_,rfl⟩
         rw [← hnx] at h
         refine qob (M:=fun ρ w=>asL (ρ 7) fun t7=>asL (ρ 85) fun t85=>asI .i64 (ρ 86) fun t86=>asI .i64 (ρ 87) fun t87=>nx1 t7 t85 t86 t87 w) ?_ (fun ρ w h=>?_)
         · skip
           refine qb e7 (qb (qa e85 rfl) (qb (qa (qa e86 rfl) rfl) (qb (qa (qa (qa e87 rfl) rfl) rfl) ?_)))
           refine qib qpb (fun ρ w=>asL (ρ 7) fun t7=>asL (ρ 85) fun t85=>asI .i64 (ρ 86) fun t86=>asI .i64 (ρ 87) fun t87=>qm.j8 t7 t85 t86 t87 Q nx1 w) (Eq.mp (by kernel_rfl) h) ?_
           intro ρ w h
           obtain ⟨t7,e7,h⟩:=qj h
           obtain ⟨t85,e85,h⟩:=qj h
           obtain ⟨t86,e86,h⟩:=qe h
           obtain ⟨t87,e87,h⟩:=qe h
           refine qb e7 (qb (qa e85 rfl) (qb (qa (qa e86 rfl) rfl) (qb (qa (qa (qa e87 rfl) rfl) rfl) ?_)))
           refine qr (fun ρ w=>asL (ρ 7) fun t7=>asL (ρ 85) fun t85=>asI .i64 (ρ 86) fun t86=>asI .i64 (ρ 87) fun t87=>qm.j9 t7 t85 t86 t87 Q nx1 w) ?_ ?_
           · skip
             refine qcb ?_
             refine qib qpb (fun ρ w=>asL (ρ 7) fun t7=>asL (ρ 85) fun t85=>asI .i64 (ρ 86) fun t86=>asI .i64 (ρ 87) fun t87=>asL (ρ 92) fun t92=>asI .i64 (ρ 93) fun t93=>asI .i64 (ρ 94) fun t94=>qm.j10 t7 t85 t86 t87 t92 t93 t94 Q nx1 w) (Eq.mp (by kernel_rfl) h) ?_
             intro ρ w h
             obtain ⟨t7,e7,h⟩:=qj h
             obtain ⟨t85,e85,h⟩:=qj h
             obtain ⟨t86,e86,h⟩:=qe h
             obtain ⟨t87,e87,h⟩:=qe h
             obtain ⟨t92,e92,h⟩:=qj h
             obtain ⟨t93,e93,h⟩:=qe h
             obtain ⟨t94,e94,h⟩:=qe h
             refine qb e7 (qb (qa e85 rfl) (qb (qa (qa e86 rfl) rfl) (qb (qa (qa (qa e87 rfl) rfl) rfl) (qb (qa (qa (qa (qa e92 rfl) rfl) rfl) rfl) (qb (qa (qa (qa (qa (qa e93 rfl) rfl) rfl) rfl) rfl) (qb (qa (qa (qa (qa (qa (qa e94 rfl) rfl) rfl) rfl) rfl) rfl) ?_))))))
             refine qcb ?_
             obtain ⟨I,μ,hI,hr⟩:=h
             refine qhb (α:=Int) (fun s ρ=>ρ 94=.int .i64 s∧ρ 7=.slice t7.a t7.len t7.cap∧ρ 85=.slice t85.a t85.len t85.cap∧ρ 86=.int .i64 t86∧ρ 87=.int .i64 t87∧ρ 92=.slice t92.a t92.len t92.cap∧ρ 93=.int .i64 t93) (fun s w=>I s w) (fun s w=>μ s w) t94 ⟨rfl,rfl,rfl,rfl,rfl,rfl,rfl⟩ hI ?_
             rintro t94 ρ w ⟨e94,e7,e85,e86,e87,e92,e93⟩ hI
             have h:=hr t94 w hI
             clear hr
             obtain ⟨nx2,hnx⟩:∃ nx:Sl→Sl→Int→Int→Sl→Int→Int→World→Prop,nx=(fun t7' t85' t86' t87' t92' t93' t94' w'=>(t7'=t7∧t85'=t85∧t86'=t86∧t87'=t87∧t92'=t92∧t93'=t93)∧I t94' w'∧μ t94' w' < μ t94 w):=⟨_,rfl⟩
             rw [← hnx] at h
             refine qob (M:=fun ρ w=>asL (ρ 7) fun t7=>asL (ρ 85) fun t85=>asI .i64 (ρ 86) fun t86=>asI .i64 (ρ 87) fun t87=>asL (ρ 92) fun t92=>asI .i64 (ρ 93) fun t93=>asI .i64 (ρ 94) fun t94=>nx2 t7 t85 t86 t87 t92 t93 t94 w) ?_ (fun ρ w h=>?_)
             · skip
               refine qb e7 (qb (qa e85 rfl) (qb (qa (qa e86 rfl) rfl) (qb (qa (qa (qa e87 rfl) rfl) rfl) (qb (qa (qa (qa (qa e92 rfl) rfl) rfl) rfl) (qb (qa (qa (qa (qa (qa e93 rfl) rfl) rfl) rfl) rfl) (qb (qa (qa (qa (qa (qa (qa e94 rfl) rfl) rfl) rfl) rfl) rfl) ?_))))))
               exact qg qpb _ (Eq.mp (by kernel_rfl) h)
             · skip
               obtain ⟨t7',e7',h⟩:=qj h
               obtain ⟨t85',e85',h⟩:=qj h
               obtain ⟨t86',e86',h⟩:=qe h
               obtain ⟨t87',e87',h⟩:=qe h
               obtain ⟨t92',e92',h⟩:=qj h
               obtain ⟨t93',e93',h⟩:=qe h
               obtain ⟨t94',e94',h⟩:=qe h
               rw [hnx] at h
               obtain ⟨hu,hI2,hμ⟩:=h
               obtain ⟨rfl,rfl,rfl,rfl,rfl,rfl⟩:=hu
               exact ⟨t94',⟨e94',e7',e85',e86',e87',e92',e93'⟩,hI2,hμ⟩
           · intro ρ w h
             obtain ⟨t7,e7,h⟩:=qj h
             obtain ⟨t85,e85,h⟩:=qj h
             obtain ⟨t86,e86,h⟩:=qe h
             obtain ⟨t87,e87,h⟩:=qe h
             refine qb e7 (qb (qa e85 rfl) (qb (qa (qa e86 rfl) rfl) (qb (qa (qa (qa e87 rfl) rfl) rfl) ?_)))
             exact qg qpb _ (Eq.mp (by kernel_rfl) h)
         · skip
           obtain ⟨t7',e7',h⟩:=qj h
           obtain ⟨t85',e85',h⟩:=qj h
           obtain ⟨t86',e86',h⟩:=qe h
           obtain ⟨t87',e87',h⟩:=qe h
           rw [hnx] at h
           obtain ⟨hu,hI2,hμ⟩:=h
           obtain ⟨rfl,rfl,rfl⟩:=hu
           exact ⟨t87',⟨e87',e7',e85',e86'⟩,hI2,hμ⟩
     · intro ρ w h
       obtain ⟨t7,e7,h⟩:=qj h
       refine qb e7 ?_
       exact qg qpb _ (Eq.mp (by kernel_rfl) h)
end Go.Proofs.Ythdmmmfgjmmelaa
namespace Go.Proofs.Ythdmmmfgjmmelaa
open Go Go.Proofs
set_option linter.unusedVariables false
set_option linter.unusedSimpArgs false
attribute [local irreducible] apK cpK mkK br
def badN (n:Int):Prop:=n < 0 ∨ 16777216 < n
instance (n:Int):Decidable (badN n):=inferInstanceAs (Decidable (_ ∨ _))
def qid (xs:List Int):List Nat:=(List.range xs.length).filter fun i=>0 < xs.getD i 0
section
variable {F0:List Nat} {w0 w:World} {ps rest:List As} {s:Sl} {xs:List Int}
theorem limit_bad1.c {n:Int} {K:Ending→World→Prop} (hk:K (.returned (.bool (decide (badN n)))) w):Calls Try.prog 87 ⟨[.int .i64 n]⟩ w K:=by
 refine qoc (qwi.ok _ _ _ ?_)
 unfold qwi
 refine qzc (fun g=>?_) (fun g=>?_)
 · rw [decide_eq_true (show badN n from Or.inl g)] at hk
   exact hk
 · rw [show decide (badN n)=decide (n > 16777216) from decide_eq_decide.2 ⟨fun e=>by rcases e with e | e; omega; exact e,fun e=>Or.inr e⟩] at hk
   exact hk
theorem qii.c {K:Ending→World→Prop} (h:St F0 w0 w ps) [Rdb F0 w0 s ps 1 (ivs .i64 xs)]
 (hk:∀ (b:Bool) w',(b=false→xs.length≤288∧∀ x ∈ xs,¬ badN x)→(b=true→288 < xs.length ∨ ∃ x ∈ xs,badN x)→St F0 w0 w' ps→K (.returned (.bool b)) w'):Calls Try.prog 36 ⟨[.slice s.a s.len s.cap]⟩ w K:=by
 have hl:=(h.rdb s).1
 rw [qx] at hl
 refine qoc (qii.ok _ _ _ ?_)
 unfold qii
 refine qzc (fun g=>?_) (fun g=>?_)
 · exact hk true w (fun e=>by cases e) (fun _=>Or.inl (by omega)) h
 refine qoc (qde.ok _ _ _ ?_)
 unfold qde
 refine qoc (qkb.ok _ _ _ ?_)
 unfold qkb qkb.j1 qkb.j3
 refine qsf (fun (i:Nat) (i':Int) w'=>i'=i∧i≤xs.length∧(∀ j,j < i→¬ badN (xs.getD j 0))∧St F0 w0 w' ps) (fun i=>xs.length - i) 0 ⟨rfl,by omega,fun j hj=>by omega,h⟩ ?_
 clear h
 rintro i i' wL I μ ⟨rfl,hi,hb,h⟩ hin
 unfold qkb.b1
 refine qzc (fun g1=>?_) (fun g1=>?_)
 · have hix:i < xs.length:=by omega
   refine h.lx (s:=s) i rfl hix ?_
   refine limit_bad1.c ⟨_,rfl,?_⟩
   refine qzc (fun g2=>?_) (fun g2=>?_)
   · refine ⟨_,rfl,?_⟩
     rw [decide_eq_true (show ((i:Nat):Int) ≥ 0 by omega)]
     refine ⟨_,rfl,hk true wL (fun e=>by cases e) (fun _=>Or.inr ⟨xs[i],List.getElem_mem hix,?_⟩) h⟩
     rw [List.getD,List.getElem?_eq_getElem hix] at g2
     exact g2
   · refine qy (qk (by omega) (by omega)) ?_
     refine ⟨⟨rfl,rfl⟩,hin (i+1) _ _ ⟨by omega,by omega,?_,h⟩ (by omega)⟩
     intro j hj
     rcases Nat.lt_or_ge j i with h1 | h1
     · exact hb j h1
     · rw [show j=i by omega]; exact g2
 · unfold qkb.j2
   refine ⟨_,rfl,?_⟩
   rw [decide_eq_false (show ¬ (-1:Int) ≥ 0 by decide)]
   refine ⟨_,rfl,hk false wL (fun _=>⟨by omega,fun x hx=>?_⟩) (fun e=>by cases e) h⟩
   obtain ⟨j,hj,rfl⟩:=List.mem_iff_getElem.1 hx
   have:=hb j (by omega)
   rw [List.getD,List.getElem?_eq_getElem hj] at this
   exact this
theorem qvc.c {K:Ending→World→Prop} (h:St F0 w0 w ps) [Rdb F0 w0 s ps 1 (ivs .i64 xs)] (hlen:xs.length≤1000000)
 (hk:∀ t w',t.len=(qid xs).length→St F0 w0 w' (qdc 1 t (ivs .i64 ((qid xs).map fun (i:Nat)=>(i:Int))) :: ps)→K (.returned (.slice t.a t.len t.cap)) w'):Calls Try.prog 37 ⟨[.slice s.a s.len s.cap]⟩ w K:=by
 have hl:=(h.rdb s).1
 rw [qx] at hl
 refine qoc (qvc.ok _ _ _ ?_)
 unfold qvc qvc.j1 qvc.j3
 have cl:∀ i,((List.range i).filter fun i=>decide (0 < xs.getD i 0)).length≤i:=fun i=>Nat.le_trans (List.length_filter_le _ _) (by simp)
 refine loop2 (fun (i:Nat) (o:Sl) (i':Int) w'=>i'=i∧i≤xs.length∧St F0 w0 w' (qdc 1 o (ivs .i64 (((List.range i).filter fun i=>decide (0 < xs.getD i 0)).map fun (i:Nat)=>(i:Int))) :: ps)) (fun i=>xs.length - i) 0 ⟨rfl,by omega,h.nil 1⟩ ?_
 clear h
 rintro i o i' wL I μ ⟨rfl,hi,h⟩ hin
 unfold qvc.b1
 refine qzc (fun g1=>?_) (fun g1=>?_)
 · have hix:i < xs.length:=by omega
   refine h.lx (s:=s) i rfl hix ?_
   have hcl:=cl i
   refine qzc (fun g2=>?_) (fun g2=>?_)
   · refine h.pushI (s:=o) (by rw [List.length_map]; omega) fun o2 w h=>?_
     refine qy (qk (by omega) (by omega)) ?_
     refine ⟨⟨rfl,rfl⟩,hin (i+1) _ _ _ ⟨by omega,by omega,?_⟩ (by omega)⟩
     rw [List.range_succ,List.filter_append,List.map_append]
     rw [show ([i].filter fun i=>decide (0 < xs.getD i 0))=[i] by simp only [List.filter_cons,List.filter_nil]; rw [if_pos (decide_eq_true g2)]]
     exact h
   · refine qy (qk (by omega) (by omega)) ?_
     refine ⟨⟨rfl,rfl⟩,hin (i+1) _ _ _ ⟨by omega,by omega,?_⟩ (by omega)⟩
     rw [List.range_succ,List.filter_append,List.map_append]
     rw [show ([i].filter fun i=>decide (0 < xs.getD i 0))=[] by simp only [List.filter_cons,List.filter_nil]; rw [if_neg (by simpa using g2)]]
     rw [List.map_nil,List.append_nil]
     exact h
 · have:i=xs.length:=by omega
   subst this
   unfold qvc.j2
   have hol:=h.len
   rw [qx,List.length_map] at hol
   refine hk o wL ?_ h
   unfold qid
   omega
end
end Go.Proofs.Ythdmmmfgjmmelaa
namespace Go.Proofs.Ythdmmmfgjmmelaa
set_option linter.unusedVariables false
set_option linter.unusedSimpArgs false
theorem qwh {α:Type} {Q:List α→Prop} (h0:Q []) (h1:∀ a,Q [a]) (h2:∀ a b r,Q r→Q (a :: b :: r)):∀ l,Q l
 | []=>h0
 | [a]=>h1 a
 | a :: b :: r=>h2 a b r (qwh h0 h1 h2 r)
section
variable {α β:Type} {k:α→Int}
theorem ssort_srt_id {l:List α} (h:srt k l):qpc k l=l:=by
 have:∀ (l:List α),srt k l→qpc k l=l:=qcl (Q:=fun l=>srt k l→qpc k l=l) (fun _=>rfl) (fun l x ih h=>by
  have h':=List.pairwise_append.1 h
  rw [qhg,ih h'.1]
  have:=insR_at (k:=k) (x:=x) (T1:=l) (T2:=[]) (fun y hy=>by have:=h'.2.2 y hy x (by simp); omega) (by simp)
  rwa [List.append_nil] at this)
 exact this l h
theorem insR_map {k':β→Int} {f:α→β} (hf:∀ a,k' (f a)=k a) (x:α) (l:List α):(insR k x l).map f=insR k' (f x) (l.map f):=by
 induction l with
 | nil=>rfl
 | cons y l ih =>
   rw [insR,List.map_cons,insR,hf,hf]
   split
   · rfl
   · rw [List.map_cons,ih]
theorem ssort_map {k':β→Int} {f:α→β} (hf:∀ a,k' (f a)=k a) (l:List α):(qpc k l).map f=qpc k' (l.map f) :=
 qcl (Q:=fun l=>(qpc k l).map f=qpc k' (l.map f)) rfl (fun l x ih=>by
  rw [qhg,insR_map hf,ih,List.map_append,List.map_cons,List.map_nil,qhg]) l
theorem mrg_take:∀ (m:Nat) (A B:List α),srt k A→m≤A.length+B.length→∃ c p,c+p=m∧c≤A.length∧p≤B.length∧((mrg k A B).take m).Perm (A.take c ++ B.take p)∧∀ (h:c < A.length),∀ b ∈ B.take p,k b < k A[c]:=by
 intro m
 induction m with
 | zero=>intro A B _ _; exact ⟨0,0,rfl,by omega,by omega,by simp,by simp⟩
 | succ m ih =>
   intro A B hA hm
   cases A with
   | nil =>
     rw [qnf]
     exact ⟨0,m+1,by omega,by omega,by simpa using hm,by simp,fun h=>by simp at h⟩
   | cons x A =>
     cases B with
     | nil =>
       rw [qlf]
       exact ⟨m+1,0,by omega,by simpa using hm,by omega,by simp,fun h b hb=>by simp at hb⟩
     | cons y B =>
       simp only [List.length_cons] at hm
       rw [qcf]
       by_cases hxy:k y < k x
       · rw [if_pos hxy]
         obtain ⟨c,p,h1,h2,h3,h4,h5⟩:=ih (x :: A) B hA (by simp only [List.length_cons]; omega)
         refine ⟨c,p+1,by omega,h2,by simp only [List.length_cons]; omega,?_,?_⟩
         · rw [List.take_succ_cons,List.take_succ_cons]
           exact (h4.cons y).trans (List.perm_middle).symm
         · intro h b hb
           rw [List.take_succ_cons] at hb
           rcases List.mem_cons.1 hb with rfl | hb
           · have hx:k x≤k (x :: A)[c]:=by
              cases c with
              | zero=>exact Int.le_refl _
              | succ c =>
                have:=(List.pairwise_cons.1 hA).1 ((x :: A)[c+1]) (by rw [List.getElem_cons_succ]; exact List.getElem_mem _)
                exact this
             omega
           · exact h5 h b hb
       · rw [if_neg hxy]
         obtain ⟨c,p,h1,h2,h3,h4,h5⟩:=ih A (y :: B) (List.pairwise_cons.1 hA).2 (by simp only [List.length_cons]; omega)
         refine ⟨c+1,p,by omega,by simp only [List.length_cons]; omega,h3,?_,?_⟩
         · rw [List.take_succ_cons,List.take_succ_cons]
           exact h4.cons x
         · intro h b hb
           rw [List.getElem_cons_succ]
           exact h5 (by simpa using h) b hb
end
abbrev Pg:=Int × List Nat
def gw (x:Pg):Int:=x.1
def qei:List Pg→List Pg
 | a :: b :: r=>(a.1+b.1,a.2 ++ b.2) :: qei r
 | _=>[]
def qxg (cs:List Pg):Nat→List Pg
 | 0=>[]
 | i+1=>qpc gw (cs ++ qei (qxg cs i))
def qle (l:List Pg):List Nat:=l.flatMap (·.2)
theorem qco (a b:List Pg):qle (a ++ b)=qle a ++ qle b:=by simp [qle]
theorem qvg (a:Pg) (b:List Pg):qle (a :: b)=a.2 ++ qle b:=rfl
theorem qbo {a b:List Pg} (h:a.Perm b):(qle a).Perm (qle b):=by
 induction h with
 | nil=>exact List.Perm.refl _
 | cons x _ ih=>exact ih.append_left _
 | swap x y l =>
   show (y.2 ++ (x.2 ++ qle l)).Perm (x.2 ++ (y.2 ++ qle l))
   rw [← List.append_assoc,← List.append_assoc]
   exact List.perm_append_comm.append_right _
 | trans _ _ h1 h2=>exact h1.trans h2
theorem qfh:∀ l:List Pg,(qei l).length=l.length / 2:=qwh rfl (fun a=>by simp [qei]) (fun a b r ih=>by
 show (qei r).length+1=(r.length+1+1) / 2
 omega)
theorem qtn:∀ (l:List Pg) (p:Nat),(qei l).take p=qei (l.take (2 * p)):=qwh (fun p=>by simp [qei]) (fun a p=>by cases p <;> simp [qei,show ∀ p,2 * (p+1)=2 * p+1+1 by omega]) (fun a b r ih p=>by
 cases p with
 | zero=>rfl
 | succ p =>
   rw [show 2 * (p+1)=2 * p+1+1 by omega,List.take_succ_cons,List.take_succ_cons,qei,qei,List.take_succ_cons,ih])
theorem flat_prsP:∀ l:List Pg,l.length % 2=0→qle (qei l)=qle l:=qwh (fun _=>rfl) (fun a h=>by simp at h) (fun a b r ih h=>by
 simp only [List.length_cons] at h
 rw [qei,qvg,qvg,qvg,ih (by omega),List.append_assoc])
theorem prsP_up:∀ l:List Pg,l.length % 2=0→(∀ y ∈ l,0 < gw y)→∀ x ∈ l,∃ b ∈ qei l,gw x < gw b:=qwh (fun _ _ x hx=>by cases hx) (fun a h=>by simp at h) (fun a b r ih h hp x hx=>by
 simp only [List.length_cons] at h
 have ha:=hp a (by simp)
 have hb:=hp b (by simp)
 rcases List.mem_cons.1 hx with rfl | hx
 · exact ⟨_,by rw [qei]; exact List.mem_cons_self,by show gw x < gw x+gw b; omega⟩
 · rcases List.mem_cons.1 hx with rfl | hx
   · exact ⟨_,by rw [qei]; exact List.mem_cons_self,by show gw x < gw a+gw x; omega⟩
   · obtain ⟨c,h1,h2⟩:=ih (by omega) (fun y hy=>hp y (by simp [hy])) x hx
     exact ⟨c,by rw [qei]; exact List.mem_cons_of_mem _ h1,h2⟩)
theorem prsP_pos:∀ l:List Pg,(∀ y ∈ l,0 < gw y)→∀ x ∈ qei l,0 < gw x:=qwh (fun _ x hx=>by cases hx) (fun a _ x hx=>by cases hx) (fun a b r ih hp x hx=>by
 rw [qei] at hx
 have ha:=hp a (by simp)
 have hb:=hp b (by simp)
 rcases List.mem_cons.1 hx with rfl | hx
 · show 0 < gw a+gw b; omega
 · exact ih (fun y hy=>hp y (by simp [hy])) x hx)
theorem prsP_ge (m:Int):∀ l:List Pg,(∀ y ∈ l,m≤gw y)→∀ x ∈ qei l,m+m≤gw x:=qwh (fun _ x hx=>by cases hx) (fun a _ x hx=>by cases hx) (fun a b r ih hp x hx=>by
 rw [qei] at hx
 have ha:=hp a (by simp)
 have hb:=hp b (by simp)
 rcases List.mem_cons.1 hx with rfl | hx
 · show m+m≤gw a+gw b; omega
 · exact ih (fun y hy=>hp y (by simp [hy])) x hx)
theorem prsP_srt:∀ l:List Pg,srt gw l→srt gw (qei l):=qwh (fun _=>List.Pairwise.nil) (fun _ _=>List.Pairwise.nil) (fun a b r ih h=>by
 have h1:=List.pairwise_cons.1 h
 have h2:=List.pairwise_cons.1 h1.2
 rw [qei]
 refine List.pairwise_cons.2 ⟨fun y hy=>?_,ih h2.2⟩
 have:=prsP_ge (gw b) r h2.1 y hy
 have hab:=h1.1 b (by simp)
 show gw a+gw b≤gw y
 omega)
section
variable {cs:List Pg}
theorem rowP_srt:∀ i,srt gw (qxg cs i):=by
 intro i
 cases i with
 | zero=>exact List.Pairwise.nil
 | succ i=>exact qmg _
theorem rowP_mrg (i:Nat):qxg cs (i+1)=mrg gw (qpc gw cs) (qei (qxg cs i)):=by
 rw [qxg,qkj,ssort_srt_id (prsP_srt _ (rowP_srt i))]
theorem rowP_pos (hp:∀ x ∈ cs,0 < gw x):∀ i,∀ x ∈ qxg cs i,0 < gw x:=by
 intro i
 induction i with
 | zero=>intro x hx; cases hx
 | succ i ih =>
   intro x hx
   rcases List.mem_append.1 ((qig _).mem_iff.1 hx) with hx | hx
   · exact hp x hx
   · exact prsP_pos _ ih x hx
theorem qqn (i:Nat):(qxg cs (i+1)).length=cs.length+(qxg cs i).length / 2:=by
 rw [qxg,qkc,List.length_append,qfh]
theorem rowP_lt (h:1≤cs.length):∀ i,(qxg cs i).length < 2 * cs.length:=by
 intro i
 induction i with
 | zero=>simp only [qxg,List.length_nil]; omega
 | succ i ih=>rw [qqn]; omega
theorem rowP_many (h:1≤cs.length):∀ i,(2 * cs.length - (qxg cs i).length) * 2 ^ i < 2 * cs.length+2 ^ i:=by
 intro i
 induction i with
 | zero=>simp [qxg]
 | succ i ih =>
   have:=rowP_lt h i
   rw [qqn,Nat.pow_succ]
   generalize (qxg cs i).length=r at this ih
   have h2:2 * (2 * cs.length - (cs.length+r / 2))≤(2 * cs.length - r)+1:=by omega
   have h3:=Nat.mul_le_mul_right (2 ^ i) h2
   rw [Nat.add_mul,Nat.one_mul,Nat.mul_assoc,Nat.mul_comm 2,Nat.mul_assoc] at h3
   omega
theorem qrn (h:1≤cs.length) {L:Nat} (hL:cs.length≤2 ^ L):2 * cs.length - 2≤(qxg cs L).length:=by
 have h1:=rowP_many h L
 have h2:(2 * cs.length - (qxg cs L).length) * 2 ^ L < 3 * 2 ^ L:=by omega
 have:=Nat.lt_of_mul_lt_mul_right h2
 omega
theorem sum_add {α:Type} (q:Nat) (g h:α→Nat):∀ (A:List α),(∀ s ∈ A,g s=q+h s)→(A.map g).sum=A.length * q+(A.map h).sum:=by
 intro A
 induction A with
 | nil=>intro _; simp
 | cons a A ih =>
   intro hA
   rw [List.map_cons,List.sum_cons,List.map_cons,List.sum_cons,ih (fun s hs=>hA s (by simp [hs])),hA a (by simp),List.length_cons,Nat.add_mul,Nat.one_mul]
   omega
theorem sum_same {α:Type} (g h:α→Nat) (A:List α) (e:∀ s ∈ A,g s=h s):(A.map g).sum=(A.map h).sum:=by
 rw [List.map_congr_left e]
theorem count_nodup {s:Nat}:∀ {l:List Nat},l.Nodup→s ∈ l→l.count s=1:=by
 intro l
 induction l with
 | nil=>intro _ h; cases h
 | cons a l ih =>
   intro hn h
   have hn:=List.nodup_cons.1 hn
   rcases List.mem_cons.1 h with rfl | h
   · rw [List.count_cons_self,List.count_eq_zero.2 hn.1]
   · rw [List.count_cons_of_ne (fun e=>hn.1 (by rw [e]; exact h)),ih hn.2 h]
theorem flat_take:∀ {l:List Pg} (c:Nat),(∀ x ∈ l,x.2.length=1)→qle (l.take c)=(qle l).take c:=by
 intro l
 induction l with
 | nil=>intro c _; simp [qle]
 | cons a l ih =>
   intro c h
   cases c with
   | zero=>rfl
   | succ c =>
     obtain ⟨s,hs⟩:=List.length_eq_one_iff.1 (h a (by simp))
     rw [List.take_succ_cons,qvg,qvg,ih c (fun x hx=>h x (by simp [hx])),hs]
     rfl
theorem flat_len:∀ {l:List Pg},(∀ x ∈ l,x.2.length=1)→(qle l).length=l.length:=by
 intro l
 induction l with
 | nil=>intro _; rfl
 | cons a l ih =>
   intro h
   rw [qvg,List.length_append,h a (by simp),ih (fun x hx=>h x (by simp [hx])),List.length_cons]; omega
def Tk3 (cs:List Pg) (i m:Nat):Prop:=∃ c,c≤cs.length∧(2 * cs.length - 2≤m→c=cs.length)∧(∀ x ∈ (qpc gw cs).take c,x ∈ (qxg cs i).take m) ∧
 (∀ s ∈ (qle (qpc gw cs)).take c,0 < (qle ((qxg cs i).take m)).count s∧(qle ((qxg cs i).take m)).count s≤i) ∧
 (∀ s,s ∉ (qle (qpc gw cs)).take c→(qle ((qxg cs i).take m)).count s=0) ∧
 ((qle (qpc gw cs)).map fun s=>2 ^ (i+1) - 2 ^ (i+1 - (qle ((qxg cs i).take m)).count s)).sum=m * 2 ^ i
theorem takes (hn:2≤cs.length) (hp:∀ x ∈ cs,0 < gw x) (h1:∀ x ∈ cs,x.2.length=1) (hd:(qle cs).Nodup):∀ i m,m≤(qxg cs i).length→Tk3 cs i m:=by
 have hS:∀ x ∈ qpc gw cs,x.2.length=1:=fun x hx=>h1 x ((qig _).mem_iff.1 hx)
 have hSd:(qle (qpc gw cs)).Nodup:=(qbo (qig cs)).symm.nodup hd
 have hSl:(qle (qpc gw cs)).length=cs.length:=by rw [flat_len hS,qkc]
 intro i
 induction i with
 | zero =>
   intro m hm
   have:m=0:=by simpa [qxg] using hm
   subst this
   refine ⟨0,by omega,fun h=>by omega,by simp,by simp,by simp [qxg,qle],?_⟩
   rw [Nat.zero_mul,sum_same _ (fun _=>0) _ (fun s _=>by simp [qxg,qle])]
   generalize qle (qpc gw cs)=l
   induction l with
   | nil=>rfl
   | cons a l ih=>simpa using ih
 | succ i ih =>
   intro m hm
   rw [rowP_mrg,qep _ _ _ rfl] at hm
   obtain ⟨c,p,hcp,hc,hpB,hperm,hlt⟩:=mrg_take (k:=gw) m (qpc gw cs) (qei (qxg cs i)) (qmg _) hm
   rw [qkc] at hc
   have hpB':=hpB
   rw [qfh] at hpB'
   obtain ⟨c',hc',hall,hmem,hcnt,hno,hsum⟩:=ih (2 * p) (by omega)
   have hl2:((qxg cs i).take (2 * p)).length=2 * p:=by rw [List.length_take]; omega
   have hcc:c'≤c:=by
    rcases Nat.lt_or_ge c c' with hlt2 | hge
    · exfalso
      have hcS:c < (qpc gw cs).length:=by rw [qkc]; omega
      have hx:(qpc gw cs)[c] ∈ (qxg cs i).take (2 * p):=hmem _ (List.mem_take_iff_getElem.2 ⟨c,by omega,rfl⟩)
      obtain ⟨b,hb,hlt3⟩:=prsP_up _ (by rw [hl2]; omega) (fun y hy=>rowP_pos hp i y (List.mem_of_mem_take hy)) _ hx
      rw [← qtn] at hb
      have:=hlt hcS b hb
      omega
    · exact hge
   have hF:∀ s,(qle ((qxg cs (i+1)).take m)).count s=((qle (qpc gw cs)).take c).count s+(qle ((qxg cs i).take (2 * p))).count s:=by
    intro s
    rw [rowP_mrg,(qbo hperm).count_eq,qco,List.count_append,flat_take _ hS,qtn,flat_prsP _ (by rw [hl2]; omega)]
   have hin:∀ s,s ∈ (qle (qpc gw cs)).take c→((qle (qpc gw cs)).take c).count s=1:=fun s hs=>count_nodup (hSd.sublist (List.take_sublist _ _)) hs
   have hbd:∀ s,(qle ((qxg cs i).take (2 * p))).count s≤i:=by
    intro s
    by_cases hs:s ∈ (qle (qpc gw cs)).take c'
    · exact (hcnt s hs).2
    · rw [hno s hs]; omega
   have hno2:∀ s,s ∉ (qle (qpc gw cs)).take c→(qle ((qxg cs i).take (2 * p))).count s=0:=fun s hs=>hno s fun h=>hs (by
    have:(qle (qpc gw cs)).take c'=((qle (qpc gw cs)).take c).take c':=by rw [List.take_take,Nat.min_eq_left hcc]
    rw [this] at h
    exact List.mem_of_mem_take h)
   refine ⟨c,hc,?_,?_,?_,?_,?_⟩
   · intro h2
     have hrl:=rowP_lt (cs:=cs) (by omega) i
     rcases Nat.lt_or_ge c cs.length with hlt2 | hge
     · have:p=cs.length - 1:=by omega
       have:=hall (by omega)
       omega
     · omega
   · intro x hx
     rw [rowP_mrg]
     exact hperm.mem_iff.2 (List.mem_append_left _ hx)
   · intro s hs
     rw [hF,hin s hs]
     have:=hbd s
     omega
   · intro s hs
     rw [hF,List.count_eq_zero.2 hs,hno2 s hs]
   · have e:=List.take_append_drop c (qle (qpc gw cs))
     have hdis:∀ s ∈ (qle (qpc gw cs)).drop c,s ∉ (qle (qpc gw cs)).take c:=by
      intro s hs hs2
      rw [← e] at hSd
      exact (List.nodup_append.1 hSd).2.2 s hs2 s hs rfl
     have hcl:((qle (qpc gw cs)).take c).length=c:=by rw [List.length_take,hSl]; omega
     rw [← e,List.map_append,List.sum_append] at hsum ⊢
     rw [sum_add (2 ^ (i+1)) _ (fun s=>2 ^ (i+1) - 2 ^ (i+1 - (qle ((qxg cs i).take (2 * p))).count s)) ((qle (qpc gw cs)).take c) (fun s hs=>?_),
      sum_same _ (fun s=>2 ^ (i+1) - 2 ^ (i+1 - (qle ((qxg cs i).take (2 * p))).count s)) ((qle (qpc gw cs)).drop c) (fun s hs=>?_),Nat.add_assoc,hsum,hcl]
     · rw [← hcp,Nat.pow_succ,Nat.add_mul,Nat.mul_comm 2 p,Nat.mul_assoc p,Nat.mul_comm 2]
     rotate_left
     · rw [hF,hin s hs]
       have hb:=hbd s
       generalize (qle ((qxg cs i).take (2 * p))).count s=f at hb
       rw [show i+1+1 - (1+f)=i+1 - f by omega]
       have h3:2 ^ (i+1 - f)≤2 ^ (i+1):=Nat.pow_le_pow_right (by omega) (by omega)
       rw [Nat.pow_succ 2 (i+1)]
       omega
     · rw [hF,List.count_eq_zero.2 (hdis s hs),hno2 s (hdis s hs)]
       simp
theorem full (hn:2≤cs.length) (hp:∀ x ∈ cs,0 < gw x) (h1:∀ x ∈ cs,x.2.length=1) (hd:(qle cs).Nodup) {L:Nat} (hL:cs.length≤2 ^ L) :
 (∀ s ∈ qle cs,0 < (qle ((qxg cs L).take (2 * cs.length - 2))).count s∧(qle ((qxg cs L).take (2 * cs.length - 2))).count s≤L) ∧
 (∀ s,s ∉ qle cs→(qle ((qxg cs L).take (2 * cs.length - 2))).count s=0) ∧
 ∀ K,L≤K→((qle cs).map fun s=>2 ^ (K - (qle ((qxg cs L).take (2 * cs.length - 2))).count s)).sum=2 ^ K:=by
 have hS:∀ x ∈ qpc gw cs,x.2.length=1:=fun x hx=>h1 x ((qig _).mem_iff.1 hx)
 have hSl:(qle (qpc gw cs)).length=cs.length:=by rw [flat_len hS,qkc]
 have hpm:(qle (qpc gw cs)).Perm (qle cs):=qbo (qig cs)
 obtain ⟨c,hc,hall,hmem,hcnt,hno,hsum⟩:=takes hn hp h1 hd L (2 * cs.length - 2) (qrn (by omega) hL)
 have hc:=hall (Nat.le_refl _)
 rw [hc,← hSl,List.take_length,hSl] at hcnt hno
 generalize (qxg cs L).take (2 * cs.length - 2)=R at *
 refine ⟨fun s hs=>hcnt s (hpm.mem_iff.2 hs),fun s hs=>hno s (fun h=>hs (hpm.mem_iff.1 h)),fun K hK=>?_⟩
 rw [← (hpm.map _).sum_nat]
 have e1:∀ (l:List Nat),(∀ s ∈ l,(qle R).count s≤L∧0 < (qle R).count s)→(l.map fun s=>2 ^ (L+1) - 2 ^ (L+1 - (qle R).count s)).sum+2 * (l.map fun s=>2 ^ (L - (qle R).count s)).sum=l.length * 2 ^ (L+1):=by
  intro l
  induction l with
  | nil=>intro _; simp
  | cons a l ih =>
    intro h
    have ha:=h a (by simp)
    have:=ih (fun s hs=>h s (by simp [hs]))
    simp only [List.map_cons,List.sum_cons,List.length_cons]
    have h3:2 ^ (L+1 - (qle R).count a)=2 * 2 ^ (L - (qle R).count a):=by
     rw [show L+1 - (qle R).count a=(L - (qle R).count a)+1 by omega,Nat.pow_succ,Nat.mul_comm]
    have h4:2 ^ (L+1 - (qle R).count a)≤2 ^ (L+1):=Nat.pow_le_pow_right (by omega) (by omega)
    rw [Nat.add_mul,Nat.one_mul]
    omega
 have e2:=e1 _ (fun s hs=>⟨(hcnt s hs).2,(hcnt s hs).1⟩)
 rw [hsum,hSl,Nat.pow_succ] at e2
 have e3:((qle (qpc gw cs)).map fun s=>2 ^ (L - (qle R).count s)).sum=2 ^ L:=by
  have:(2 * cs.length - 2) * 2 ^ L+2 * 2 ^ L=cs.length * (2 ^ L * 2):=by
   rw [← Nat.add_mul,show 2 * cs.length - 2+2=cs.length * 2 by omega,Nat.mul_assoc,Nat.mul_comm 2]
  omega
 have e4:∀ (l:List Nat),(∀ s ∈ l,(qle R).count s≤L)→(l.map fun s=>2 ^ (K - (qle R).count s)).sum=2 ^ (K - L) * (l.map fun s=>2 ^ (L - (qle R).count s)).sum:=by
  intro l
  induction l with
  | nil=>intro _; simp
  | cons a l ih =>
    intro h
    have ha:=h a (by simp)
    simp only [List.map_cons,List.sum_cons]
    rw [ih (fun s hs=>h s (by simp [hs])),Nat.mul_add,← Nat.pow_add,show K - L+(L - (qle R).count a)=K - (qle R).count a by omega]
 rw [e4 _ (fun s hs=>(hcnt s hs).2),e3,← Nat.pow_add,show K - L+L=K by omega]
end
end Go.Proofs.Ythdmmmfgjmmelaa
namespace Go.Proofs.Ythdmmmfgjmmelaa
set_option linter.unusedVariables false
set_option linter.unusedSimpArgs false
def cnt (t:Int) (l:List Int):Nat:=l.countP fun x=>decide (x≤t)
def coinsP (xs:List Int):List Pg:=(qid xs).map fun i=>(xs.getD i 0,[i])
def lenF (xs:List Int) (m:Nat) (i:Nat):Nat :=
 if (qid xs).length < 2 then (if 0 < xs.getD i 0 then 1 else 0) else (qle ((qxg (coinsP xs) m).take (2 * (qid xs).length - 2))).count i
def lenP (xs:List Int) (m:Nat):List Int:=qek xs.length fun i=>lenF xs m i
theorem qhk (xs:List Int):qle (coinsP xs)=qid xs:=by
 unfold coinsP
 generalize qid xs=l
 induction l with
 | nil=>rfl
 | cons a l ih=>rw [List.map_cons,qvg,ih]; rfl
theorem qbd (xs:List Int):(coinsP xs).length=(qid xs).length:=by simp [coinsP]
theorem qag {xs:List Int} {i:Nat}:i ∈ qid xs ↔ i < xs.length∧0 < xs.getD i 0:=by
 unfold qid; simp
theorem qnp (xs:List Int):(qid xs).Nodup:=List.nodup_range.sublist List.filter_sublist
theorem coins_one (xs:List Int):∀ x ∈ coinsP xs,x.2.length=1:=by
 intro x hx
 obtain ⟨i,_,rfl⟩:=List.mem_map.1 hx
 rfl
theorem coins_pos (xs:List Int):∀ x ∈ coinsP xs,0 < gw x:=by
 intro x hx
 obtain ⟨i,h,rfl⟩:=List.mem_map.1 hx
 exact (qag.1 h).2
theorem qsg (xs:List Int) (m:Nat):(lenP xs m).length=xs.length:=quc _ _
theorem qvn {xs:List Int} {m i:Nat} (h:i < xs.length):(lenP xs m).getD i 0=lenF xs m i:=qse (f:=fun i=>(lenF xs m i:Int)) h
theorem flat_lt {cs:List Pg} {n:Nat} (h:∀ x ∈ cs,∀ s ∈ x.2,s < n):∀ i,∀ x ∈ qxg cs i,∀ s ∈ x.2,s < n:=by
 have hp:∀ l:List Pg,(∀ x ∈ l,∀ s ∈ x.2,s < n)→∀ x ∈ qei l,∀ s ∈ x.2,s < n:=qwh (fun _ x hx=>by cases hx) (fun a _ x hx=>by cases hx) (fun a b r ih h x hx=>by
  rw [qei] at hx
  have ha:=h a (by simp)
  have hb:=h b (by simp)
  rcases List.mem_cons.1 hx with rfl | hx
  · intro s hs
    rcases List.mem_append.1 hs with hs | hs
    · exact ha s hs
    · exact hb s hs
  · exact ih (fun y hy=>h y (by simp [hy])) x hx)
 intro i
 induction i with
 | zero=>intro x hx; cases hx
 | succ i ih =>
   intro x hx
   rcases List.mem_append.1 ((qig _).mem_iff.1 hx) with hx | hx
   · exact h x hx
   · exact hp _ ih x hx
theorem lenF_ok {xs:List Int} {m:Nat} (h:(qid xs).length≤2 ^ m) (hm:1≤m) {i:Nat} (hi:i < xs.length):lenF xs m i≤m∧(0 < lenF xs m i ↔ 0 < xs.getD i 0):=by
 unfold lenF
 by_cases hc:(qid xs).length < 2
 · rw [if_pos hc]; split <;> omega
 · rw [if_neg hc]
   obtain ⟨h1,h2,_⟩:=full (cs:=coinsP xs) (by rw [qbd]; omega) (coins_pos xs) (coins_one xs) (by rw [qhk]; exact qnp xs) (L:=m) (by rw [qbd]; exact h)
   rw [qbd,qhk] at h1 h2
   by_cases hx:0 < xs.getD i 0
   · have:=h1 i (qag.2 ⟨hi,hx⟩); omega
   · have:=h2 i (fun h=>hx (qag.1 h).2); omega
theorem lenF_full {xs:List Int} {m:Nat} (h:(qid xs).length≤2 ^ m) (hc:2≤(qid xs).length) (K:Nat) (hK:m≤K):((qid xs).map fun i=>2 ^ (K - lenF xs m i)).sum=2 ^ K:=by
 obtain ⟨_,_,h3⟩:=full (cs:=coinsP xs) (by rw [qbd]; omega) (coins_pos xs) (coins_one xs) (by rw [qhk]; exact qnp xs) (L:=m) (by rw [qbd]; exact h)
 rw [qbd,qhk] at h3
 rw [← h3 K hK]
 congr 1
 refine List.map_congr_left fun i hi=>?_
 unfold lenF
 rw [if_neg (by omega)]
theorem come_sum (xs:List Int) (p:Nat→Bool) (g:Nat→Nat) (n:Nat):((List.range n).map fun i=>if p i then g i else 0).sum=(((List.range n).filter p).map g).sum:=by
 generalize List.range n=l
 induction l with
 | nil=>rfl
 | cons a l ih =>
   rw [List.map_cons,List.sum_cons,ih,List.filter_cons]
   cases p a <;> simp
end Go.Proofs.Ythdmmmfgjmmelaa
namespace Go.Proofs.Ythdmmmfgjmmelaa
open Go Go.Proofs
set_option linter.unusedVariables false
set_option linter.unusedSimpArgs false
attribute [local irreducible] apK cpK mkK br
section
variable {F0:List Nat} {w0 w:World} {ps rest:List As} {s:Sl} {l:List Int}
def goodX (xs:List Int):Prop:=xs.length≤288∧∀ x ∈ xs,¬ badN x
instance (xs:List Int):Decidable (goodX xs):=inferInstanceAs (Decidable (_∧_))
def leastE (xs:List Int) (m:Int):Int:=if ¬ goodX xs ∨ m < 1 ∨ 15 < m then 1 else if 2 ^ m.toNat < (qid xs).length then 7 else 0
theorem qyl (xs:List Int):(qid xs).length≤xs.length:=Nat.le_trans (List.length_filter_le _ _) (by simp)
end
end Go.Proofs.Ythdmmmfgjmmelaa
namespace Go.Proofs.Ythdmmmfgjmmelaa
open Go Go.Proofs
set_option linter.unusedVariables false
set_option linter.unusedSimpArgs false
attribute [local irreducible] apK cpK mkK br
class Rec {α:Type} (f:α→List Value) (sz:outParam Nat):Prop where
 len:∀ x,(f x).length=sz
 sto:∀ x,∀ v ∈ f x,storable v
 pos:0 < sz
class EltR (P:Program) (e:TypeId) (sz:outParam Nat) (z:outParam (List Value)):Prop where
 info:∃ i,P.info? e=some i∧i.size=sz∧i.bytes ≠ 0∧i.bytes≤1024
 zc:Go.Proofs.Ythdmmmfgjmmelaa.zc P e=⟨z⟩
 len:z.length=sz
 pos:0 < sz
section
variable {α:Type} {f:α→List Value} {sz:Nat}
theorem qfl (x:α) (L:List α):(x :: L).flatMap f=f x ++ L.flatMap f:=rfl
theorem qcp (L M:List α):(L ++ M).flatMap f=L.flatMap f ++ M.flatMap f:=List.flatMap_append
theorem rws_one (x:α):[x].flatMap f=f x:=by simp
theorem qmj [i:Rec f sz] (L:List α):(L.flatMap f).length=L.length * sz:=by
 induction L with
 | nil=>simp
 | cons x L ih=>rw [qfl,List.length_append,ih,i.len,List.length_cons,Nat.add_mul]; omega
theorem rws_sto [i:Rec f sz] (L:List α):∀ v ∈ (⟨L.flatMap f⟩:Array Value),storable v:=by
 intro v hv
 have hv:v ∈ L.flatMap f:=by simpa using hv
 obtain ⟨x,_,hx⟩:=List.mem_flatMap.1 hv
 exact i.sto x v hx
theorem rws_get [i:Rec f sz]:∀ {L:List α} {j o:Nat} (hj:j < L.length),o < sz→(L.flatMap f)[j * sz+o]?=(f L[j])[o]?:=by
 intro L
 induction L with
 | nil=>intro j o hj; simp at hj
 | cons x L ih =>
   intro j o hj ho
   rw [qfl]
   cases j with
   | zero=>rw [Nat.zero_mul,Nat.zero_add,List.getElem?_append_left (by rw [i.len]; exact ho)]; rfl
   | succ j =>
     rw [List.getElem?_append_right (by rw [i.len,Nat.add_mul]; omega),i.len,show (j+1) * sz+o - sz=j * sz+o by rw [Nat.add_mul]; omega,ih (by simpa using hj) ho]
     rfl
theorem rws_take [i:Rec f sz]:∀ (L:List α) (n:Nat),(L.flatMap f).take (n * sz)=(L.take n).flatMap f:=by
 intro L
 induction L with
 | nil=>intro n; simp
 | cons x L ih =>
   intro n
   cases n with
   | zero=>simp
   | succ n =>
     rw [List.take_succ_cons,qfl,qfl,← ih n,List.take_append,List.take_of_length_le (by rw [i.len,Nat.add_mul]; omega),i.len,show (n+1) * sz - sz=n * sz by rw [Nat.add_mul]; omega]
theorem rws_drop [i:Rec f sz]:∀ (L:List α) (n:Nat),(L.flatMap f).drop (n * sz)=(L.drop n).flatMap f:=by
 intro L
 induction L with
 | nil=>intro n; simp
 | cons x L ih =>
   intro n
   cases n with
   | zero=>simp
   | succ n =>
     rw [List.drop_succ_cons,qfl,← ih n,List.drop_append,List.drop_eq_nil_of_le (by rw [i.len,Nat.add_mul]; omega),i.len,show (n+1) * sz - sz=n * sz by rw [Nat.add_mul]; omega,List.nil_append]
end
section
variable {F0:List Nat} {w0 w:World} {ps rest:List As} {P:Program} {e:TypeId} {α:Type} {f:α→List Value} {sz:Nat} {z:List Value} {s:Sl} {L:List α}
theorem Rd.rcell [i:Rec f sz] (h:Rd w sz s (L.flatMap f)) {a0:Addr} (ha:s.a=some a0) {j o:Nat} (hj:j < L.length) (ho:o < sz):w.cell? ((a0.add (j * sz)).add o)=(f L[j])[o]?:=by
 have hb:(j+1) * sz≤L.length * sz:=Nat.mul_le_mul_right _ hj
 rw [Nat.add_mul,Nat.one_mul] at hb
 rw [qwk,h.cell ha (by rw [qmj]; omega),rws_get hj ho]
theorem St.rix [i:Rec f sz] (h:St F0 w0 w ps) [Rdb F0 w0 s ps sz (L.flatMap f)] {n:Int} {K:Addr→Prop} (j:Nat) (hi:n=j) (hj:j < L.length) (hk:∀ a0,s.a=some a0→K (a0.add (j * sz))):ixS s.a s.len n sz K:=by
 subst hi
 have hr:=h.rdb s
 have hl:=hr.1
 rw [qmj] at hl
 have:=Nat.eq_of_mul_eq_mul_right i.pos hl
 refine hr.ix i.pos (by omega) (by omega) fun a ha=>?_
 rw [Int.toNat_natCast]
 exact hk a ha
theorem St.rlen [i:Rec f sz] (h:St F0 w0 w ps) [Rdb F0 w0 s ps sz (L.flatMap f)]:L.length=s.len:=by
 have hl:=(h.rdb s).1
 rw [qmj] at hl
 exact Nat.eq_of_mul_eq_mul_right i.pos hl
theorem Rd.rI {k:IntKind} [i:Rec f sz] (h:Rd w sz s (L.flatMap f)) {a0:Addr} {v:Int} {K:Int→Prop} (ha:s.a=some a0) {j o:Nat} (hj:j < L.length) (ho:o < sz) (hv:(f L[j])[o]?=some (.int k v)) (hk:K v):Go.Proofs.Ythdmmmfgjmmelaa.ldI k w ((a0.add (j * sz)).add o) K :=
 ldI_c (by rw [h.rcell ha hj ho]; exact hv) hk
theorem Rd.rL [i:Rec f sz] (h:Rd w sz s (L.flatMap f)) {a0:Addr} {v:Sl} {K:Sl→Prop} (ha:s.a=some a0) {j o:Nat} (hj:j < L.length) (ho:o < sz) (hv:(f L[j])[o]?=some (.slice v.a v.len v.cap)) (hk:K v):Go.Proofs.Ythdmmmfgjmmelaa.ldL w ((a0.add (j * sz)).add o) K :=
 ldL_c (by rw [h.rcell ha hj ho]; exact hv) hk
theorem Rd.rA [i:Rec f sz] (h:Rd w sz s (L.flatMap f)) {a0:Addr} {K:Array Value→Prop} (ha:s.a=some a0) {j:Nat} (hj:j < L.length) (hk:K ⟨f L[j]⟩):Go.Proofs.Ythdmmmfgjmmelaa.ldA w (a0.add (j * sz)) sz K:=by
 refine ⟨⟨f L[j]⟩,i.len _,fun o ho=>?_,hk⟩
 rw [h.rcell ha hj ho]
 simp
theorem St.lr [i:Rec f sz] (h:St F0 w0 w ps) [Rdb F0 w0 s ps sz (L.flatMap f)] {n:Int} {K:Array Value→Prop} (j:Nat) (hi:n=j) (hj:j < L.length) (hk:K ⟨f L[j]⟩):ixS s.a s.len n sz fun a=>ldA w a sz K :=
 h.rix j hi hj fun a0 ha=>(h.rdb s).rA ha hj hk
theorem St.lrI {k:IntKind} [i:Rec f sz] (h:St F0 w0 w ps) [Rdb F0 w0 s ps sz (L.flatMap f)] {n v:Int} {o:Nat} {K:Int→Prop} (j:Nat) (hi:n=j) (hj:j < L.length) (ho:o < sz) (hv:(f L[j])[o]?=some (.int k v)) (hk:K v):ixS s.a s.len n sz fun a=>Go.Proofs.Ythdmmmfgjmmelaa.ldI k w (a.add o) K :=
 h.rix j hi hj fun a0 ha=>(h.rdb s).rI ha hj ho hv hk
theorem rec_room {b n:Nat} (hb:b≤1024) (hn:n≤1000000000):(2 * n+1024) * b≤281474976710656:=by
 refine Nat.le_trans (Nat.mul_le_mul_left _ hb) ?_
 omega
theorem St.pushR [i:Rec f sz] [he:EltR P e sz z] (h:St F0 w0 w ps) [PkO s ps sz (L.flatMap f) rest] {x:α} {c:Array Value} {K:Sl→World→Prop} (hlen:L.length≤999999999) (hc:c=⟨f x⟩)
 (hk:∀ s' w',s'.len=s.len+1→St F0 w0 w' (qdc sz s' ((L ++ [x]).flatMap f) :: rest)→K s' w') :
 lt (⟨World.heapSize w,0,none⟩:Addr) fun a=>lt (World.alloc w (.cells c e)) fun w1=>rdO w1 (some a) (1 * sz) fun c=>apK P e w1 s.a s.len s.cap 1 c K:=by
 subst hc
 refine (h.toO s).new fun nb w h=>?_
 have h:St F0 w0 w (qxc nb (f x) :: qdc sz s (L.flatMap f) :: rest):=h
 refine h.rdB (by rw [i.len,Nat.one_mul]) ?_
 have h:=h.drop
 have hl:=h.len
 rw [qmj] at hl
 have hl:=Nat.eq_of_mul_eq_mul_right i.pos hl
 obtain ⟨t,h1,h2,h3,h4⟩:=he.info
 refine St.append (i:=t) (sz:=sz) (m:=1) h1 h2 i.pos (by rw [he.zc]; exact he.len) h3 (rec_room h4 (by omega)) h (by show (f x).length=_; rw [i.len,Nat.one_mul]) (fun v hv=>i.sto x v (by simpa using hv)) fun s' w' h hl'=>hk s' w' hl' (by rw [qcp,rws_one]; exact h)
theorem St.appR [i:Rec f sz] [he:EltR P e sz z] (h:St F0 w0 w ps) [PkO s ps sz (L.flatMap f) rest] {s2:Sl} {M:List α} [Rdb F0 w0 s2 ps sz (M.flatMap f)] {K:Sl→World→Prop} (hlen:L.length+M.length≤999999999)
 (hk:∀ s' w',s'.len=s.len+M.length→St F0 w0 w' (qdc sz s' ((L ++ M).flatMap f) :: rest)→K s' w') :
 rdO w s2.a (s2.len * sz) fun c=>apK P e w s.a s.len s.cap s2.len c K:=by
 have hr:=h.rdb s2
 have hl:=hr.1
 refine hr.rdO hl.symm ?_
 rw [qmj] at hl
 have hl:=Nat.eq_of_mul_eq_mul_right i.pos hl
 have h:=h.toO s
 have hl2:=h.len
 rw [qmj] at hl2
 have hl2:=Nat.eq_of_mul_eq_mul_right i.pos hl2
 obtain ⟨t,h1,h2,h3,h4⟩:=he.info
 refine St.append (i:=t) (sz:=sz) (m:=s2.len) h1 h2 i.pos (by rw [he.zc]; exact he.len) h3 (rec_room h4 (by omega)) h (by show (M.flatMap f).length=_; rw [qmj,hl]) (rws_sto M) fun s' w' h hl'=>hk s' w' (by omega) (by rw [qcp]; exact h)
theorem St.ownBR {nb n:Nat} {l:List Value} (h:St F0 w0 w (qxc nb l :: ps)) (hn:l.length=n * sz):St F0 w0 w (qdc sz ⟨some ⟨nb,0,none⟩,n,n⟩ l :: ps):=by
 refine h.mp ?_
 rintro F ⟨hb,rfl⟩
 exact Or.inr ⟨nb,[],rfl,by simpa using hb,hn,by simpa using hn,rfl⟩
theorem St.cloneR [i:Rec f sz] [he:EltR P e sz z] (h:St F0 w0 w ps) {s2:Sl} {M:List α} [Rdb F0 w0 s2 ps sz (M.flatMap f)] {K:Sl→World→Prop} (hlen:M.length≤999999999)
 (hk:∀ s' w',s'.len=M.length→St F0 w0 w' (qdc sz s' (M.flatMap f) :: ps)→K s' w') :
 lt (⟨World.heapSize w,0,none⟩:Addr) fun a=>lt (World.alloc w (.cells ⟨[]⟩ e)) fun w1=>rdO w1 s2.a (s2.len * sz) fun c=>apK P e w1 (some a) 0 0 s2.len c K:=by
 refine h.new fun nb w h=>?_
 have h:St F0 w0 w (qxc nb [] :: ps):=h
 have h:St F0 w0 w (qdc sz ⟨some ⟨nb,0,none⟩,0,0⟩ (([]:List α).flatMap f) :: ps):=h.ownBR (n:=0) (by simp)
 exact St.appR (s:=⟨some ⟨nb,0,none⟩,0,0⟩) (L:=([]:List α)) h (by simpa using hlen) fun s' w' h1 h=>hk s' w' (by simpa using h1) (by simpa using h)
theorem St.isnil [i:Rec f sz] (h:St F0 w0 w ps) [Rdb F0 w0 s ps sz (L.flatMap f)] (hn:s.a=none):L=[]:=by
 have hr:=h.rdb s
 cases L with
 | nil=>rfl
 | cons x L =>
   exfalso
   obtain ⟨a,ha,_⟩:=hr.2 0 (by rw [qmj,List.length_cons,Nat.add_mul]; have:=i.pos; omega)
   rw [hn] at ha
   cases ha
theorem St.cutRR [i:Rec f sz] (h:St F0 w0 w ps) (s:Sl) [hr:Rdb F0 w0 s ps sz (L.flatMap f)] (n m c':Nat) (hm:m≤s.len) (hn:n≤m) (hc:s.len≤s.cap):Rdb F0 w0 ⟨qzf s.a s.cap n sz,m - n,c'⟩ ps sz (((L.drop n).take (m - n)).flatMap f):=⟨fun h=>by
 have:=(hr.rd h).cut (n:=n) (m:=m) i.pos hm hn hc c'
 rw [rws_drop,rws_take] at this
 exact this⟩
theorem St.setR [i:Rec f sz] {b:Nat} {l:List Value} {x:α} {K:World→Prop} (h:St F0 w0 w (qxc b l :: ps)) (hl:l.length=sz) (hk:∀ w',St F0 w0 w' (qxc b (f x) :: ps)→K w'):Go.Proofs.Ythdmmmfgjmmelaa.stA w ⟨b,0,none⟩ ⟨f x⟩ K :=
 h.sA (b:=b) hl (i.len x) (fun v hv=>i.sto x v (by simpa using hv)) hk
end
end Go.Proofs.Ythdmmmfgjmmelaa
namespace Go.Proofs.Ythdmmmfgjmmelaa
open Go Go.Proofs
set_option linter.unusedVariables false
set_option linter.unusedSimpArgs false
attribute [local irreducible] apK cpK mkK br
section
variable {F0:List Nat} {w0 w:World} {ps rest:List As} {s:Sl}
theorem St.front {sz:Nat} {cs:List Value} (h:St F0 w0 w (qdc sz s cs :: ps)) (m:Nat) (hm:m≤s.len):St F0 w0 w (qdc sz ⟨qzf s.a s.cap 0 sz,m - 0,s.cap - 0⟩ (cs.take (m * sz)) :: ps):=by
 refine h.mp ?_
 rintro F (⟨rfl,rfl,rfl⟩ | ⟨ob,rs,h1,hb,h2,h3,rfl⟩)
 · have:m=0:=by simpa using hm
   subst this
   exact Or.inl ⟨rfl,by simp,rfl⟩
 · refine Or.inr ⟨ob,cs.drop (m * sz) ++ rs,?_,?_,?_,?_,rfl⟩
   · show qzf s.a s.cap 0 sz=_
     unfold qzf
     rw [h1]
     split
     · rfl
     · rw [Option.map_some,qme,Nat.zero_mul]
   · rw [← List.append_assoc,List.take_append_drop]; exact hb
   · rw [List.length_take,h2]
     exact Nat.min_eq_left (Nat.mul_le_mul_right _ hm)
   · rw [← List.append_assoc,List.take_append_drop]; exact h3
theorem qze.c {n:Nat} {K:Ending→World→Prop} (h:St F0 w0 w ps) (hn:n≤1000000)
 (hk:∀ t w',t.len=0→St F0 w0 w' (qdc 1 t (ivs .i64 []) :: ps)→K (.returned (.slice t.a t.len t.cap)) w'):Calls Try.prog 134 ⟨[.slice none 0 0,.int .i64 n]⟩ w K:=by
 refine qoc (qze.ok ⟨none,0,0⟩ _ _ _ ?_)
 unfold qze
 dsimp only
 refine qzc (fun g=>by omega) (fun _=>?_)
 refine qy (qk (by omega) (by omega)) ?_
 refine qy (qk (by omega) (by omega)) ?_
 have e:(n:Int) - (((0:Nat):Int) - ((0:Nat):Int))=n:=by simp
 rw [e]
 have h:=h.nil 1
 refine qzc (fun g=>?_) (fun g=>hk ⟨none,0,0⟩ w rfl h)
 refine bd_i (n:=0) rfl (Nat.le_refl _) (qcj ?_)
 have he:Elt Try.prog 3 (.int .i64 0):=elt_int
 dsimp only
 refine ⟨⟨by omega,by omega,?_,by omega⟩,?_⟩
 · have hb:=(Elt.bytes (P:=Try.prog) (e:=3) (z:=.int .i64 0))
   have h3:(n:Int) * (Try.prog.bytesOf 3:Int)≤1000000 * 16:=Int.mul_le_mul (by omega) (by omega) (by omega) (by omega)
   exact Int.le_trans h3 (by decide)
 rw [Int.toNat_natCast,he.zc,repL_one]
 refine St.app (s:=⟨none,0,0⟩) (cs2:=List.replicate n (.int .i64 0)) (z:=.int .i64 0) h rfl (by simp) (by rw [List.length_nil]; omega) (fun v hv=>?_) fun s6 w h=>?_
 · have hv:v ∈ List.replicate n (Value.int .i64 0):=by simpa using hv
   rw [(List.mem_replicate.1 hv).2]
   trivial
 refine bd_i (n:=0) rfl (Nat.zero_le _) (qcj ?_)
 refine hk ⟨qzf s6.a s6.cap 0 1,0 - 0,s6.cap - 0⟩ w rfl ?_
 have h:=h.front 0 (Nat.zero_le _)
 rw [Nat.zero_mul,List.take_zero] at h
 exact h
theorem Rd.lsl2 {L:List (Sl × List Int)} {i:Int} {K:Sl→Prop} (h:Rd w 1 s (sls L)) (j:Nat) (hi:i=j) (hj:j < L.length) (hk:K L[j].1):ixS s.a s.len i 1 fun a=>ldL w a K:=by
 subst hi
 have hl:=h.1
 rw [show (sls L).length=L.length by simp [sls]] at hl
 refine h.ix (by decide) (by omega) (by omega) fun a ha=>?_
 rw [show ((j:Int)).toNat * 1=j by omega]
 exact ldL_c (by rw [h.cell ha (by simp [sls]; omega)]; simp [sls,hj]) hk
def catL (L:List (Sl × List Int)):List Int:=L.flatMap (·.2)
theorem catL_snoc (L:List (Sl × List Int)) {i:Nat} (h:i < L.length):catL (L.take (i+1))=catL (L.take i) ++ L[i].2:=by
 unfold catL
 rw [List.take_succ_eq_append_getElem h,List.flatMap_append]
 simp
theorem catL_le (L:List (Sl × List Int)) (i:Nat):(catL (L.take i)).length≤(catL L).length:=by
 have:catL L=catL (L.take i) ++ catL (L.drop i):=by
  unfold catL
  rw [← List.flatMap_append,List.take_append_drop]
 rw [this,List.length_append]
 omega
theorem qv.c {L:List (Sl × List Int)} {K:Ending→World→Prop} (h:St F0 w0 w ps) [Rdb F0 w0 s ps 1 (sls L)] (hL:∀ y ∈ L,∀ w,St F0 w0 w ps→Rd w 1 y.1 (ivs .i64 y.2)) (hn:L.length≤1000) (hlen:(catL L).length≤1000000)
 (hk:∀ t w',t.len=(catL L).length→St F0 w0 w' (qdc 1 t (ivs .i64 (catL L)) :: ps)→K (.returned (.slice t.a t.len t.cap)) w'):Calls Try.prog 88 ⟨[.slice s.a s.len s.cap]⟩ w K:=by
 have hl:=(h.rdb s).1
 rw [show (sls L).length=L.length by simp [sls]] at hl
 refine qoc (qv.ok _ _ _ ?_)
 unfold qv qv.j1 qv.j6
 refine loop2 (fun (i:Nat) (z:Int) (i':Int) w'=>i'=i∧i≤L.length∧z=(catL (L.take i)).length∧St F0 w0 w' ps) (fun i=>L.length - i) 0 ⟨rfl,by omega,by simp [catL],h⟩ ?_
 clear h
 rintro i z i' wL I μ ⟨rfl,hi,rfl,h⟩ hin
 have hle:=catL_le L i
 unfold qv.b2
 refine qzc (fun g=>?_) (fun g=>?_)
 · have hix:i < L.length:=by omega
   have hsn:=catL_snoc L hix
   have hle2:=catL_le L (i+1)
   refine (h.rdb s).lsl2 i rfl hix ?_
   have hy:=(hL L[i] (List.getElem_mem hix) _ h).1
   rw [qx] at hy
   rw [hsn,List.length_append] at hle2
   refine qy (qk (by omega) (by omega)) ?_
   refine qzc (fun g=>by omega) (fun _=>?_)
   refine qy (qk (by omega) (by omega)) ?_
   refine ⟨⟨rfl,rfl,rfl⟩,hin (i+1) _ _ _ ⟨by omega,by omega,?_,h⟩ (by omega)⟩
   rw [hsn,List.length_append]
   omega
 · have:i=L.length:=by omega
   subst this
   rw [List.take_length]
   unfold qv.j2
   refine qze.c h hlen fun t w ht h=>⟨t,rfl,?_⟩
   unfold qv.j3 qv.j5
   refine loop2 (fun (i:Nat) (o:Sl) (i':Int) w'=>i'=i∧i≤L.length∧St F0 w0 w' (qdc 1 o (ivs .i64 (catL (L.take i))) :: ps)) (fun i=>L.length - i) 0 ⟨rfl,by omega,by simpa [catL] using h⟩ ?_
   clear h
   rintro i o i' wL I μ ⟨rfl,hi,h⟩ hin
   have hle:=catL_le L i
   unfold qv.b1
   refine qzc (fun g=>?_) (fun g=>?_)
   · have hix:i < L.length:=by omega
     have hsn:=catL_snoc L hix
     have hle2:=catL_le L (i+1)
     rw [hsn,List.length_append] at hle2
     refine (h.rdb s).lsl2 i rfl hix ?_
     haveI:Rdb F0 w0 L[i].1 ps 1 (ivs .i64 L[i].2):=⟨fun h=>hL L[i] (List.getElem_mem hix) _ h⟩
     refine h.appI (s:=o) (s2:=L[i].1) (k:=.i64) (by omega) fun o2 w h=>?_
     refine qy (qk (by omega) (by omega)) ?_
     refine ⟨⟨rfl,rfl⟩,hin (i+1) _ _ _ ⟨by omega,by omega,?_⟩ (by omega)⟩
     rw [hsn]
     exact h
   · have:i=L.length:=by omega
     subst this
     rw [List.take_length] at h
     unfold qv.j4
     have:=h.len
     rw [qx] at this
     exact hk o wL (by omega) h
theorem blk_rdb {nb n:Nat} {l:List Value} [PkB nb ps l rest] (hn:l.length=n):Rdb F0 w0 ⟨some ⟨nb,0,none⟩,n,n⟩ ps 1 l:=⟨fun h=>by
 have hb:=(h.toB nb).blk
 refine ⟨by rw [Nat.mul_one]; exact hn,fun i hi=>⟨_,rfl,?_⟩⟩
 rw [qme,Nat.zero_add,hb.cell]⟩
theorem qv.c2 {nb:Nat} {A B:Sl} {xs ys:List Int} {K:Ending→World→Prop} (h:St F0 w0 w ps) [PkB nb ps [.slice A.a A.len A.cap,.slice B.a B.len B.cap] rest] [ha:Rdb F0 w0 A ps 1 (ivs .i64 xs)] [hb:Rdb F0 w0 B ps 1 (ivs .i64 ys)] (hlen:xs.length+ys.length≤1000000)
 (hk:∀ t w',t.len=xs.length+ys.length→St F0 w0 w' (qdc 1 t (ivs .i64 (xs ++ ys)) :: ps)→K (.returned (.slice t.a t.len t.cap)) w'):Calls Try.prog 88 ⟨[.slice (some ⟨nb,0,none⟩) 2 2]⟩ w K:=by
 haveI:Rdb F0 w0 ⟨some ⟨nb,0,none⟩,2,2⟩ ps 1 (sls [(A,xs),(B,ys)]):=blk_rdb rfl
 have e:catL [(A,xs),(B,ys)]=xs ++ ys:=by simp [catL]
 refine qv.c (s:=⟨some ⟨nb,0,none⟩,2,2⟩) (L:=[(A,xs),(B,ys)]) h (fun y hy w h=>?_) (by simp) (by rw [e,List.length_append]; omega) fun t w ht h=>?_
 · simp only [List.mem_cons,List.not_mem_nil,or_false] at hy
   rcases hy with rfl | rfl
   · exact ha.rd h
   · exact hb.rd h
 · rw [e] at ht h
   exact hk t w (by rw [ht,List.length_append]) h
abbrev Ep:=Int × Sl × List Nat
def eC (x:Ep):List Value:=[.int .i64 x.1,.slice x.2.1.a x.2.1.len x.2.1.cap]
def pkE (x:Ep):Pk:=(x.1,x.2.1)
def erE (x:Ep):Pg:=(x.1,x.2.2)
instance rec_eC:Rec eC 2:=⟨fun _=>rfl,fun x v hv=>by
 simp [eC] at hv
 rcases hv with rfl | rfl <;> trivial,by decide⟩
instance elt_pack:EltR Try.prog 80 2 [.int .i64 0,.slice none 0 0]:=⟨⟨Try.t80,by kernel_rfl,rfl,by decide,by decide⟩,by kernel_rfl,rfl,by decide⟩
theorem pks_eC (L:List Ep):pks (L.map pkE)=L.flatMap eC:=by
 unfold pks
 rw [List.flatMap_map]
 rfl
abbrev nvs (l:List Nat):List Value:=ivs .i64 (l.map fun n:Nat=>(n:Int))
def tabA (T:List (Sl × List Nat)):As:=allA (T.map fun x=>rdA 1 x.1 (nvs x.2))
theorem St.tab:∀ {T:List (Sl × List Nat)} {s:Sl} {xs:List Nat} {F0:List Nat} {w0 w:World} {ps:List As},St F0 w0 w (tabA T :: ps)→(s,xs) ∈ T→Rd w 1 s (nvs xs):=by
 intro T
 induction T with
 | nil=>intro s xs F0 w0 w ps h hm; cases hm
 | cons x T ih =>
   intro s xs F0 w0 w ps h hm
   have h:St F0 w0 w (andA (rdA 1 x.1 (nvs x.2)) (tabA T) :: ps):=h
   have h:=h.split
   rcases List.mem_cons.1 hm with e | hm
   · subst e; exact h.rd
   · exact ih h.drop hm
theorem tab_rdb {T:List (Sl × List Nat)} {xs:List Nat} (hm:(s,xs) ∈ T):Rdb F0 w0 s (tabA T :: ps) 1 (nvs xs):=⟨fun h=>h.tab hm⟩
theorem St.tabI {T:List (Sl × List Nat)} {xs:List Nat} (h:St F0 w0 w (rdA 1 s (nvs xs) :: tabA T :: ps)):St F0 w0 w (tabA ((s,xs) :: T) :: ps):=h.join
def okE (T:List (Sl × List Nat)) (M:Int) (n:Nat) (L:List Ep):Prop:=∀ x ∈ L,(x.2.1,x.2.2) ∈ T∧0≤x.1∧x.1≤M∧x.2.2.length≤n
theorem okE.mono {T T':List (Sl × List Nat)} {M M':Int} {n n':Nat} {L:List Ep} (h:okE T M n L) (hT:∀ x ∈ T,x ∈ T') (hM:M≤M') (hn:n≤n'):okE T' M' n' L:=fun x hx=>by
 have:=h x hx
 exact ⟨hT _ this.1,this.2.1,by omega,by omega⟩
def pairsFin (out:Sl) (i x:Int) (r:Sl) (w:World) (nx:Sl→Int→World→Prop):Prop :=
 ((⟨[.int .i64 x,.slice r.a r.len r.cap]⟩:Array Value)).size=2 ∧
 lt (⟨World.heapSize w,0,none⟩:Addr) fun a18 =>
 lt (World.alloc w (.cells ⟨(spl [.int .i64 0,.slice none 0 0] 0 (⟨[.int .i64 x,.slice r.a r.len r.cap]⟩:Array Value))⟩ 80)) fun w19 =>
 rdO w19 (some a18) (1 * 2) fun c20 =>
 apK Try.prog 80 w19 out.a out.len out.cap 1 c20 fun s21 w22 =>
 lt (IntKind.i64.wrap (i+2)) fun x23 =>
 nx s21 x23 w22
theorem qmc.c {L:List Ep} {T:List (Sl × List Nat)} {M:Int} {n:Nat} {K:Ending→World→Prop} (h:St F0 w0 w (tabA T :: ps)) [Rdb F0 w0 s ps 2 (L.flatMap eC)] (hL:okE T M n L) (hM:M≤4611686018427387903) (hn:n≤400000) (hlen:L.length≤1000000)
 (hk:∀ t w' L' T',L'.map erE=qei (L.map erE)→(∀ x ∈ T,x ∈ T')→okE T' (2 * M) (2 * n) L'→St F0 w0 w' (qdc 2 t (L'.flatMap eC) :: tabA T' :: ps)→K (.returned (.slice t.a t.len t.cap)) w'):Calls Try.prog 39 ⟨[.slice s.a s.len s.cap]⟩ w K:=by
 have hl:=h.rlen (s:=s)
 refine qoc (qmc.ok _ _ _ ?_)
 unfold qmc qmc.j1 qmc.j3
 refine loop2 (fun (a:Nat × List Ep × List (Sl × List Nat)) (o:Sl) (i':Int) w'=>i'=((2 * a.1+1:Nat):Int)∧2 * a.1≤L.length∧a.2.1.map erE=qei ((L.map erE).take (2 * a.1))∧(∀ x ∈ T,x ∈ a.2.2)∧okE a.2.2 (2 * M) (2 * n) a.2.1∧St F0 w0 w' (qdc 2 o (a.2.1.flatMap eC) :: tabA a.2.2 :: ps)) (fun a=>L.length - 2 * a.1) (0,[],T)
  ⟨rfl,by simp,by simp [qei],fun _ h=>h,fun x hx=>(by cases hx),h.nil 2⟩ ?_
 clear h
 rintro ⟨k,L',T'⟩ o i' wL I μ ⟨rfl,hi,hL',hT,hok,h⟩ hin
 simp only at hi hL' hT hok h hin ⊢
 unfold qmc.b1
 have hLl:L'.length=k:=by
  have:=congrArg List.length hL'
  rw [qfh,List.length_map,List.length_take,List.length_map] at this
  omega
 refine qzc (fun g=>?_) (fun g=>?_)
 · have h1:2 * k < L.length:=by omega
   have h2:2 * k+1 < L.length:=by omega
   have m1:=hL L[2 * k] (List.getElem_mem h1)
   have m2:=hL L[2 * k+1] (List.getElem_mem h2)
   haveI:Rdb F0 w0 (L[2 * k]).2.1 (tabA T' :: ps) 1 (nvs (L[2 * k]).2.2):=tab_rdb (hT _ m1.1)
   haveI:Rdb F0 w0 (L[2 * k+1]).2.1 (tabA T' :: ps) 1 (nvs (L[2 * k+1]).2.2):=tab_rdb (hT _ m2.1)
   have fin:∀ (w:World) (r:Sl) (x:Int),x=(L[2 * k]).1+(L[2 * k+1]).1→St F0 w0 w (qdc 2 o (L'.flatMap eC) :: qdc 1 r (ivs .i64 ((L[2 * k]).2.2.map (fun n:Nat=>(n:Int)) ++ (L[2 * k+1]).2.2.map (fun n:Nat=>(n:Int)))) :: tabA T' :: ps) →
    pairsFin o ((2 * k+1:Nat):Int) x r w (fun o' i'' w'=>s=s∧I o' i'' w'∧μ o' i'' w' < μ o ((2 * k+1:Nat):Int) wL):=by
    rintro w r x rfl h
    refine ⟨rfl,?_⟩
    rw [← List.map_append] at h
    refine h.pushR (s:=o) (x:=(((L[2 * k]).1+(L[2 * k+1]).1,r,(L[2 * k]).2.2 ++ (L[2 * k+1]).2.2):Ep)) (by omega) rfl fun o2 w _ h=>?_
    refine qy (qk (by omega) (by omega)) ⟨rfl,?_⟩
    refine hin (k+1,L' ++ [((L[2 * k]).1+(L[2 * k+1]).1,r,(L[2 * k]).2.2 ++ (L[2 * k+1]).2.2)],(r,(L[2 * k]).2.2 ++ (L[2 * k+1]).2.2) :: T') _ _ _ ⟨by simp only; omega,by simp only; omega,?_,fun x hx=>List.mem_cons_of_mem _ (hT x hx),?_,?_⟩ (by simp only; omega)
    · simp only
      rw [List.map_append,hL',show 2 * (k+1)=2 * k+1+1 by omega,List.take_succ_eq_append_getElem (by rw [List.length_map]; omega),List.take_succ_eq_append_getElem (by rw [List.length_map]; omega),List.append_assoc]
      have:∀ (X Y:List Pg),X.length % 2=0→qei (X ++ Y)=qei X ++ qei Y:=by
       intro X Y
       exact qwh (Q:=fun X=>X.length % 2=0→qei (X ++ Y)=qei X ++ qei Y) (fun _=>rfl) (fun a h=>by simp at h) (fun a b r ih h=>by
        simp only [List.length_cons] at h
        rw [List.cons_append,List.cons_append,qei,qei,ih (by omega),List.cons_append]) X
      rw [this _ _ (by rw [List.length_take,List.length_map,Nat.min_eq_left (by omega)]; omega)]
      simp [qei,erE]
    · intro x hx
      rcases List.mem_append.1 hx with hx | hx
      · exact hok.mono (fun x hx=>List.mem_cons_of_mem _ hx) (Int.le_refl _) (Nat.le_refl _) x hx
      · rw [List.mem_singleton] at hx
        subst hx
        refine ⟨by simp,?_,?_,?_⟩
        · show 0≤(L[2 * k]).1+(L[2 * k+1]).1; omega
        · show (L[2 * k]).1+(L[2 * k+1]).1≤2 * M; omega
        · show ((L[2 * k]).2.2 ++ (L[2 * k+1]).2.2).length≤2 * n; rw [List.length_append]; omega
    · exact h.tail fun _ _ _ h=>h.ro.tabI
   refine h.drewK fun w h=>?_
   refine qy (qk (by omega) (by omega)) ?_
   refine h.rix (s:=s) (2 * k) (by omega) h1 fun a1 e1=>?_
   refine h.rix (s:=s) (2 * k+1) (by omega) h2 fun a2 e2=>?_
   refine qy (qk (by omega) (by omega)) ?_
   refine h.rix (s:=s) (2 * k) (by omega) h1 fun a3 e3=>?_
   refine (h.rdb s).rL (v:=(L[2 * k]).2.1) e3 h1 (by decide) rfl ?_
   refine h.rix (s:=s) (2 * k+1) (by omega) h2 fun a4 e4=>?_
   refine (h.rdb s).rL (v:=(L[2 * k+1]).2.1) e4 h2 (by decide) rfl ?_
   repeat' first
    | exact fin _ _ _ rfl h.sub
    | refine (h.rdb s).rI e1 h1 (by decide) rfl ?_
    | refine (h.rdb s).rI e2 h2 (by decide) rfl ?_
    | refine qy (qk (by omega) (by omega)) ?_
    | (refine h.new fun nb w h=>?_
       have h:St F0 w0 w (qxc nb [.slice (L[2 * k]).2.1.a (L[2 * k]).2.1.len (L[2 * k]).2.1.cap,.slice (L[2 * k+1]).2.1.a (L[2 * k+1]).2.1.len (L[2 * k+1]).2.1.cap] :: qdc 2 o (L'.flatMap eC) :: tabA T' :: ps):=h)
    | refine qv.c2 (A:=(L[2 * k]).2.1) (B:=(L[2 * k+1]).2.1) h (by simp only [List.length_map]; omega) fun r w _ h=>⟨r,rfl,?_⟩
    | refine And.intro ?_ ?_
 · unfold qmc.j2
   have e:qei ((L.map erE).take (2 * k))=qei (L.map erE):=by
    rcases Nat.lt_or_ge (2 * k) L.length with h1 | h1
    · have h2:L.length=2 * k+1:=by omega
      rw [← qtn,List.take_of_length_le (by rw [qfh,List.length_map]; omega)]
    · rw [List.take_of_length_le (by rw [List.length_map]; omega)]
   exact hk o wL L' T' (by rw [hL',e]) hT hok h
end
end Go.Proofs.Ythdmmmfgjmmelaa
namespace Go.Proofs.Ythdmmmfgjmmelaa
open Go Go.Proofs
set_option linter.unusedVariables false
set_option linter.unusedSimpArgs false
attribute [local irreducible] apK cpK mkK br
section
variable {F0:List Nat} {w0 w:World} {ps rest:List As} {s:Sl} {xs:List Int}
theorem qnl.c {L:List Ep} {K:Ending→World→Prop} (h:St F0 w0 w ps) [Rdb F0 w0 s ps 2 (L.flatMap eC)] (hlen:L.length≤1000000)
 (hk:∀ t w',t.len=L.length→St F0 w0 w' (qdc 2 t (L.flatMap eC) :: ps)→K (.returned (.slice t.a t.len t.cap)) w'):Calls Try.prog 38 ⟨[.slice s.a s.len s.cap]⟩ w K:=by
 refine qoc (qee.ok _ _ _ ?_)
 unfold qee
 refine qpf (fun g=>?_) (fun g=>?_)
 · have:L=[]:=h.isnil (s:=s) (by simpa using g)
   subst this
   exact hk ⟨none,0,0⟩ w rfl (h.nil 2)
 · refine h.cloneR (s2:=s) (by omega) fun t w ht h=>hk t w ht h
def we (x:Ep):Int:=x.1
theorem ssortE (M:List Ep):pks (qpc wt (M.map pkE))=(qpc we M).flatMap eC:=by
 rw [← pks_eC,ssort_map (k:=we) (k':=wt) (f:=pkE) (fun _=>rfl)]
theorem qmn {l:List Nat} {k:Nat} (h:k < l.length):(l.map fun n:Nat=>(n:Int)).getD k 0=l[k]:=by
 simp [List.getD,h]
theorem qm.count {t6 t7 t85:Sl} {R:List Ep} {T:List (Sl × List Nat)} {N:Nat} {K:Ending→World→Prop} (h:St F0 w0 w (qdc 1 t7 (ivs .i64 (List.replicate N 0)) :: tabA T :: ps)) [Rdb F0 w0 t85 ps 2 (R.flatMap eC)]
 (hT:∀ x ∈ R,(x.2.1,x.2.2) ∈ T) (hN:∀ x ∈ R,∀ s ∈ x.2.2,s < N) (hNl:N≤1000) (hn:∀ x ∈ R,x.2.2.length≤100000) (hR:R.length≤1000)
 (hk:∀ w',St F0 w0 w' (qdc 1 t7 (ivs .i64 (qek N fun i=>((qle (R.map erE)).count i:Int))) :: ps)→K (.returned (.tuple ⟨[.slice t7.a t7.len t7.cap,.int .i64 0]⟩)) w') :
 qm.j7 t7 t85 ((R.length:Nat):Int) 0 (fun v w'=>K (.returned v) w') w:=by
 have hcnt:∀ (l:List Ep),(∀ x ∈ l,x.2.2.length≤100000)→∀ i,(qle (l.map erE)).count i≤l.length * 100000:=by
  intro l
  induction l with
  | nil=>intro _ i; simp [qle]
  | cons a l ih =>
    intro h i
    have:=ih (fun x hx=>h x (by simp [hx])) i
    have h1:=h a (by simp)
    have h2:=List.count_le_length (a:=i) (l:=a.2.2)
    rw [List.map_cons,qvg,List.count_append,List.length_cons]
    show (a.2.2).count i+_≤_
    omega
 unfold qm.j7
 refine qsf (fun (j:Nat) (j':Int) w'=>j'=j∧j≤R.length∧St F0 w0 w' (qdc 1 t7 (ivs .i64 (qek N fun i=>((qle ((R.take j).map erE)).count i:Int))) :: tabA T :: ps)) (fun j=>R.length - j) 0 ⟨rfl,by omega,by
  rw [qbk] at h
  simpa [qle] using h⟩ ?_
 clear h
 rintro j j' wL I μ ⟨rfl,hj,h⟩ hin
 unfold qm.b1
 refine qzc (fun g=>?_) (fun g=>?_)
 · have hjR:j < R.length:=by omega
   have hmem:=List.getElem_mem hjR
   have hsl:=hn _ hmem
   have hcj:∀ i,(qle ((R.take j).map erE)).count i≤100000000:=fun i=>by
    have h1:=hcnt (R.take j) (fun x hx=>hn x (List.mem_of_mem_take hx)) i
    have h2:(R.take j).length≤1000:=by rw [List.length_take]; omega
    have h3:=Nat.mul_le_mul_right 100000 h2
    omega
   unfold qm.j8
   refine h.lr (s:=t85) j rfl hjR ?_
   refine h.new fun nb w h=>?_
   refine ⟨rfl,?_⟩
   refine h.setR (x:=R[j]) (by rw [elt_pack.zc]; rfl) fun w h=>?_
   have h:St F0 w0 w (qxc nb [.int .i64 (R[j]).1,.slice (R[j]).2.1.a (R[j]).2.1.len (R[j]).2.1.cap] :: qdc 1 t7 (ivs .i64 (qek N fun i=>((qle ((R.take j).map erE)).count i:Int))) :: tabA T :: ps):=h
   rw [qme]
   refine h.fL (b:=nb) (o:=0+1) ?_
   dsimp only
   have h:St F0 w0 w (qdc 1 t7 (ivs .i64 (qek N fun i=>((qle ((R.take j).map erE)).count i:Int))) :: tabA T :: ps):=h.drop
   haveI:Rdb F0 w0 (R[j]).2.1 (tabA T :: ps) 1 (nvs (R[j]).2.2):=tab_rdb (hT _ hmem)
   have hl5:=(h.rdb (R[j]).2.1).1
   rw [qx,List.length_map] at hl5
   unfold qm.j10
   refine qsf (fun (k:Nat) (k':Int) w'=>k'=k∧k≤(R[j]).2.2.length∧St F0 w0 w' (qdc 1 t7 (ivs .i64 (qek N fun i=>((qle ((R.take j).map erE) ++ (R[j]).2.2.take k).count i:Int))) :: tabA T :: ps)) (fun k=>(R[j]).2.2.length - k) 0 ⟨rfl,by omega,by simpa using h⟩ ?_
   clear h
   rintro k k' wL2 I2 μ2 ⟨rfl,hk2,h⟩ hin2
   unfold qm.b2
   refine qzc (fun g2=>?_) (fun g2=>?_)
   · have hks:k < (R[j]).2.2.length:=by
      omega
     have hsN:=hN _ hmem _ (List.getElem_mem hks)
     have hck:(qle ((R.take j).map erE) ++ (R[j]).2.2.take k).count ((R[j]).2.2[k])≤200000000:=by
      have h1:=hcj ((R[j]).2.2[k])
      have h2:=List.count_le_length (a:=(R[j]).2.2[k]) (l:=(R[j]).2.2.take k)
      rw [List.count_append]
      rw [List.length_take] at h2
      omega
     refine h.lx (s:=(R[j]).2.1) k rfl (by rw [List.length_map]; exact hks) ?_
     rw [qmn hks]
     refine h.lx (s:=t7) ((R[j]).2.2[k]) rfl (by rw [quc]; exact hsN) ?_
     rw [qse hsN]
     refine qy (qk (by omega) (by omega)) ?_
     refine h.sx (s:=t7) ((R[j]).2.2[k]) rfl (by rw [quc]; exact hsN) fun w h=>?_
     refine qy (qk (by omega) (by omega)) ?_
     refine ⟨⟨rfl,rfl,rfl,rfl,rfl,rfl⟩,hin2 (k+1) _ _ ⟨by omega,by omega,?_⟩ (by omega)⟩
     rw [qpi] at h
     have e:(qek N fun m=>if m=(R[j]).2.2[k] then ((qle ((R.take j).map erE) ++ (R[j]).2.2.take k).count ((R[j]).2.2[k]):Int)+1 else ((qle ((R.take j).map erE) ++ (R[j]).2.2.take k).count m:Int))=qek N fun i=>((qle ((R.take j).map erE) ++ (R[j]).2.2.take (k+1)).count i:Int):=by
      refine qkd fun i _=>?_
      rw [List.take_succ_eq_append_getElem hks,← List.append_assoc,List.count_append (l₁:=qle ((R.take j).map erE) ++ (R[j]).2.2.take k),List.count_singleton]
      by_cases e:i=(R[j]).2.2[k]
      · rw [if_pos e,e]; simp
      · rw [if_neg e]
        have:((R[j]).2.2[k] == i)=false:=by simpa using fun h=>e h.symm
        rw [this]; simp
     rw [e] at h
     exact h
   · have:k=(R[j]).2.2.length:=by
      omega
     subst this
     unfold qm.j9
     refine qy (qk (by omega) (by omega)) ?_
     refine ⟨⟨rfl,rfl,rfl⟩,hin (j+1) _ _ ⟨by omega,by omega,?_⟩ (by omega)⟩
     rw [List.take_length] at h
     have e:qle ((R.take (j+1)).map erE)=qle ((R.take j).map erE) ++ (R[j]).2.2:=by
      rw [List.take_succ_eq_append_getElem hjR,List.map_append,qco]
      congr 1
      simp [qle,erE]
     rw [e]
     exact h
 · have:j=R.length:=by omega
   subst this
   rw [List.take_length] at h
   unfold qm.j6
   exact hk wL (h.tail fun _ _ _ h=>h.drop)
theorem okE_sort {T:List (Sl × List Nat)} {M:Int} {n:Nat} {L:List Ep} (h:okE T M n L):okE T M n (qpc we L):=fun x hx=>h x ((qig _).mem_iff.1 hx)
theorem qm.rows {t6 t7 t8:Sl} {C:List Ep} {T0:List (Sl × List Nat)} {cs:List Pg} {m:Nat} {K:Ending→World→Prop}
 (h:St F0 w0 w (qdc 2 t8 (C.flatMap eC) :: tabA T0 :: ps)) (hC:C.map erE=cs) (hok0:okE T0 16777216 1 C) (hm:m≤15) (hc1:1≤cs.length) (hc:cs.length≤300)
 (hk:∀ (t9:Sl) (R:List Ep) (T:List (Sl × List Nat)) (w':World),R.map erE=qxg cs m→(∀ x ∈ R,(x.2.1,x.2.2) ∈ T∧x.2.2.length≤100000)→St F0 w0 w' (qdc 2 t9 (R.flatMap eC) :: tabA T :: ps)→qm.j5 t6 t7 t9 (fun v w'=>K (.returned v) w') w') :
 qm.j4 (m:Int) t6 t7 t8 ⟨none,0,0⟩ (fun v w'=>K (.returned v) w') w:=by
 have hCl:C.length=cs.length:=by rw [← hC,List.length_map]
 unfold qm.j4 qm.j11
 refine loop2 (fun (a:Nat × List Ep × List (Sl × List Nat)) (o:Sl) (i':Int) w'=>i'=a.1∧a.1≤m∧a.2.1.map erE=qxg cs a.1∧okE a.2.2 (16777216 * 2 ^ a.1) (2 ^ a.1) a.2.1∧okE a.2.2 16777216 1 C∧St F0 w0 w' (qdc 2 o (a.2.1.flatMap eC) :: tabA a.2.2 :: qdc 2 t8 (C.flatMap eC) :: ps)) (fun a=>m - a.1) (0,[],T0)
  ⟨rfl,by omega,rfl,fun x hx=>(by cases hx),hok0,(h.at1).nil 2⟩ ?_
 clear h
 rintro ⟨r,R,T⟩ o i' wL I μ ⟨rfl,hr,hR,hok,hokC,h⟩ hin
 simp only at hr hR hok hokC h hin ⊢
 have hRl:R.length < 2 * cs.length:=by
  have:=congrArg List.length hR
  rw [List.length_map] at this
  rw [this]
  exact rowP_lt hc1 r
 have h15:2 ^ r≤2 ^ 15:=Nat.pow_le_pow_right (by decide) (by omega)
 rw [show (2:Nat) ^ 15=32768 from rfl] at h15
 unfold qm.b3
 refine qzc (fun g=>?_) (fun g=>?_)
 · refine qnl.c (s:=t8) h (by omega) fun t w ht h=>⟨t,rfl,?_⟩
   have h:St F0 w0 w (tabA T :: qdc 2 t (C.flatMap eC) :: qdc 2 o (R.flatMap eC) :: qdc 2 t8 (C.flatMap eC) :: ps):=h.sub
   have e2:((2:Int) ^ r)=((2 ^ r:Nat):Int):=by simp
   rw [e2] at hok
   have h1p:1≤2 ^ r:=Nat.one_le_two_pow
   have ep:2 ^ (r+1)=2 * 2 ^ r:=by rw [Nat.pow_succ,Nat.mul_comm]
   have e3:((2:Int) ^ (r+1))=((2 ^ (r+1):Nat):Int):=by simp
   refine qmc.c (s:=o) (L:=R) h hok (by omega) (by omega) (by omega) fun t2 w L2 T2 hL2 hT2 hok2 h=>⟨t2,rfl,?_⟩
   have hL2l:L2.length≤600:=by
    have:=congrArg List.length hL2
    rw [List.length_map,qfh,List.length_map] at this
    omega
   refine h.appR (s:=t) (s2:=t2) (by omega) fun t3 w ht3 h=>?_
   rw [← pks_eC] at h
   refine SortStable.c (s:=t3) h (by rw [List.length_map,List.length_append]; omega) fun w h=>⟨rfl,?_⟩
   rw [ssortE] at h
   refine qy (qk (by omega) (by omega)) ?_
   refine ⟨⟨rfl,rfl,rfl,rfl⟩,hin (r+1,qpc we (C ++ L2),T2) _ _ _ ⟨by simp only; omega,by simp only; omega,?_,?_,?_,?_⟩ (by simp only; omega)⟩
   · simp only
     rw [ssort_map (k:=we) (k':=gw) (f:=erE) (fun _=>rfl),List.map_append,hC,hL2,hR,qxg]
   · simp only
     rw [e3]
     refine okE_sort fun x hx=>?_
     rcases List.mem_append.1 hx with hx | hx
     · exact hokC.mono hT2 (by omega) (by omega) x hx
     · exact hok2.mono (fun _ h=>h) (by omega) (by omega) x hx
   · exact hokC.mono hT2 (Int.le_refl _) (Nat.le_refl _)
   · exact h.sub
 · have:r=m:=by omega
   subst this
   have h:St F0 w0 wL (qdc 2 o (R.flatMap eC) :: tabA T :: ps):=h.sub
   exact hk o R T wL hR (fun x hx=>⟨(hok x hx).1,by have:=(hok x hx).2.2.2; omega⟩) h
theorem qm.coins {t6 t7:Sl} {m:Int} {K:Ending→World→Prop} (h:St F0 w0 w ps) [Rdb F0 w0 s ps 1 (ivs .i64 xs)] [Rdb F0 w0 t6 ps 1 (nvs (qid xs))] (hg:goodX xs)
 (hk:∀ (t8:Sl) (C:List Ep) (T:List (Sl × List Nat)) (w':World),C.map erE=coinsP xs→okE T 16777216 1 C→St F0 w0 w' (qdc 2 t8 (C.flatMap eC) :: tabA T :: ps)→qm.j4 m t6 t7 t8 ⟨none,0,0⟩ (fun v w'=>K (.returned v) w') w') :
 qm.j3 s m t6 t7 ⟨none,0,0⟩ ⟨none,0,0⟩ (fun v w'=>K (.returned v) w') w:=by
 have hl6:=(h.rdb t6).1
 rw [qx,List.length_map] at hl6
 have hcl:=qyl xs
 have hlg:=hg.1
 unfold qm.j3 qm.j12
 have h:St F0 w0 w (tabA [] :: ps):=h.add (f':=[]) (p':=noA) (Mod.refl _ _) rfl (Gr.refl _ _)
 refine loop2 (fun (a:Nat × List Ep × List (Sl × List Nat)) (o:Sl) (i':Int) w'=>i'=a.1∧a.1≤(qid xs).length∧a.2.1.map erE=(coinsP xs).take a.1∧okE a.2.2 16777216 1 a.2.1∧St F0 w0 w' (qdc 2 o (a.2.1.flatMap eC) :: tabA a.2.2 :: ps)) (fun a=>(qid xs).length - a.1) (0,[],[])
  ⟨rfl,by omega,rfl,fun x hx=>(by cases hx),h.nil 2⟩ ?_
 clear h
 rintro ⟨i,L,T⟩ o i' wL I μ ⟨rfl,hi,hL,hok,h⟩ hin
 simp only at hi hL hok h hin ⊢
 have hLl:L.length=i:=by
  have:=congrArg List.length hL
  rw [List.length_map,List.length_take,qbd] at this
  omega
 unfold qm.b4
 refine qzc (fun g=>?_) (fun g=>?_)
 · have hic:i < (qid xs).length:=by omega
   have hcm:=qag.1 (List.getElem_mem hic)
   have hv:=hg.2 _ (qrf hcm.1)
   unfold badN at hv
   refine h.lx (s:=t6) i rfl (by rw [List.length_map]; exact hic) ?_
   rw [qmn hic]
   refine h.lx (s:=s) ((qid xs)[i]) rfl hcm.1 ?_
   refine h.new fun nb w h=>⟨rfl,?_⟩
   have h:St F0 w0 w (qxc nb (nvs [(qid xs)[i]]) :: qdc 2 o (L.flatMap eC) :: tabA T :: ps):=h
   refine h.pushR (s:=o) (x:=((xs.getD ((qid xs)[i]) 0,⟨some ⟨nb,0,none⟩,1,1⟩,[(qid xs)[i]]):Ep)) (by omega) rfl fun o2 w _ h=>?_
   refine qy (qk (by omega) (by omega)) ?_
   refine ⟨⟨rfl,rfl,rfl,rfl,rfl,rfl,rfl⟩,hin (i+1,L ++ [(xs.getD ((qid xs)[i]) 0,⟨some ⟨nb,0,none⟩,1,1⟩,[(qid xs)[i]])],(⟨some ⟨nb,0,none⟩,1,1⟩,[(qid xs)[i]]) :: T) _ _ _ ⟨by simp only; omega,by simp only; omega,?_,?_,?_⟩ (by simp only; omega)⟩
   · simp only
     rw [List.map_append,hL,List.take_succ_eq_append_getElem (by rw [qbd]; exact hic)]
     congr 1
     simp [coinsP,erE]
   · intro x hx
     rcases List.mem_append.1 hx with hx | hx
     · exact hok.mono (fun x hx=>List.mem_cons_of_mem _ hx) (Int.le_refl _) (Nat.le_refl _) x hx
     · rw [List.mem_singleton] at hx
       subst hx
       refine ⟨by simp,?_,?_,?_⟩
       · show 0≤xs.getD _ 0; omega
       · show xs.getD _ 0≤_; omega
       · show 1≤1; omega
   · exact h.tail fun _ _ _ h=>(h.ownB (n:=1) rfl).ro.tabI
 · have:i=(qid xs).length:=by omega
   subst this
   rw [List.take_of_length_le (by rw [qbd]; omega)] at hL
   exact hk o L T wL hL hok h
theorem qm.c {m:Int} {K:Ending→World→Prop} (h:St F0 w0 w ps) [Rdb F0 w0 s ps 1 (ivs .i64 xs)]
 (hk0:∀ t w',leastE xs m=0→t.len=xs.length→St F0 w0 w' (qdc 1 t (ivs .i64 (lenP xs m.toNat)) :: ps)→K (.returned (.tuple ⟨[.slice t.a t.len t.cap,.int .i64 0]⟩)) w')
 (hk1:∀ w',leastE xs m ≠ 0→St F0 w0 w' ps→K (.returned (.tuple ⟨[.slice none 0 0,.int .i64 (leastE xs m)]⟩)) w'):Calls Try.prog 11 ⟨[.slice s.a s.len s.cap,.int .i64 m]⟩ w K:=by
 have hl:=(h.rdb s).1
 rw [qx] at hl
 refine qoc (qm.ok _ _ _ _ ?_)
 unfold qm
 have no1:∀ w,(¬ goodX xs ∨ m < 1 ∨ 15 < m)→St F0 w0 w ps→K (.returned (.tuple ⟨[.slice none 0 0,.int .i64 1]⟩)) w:=by
  intro w e h
  have e1:leastE xs m=1:=by unfold leastE; rw [if_pos e]
  have:=hk1 w (by omega) h
  rw [e1] at this
  exact this
 refine qii.c (s:=s) h fun b w hg hb h=>⟨b,rfl,?_⟩
 refine qpf (fun g=>?_) (fun g=>?_)
 · refine no1 w (Or.inl fun hgd=>?_) h
   rcases hb g with e | ⟨x,hx,e⟩
   · have:=hgd.1; omega
   · exact hgd.2 x hx e
 have hgood:goodX xs:=hg g
 have hlg:=hgood.1
 have hcl:=qyl xs
 refine qzc (fun g1=>no1 w (by omega) h) (fun g1=>?_)
 refine qzc (fun g2=>no1 w (by omega) h) (fun g2=>?_)
 obtain ⟨M,rfl⟩:∃ M:Nat,m=M:=⟨m.toNat,by omega⟩
 have eL:leastE xs M=if 2 ^ M < (qid xs).length then 7 else 0:=by
  unfold leastE
  rw [if_neg (fun e=>by
   rcases e with e | e | e
   · exact e hgood
   · omega
   · omega),Int.toNat_natCast]
 unfold qm.j1
 refine qvc.c (s:=s) h (by omega) fun t6 w ht6 h=>⟨t6,rfl,?_⟩
 refine h.makeI (n:=xs.length) (by omega) (by omega) (by omega) fun t7 w ht7 hc7 h=>?_
 unfold qm.j2
 have h15:2 ^ M≤2 ^ 15:=Nat.pow_le_pow_right (by decide) (by omega)
 have hM:qej .i64 1 (M:Int)=((2 ^ M:Nat):Int):=by
  rw [shlV_lit .i64 (t:=M) rfl (by show M≤64; omega) (by decide) (by
   have e:((1:Int) * 2 ^ M)=((2 ^ M:Nat):Int):=by simp
   rw [e]
   show ((2 ^ M:Nat):Int) < 9223372036854775808
   have:(2:Nat) ^ 15=32768:=rfl
   omega)]
  simp
 refine ⟨by omega,qy hM ?_⟩
 refine qzc (fun g3=>?_) (fun g3=>?_)
 · have e7:leastE xs M=7:=by rw [eL,if_pos (by omega)]
   have:=hk1 w (by omega) h.drop.drop
   rw [e7] at this
   exact this
 have e0:leastE xs M=0:=by rw [eL,if_neg (by omega)]
 have hk0:=fun t w'=>hk0 t w' e0
 simp only [Int.toNat_natCast] at hk0
 have few:(qid xs).length < 2→lenP xs M=qek xs.length fun i=>if 0 < xs.getD i 0 then 1 else 0:=by
  intro hf
  refine qkd fun i hi=>?_
  unfold lenF
  rw [if_pos hf]
  split <;> rfl
 refine qpf (fun g4=>?_) (fun g4=>?_)
 · have g4:(t6.len:Int)=0:=by simpa using g4
   refine hk0 t7 w ht7 ?_
   have e:lenP xs M=List.replicate xs.length 0:=by
    rw [few (by omega),qbk]
    refine qkd fun i hi=>?_
    rw [if_neg (fun h0=>?_)]
    have:=List.length_pos_of_mem (qag.2 ⟨hi,h0⟩)
    omega
   rw [e]
   exact h.tail fun _ _ _ h=>h.drop
 have g4:(t6.len:Int) ≠ 0:=by simpa using g4
 refine qpf (fun g5=>?_) (fun g5=>?_)
 · have g5:(t6.len:Int)=1:=by simpa using g5
   have hc0:0 < (qid xs).length:=by omega
   have hcm:=qag.1 (List.getElem_mem hc0)
   refine h.lx (s:=t6) 0 rfl (by rw [List.length_map]; exact hc0) ?_
   rw [qmn hc0]
   refine h.sx (s:=t7) ((qid xs)[0]) rfl (by rw [List.length_replicate]; exact hcm.1) fun w h=>?_
   refine hk0 t7 w ht7 ?_
   have e:(List.replicate xs.length (0:Int)).set ((qid xs)[0]) 1=lenP xs M:=by
    rw [few (by omega),qbk,qpi]
    refine qkd fun i hi=>?_
    by_cases h0:0 < xs.getD i 0
    · have hm:=qag.2 ⟨hi,h0⟩
      obtain ⟨k,hk,rfl⟩:=List.mem_iff_getElem.1 hm
      have:k=0:=by omega
      subst this
      rw [if_pos rfl,if_pos h0]
    · rw [if_neg h0,if_neg (fun e:i=(qid xs)[0]=>h0 (by rw [e]; exact hcm.2))]
   rw [e] at h
   exact h.tail fun _ _ _ h=>h.drop
 have g5:(t6.len:Int) ≠ 1:=by simpa using g5
 refine qm.coins (s:=s) (xs:=xs) h hgood fun t8 C T w hC hok h=>?_
 refine qm.rows (cs:=coinsP xs) h hC hok (by omega) (by rw [qbd]; omega) (by rw [qbd]; omega) fun t9 R T w hR hRT h=>?_
 have hen:=qrn (cs:=coinsP xs) (by rw [qbd]; omega) (L:=M) (by rw [qbd]; omega)
 have hRl:R.length=(qxg (coinsP xs) M).length:=by rw [← hR,List.length_map]
 have hRlt:=rowP_lt (cs:=coinsP xs) (by rw [qbd]; omega) M
 rw [qbd] at hen hRlt
 have h9:=h.rlen (s:=t9)
 have hcap:=h.cap (by decide)
 unfold qm.j5
 refine qy (qk (by omega) (by omega)) ?_
 refine qy (qk (by omega) (by omega)) ?_
 refine bd_i (n:=2 * (qid xs).length - 2) (by omega) (by omega) (qcj ?_)
 have h:St F0 w0 w (qdc 1 t7 (ivs .i64 (List.replicate xs.length 0)) :: tabA T :: qdc 2 t9 (R.flatMap eC) :: ps):=h.sub
 haveI:=h.drop.drop.cutRR t9 0 (2 * (qid xs).length - 2) (t9.cap - 0) (by omega) (by omega) hcap
 rw [List.drop_zero,Nat.sub_zero] at this
 have hRt:(R.take (2 * (qid xs).length - 2)).map erE=(qxg (coinsP xs) M).take (2 * (qid xs).length - 2):=by rw [List.map_take,hR]
 have hlen:(R.take (2 * (qid xs).length - 2)).length=2 * (qid xs).length - 2:=by rw [List.length_take]; omega
 have hfin:=qm.count (t6:=t6) (t7:=t7) (t85:=⟨qzf t9.a t9.cap 0 2,2 * (qid xs).length - 2,t9.cap - 0⟩) (R:=R.take (2 * (qid xs).length - 2)) (T:=T) (N:=xs.length) (K:=K) h (fun x hx=>(hRT x (List.mem_of_mem_take hx)).1) (fun x hx s hs=>?_) (by omega) (fun x hx=>(hRT x (List.mem_of_mem_take hx)).2) (by omega) fun w h=>?_
 · rw [hlen] at hfin
   exact hfin
 · have hx':erE x ∈ qxg (coinsP xs) M:=by rw [← hR]; exact List.mem_map_of_mem (List.mem_of_mem_take hx)
   refine flat_lt (cs:=coinsP xs) (n:=xs.length) ?_ M (erE x) hx' s hs
   intro y hy s hs
   obtain ⟨i,hi,rfl⟩:=List.mem_map.1 hy
   have:s=i:=by simpa using hs
   subst this
   exact (qag.1 hi).1
 · refine hk0 t7 w ht7 ?_
   rw [hRt] at h
   have e:lenP xs M=qek xs.length fun i=>((qle ((qxg (coinsP xs) M).take (2 * (qid xs).length - 2))).count i:Int):=by
    refine qkd fun i hi=>?_
    unfold lenF
    rw [if_neg (by omega)]
   rw [e]
   exact h.tail fun _ _ _ h=>h.drop
end
end Go.Proofs.Ythdmmmfgjmmelaa
namespace Go.Proofs.Ythdmmmfgjmmelaa
open Go Go.Proofs
set_option linter.unusedVariables false
set_option linter.unusedSimpArgs false
attribute [local irreducible] apK cpK mkK br
section
variable {α β:Type} {k:α→Int}
def hless (k:α→Int) (H:List α) (i j:Nat):Bool:=match H[i]?,H[j]? with
 | some x,some y=>decide (k x < k y)
 | _,_=>false
def hswap (H:List α) (i j:Nat):List α:=match H[i]?,H[j]? with
 | some x,some y=>(H.set i y).set j x
 | _,_=>H
def hup (k:α→Int):Nat→List α→Nat→List α
 | 0,H,_=>H
 | f+1,H,j=>if (j - 1) / 2=j then H else if hless k H j ((j - 1) / 2) then hup k f (hswap H ((j - 1) / 2) j) ((j - 1) / 2) else H
def hkid (k:α→Int) (H:List α) (i n:Nat):Nat:=if 2 * i+2 < n∧hless k H (2 * i+2) (2 * i+1)=true then 2 * i+2 else 2 * i+1
def hdown (k:α→Int):Nat→List α→Nat→Nat→List α
 | 0,H,_,_=>H
 | f+1,H,i,n=>if n≤2 * i+1 then H else if hless k H (hkid k H i n) i then hdown k f (hswap H i (hkid k H i n)) (hkid k H i n) n else H
def hpush (k:α→Int) (H:List α) (x:α):List α:=hup k (H.length+1) (H ++ [x]) H.length
def hmid (k:α→Int) (H:List α):List α:=hdown k (H.length - 1) (hswap H 0 (H.length - 1)) 0 (H.length - 1)
def hrest (k:α→Int) (H:List α):List α:=(hmid k H).take (H.length - 1)
variable {k':β→Int} {g:α→β}
end
inductive Tr where
 | leaf (s:Nat)
 | nd (a b:Tr)
def Tr.size:Tr→Nat
 | leaf _=>1
 | nd a b=>a.size+b.size+1
abbrev HE:=Nat × Int × Tr
abbrev Nd:=Nat × Int × Int × Option Nat × Option Nat
abbrev WT:=Int × Tr
def kW (x:WT):Int:=x.1
section
variable {F0:List Nat} {w0 w:World} {ps rest:List As} {s:Sl} {hb:Nat} {H:List HE} {N:List Nd} {M:Int}
instance elt_nodep:Elt Try.prog 134 (.pointer none):=⟨⟨Try.t134,by kernel_rfl,rfl,by decide,by decide⟩,by kernel_rfl⟩
end
end Go.Proofs.Ythdmmmfgjmmelaa
namespace Go.Proofs.Ythdmmmfgjmmelaa
open Go Go.Proofs
set_option linter.unusedVariables false
set_option linter.unusedSimpArgs false
attribute [local irreducible] apK cpK mkK br
def Tr.ok (n:Nat):Tr→Prop
 | .leaf s=>s < n
 | .nd l r=>l.ok n∧r.ok n
def dT:WT:=(0,.leaf 0)
def hlast (H:List WT):WT:=(hmid kW H).getD (H.length - 1) dT
def hstep (H:List WT):List WT:=hpush kW (hrest kW (hrest kW H)) ((hlast H).1+(hlast (hrest kW H)).1,.nd (hlast H).2 (hlast (hrest kW H)).2)
section
variable {F0:List Nat} {w0 w:World} {ps rest:List As} {s:Sl} {hb:Nat} {H:List HE} {N:List Nd} {M:Int} {xs:List Int}
end
end Go.Proofs.Ythdmmmfgjmmelaa
namespace Go.Proofs.Ythdmmmfgjmmelaa
open Go Go.Proofs
set_option linter.unusedVariables false
set_option linter.unusedSimpArgs false
attribute [local irreducible] apK cpK mkK br
section
variable {xs:List Int} {M:Nat}
theorem lenP_ok (h:(qid xs).length≤2 ^ M) (h1:1≤M) (hM:M≤15):okL (lenP xs M):=by
 intro x hx
 obtain ⟨i,hi,rfl⟩:=List.mem_iff_getElem.1 hx
 have e:(lenP xs M)[i]=(lenP xs M).getD i 0:=by rw [List.getD,List.getElem?_eq_getElem hi]; rfl
 rw [qsg] at hi
 rw [e,qvn hi]
 have:=lenF_ok h h1 hi
 omega
theorem kr_sum (h:(qid xs).length≤2 ^ M) (h1:1≤M):kr (lenP xs M)=((qid xs).map fun i=>2 ^ (15 - lenF xs M i)).sum:=by
 unfold kr lenP qek
 rw [List.map_map]
 have:=come_sum xs (fun i=>decide (0 < xs.getD i 0)) (fun i=>2 ^ (15 - lenF xs M i)) xs.length
 unfold qid
 rw [← this]
 congr 1
 refine List.map_congr_left fun i hi=>?_
 have h2:=lenF_ok h h1 (List.mem_range.1 hi)
 show (if 0 < ((lenF xs M i:Nat):Int) then 2 ^ (15 - ((lenF xs M i:Nat):Int).toNat) else 0)=_
 rw [Int.toNat_natCast]
 by_cases h0:0 < xs.getD i 0
 · rw [if_pos (by omega),if_pos (by simpa using h0)]
 · rw [if_neg (by omega),if_neg (by simpa using h0)]
theorem few_sum {g:Nat→Nat} (h:(qid xs).length=1):((qid xs).map fun i=>g (lenF xs M i)).sum=g 1:=by
 obtain ⟨c,hc⟩:=List.length_eq_one_iff.1 h
 have hm:c ∈ qid xs:=by rw [hc]; exact List.mem_singleton.2 rfl
 have:lenF xs M c=1:=by
  unfold lenF
  rw [if_pos (by omega),if_pos (qag.1 hm).2]
 rw [hc]
 simp [this]
theorem kr_lenP (h:(qid xs).length≤2 ^ M) (h1:1≤M) (hM:M≤15):kr (lenP xs M)≤32768∧(2≤(qid xs).length→kr (lenP xs M)=32768):=by
 rw [kr_sum h h1]
 rcases Nat.lt_or_ge (qid xs).length 2 with h2 | h2
 · refine ⟨?_,fun h=>by omega⟩
   rcases Nat.lt_or_ge 0 (qid xs).length with h3 | h3
   · rw [few_sum (g:=fun x=>2 ^ (15 - x)) (by omega)]; decide
   · rw [List.length_eq_zero_iff.1 (show (qid xs).length=0 by omega)]; simp
 · have:=lenF_full h h2 15 hM
   rw [this]
   exact ⟨by decide,fun _=>by decide⟩
theorem lenP_chk (hg:xs.length≤288) (h:(qid xs).length≤2 ^ M) (h1:1≤M) (hM:M≤15):(hchk (lenP xs M)).2=0∧(hchk (lenP xs M)).1=decide (kr (lenP xs M)=32768):=by
 have hk:=(kr_lenP h h1 hM).1
 unfold hchk
 rw [if_neg (by rw [qsg]; omega),if_neg (fun e=>e (lenP_ok h h1 hM)),if_neg (by omega)]
 exact ⟨rfl,rfl⟩
theorem lenP_new (hg:xs.length≤288) (h:(qid xs).length≤2 ^ M) (h1:1≤M) (hM:M≤15):qih (lenP xs M) true=0:=by
 obtain ⟨hc,hc2⟩:=lenP_chk hg h h1 hM
 unfold qih
 rw [if_neg (fun e=>e hc),hc2]
 rcases Nat.lt_or_ge (qid xs).length 2 with h2 | h2
 · rw [if_neg]
   rintro ⟨_,e⟩
   rw [Bool.true_and,hhalf_eq (lenP_ok h h1 hM)] at e
   have e:=of_decide_eq_false e
   have e2:(lenP xs M).filter (0 < ·)=(qid xs).map fun _=>(1:Int):=by
    unfold lenP qek
    rw [List.filter_map]
    unfold qid
    have e3:∀ l:List Nat,(∀ i ∈ l,i < xs.length)→(l.filter ((fun x=>decide ((0:Int) < x)) ∘ fun i=>(lenF xs M i:Int))).map (fun i=>(lenF xs M i:Int))=(l.filter fun i=>decide (0 < xs.getD i 0)).map fun _=>(1:Int):=by
     intro l
     induction l with
     | nil=>intro _; rfl
     | cons a l ih =>
       intro hl
       rw [List.filter_cons,List.filter_cons]
       have:lenF xs M a=if 0 < xs.getD a 0 then 1 else 0:=by unfold lenF; rw [if_pos h2]
       have ih:=ih (fun i hi=>hl i (by simp [hi]))
       by_cases h0:0 < xs.getD a 0
       · rw [if_pos h0] at this
         rw [if_pos (by simp [this]),if_pos (by simpa using h0),List.map_cons,List.map_cons,ih,this]; rfl
       · rw [if_neg h0] at this
         rw [if_neg (by simp [this]),if_neg (by simpa using h0),ih]
    exact e3 _ (fun i hi=>List.mem_range.1 hi)
   rw [e2] at e
   have e4:∀ l:List Nat,(l.map fun _=>(1:Int)).sum=l.length:=by
    intro l
    induction l with
    | nil=>rfl
    | cons a l ih=>rw [List.map_cons,List.sum_cons,ih,List.length_cons]; omega
   rw [e4] at e
   omega
 · rw [if_neg]
   rintro ⟨e,_⟩
   have:=of_decide_eq_false e
   exact this ((kr_lenP h h1 hM).2 h2)
end
section
variable {F0:List Nat} {w0 w:World} {ps rest:List As} {s t:Sl} {xs:List Int} {M:Nat}
end
end Go.Proofs.Ythdmmmfgjmmelaa
namespace Go.Proofs.Ythdmmmfgjmmelaa
open Go Go.Proofs
set_option linter.unusedVariables false
set_option linter.unusedSimpArgs false
attribute [local irreducible] apK cpK mkK br
def pcC (p:Pc):List Value:=[.int .i64 p.1,.int .i64 p.2.1,.int .i64 p.2.2]
theorem qwf (p:Pc):∀ v ∈ (⟨pcC p⟩:Array Value),storable v:=by
 intro v hv
 have:v ∈ pcC p:=by simpa using hv
 rcases List.mem_cons.1 this with rfl | this
 · trivial
 · rcases List.mem_cons.1 this with rfl | this
   · trivial
   · rcases List.mem_cons.1 this with rfl | this
     · trivial
     · cases this
theorem qmh:zc Try.prog 172=⟨pcC (0,0,0)⟩:=by kernel_rfl
section
variable {F0:List Nat} {w0 w:World} {ps rest rest2 rest3:List As}
theorem qyd.c {v:Int} {K:Ending→World→Prop} (h:St F0 w0 w ps) (h3:0≤v) (h258:v≤100000) (hk:∀ w',St F0 w0 w' ps→K (.returned (.agg ⟨pcC (ofLen v)⟩)) w') :
 Calls Try.prog 158 ⟨[.int .i64 v,.int .i64 257,.func (.func 159) ⟨[]⟩ ⟨[]⟩]⟩ w K:=by
 refine qoc (qyd.ok _ _ _ _ ?_)
 unfold qyd
 rw [qmh]
 refine h.new fun tb w h=>?_
 unfold qyd.j1
 rw [qmh]
 refine h.new fun pb w h=>⟨rfl,?_⟩
 have h:St F0 w0 w (qxc pb (pcC (0,0,0)) :: qxc tb (pcC (0,0,0)) :: ps):=h
 refine h.sA (l':=pcC (0,0,0)) rfl rfl (qwf _) fun w h=>?_
 unfold qyd.j2
 refine qsf (fun (a:Nat × Pc) (k':Int) w'=>k'=257+((40 - a.1:Nat):Int)∧a.1≤40∧11≤a.1∧ofG quh v a.1 k' a.2=ofLen v∧St F0 w0 w' (qxc pb (pcC a.2) :: qxc tb (pcC (0,0,0)) :: ps)) (fun a=>a.1) (40,(0,0,0)) ⟨rfl,Nat.le_refl _,by decide,rfl,h⟩ ?_
 clear h
 rintro ⟨f,p⟩ k' wL I μ ⟨hk',hf,hf2,hof,h⟩ hin
 simp only at hk' hf hf2 hof h hin ⊢
 unfold qyd.b1
 refine qbc.c h ⟨_,_,_,rfl,?_⟩
 obtain ⟨f,rfl⟩:∃ g,f=g+1:=⟨f - 1,by omega⟩
 rw [ofG] at hof
 have done:p=ofLen v→ldA wL ⟨pb,0,none⟩ 3 fun c6=>c6.size=3∧stA wL ⟨tb,0,none⟩ c6 fun w7=>ldA w7 ⟨tb,0,none⟩ 3 fun c8=>K (.returned (.agg c8)) w7:=by
  intro e
  refine h.lA (b:=pb) rfl ⟨rfl,?_⟩
  refine St.sA (b:=tb) (l:=pcC (0,0,0)) h (l':=pcC p) rfl rfl (qwf _) fun w h=>?_
  refine h.lA (b:=tb) rfl ?_
  rw [e]
  exact hk w h.drop.drop
 refine qpf (fun g=>?_) (fun g=>?_)
 · have g:(quh k').2.2=false:=by simpa using g
   rw [if_pos (Or.inl g)] at hof
   exact done hof
 have g:(quh k').2.2=true:=by simpa using g
 refine qzc (fun g2=>?_) (fun g2=>?_)
 · rw [if_pos (Or.inr g2)] at hof
   exact done hof
 rw [if_neg (by rintro (e | e); rw [e] at g; cases g; exact g2 e)] at hof
 have hle:k'≤285:=by
  rcases Int.lt_or_le 285 k' with e | e
  · unfold quh at g
    rw [if_pos (Or.inr e)] at g
    cases g
  · exact e
 have hb:=zlen_b k'
 refine qy (qk (by omega) (by omega)) ⟨rfl,?_⟩
 refine h.sA (b:=pb) (l':=pcC (k',v - (quh k').1,(quh k').2.1)) rfl rfl (qwf _) fun w h=>?_
 refine qy (qk (by omega) (by omega)) ?_
 exact ⟨⟨rfl,rfl,rfl⟩,hin (f,(k',v - (quh k').1,(quh k').2.1)) _ _ ⟨by omega,by omega,by omega,hof,h⟩ (by simp only; omega)⟩
theorem qzd.c {v:Int} {K:Ending→World→Prop} (h:St F0 w0 w ps) (h3:0≤v) (h258:v≤100000) (hk:∀ w',St F0 w0 w' ps→K (.returned (.agg ⟨pcC (ofDis v)⟩)) w') :
 Calls Try.prog 158 ⟨[.int .i64 v,.int .i64 0,.func (.func 160) ⟨[]⟩ ⟨[]⟩]⟩ w K:=by
 refine qoc (qzd.ok _ _ _ _ ?_)
 unfold qzd
 rw [qmh]
 refine h.new fun tb w h=>?_
 unfold qzd.j1
 rw [qmh]
 refine h.new fun pb w h=>⟨rfl,?_⟩
 have h:St F0 w0 w (qxc pb (pcC (0,0,0)) :: qxc tb (pcC (0,0,0)) :: ps):=h
 refine h.sA (l':=pcC (0,0,0)) rfl rfl (qwf _) fun w h=>?_
 unfold qzd.j2
 refine qsf (fun (a:Nat × Pc) (k':Int) w'=>k'=((40 - a.1:Nat):Int)∧a.1≤40∧10≤a.1∧ofG qvh v a.1 k' a.2=ofDis v∧St F0 w0 w' (qxc pb (pcC a.2) :: qxc tb (pcC (0,0,0)) :: ps)) (fun a=>a.1) (40,(0,0,0)) ⟨rfl,Nat.le_refl _,by decide,rfl,h⟩ ?_
 clear h
 rintro ⟨f,p⟩ k' wL I μ ⟨hk',hf,hf2,hof,h⟩ hin
 simp only at hk' hf hf2 hof h hin ⊢
 unfold qzd.b1
 refine qyb.c h ⟨_,_,_,rfl,?_⟩
 obtain ⟨f,rfl⟩:∃ g,f=g+1:=⟨f - 1,by omega⟩
 rw [ofG] at hof
 have done:p=ofDis v→ldA wL ⟨pb,0,none⟩ 3 fun c6=>c6.size=3∧stA wL ⟨tb,0,none⟩ c6 fun w7=>ldA w7 ⟨tb,0,none⟩ 3 fun c8=>K (.returned (.agg c8)) w7:=by
  intro e
  refine h.lA (b:=pb) rfl ⟨rfl,?_⟩
  refine St.sA (b:=tb) (l:=pcC (0,0,0)) h (l':=pcC p) rfl rfl (qwf _) fun w h=>?_
  refine h.lA (b:=tb) rfl ?_
  rw [e]
  exact hk w h.drop.drop
 refine qpf (fun g=>?_) (fun g=>?_)
 · have g:(qvh k').2.2=false:=by simpa using g
   rw [if_pos (Or.inl g)] at hof
   exact done hof
 have g:(qvh k').2.2=true:=by simpa using g
 refine qzc (fun g2=>?_) (fun g2=>?_)
 · rw [if_pos (Or.inr g2)] at hof
   exact done hof
 rw [if_neg (by rintro (e | e); rw [e] at g; cases g; exact g2 e)] at hof
 have hle:k'≤29:=by
  rcases Int.lt_or_le 29 k' with e | e
  · unfold qvh at g
    rw [if_pos (Or.inr (show 30≤k' by omega))] at g
    cases g
  · exact e
 have hb:=zdis_b k'
 refine qy (qk (by omega) (by omega)) ⟨rfl,?_⟩
 refine h.sA (b:=pb) (l':=pcC (k',v - (qvh k').1,(qvh k').2.1)) rfl rfl (qwf _) fun w h=>?_
 refine qy (qk (by omega) (by omega)) ?_
 exact ⟨⟨rfl,rfl,rfl⟩,hin (f,(k',v - (qvh k').1,(qvh k').2.1)) _ _ ⟨by omega,by omega,by omega,hof,h⟩ (by simp only; omega)⟩
def qeh (t:Tk):Pc × Pc × Bool:=if t.2.1=0 then ((t.1,0,0),(0,0,0),false) else (ofLen t.2.1,ofDis t.2.2,true)
def tkOk (t:Tk):Prop:=(0≤t.1∧t.1 < 256)∧(t.2.1 ≠ 0→(3≤t.2.1∧t.2.1≤258)∧1≤t.2.2∧t.2.2≤32768)
theorem que.tkOk {b:List Int} (hb:∀ x ∈ b,0≤x∧x < 256) {n m:Nat} {L:List Tk} (h:que b n L m):∀ t ∈ L,tkOk t:=by
 induction h with
 | nil n=>intro t ht; cases ht
 | @lit n m r h _ ih =>
   intro t ht
   rcases List.mem_cons.1 ht with rfl | ht
   · exact ⟨hb _ (qrf h),fun e=>absurd rfl e⟩
   · exact ih t ht
 | @copy n m k d r h3 h258 hd hdn hdf hk hs _ ih =>
   intro t ht
   rcases List.mem_cons.1 ht with rfl | ht
   · exact ⟨⟨Int.le_refl _,by show (0:Int) < 256; decide⟩,fun _=>⟨⟨by show (3:Int)≤(k:Int); omega,by show (k:Int)≤258; omega⟩,by show (1:Int)≤(d:Int); omega,by show (d:Int)≤32768; omega⟩⟩
   · exact ih t ht
theorem qrg.c {t:Tk} {K:Ending→World→Prop} (h:St F0 w0 w ps) (ht:tkOk t)
 (hk:∀ w',St F0 w0 w' ps→K (.returned (.tuple ⟨[.agg ⟨pcC (qeh t).1⟩,.agg ⟨pcC (qeh t).2.1⟩,.bool (qeh t).2.2]⟩)) w'):Calls Try.prog 120 ⟨[.agg ⟨tkC t⟩]⟩ w K:=by
 refine qoc (qrg.ok _ _ _ ?_)
 unfold qrg
 refine h.new fun tb w h=>?_
 have h:St F0 w0 w (qxc tb (tkC t) :: ps):=h
 rw [qmh]
 refine h.new fun ab w h=>?_
 refine h.new fun bb w h=>?_
 have h:St F0 w0 w (qxc bb (pcC (0,0,0)) :: qxc ab (pcC (0,0,0)) :: qxc tb [.int .u8 t.1,.int .i64 t.2.1,.int .i64 t.2.2] :: ps):=h
 simp only [qme,Nat.zero_add]
 refine h.fI (b:=tb) ?_
 unfold qeh at hk
 refine qpf (fun g=>?_) (fun g=>?_)
 · have g:t.2.1=0:=by simpa using g
   rw [if_pos g] at hk
   refine h.fI (b:=tb) ?_
   refine qy (qk (by have:=ht.1; omega) (by have:=ht.1; omega)) ⟨rfl,?_⟩
   refine h.sA (b:=ab) (l':=pcC (t.1,0,0)) rfl rfl (qwf _) fun w h=>⟨rfl,?_⟩
   refine h.sA (b:=bb) (l':=pcC (0,0,0)) rfl rfl (qwf _) fun w h=>?_
   refine h.lA (b:=ab) rfl ?_
   refine h.lA (b:=bb) rfl ?_
   exact hk w h.sub
 · have g:t.2.1 ≠ 0:=by simpa using g
   rw [if_neg g] at hk
   obtain ⟨_,ht2⟩:=ht
   have ht2:=ht2 g
   refine h.drewK fun w h=>?_
   refine h.fI (b:=tb) ⟨?_,?_⟩
   · refine qyd.c h (by omega) (by omega) fun w h=>⟨_,rfl,?_⟩
     refine h.fI (b:=tb) ?_
     refine qzd.c h (by omega) (by omega) fun w h=>⟨_,rfl,rfl,?_⟩
     refine h.sA (b:=ab) (l':=pcC (ofLen t.2.1)) rfl rfl (qwf _) fun w h=>⟨rfl,?_⟩
     refine h.sA (b:=bb) (l':=pcC (ofDis t.2.2)) rfl rfl (qwf _) fun w h=>?_
     refine h.lA (b:=ab) rfl ?_
     refine h.lA (b:=bb) rfl ?_
     exact hk w h.sub
   · refine h.fI (b:=tb) ?_
     refine qyd.c h (by omega) (by omega) fun w h=>⟨_,rfl,?_⟩
     refine qzd.c h (by omega) (by omega) fun w h=>⟨_,rfl,rfl,?_⟩
     refine h.sA (b:=ab) (l':=pcC (ofLen t.2.1)) rfl rfl (qwf _) fun w h=>⟨rfl,?_⟩
     refine h.sA (b:=bb) (l':=pcC (ofDis t.2.2)) rfl rfl (qwf _) fun w h=>?_
     refine h.lA (b:=ab) rfl ?_
     refine h.lA (b:=bb) rfl ?_
     exact hk w h.sub
end
end Go.Proofs.Ythdmmmfgjmmelaa
