/- Own texts as one, only what is reached (shake.py). -/
import Derived.Test.YtonmgkkkiejicaaGreatMbd
import Derived.Test.YtonmgkkkiejicaaGreatProg
set_option linter.unusedSectionVars false
namespace Go.Proofs.YtonmgkkkiejicaaGreat
open Go Go.Proofs
set_option linter.unusedVariables false
set_option linter.unusedSimpArgs false
attribute [local irreducible] apK cpK mkK br
section
variable {α:Type} {f:α→List Value} {sz:Nat} {P:Program} {e:TypeId} {z:List Value} {F0:List Nat} {w0 w:World} {ps rest:List As} {s:Sl} {L:List α}
theorem St.pushB [i:Rec f sz] [he:EltR P e sz z] {nb:Nat} {x:α} (h:St F0 w0 w (qt nb (f x) :: ps)) [PkO s ps sz (L.flatMap f) rest] {K:Sl→World→Prop} (hlen:L.length≤999999999)
 (hk:∀ s' w',St F0 w0 w' (qp sz s' ((L ++ [x]).flatMap f) :: qt nb (f x) :: rest)→K s' w') :
 rdO w (some ⟨nb,0,none⟩) (1 * sz) fun c=>apK P e w s.a s.len s.cap 1 c K:=by
 refine h.rdB (by rw [i.len,Nat.one_mul]) ?_
 have h2:St F0 w0 w (qp sz s (L.flatMap f) :: qt nb (f x) :: rest):=(h.tail fun _ _ _ h=>h.toO s).at1
 have hl:=h2.len
 rw [qjc] at hl
 have hl:=Nat.eq_of_mul_eq_mul_right i.pos hl
 obtain ⟨t,h1,h2',h3,h4⟩:=he.info
 refine St.append (i:=t) (sz:=sz) (m:=1) h1 h2' i.pos (by rw [he.zc]; exact he.len) h3 (rec_room h4 (by omega)) h2 (by show (f x).length=_; rw [i.len,Nat.one_mul]) (fun v hv=>i.sto x v (by simpa using hv)) fun s' w' h hl'=>hk s' w' (by rw [qce,qog]; exact h)
end
def rwX (x:Sp):Rw:=(x.1,0,x.2.2)
theorem rw_sp (x:Sp):(List.set (spl ([.int .u8 0,.int .u8 0,.int .u8 0,.int .u8 0,.int .u8 0,.int .u8 0,.int .u8 0,.int .u8 0,.int .u8 0,.int .u8 0,.int .u8 0,.int .u8 0,.int .u8 0,.int .u8 0,.int .u8 0,.int .u8 0,.int .u8 0,.int .u8 0,.int .u8 0,.int .u8 0,.int .u32 0,.int .i64 0]:List Value) 0 ⟨nmC x.1⟩) 21 (.int .i64 x.2.2))=rwC (rwX x):=by
 have hl:(nmC x.1).length=20:=(inferInstance:Rec nmC 20).len x.1
 have e00:([.int .u8 0,.int .u8 0,.int .u8 0,.int .u8 0,.int .u8 0,.int .u8 0,.int .u8 0,.int .u8 0,.int .u8 0,.int .u8 0,.int .u8 0,.int .u8 0,.int .u8 0,.int .u8 0,.int .u8 0,.int .u8 0,.int .u8 0,.int .u8 0,.int .u8 0,.int .u8 0,.int .u32 0,.int .i64 0]:List Value)=ivs .u8 z20 ++ [.int .u32 0,.int .i64 0]:=rfl
 rw [e00,spl_eq _ _ _ (by rw [hl]; decide),hl]
 unfold rwC rwX
 have e:(ivs .u8 z20 ++ [Value.int .u32 0,.int .i64 0]).drop (0+20)=[.int .u32 0,.int .i64 0]:=rfl
 rw [e]
 have e0:(ivs .u8 z20 ++ [Value.int .u32 0,.int .i64 0]).take 0=[]:=rfl
 rw [e0,List.nil_append,List.set_append_right _ _ (by rw [hl]; decide),hl]
 rfl
instance elt_row:EltR Tryz.prog 42 22 (rwC (⟨z20,by refine ⟨rfl,?_⟩; decide⟩,0,0)):=⟨⟨Tryz.t42,by kernel_rfl,rfl,by decide,by decide⟩,by kernel_rfl,rfl,by decide⟩
abbrev Mp:=Mk × List Rw
def qve (x:Mp):As:=qp 22 x.1.2 (x.2.flatMap rwC)
theorem er_perm {β:Type}:∀ {l:List β} {k:Nat} (hk:k < l.length),(l[k] :: l.eraseIdx k).Perm l:=by
 intro l
 induction l with
 | nil=>intro k hk; simp at hk
 | cons y l ih =>
   intro k hk
   cases k with
   | zero=>exact .refl _
   | succ k =>
     rw [List.length_cons] at hk
     exact (List.Perm.swap y l[k] (l.eraseIdx k)).trans ((ih (by omega)).cons y)
theorem St.bagSet {LM:List Mp} {k:Nat} (hk:k < LM.length) {F0:List Nat} {w0 w:World} {ps:List As} (h:St F0 w0 w (qze (LM.map qve) :: ps)) :
 St F0 w0 w (qve LM[k] :: qze ((LM.eraseIdx k).map qve) :: ps):=by
 have hp:(LM.map qve).Perm (qve LM[k] :: (LM.eraseIdx k).map qve):=by
  have:=(er_perm hk).map qve
  exact this.symm
 exact (h.bagP hp).bagOut
theorem St.bagPut {LM:List Mp} {k:Nat} (hk:k < LM.length) {y:Mp} {F0:List Nat} {w0 w:World} {ps:List As} (h:St F0 w0 w (qve y :: qze ((LM.eraseIdx k).map qve) :: ps)) :
 St F0 w0 w (qze ((LM.set k y).map qve) :: ps):=by
 have h2:k < (LM.set k y).length:=by rw [List.length_set]; exact hk
 have hp:(qve y :: (LM.eraseIdx k).map qve).Perm ((LM.set k y).map qve):=by
  have:=(er_perm h2).map qve
  rw [List.getElem_set_self,List.eraseIdx_set_eq,List.map_cons] at this
  exact this
 exact h.bagIn.bagP hp
section
variable {F0:List Nat} {w0 w:World} {ps rest:List As} {t13 si ss sp:Sl} {LM:List Mp} {x:Sp} {A:List Nm} {S:List Sp} {Q:VWP} {xb tb rb2 k:Nat} {t7 t16 t17:Option Addr}
 {nx1:OAd→Sl→OAd→OAd→World→Prop}
theorem sp_20 (x:Sp):(spC x)[20]?=some (.int .i64 x.2.1):=by
 unfold spC
 rw [List.getElem?_append_right (by rw [qo,x.1.2.1]; decide),qo,x.1.2.1]
 rfl
theorem sp_21 (x:Sp):(spC x)[21]?=some (.int .i64 x.2.2):=by
 unfold spC
 rw [List.getElem?_append_right (by rw [qo,x.1.2.1]; decide),qo,x.1.2.1]
 rfl
theorem Blk.spI {o:Nat} {v:Int} {Z:Int→Prop} (h:Blk w xb (spC x)) (hv:(spC x)[o]?=some (.int .i64 v)) (hz:Z v):Go.Proofs.YtonmgkkkiejicaaGreat.ldI .i64 w (Addr.add ⟨xb,0,none⟩ o) Z:=by
 rw [qjb]
 exact h.ldI (by rw [Nat.zero_add]; exact hv) hz
theorem Blk.spN {Z:Array Value→Prop} (h:Blk w xb (spC x)) (hz:Z ⟨nmC x.1⟩):Go.Proofs.YtonmgkkkiejicaaGreat.ldA w (Addr.add ⟨xb,0,none⟩ 0) 20 Z:=by
 rw [qjb]
 refine h.ldA (cs:=⟨nmC x.1⟩) (by unfold nmC; simp [x.1.2.1]) (fun j hj=>?_) hz
 unfold spC nmC
 rw [List.getElem?_append_left (by rw [qo,x.1.2.1]; omega)]
 simp
theorem read_12 (h:St F0 w0 w (qt xb (spC x) :: qp 2 t13 ((LM.map Prod.fst).flatMap mkC) :: qze (LM.map qve) :: ps)) (hk:k < LM.length) (hxk:x.2.1=k) (hR:LM[k].2.length≤999999999)
 (hn:∀ s' w',St F0 w0 w' (qp 2 t13 (((LM.set k ((LM[k].1.1,s'),LM[k].2 ++ [rwX x])).map Prod.fst).flatMap mkC) :: qze ((LM.set k ((LM[k].1.1,s'),LM[k].2 ++ [rwX x])).map qve) :: ps)→nx1 t7 t13 t16 t17 w') :
 qh.j12 t7 t13 t16 t17 ⟨xb,0,none⟩ Q nx1 w:=by
 have hkm:k < (LM.map Prod.fst).length:=by rw [List.length_map]; exact hk
 have hmk:(LM.map Prod.fst)[k]=LM[k].1:=by simp
 unfold qh.j12
 refine h.drewK fun w h=>?_
 refine h.blk.spI (sp_20 x) ?_
 rw [hxk]
 refine h.rix (s:=t13) (f:=mkC) (L:=LM.map Prod.fst) k rfl hkm fun a0 ha=>?_
 refine (h.rdb t13).rL (f:=mkC) (L:=LM.map Prod.fst) (v:=LM[k].1.2) ha hkm (by decide) (by rw [hmk]; rfl) ?_
 refine h.blk.spN ?_
 refine h.blk.spI (sp_21 x) ?_
 have hN:(nmC x.1).length=20:=(inferInstance:Rec nmC 20).len x.1
 refine ⟨hN,?_⟩
 have h:St F0 w0 w (qt xb (spC x) :: noA :: qp 22 LM[k].1.2 (LM[k].2.flatMap rwC) :: qze ((LM.eraseIdx k).map qve) :: qp 2 t13 ((LM.map Prod.fst).flatMap mkC) :: ps):=by
  have h1:St F0 w0 w (qze (LM.map qve) :: qt xb (spC x) :: qp 2 t13 ((LM.map Prod.fst).flatMap mkC) :: ps):=h.at2
  have h2:=h1.bagSet hk
  have h3:St F0 w0 w (qp 22 LM[k].1.2 (LM[k].2.flatMap rwC) :: qze ((LM.eraseIdx k).map qve) :: qt xb (spC x) :: qp 2 t13 ((LM.map Prod.fst).flatMap mkC) :: ps):=h2
  have h4:St F0 w0 w (noA :: qp 22 LM[k].1.2 (LM[k].2.flatMap rwC) :: qze ((LM.eraseIdx k).map qve) :: qt xb (spC x) :: qp 2 t13 ((LM.map Prod.fst).flatMap mkC) :: ps):=h3.bag0
  exact h4.sub
 rw [rw_sp]
 have hI:∀ {w':World} {X Y:As} {Z:Int→Prop},St F0 w0 w' (qt xb (spC x) :: X :: Y :: qze ((LM.eraseIdx k).map qve) :: qp 2 t13 ((LM.map Prod.fst).flatMap mkC) :: ps)→Z (k:Int)→ldI .i64 w' (Addr.add ⟨xb,0,none⟩ 20) Z:=fun h hz=>h.blk.spI (sp_20 x) (by rw [hxk]; exact hz)
 have hNew:∀ {w':World} {X Y:As} {Z:Addr→World→Prop},St F0 w0 w' (qt xb (spC x) :: X :: Y :: qze ((LM.eraseIdx k).map qve) :: qp 2 t13 ((LM.map Prod.fst).flatMap mkC) :: ps) →
  (∀ nb w'',St F0 w0 w'' (qt xb (spC x) :: qt nb (rwC (rwX x)) :: Y :: qze ((LM.eraseIdx k).map qve) :: qp 2 t13 ((LM.map Prod.fst).flatMap mkC) :: ps)→Z ⟨nb,0,none⟩ w'') →
  (⟨rwC (rwX x)⟩:Array Value).size=22∧nw w' ⟨spl ([.int .u8 0,.int .u8 0,.int .u8 0,.int .u8 0,.int .u8 0,.int .u8 0,.int .u8 0,.int .u8 0,.int .u8 0,.int .u8 0,.int .u8 0,.int .u8 0,.int .u8 0,.int .u8 0,.int .u8 0,.int .u8 0,.int .u8 0,.int .u8 0,.int .u8 0,.int .u8 0,.int .u32 0,.int .i64 0]:List Value) 0 (⟨rwC (rwX x)⟩:Array Value)⟩ 42 Z:=fun {w' X Y Z} h hz=>by
  refine ⟨qsc _,?_⟩
  rw [qnf (by rw [qsc]; rfl)]
  refine h.new fun nb w h=>hz nb w ?_
  have h:St F0 w0 w (qt nb (rwC (rwX x)) :: qt xb (spC x) :: X :: Y :: qze ((LM.eraseIdx k).map qve) :: qp 2 t13 ((LM.map Prod.fst).flatMap mkC) :: ps):=h
  exact (h.tail fun _ _ _ h=>h.tail fun _ _ _ h=>h.drop).at1
 have hPush:∀ {w':World} {nb:Nat} {Z:Sl→World→Prop},St F0 w0 w' (qt xb (spC x) :: qt nb (rwC (rwX x)) :: qp 22 LM[k].1.2 (LM[k].2.flatMap rwC) :: qze ((LM.eraseIdx k).map qve) :: qp 2 t13 ((LM.map Prod.fst).flatMap mkC) :: ps) →
  (∀ s' w'',St F0 w0 w'' (qt xb (spC x) :: noA :: qp 22 s' ((LM[k].2 ++ [rwX x]).flatMap rwC) :: qze ((LM.eraseIdx k).map qve) :: qp 2 t13 ((LM.map Prod.fst).flatMap mkC) :: ps)→Z s' w'') →
  rdO w' (some ⟨nb,0,none⟩) (1 * 22) fun c=>apK Tryz.prog 42 w' LM[k].1.2.a LM[k].1.2.len LM[k].1.2.cap 1 c Z:=fun {w' nb Z} h hz=>by
  have h2:St F0 w0 w' (qt nb (rwC (rwX x)) :: qt xb (spC x) :: qp 22 LM[k].1.2 (LM[k].2.flatMap rwC) :: qze ((LM.eraseIdx k).map qve) :: qp 2 t13 ((LM.map Prod.fst).flatMap mkC) :: ps):=h.at1
  refine h2.pushB (s:=LM[k].1.2) (f:=rwC) (L:=LM[k].2) hR fun s' w h=>hz s' w ?_
  have h3:St F0 w0 w (noA :: qp 22 s' ((LM[k].2 ++ [rwX x]).flatMap rwC) :: qt nb (rwC (rwX x)) :: qt xb (spC x) :: qze ((LM.eraseIdx k).map qve) :: qp 2 t13 ((LM.map Prod.fst).flatMap mkC) :: ps):=h.bag0
  exact h3.sub
 have leaf:∀ {w':World} {s':Sl},St F0 w0 w' (qt xb (spC x) :: noA :: qp 22 s' ((LM[k].2 ++ [rwX x]).flatMap rwC) :: qze ((LM.eraseIdx k).map qve) :: qp 2 t13 ((LM.map Prod.fst).flatMap mkC) :: ps) →
  ixS t13.a t13.len (k:Int) 2 fun a13=>Go.Proofs.YtonmgkkkiejicaaGreat.st w' (Addr.add a13 1) (.slice s'.a s'.len s'.cap) fun w14=>nx1 t7 t13 t16 t17 w14:=fun {w' s'} h=>by
  have h2:St F0 w0 w' (qp 2 t13 ((LM.map Prod.fst).flatMap mkC) :: qp 22 s' ((LM[k].2 ++ [rwX x]).flatMap rwC) :: qze ((LM.eraseIdx k).map qve) :: ps):=h.sub
  refine h2.sF (f:=mkC) (x:=(LM[k].1.1,s')) k rfl hkm (by decide) trivial (by rw [hmk]; rfl) fun w h=>hn s' w ?_
  have e1:(LM.set k ((LM[k].1.1,s'),LM[k].2 ++ [rwX x])).map Prod.fst=(LM.map Prod.fst).set k (LM[k].1.1,s'):=by rw [List.map_set]
  rw [e1]
  exact h.tail fun _ _ _ h=>St.bagPut (y:=((LM[k].1.1,s'),LM[k].2 ++ [rwX x])) hk h
 refine ⟨?_,?_⟩
 · refine hI h ?_
   refine hNew h fun nb w h=>?_
   refine hPush h fun s' w h=>?_
   exact leaf h
 · refine hNew h fun nb w h=>⟨?_,?_⟩
   · refine hI h ?_
     refine hPush h fun s' w h=>?_
     exact leaf h
   · refine hPush h fun s' w h=>?_
     refine hI h ?_
     exact leaf h
end
end Go.Proofs.YtonmgkkkiejicaaGreat
namespace Go.Proofs.YtonmgkkkiejicaaGreat
open Go Go.Proofs
set_option linter.unusedVariables false
set_option linter.unusedSimpArgs false
attribute [local irreducible] apK cpK mkK br
section
variable {F0:List Nat} {w0 w:World} {ps rest:List As} {t13 si ss sp:Sl} {x:Sp} {A:List Nm} {S:List Sp} {Q:VWP} {xb tb rb2 k at':Nat} {cs:List Int} {err:Int} {t7 t16 t17:Option Addr}
 {nx1:OAd→Sl→OAd→OAd→World→Prop}
theorem read_11 (h:St F0 w0 w (qt xb (spC x) :: qt tb [sV sp,sV si,sV ss] :: qp 20 si (A.flatMap nmC) :: qp 22 ss (S.flatMap spC) :: ps)) [PkF brA rb2 ps (cs,at',err) rest] (hA:A.length≤999999999) (hS:S.length≤999999999)
 (hfail:∀ w',(t13.len≤x.2.1 ∨ err ≠ 0)→St F0 w0 w' (qt xb (spC x) :: qt tb [sV sp,sV si,sV ss] :: qp 20 si (A.flatMap nmC) :: qp 22 ss (S.flatMap spC) :: ps)→Q (.tuple ⟨[.pointer none,.slice none 0 0,.bool false]⟩) w')
 (hok:err=0→x.2.1 < t13.len→∀ si' ss' w',St F0 w0 w' (qt xb (spC x) :: qt tb [sV sp,sV si',sV ss'] :: qp 20 si' ((A ++ [x.1]).flatMap nmC) :: qp 22 ss' ((S ++ [x]).flatMap spC) :: ps)→qh.j12 (some ⟨tb,0,none⟩) t13 t16 (some ⟨rb2,0,none⟩) ⟨xb,0,none⟩ Q nx1 w') :
 qh.j11 (some ⟨tb,0,none⟩) t13 t16 (some ⟨rb2,0,none⟩) ⟨xb,0,none⟩ Q nx1 w:=by
 unfold qh.j11
 refine h.blk.spI (sp_20 x) ?_
 refine qwc (fun g=>hfail w (Or.inl (by omega)) h) (fun g=>?_)
 refine qad.c (rb:=rb2) h ⟨_,rfl,?_⟩
 by_cases he:¬ err=0
 · exact qci (by simpa using he) (hfail w (Or.inr he) h)
 refine br_no (by simpa using he) ?_
 have hok:=hok (by omega) (by omega)
 refine h.drewK fun w h=>qee ?_
 have hN:(nmC x.1).length=20:=(inferInstance:Rec nmC 20).len x.1
 have hL1:∀ {w':World} {l2:Value} {X Y Z1 Z2:As} {Z:Sl→Prop},St F0 w0 w' (qt xb (spC x) :: qt tb [sV sp,sV si,l2] :: X :: Y :: Z1 :: Z2 :: ps)→Z si→ldL w' (Addr.add ⟨tb,0,none⟩ 1) Z:=fun h hz=>by
  rw [qjb]
  exact h.drop.blk.ldL (n:=si) rfl hz
 have hL2:∀ {w':World} {l1:Value} {X Y Z1 Z2:As} {Z:Sl→Prop},St F0 w0 w' (qt xb (spC x) :: qt tb [sV sp,l1,sV ss] :: X :: Y :: Z1 :: Z2 :: ps)→Z ss→ldL w' (Addr.add ⟨tb,0,none⟩ 2) Z:=fun h hz=>by
  rw [qjb]
  exact h.drop.blk.ldL (n:=ss) rfl hz
 have hA1:∀ {w':World} {B X Y Z1 Z2:As} {Z:Array Value→Prop},St F0 w0 w' (qt xb (spC x) :: B :: X :: Y :: Z1 :: Z2 :: ps)→Z ⟨nmC x.1⟩→ldA w' (Addr.add ⟨xb,0,none⟩ 0) 20 Z:=fun h hz=>h.blk.spN hz
 have hA2:∀ {w':World} {B X Y Z1 Z2:As} {Z:Array Value→Prop},St F0 w0 w' (qt xb (spC x) :: B :: X :: Y :: Z1 :: Z2 :: ps)→Z ⟨spC x⟩→ldA w' ⟨xb,0,none⟩ 22 Z:=fun h hz=>h.lA (b:=xb) (qoc _) hz
 have hN1:∀ {w':World} {B X Y Z1 Z2:As} {Z:Addr→World→Prop},St F0 w0 w' (qt xb (spC x) :: B :: X :: Y :: Z1 :: Z2 :: ps)→(∀ nb w'',St F0 w0 w'' (qt xb (spC x) :: B :: X :: Y :: qt nb (nmC x.1) :: Z2 :: ps)→Z ⟨nb,0,none⟩ w'') →
  (⟨nmC x.1⟩:Array Value).size=20∧nw w' ⟨spl ([.int .u8 0,.int .u8 0,.int .u8 0,.int .u8 0,.int .u8 0,.int .u8 0,.int .u8 0,.int .u8 0,.int .u8 0,.int .u8 0,.int .u8 0,.int .u8 0,.int .u8 0,.int .u8 0,.int .u8 0,.int .u8 0,.int .u8 0,.int .u8 0,.int .u8 0,.int .u8 0]:List Value) 0 (⟨nmC x.1⟩:Array Value)⟩ 39 Z:=fun {w' B X Y Z1 Z2 Z} h hz=>by
  refine ⟨hN,?_⟩
  rw [qnf (by rw [hN]; rfl)]
  refine h.new fun nb w h=>hz nb w ?_
  have h:St F0 w0 w (qt nb (nmC x.1) :: qt xb (spC x) :: B :: X :: Y :: Z1 :: Z2 :: ps):=h
  exact h.sub
 have hN2:∀ {w':World} {B X Y Z1 Z2:As} {Z:Addr→World→Prop},St F0 w0 w' (qt xb (spC x) :: B :: X :: Y :: Z1 :: Z2 :: ps)→(∀ nb w'',St F0 w0 w'' (qt xb (spC x) :: B :: X :: Y :: Z1 :: qt nb (spC x) :: ps)→Z ⟨nb,0,none⟩ w'') →
  (⟨spC x⟩:Array Value).size=22∧nw w' ⟨spl ([.int .u8 0,.int .u8 0,.int .u8 0,.int .u8 0,.int .u8 0,.int .u8 0,.int .u8 0,.int .u8 0,.int .u8 0,.int .u8 0,.int .u8 0,.int .u8 0,.int .u8 0,.int .u8 0,.int .u8 0,.int .u8 0,.int .u8 0,.int .u8 0,.int .u8 0,.int .u8 0,.int .i64 0,.int .i64 0]:List Value) 0 (⟨spC x⟩:Array Value)⟩ 75 Z:=fun {w' B X Y Z1 Z2 Z} h hz=>by
  refine ⟨qoc _,?_⟩
  rw [qnf (by rw [qoc]; rfl)]
  refine h.new fun nb w h=>hz nb w ?_
  have h:St F0 w0 w (qt nb (spC x) :: qt xb (spC x) :: B :: X :: Y :: Z1 :: Z2 :: ps):=h
  exact h.sub
 have hP1:∀ {w':World} {nb:Nat} {B Y Z2:As} {Z:Sl→World→Prop},St F0 w0 w' (qt xb (spC x) :: B :: qp 20 si (A.flatMap nmC) :: Y :: qt nb (nmC x.1) :: Z2 :: ps)→(∀ s' w'',St F0 w0 w'' (qt xb (spC x) :: B :: qp 20 s' ((A ++ [x.1]).flatMap nmC) :: Y :: noA :: Z2 :: ps)→Z s' w'') →
  rdO w' (some ⟨nb,0,none⟩) (1 * 20) fun c=>apK Tryz.prog 39 w' si.a si.len si.cap 1 c Z:=fun {w' nb B Y Z2 Z} h hz=>by
  have h2:St F0 w0 w' (qt nb (nmC x.1) :: qt xb (spC x) :: B :: qp 20 si (A.flatMap nmC) :: Y :: Z2 :: ps):=h.at4
  refine h2.pushB (s:=si) (f:=nmC) (L:=A) hA fun s' w h=>hz s' w ?_
  have h3:St F0 w0 w (noA :: qp 20 s' ((A ++ [x.1]).flatMap nmC) :: qt nb (nmC x.1) :: qt xb (spC x) :: B :: Y :: Z2 :: ps):=h.bag0
  exact h3.sub
 have hP2:∀ {w':World} {nb:Nat} {B X Z1:As} {Z:Sl→World→Prop},St F0 w0 w' (qt xb (spC x) :: B :: X :: qp 22 ss (S.flatMap spC) :: Z1 :: qt nb (spC x) :: ps)→(∀ s' w'',St F0 w0 w'' (qt xb (spC x) :: B :: X :: qp 22 s' ((S ++ [x]).flatMap spC) :: Z1 :: noA :: ps)→Z s' w'') →
  rdO w' (some ⟨nb,0,none⟩) (1 * 22) fun c=>apK Tryz.prog 75 w' ss.a ss.len ss.cap 1 c Z:=fun {w' nb B X Z1 Z} h hz=>by
  have h2:St F0 w0 w' (qt nb (spC x) :: qt xb (spC x) :: B :: X :: qp 22 ss (S.flatMap spC) :: Z1 :: ps):=h.at5
  refine h2.pushB (s:=ss) (f:=spC) (L:=S) hS fun s' w h=>hz s' w ?_
  have h3:St F0 w0 w (noA :: qp 22 s' ((S ++ [x]).flatMap spC) :: qt nb (spC x) :: qt xb (spC x) :: B :: X :: Z1 :: ps):=h.bag0
  exact h3.sub
 have leaf:∀ {w':World} {s1 s2:Sl},St F0 w0 w' (qt xb (spC x) :: qt tb [sV sp,sV si,sV ss] :: qp 20 s1 ((A ++ [x.1]).flatMap nmC) :: qp 22 s2 ((S ++ [x]).flatMap spC) :: noA :: noA :: ps) →
  nz (some (⟨tb,0,none⟩:Addr)) fun a50=>Go.Proofs.YtonmgkkkiejicaaGreat.st w' (Addr.add a50 1) (sV s1) fun w51=>nz (some (⟨tb,0,none⟩:Addr)) fun a52=>Go.Proofs.YtonmgkkkiejicaaGreat.st w51 (Addr.add a52 2) (sV s2) fun w53=>qh.j12 (some ⟨tb,0,none⟩) t13 t16 (some ⟨rb2,0,none⟩) ⟨xb,0,none⟩ Q nx1 w53:=fun {w' s1 s2} h=>by
  have h:St F0 w0 w' (qt tb [sV sp,sV si,sV ss] :: qt xb (spC x) :: qp 20 s1 ((A ++ [x.1]).flatMap nmC) :: qp 22 s2 ((S ++ [x]).flatMap spC) :: ps):=h.sub
  refine qee ?_
  rw [qjb]
  refine h.st (by show 1 < 3; decide) trivial fun w h=>qee ?_
  rw [qjb]
  refine h.st (by show 2 < 3; decide) trivial fun w h=>?_
  have h:St F0 w0 w (qt tb [sV sp,sV s1,sV s2] :: qt xb (spC x) :: qp 20 s1 ((A ++ [x.1]).flatMap nmC) :: qp 22 s2 ((S ++ [x]).flatMap spC) :: ps):=h
  exact hok s1 s2 w h.at1
 have h:St F0 w0 w (qt xb (spC x) :: qt tb [sV sp,sV si,sV ss] :: qp 20 si (A.flatMap nmC) :: qp 22 ss (S.flatMap spC) :: noA :: noA :: ps):=by
  have h2:St F0 w0 w (noA :: noA :: qt xb (spC x) :: qt tb [sV sp,sV si,sV ss] :: qp 20 si (A.flatMap nmC) :: qp 22 ss (S.flatMap spC) :: ps):=(h.bag0).bag0
  exact h2.sub
 refine hL1 h ?_
 refine hA1 h (qee ?_)
 repeat' first
  | with_reducible exact leaf (by assumption)
  | with_reducible refine hN1 (by assumption) fun nb w h=>?_
  | with_reducible refine hN2 (by assumption) fun nb w h=>?_
  | with_reducible refine hP1 (by assumption) fun s' w h=>?_
  | with_reducible refine hP2 (by assumption) fun s' w h=>?_
  | with_reducible refine hL2 (by assumption) ?_
  | with_reducible refine hA2 (by assumption) ?_
  | with_reducible refine And.intro ?_ ?_
end
end Go.Proofs.YtonmgkkkiejicaaGreat
namespace Go.Proofs.YtonmgkkkiejicaaGreat
open Go Go.Proofs
set_option linter.unusedVariables false
set_option linter.unusedSimpArgs false
attribute [local irreducible] apK cpK mkK br qte mB
structure RdR (NL:List ByteArray) (S:List Sp) (LM:List Mp):Prop where
 nm:LM.map (·.1.1)=NL
 row:∀ k (h:k < LM.length),LM[k].2=(S.filter fun s=>decide (s.2.1=(k:Int))).map rwX
 rg:∀ s ∈ S,(0≤s.2.1∧s.2.1 < LM.length)∧(0≤s.2.2∧s.2.2 < 4294967296)
theorem RdR.step {NL:List ByteArray} {S:List Sp} {LM:List Mp} (h:RdR NL S LM) {x:Sp} {k:Nat} (hk:k < LM.length) (hx:x.2.1=k) (hr:0≤x.2.2∧x.2.2 < 4294967296) (s':Sl) :
 RdR NL (S ++ [x]) (LM.set k ((LM[k].1.1,s'),LM[k].2 ++ [rwX x])) where
 nm:=by
  rw [← h.nm,List.map_set]
  have e:(LM.map (·.1.1))[k]'(by rw [List.length_map]; exact hk)=LM[k].1.1:=by simp
  refine List.ext_getElem (by simp) fun j h1 h2=>?_
  rw [List.getElem_set]
  split
  · rename_i hj; subst hj; exact e.symm
  · rfl
 row:=by
  intro j hj
  rw [List.length_set] at hj
  rw [List.getElem_set,List.filter_append,List.map_append]
  by_cases e:k=j
  · subst e
    rw [if_pos rfl]
    simp [hx,h.row k hk]
  · rw [if_neg e,h.row j hj]
    have:¬ x.2.1=(j:Int):=by omega
    simp [this]
 rg:=by
  intro s hs
  rw [List.length_set]
  rcases List.mem_append.1 hs with hs | hs
  · exact h.rg s hs
  · have:s=x:=by simpa using hs
    subst this
    exact ⟨by omega,hr⟩
theorem atB_at {O:List Sp} {i:Nat} (h:i < O.length):∃ a r,atB O=a ++ (at1B O[i] ++ r)∧a.length=8 * i:=by
 refine ⟨atB (O.take i),atB (O.drop (i+1)),?_,?_⟩
 · unfold atB
   conv=>lhs; rw [← List.take_append_drop i O,List.drop_eq_getElem_cons h]
   rw [List.flatMap_append,List.flatMap_cons]
 · rw [qri,List.length_take]; omega
theorem at_step {O:List Sp} {i:Nat} (h:i < O.length):tkS (atB O) (8 * i) 0 4=(beJ 4 4 O[i].2.1,8 * i+4,0)∧tkS (atB O) (8 * i+4) 0 4=(beJ 4 4 O[i].2.2,8 * i+8,0):=by
 obtain ⟨a,r,e,hl⟩:=atB_at h
 have hlen:8 * i+8≤(atB O).length:=by rw [qri]; omega
 have t1:tkS (atB O) (8 * i) 0 4=(((atB O).drop (8 * i)).take 4,8 * i+4,0):=tk_in (n:=4) (by omega)
 have t2:tkS (atB O) (8 * i+4) 0 4=(((atB O).drop (8 * i+4)).take 4,8 * i+4+4,0):=tk_in (n:=4) (by omega)
 rw [t1,t2,e]
 unfold at1B
 refine ⟨?_,?_⟩
 · rw [List.append_assoc,qak hl (qfc ..)]
 · have e2:a ++ (beJ 4 4 O[i].2.1 ++ beJ 4 4 O[i].2.2 ++ r)=(a ++ beJ 4 4 O[i].2.1) ++ (beJ 4 4 O[i].2.2 ++ r):=by simp only [List.append_assoc]
   rw [e2,qak (by rw [List.length_append,qfc,hl]) (qfc ..)]
theorem ids_step {O:List Sp} {i:Nat} (h:i < O.length):((nB (qvc O)).drop (20 * i)).take 20=O[i].1.1:=by
 have hi:i < (qvc O).length:=by unfold qvc; rw [List.length_map]; exact h
 have:=flat_at (f:=fun q:Nm=>q.1) (fun q=>q.2.1) [] hi
 rw [List.append_nil] at this
 have e:(qvc O)[i]=O[i].1:=List.getElem_map ..
 rw [e] at this
 exact this
theorem u32_rg {xs:List Int} (hx:qbd xs) (p:Nat) (e:Int):0≤be (tkS xs p e 4).1∧be (tkS xs p e 4).1 < 4294967296:=by
 have h:=tkS_ok hx p e 4
 have h2:=be_lt8 h.1 (n:=4) (by omega)
 have h3:(2:Int) ^ (8 * 4)=4294967296:=by decide
 rw [h3] at h2
 exact h2
theorem sp_new (q:Nm):spl ([.int .u8 0,.int .u8 0,.int .u8 0,.int .u8 0,.int .u8 0,.int .u8 0,.int .u8 0,.int .u8 0,.int .u8 0,.int .u8 0,.int .u8 0,.int .u8 0,.int .u8 0,.int .u8 0,.int .u8 0,.int .u8 0,.int .u8 0,.int .u8 0,.int .u8 0,.int .u8 0,.int .i64 0,.int .i64 0]:List Value) 0 ⟨nmC q⟩=spC (q,0,0):=by
 have hl:(nmC q).length=20:=(inferInstance:Rec nmC 20).len q
 have e00:([.int .u8 0,.int .u8 0,.int .u8 0,.int .u8 0,.int .u8 0,.int .u8 0,.int .u8 0,.int .u8 0,.int .u8 0,.int .u8 0,.int .u8 0,.int .u8 0,.int .u8 0,.int .u8 0,.int .u8 0,.int .u8 0,.int .u8 0,.int .u8 0,.int .u8 0,.int .u8 0,.int .i64 0,.int .i64 0]:List Value)=ivs .u8 z20 ++ [.int .i64 0,.int .i64 0]:=rfl
 rw [e00,spl_eq _ _ _ (by rw [hl]; decide),hl]
 rfl
theorem sp_set20 (q:Nm) (a b v:Int):(spC (q,a,b)).set 20 (.int .i64 v)=spC (q,v,b):=by
 unfold spC
 rw [List.set_append_right _ _ (by rw [qo,q.2.1]; decide),qo,q.2.1]
 rfl
theorem sp_set21 (q:Nm) (a b v:Int):(spC (q,a,b)).set 21 (.int .i64 v)=spC (q,a,v):=by
 unfold spC
 rw [List.set_append_right _ _ (by rw [qo,q.2.1]; decide),qo,q.2.1]
 rfl
section
variable {F0:List Nat} {w0 w:World} {ps rest:List As} {t13 si ss sp:Sl} {LM:List Mp} {NL:List ByteArray} {Q:VWP} {tb rb1 rb2:Nat} {c2 c3 xs:List Int}
theorem read_7 (h:St F0 w0 w (qt tb [sV sp,.slice none 0 0,.slice none 0 0] :: qp 2 t13 ((LM.map Prod.fst).flatMap mkC) :: qze (LM.map qve) :: brA rb1 (c2,0,0) :: brA rb2 (c3,0,0) :: ps))
 (hLM:RdR NL [] LM) (ht13:t13.len=LM.length) (h2:qbd c2) (h3:qbd c3) (hl2:c2.length≤1000000) (hl3:c3.length≤1000000)
 (hV:∀ NL' O,VM NL' O→xs=mB NL' O→NL'=NL∧c2=nB (qvc O)∧c3=atB O)
 (hno:∀ w',(∀ NL O,VM NL O→xs ≠ mB NL O)→St F0 w0 w' ps→Q (.tuple ⟨[.pointer none,.slice none 0 0,.bool false]⟩) w')
 (hok:∀ si ss LM S w',RdR NL S LM→S.length≤50000→(∀ NL' O,VM NL' O→xs=mB NL' O→S=O)→t13.len=LM.length→St F0 w0 w' (qt tb [sV sp,sV si,sV ss] :: qp 20 si ((qvc S).flatMap nmC) :: qp 22 ss (S.flatMap spC) :: qp 2 t13 ((LM.map Prod.fst).flatMap mkC) :: qze (LM.map qve) :: ps)→Q (.tuple ⟨[.pointer (some ⟨tb,0,none⟩),sV t13,.bool true]⟩) w') :
 qh.j7 (some ⟨tb,0,none⟩) t13 (some ⟨rb1,0,none⟩) (some ⟨rb2,0,none⟩) Q w:=by
 unfold qh.j7
 refine loop0 (fun (a:List Sp × List Mp × Sl × Sl × Nat) w'=>RdR NL a.1 a.2.1∧20 * a.1.length≤c2.length∧t13.len=a.2.1.length∧(∀ NL' O,VM NL' O→xs=mB NL' O→a.1=O.take a.1.length∧a.2.2.2.2=8 * a.1.length) ∧
  St F0 w0 w' (qt tb [sV sp,sV a.2.2.1,sV a.2.2.2.1] :: qp 20 a.2.2.1 ((qvc a.1).flatMap nmC) :: qp 22 a.2.2.2.1 (a.1.flatMap spC) :: qp 2 t13 ((a.2.1.map Prod.fst).flatMap mkC) :: qze (a.2.1.map qve) :: brA rb1 (c2,20 * a.1.length,0) :: brA rb2 (c3,a.2.2.2.2,0) :: ps)) (fun a=>c2.length - 20 * a.1.length) ([],LM,⟨none,0,0⟩,⟨none,0,0⟩,0) ⟨hLM,Nat.zero_le _,ht13,fun _ _ _ _=>⟨rfl,rfl⟩,?_⟩ ?_
 · have h1:St F0 w0 w (qp 20 ⟨none,0,0⟩ ((qvc []).flatMap nmC) :: qp 22 ⟨none,0,0⟩ (([]:List Sp).flatMap spC) :: qt tb [sV sp,.slice none 0 0,.slice none 0 0] :: qp 2 t13 ((LM.map Prod.fst).flatMap mkC) :: qze (LM.map qve) :: brA rb1 (c2,0,0) :: brA rb2 (c3,0,0) :: ps):=(h.nilO).nilO
   exact h1.at2
 clear h hLM ht13
 rintro ⟨S,LM,si,ss,p⟩ wL I μ ⟨hLM,hSl,ht13,hSV,h⟩ hin
 simp only at hLM hSl ht13 hSV h hin ⊢
 unfold qh.b1
 refine qdc.c (rb:=rb1) h fun w h=>⟨_,rfl,?_⟩
 rw [if_pos rfl]
 have h:St F0 w0 w (qt tb [sV sp,sV si,sV ss] :: qp 20 si ((qvc S).flatMap nmC) :: qp 22 ss (S.flatMap spC) :: qp 2 t13 ((LM.map Prod.fst).flatMap mkC) :: qze (LM.map qve) :: brA rb1 (c2,20 * S.length,0) :: brA rb2 (c3,p,0) :: ps):=h.sub
 refine qwc (fun g=>?_) (fun g=>?_)
 · have hle:20 * S.length+20≤c2.length:=by omega
   have hid:=idOk_cut h2 hle
   have hVx:∀ NL' O,VM NL' O→xs=mB NL' O→∃ hi:S.length < O.length,(c2.drop (20 * S.length)).take 20=O[S.length].1.1∧p=8 * S.length:=fun NL' O a b=>by
    obtain ⟨_,e2,e3⟩:=hV NL' O a b
    have hl:(qvc O).length=O.length:=List.length_map ..
    have hi:S.length < O.length:=by
     have:=congrArg List.length e2
     rw [qsk,hl] at this
     omega
    refine ⟨hi,?_,(hSV NL' O a b).2⟩
    rw [e2]
    exact ids_step hi
   unfold qh.j9
   have t20:tkS c2 (20 * S.length) 0 20=((c2.drop (20 * S.length)).take 20,20 * S.length+20,0):=tk_in (n:=20) hle
   refine qmc.c (rb:=rb1) (n:=20) h fun r w h=>⟨r,rfl,?_⟩
   rw [t20] at h
   generalize hq:(c2.drop (20 * S.length)).take 20=q at h hid hVx
   have h:St F0 w0 w (rdA 1 r (u8s q) :: brA rb1 (c2,20 * S.length+20,0) :: qt tb [sV sp,sV si,sV ss] :: qp 20 si ((qvc S).flatMap nmC) :: qp 22 ss (S.flatMap spC) :: qp 2 t13 ((LM.map Prod.fst).flatMap mkC) :: qze (LM.map qve) :: brA rb2 (c3,p,0) :: ps):=h
   have hr:=h.rd
   have hrl:=hr.1
   rw [qeb,hid.1,Nat.mul_one] at hrl
   refine ⟨by omega,hr.ldF (by decide) (by rw [hid.1]; decide) ?_⟩
   rw [List.take_of_length_le (by rw [hid.1]; decide)]
   obtain ⟨Nq,hNq⟩:∃ Nq:Nm,Nq.1=q:=⟨⟨q,hid⟩,rfl⟩
   subst hNq
   have hN:(nmC Nq).length=20:=(inferInstance:Rec nmC 20).len Nq
   refine ⟨hN,?_⟩
   show nw w (zc Tryz.prog 75) 75 fun a437 w438=>(⟨spl ([.int .u8 0,.int .u8 0,.int .u8 0,.int .u8 0,.int .u8 0,.int .u8 0,.int .u8 0,.int .u8 0,.int .u8 0,.int .u8 0,.int .u8 0,.int .u8 0,.int .u8 0,.int .u8 0,.int .u8 0,.int .u8 0,.int .u8 0,.int .u8 0,.int .u8 0,.int .u8 0,.int .i64 0,.int .i64 0]:List Value) 0 ⟨nmC Nq⟩⟩:Array Value).size=22∧Go.Proofs.YtonmgkkkiejicaaGreat.stA w438 a437 ⟨spl ([.int .u8 0,.int .u8 0,.int .u8 0,.int .u8 0,.int .u8 0,.int .u8 0,.int .u8 0,.int .u8 0,.int .u8 0,.int .u8 0,.int .u8 0,.int .u8 0,.int .u8 0,.int .u8 0,.int .u8 0,.int .u8 0,.int .u8 0,.int .u8 0,.int .u8 0,.int .u8 0,.int .i64 0,.int .i64 0]:List Value) 0 ⟨nmC Nq⟩⟩ fun w439=>qh.j10 _ _ _ _ a437 Q _ w439
   rw [sp_new,qjj]
   refine h.drop.new fun xb w h=>?_
   have h:St F0 w0 w (qt xb (spC spZ) :: brA rb1 (c2,20 * S.length+20,0) :: qt tb [sV sp,sV si,sV ss] :: qp 20 si ((qvc S).flatMap nmC) :: qp 22 ss (S.flatMap spC) :: qp 2 t13 ((LM.map Prod.fst).flatMap mkC) :: qze (LM.map qve) :: brA rb2 (c3,p,0) :: ps):=h
   refine ⟨qoc _,?_⟩
   refine h.setR (f:=spC) (x:=(Nq,0,0)) (qoc _) fun w h=>?_
   unfold qh.j10
   refine qqc.c (rb:=rb2) h h3 fun w h=>⟨_,rfl,?_⟩
   have u1:=u32_rg h3 p 0
   rw [nu4 h3] at h ⊢
   generalize hz1:tkS c3 p 0 4=z1 at h u1 ⊢
   obtain ⟨v1,p1,e1⟩:=z1
   have h:St F0 w0 w (qt xb (spC (Nq,0,0)) :: brA rb2 (c3,p1,e1) :: brA rb1 (c2,20 * S.length+20,0) :: qt tb [sV sp,sV si,sV ss] :: qp 20 si ((qvc S).flatMap nmC) :: qp 22 ss (S.flatMap spC) :: qp 2 t13 ((LM.map Prod.fst).flatMap mkC) :: qze (LM.map qve) :: ps):=h.sub
   rw [qjb]
   refine h.st (by rw [qoc]; decide) trivial fun w h=>?_
   rw [Nat.zero_add,sp_set20] at h
   refine qqc.c (rb:=rb2) h h3 fun w h=>⟨_,rfl,?_⟩
   have u2:=u32_rg h3 p1 e1
   rw [nu4 h3] at h ⊢
   generalize hz2:tkS c3 p1 e1 4=z2 at h u2 ⊢
   obtain ⟨v2,p2,e2⟩:=z2
   have h:St F0 w0 w (qt xb (spC (Nq,be v1,0)) :: brA rb2 (c3,p2,e2) :: brA rb1 (c2,20 * S.length+20,0) :: qt tb [sV sp,sV si,sV ss] :: qp 20 si ((qvc S).flatMap nmC) :: qp 22 ss (S.flatMap spC) :: qp 2 t13 ((LM.map Prod.fst).flatMap mkC) :: qze (LM.map qve) :: ps):=h.sub
   rw [qjb]
   refine h.st (by rw [qoc]; decide) trivial fun w h=>?_
   rw [Nat.zero_add,sp_set21] at h
   have hVy:∀ NL' O,VM NL' O→xs=mB NL' O→∃ hi:S.length < O.length,O[S.length]=(Nq,be v1,be v2)∧e2=0∧p2=8 * S.length+8:=fun NL' O a b=>by
    obtain ⟨hi,hq2,hp⟩:=hVx NL' O a b
    obtain ⟨_,_,hc3⟩:=hV NL' O a b
    obtain ⟨s1,s2⟩:=at_step hi
    subst hp
    rw [← hc3] at s1 s2
    rw [s1] at hz1
    have a1:v1=beJ 4 4 O[S.length].2.1:=(congrArg (fun z=>z.1) hz1).symm
    have a2:p1=8 * S.length+4:=(congrArg (fun z=>z.2.1) hz1).symm
    have a3:e1=0:=(congrArg (fun z=>z.2.2) hz1).symm
    subst a2 a3
    rw [s2] at hz2
    have b1:v2=beJ 4 4 O[S.length].2.2:=(congrArg (fun z=>z.1) hz2).symm
    have b2:p2=8 * S.length+8:=(congrArg (fun z=>z.2.1) hz2).symm
    have b3:e2=0:=(congrArg (fun z=>z.2.2) hz2).symm
    have hrg:=a.rg _ (List.getElem_mem hi)
    have hln:=a.ln
    refine ⟨hi,?_,b3,b2⟩
    rw [a1,b1,be_4 (by omega),be_4 (by omega)]
    have:O[S.length].1=Nq:=Nm.ext' hq2.symm
    rw [← this]
   have h:St F0 w0 w (qt xb (spC (Nq,be v1,be v2)) :: qt tb [sV sp,sV si,sV ss] :: qp 20 si ((qvc S).flatMap nmC) :: qp 22 ss (S.flatMap spC) :: brA rb2 (c3,p2,e2) :: brA rb1 (c2,20 * S.length+20,0) :: qp 2 t13 ((LM.map Prod.fst).flatMap mkC) :: qze (LM.map qve) :: ps):=h.sub
   have hidl:(qvc S).length=S.length:=List.length_map ..
   refine read_11 (x:=(Nq,be v1,be v2)) h (by omega) (by omega) (fun w hf h=>?_) (fun he hlt si' ss' w h=>?_)
   · refine hno w (fun NL' O a b=>?_) h.sub
     obtain ⟨hi,hO,he,_⟩:=hVy NL' O a b
     have hrg:=a.rg _ (List.getElem_mem hi)
     rw [hO] at hrg
     simp only at hrg hf
     rcases hf with hf | hf
     · have e1:=(hV NL' O a b).1
       have e2:=congrArg List.length hLM.nm
       rw [List.length_map,← e1] at e2
       omega
     · exact hf he
   · simp only at hlt u1 u2
     subst he
     obtain ⟨k,hk⟩:∃ k:Nat,be v1=k:=⟨(be v1).toNat,by omega⟩
     have hkl:k < LM.length:=by omega
     have h:St F0 w0 w (qt xb (spC (Nq,be v1,be v2)) :: qp 2 t13 ((LM.map Prod.fst).flatMap mkC) :: qze (LM.map qve) :: qt tb [sV sp,sV si',sV ss'] :: qp 20 si' ((qvc S ++ [Nq]).flatMap nmC) :: qp 22 ss' ((S ++ [(Nq,be v1,be v2)]).flatMap spC) :: brA rb1 (c2,20 * S.length+20,0) :: brA rb2 (c3,p2,0) :: ps):=h.sub
     have hRl:LM[k].2.length≤999999999:=by
      rw [hLM.row k hkl,List.length_map]
      have:=List.length_filter_le (fun s:Sp=>decide (s.2.1=(k:Int))) S
      omega
     refine read_12 (x:=(Nq,be v1,be v2)) (LM:=LM) (k:=k) h hkl hk hRl fun s' w h=>?_
     refine ⟨⟨rfl,rfl,rfl,rfl⟩,hin (S ++ [(Nq,be v1,be v2)],LM.set k ((LM[k].1.1,s'),LM[k].2 ++ [rwX (Nq,be v1,be v2)]),si',ss',p2) w ⟨hLM.step hkl hk u2 s',?_,?_,?_,?_⟩ ?_⟩
     · simp only [List.length_append,List.length_singleton]; omega
     · simp only [List.length_set]; exact ht13
     · intro NL' O a b
       obtain ⟨hi,hO,_,hp2⟩:=hVy NL' O a b
       simp only [List.length_append,List.length_singleton]
       refine ⟨?_,by omega⟩
       rw [List.take_succ_eq_append_getElem hi,hO,← (hSV NL' O a b).1]
     · have e1:qvc (S ++ [(Nq,be v1,be v2)])=qvc S ++ [Nq]:=by unfold qvc; simp
       have e2:20 * (S ++ [(Nq,be v1,be v2)]).length=20 * S.length+20:=by simp only [List.length_append,List.length_singleton]; omega
       simp only [e1,e2]
       exact h.sub
     · simp only [List.length_append,List.length_singleton]; omega
 · unfold qh.j8
   refine hok si ss LM S w hLM (by omega) (fun NL' O a b=>?_) ht13 h.sub
   have e:=(hSV NL' O a b).1
   obtain ⟨_,e2,_⟩:=hV NL' O a b
   have hl:(qvc O).length=O.length:=List.length_map ..
   have:=congrArg List.length e2
   rw [qsk,hl] at this
   rw [e]
   exact List.take_of_length_le (by omega)
end
end Go.Proofs.YtonmgkkkiejicaaGreat
namespace Go.Proofs.YtonmgkkkiejicaaGreat
open Go Go.Proofs
set_option linter.unusedVariables false
set_option linter.unusedSimpArgs false
attribute [local irreducible] apK cpK mkK br qte mB
def stC (n:ByteArray):List Value:=[.string n]
instance rec_stC:Rec stC 1 where
 len _:=rfl
 pos:=by decide
 sto x v hv:=by
  have hv:v ∈ stC x:=by simpa using hv
  simp [stC] at hv
  rw [hv]; trivial
instance elt_strR:EltR Tryz.prog 9 1 [.string ⟨#[]⟩]:=⟨⟨Tryz.t9,by kernel_rfl,rfl,by decide,by decide⟩,by kernel_rfl,rfl,by decide⟩
def mkN (n:ByteArray):Mk:=(n,⟨none,0,0⟩)
def mkZ:Mk:=(⟨⟨[]⟩⟩,⟨none,0,0⟩)
def nmK (NL:List ByteArray) (i:Nat):List Mk:=(NL.take i).map mkN ++ List.replicate (NL.length - i) mkZ
theorem nmK_len (NL:List ByteArray) {i:Nat} (h:i≤NL.length):(nmK NL i).length=NL.length:=by
 unfold nmK
 rw [List.length_append,List.length_map,List.length_take,List.length_replicate]; omega
theorem nmK_set (NL:List ByteArray) {i:Nat} (h:i < NL.length):(nmK NL i).set i (mkN NL[i])=nmK NL (i+1):=by
 unfold nmK
 have hl:((NL.take i).map mkN).length=i:=by rw [List.length_map,List.length_take]; omega
 have e:NL.length - i=(NL.length - (i+1))+1:=by omega
 rw [List.set_append_right _ _ (by omega),hl,Nat.sub_self,e,List.replicate_succ,List.set_cons_zero,List.take_succ_eq_append_getElem h,List.map_append,List.append_assoc]
 rfl
theorem nmK_end (NL:List ByteArray):nmK NL NL.length=NL.map mkN:=by
 unfold nmK
 rw [List.take_length,Nat.sub_self]
 simp
def lm0 (NL:List ByteArray):List Mp:=NL.map fun n=>(mkN n,[])
theorem lm0_rd (NL:List ByteArray):RdR NL [] (lm0 NL) where
 nm:=by unfold lm0; rw [List.map_map]; exact (List.map_congr_left fun n _=>rfl).trans (List.map_id NL)
 row k h:=by
  have hk:k < NL.length:=by unfold lm0 at h; rw [List.length_map] at h; exact h
  have e:(lm0 NL)[k]=(mkN NL[k],[]):=List.getElem_map ..
  rw [e]
  rfl
 rg s hs:=by cases hs
theorem lm0_fst (NL:List ByteArray):(lm0 NL).map Prod.fst=NL.map mkN:=by unfold lm0; rw [List.map_map]; rfl
theorem St.bagNil (NL:List ByteArray) {F0:List Nat} {w0 w:World} {ps:List As} (h:St F0 w0 w ps):St F0 w0 w (qze ((lm0 NL).map qve) :: ps):=by
 induction NL with
 | nil=>exact h.bag0
 | cons n NL ih =>
   have h2:St F0 w0 w (qp 22 ⟨none,0,0⟩ (([]:List Rw).flatMap rwC) :: qze ((lm0 NL).map qve) :: ps):=ih.nilO
   exact h2.bagIn
section
variable {F0:List Nat} {w0 w:World} {ps rest:List As} {t5 t13 b sp:Sl} {NL:List ByteArray} {Q:VWP} {tb:Nat} {xs:List Int} {y0 y1 y2 y3:Sl × List Int} {K:Ending→World→Prop}
theorem read_6 (h:St F0 w0 w (qt tb [sV sp,.slice none 0 0,.slice none 0 0] :: qp 2 t13 ((NL.map mkN).flatMap mkC) :: ps)) (ht13:t13.len=NL.length) [Rdb F0 w0 t5 ps 1 ([y0,y1,y2,y3].flatMap slF)] (h2:qbd y2.2) (h3:qbd y3.2) (hl2:y2.2.length≤1000000) (hl3:y3.2.length≤1000000) [Rdb F0 w0 y2.1 ps 1 (u8s y2.2)] [Rdb F0 w0 y3.1 ps 1 (u8s y3.2)]
 (hV:∀ NL' O,VM NL' O→xs=mB NL' O→NL'=NL∧y2.2=nB (qvc O)∧y3.2=atB O)
 (hno:∀ w',(∀ NL O,VM NL O→xs ≠ mB NL O)→St F0 w0 w' ps→Q (.tuple ⟨[.pointer none,.slice none 0 0,.bool false]⟩) w')
 (hok:∀ si ss LM S w',RdR NL S LM→S.length≤50000→(∀ NL' O,VM NL' O→xs=mB NL' O→S=O)→t13.len=LM.length→St F0 w0 w' (qt tb [sV sp,sV si,sV ss] :: qp 20 si ((qvc S).flatMap nmC) :: qp 22 ss (S.flatMap spC) :: qp 2 t13 ((LM.map Prod.fst).flatMap mkC) :: qze (LM.map qve) :: ps)→Q (.tuple ⟨[.pointer (some ⟨tb,0,none⟩),sV t13,.bool true]⟩) w') :
 qh.j6 t5 (some ⟨tb,0,none⟩) t13 Q w:=by
 have fin:∀ {w:World} {r1 r2:Nat},St F0 w0 w (brA r2 (y3.2,0,0) :: brA r1 (y2.2,0,0) :: qt tb [sV sp,.slice none 0 0,.slice none 0 0] :: qp 2 t13 ((NL.map mkN).flatMap mkC) :: ps)→qh.j7 (some ⟨tb,0,none⟩) t13 (some ⟨r1,0,none⟩) (some ⟨r2,0,none⟩) Q w:=fun {w r1 r2} h=>by
  have h:=h.bagNil NL
  have h:St F0 w0 w (qt tb [sV sp,.slice none 0 0,.slice none 0 0] :: qp 2 t13 (((lm0 NL).map Prod.fst).flatMap mkC) :: qze ((lm0 NL).map qve) :: brA r1 (y2.2,0,0) :: brA r2 (y3.2,0,0) :: ps):=by
   rw [lm0_fst]
   exact h.sub
  exact read_7 (xs:=xs) h (lm0_rd NL) (by rw [ht13]; unfold lm0; rw [List.length_map]) h2 h3 hl2 hl3 hV hno hok
 have hb:∀ {w':World},St F0 w0 w' (qt tb [sV sp,.slice none 0 0,.slice none 0 0] :: qp 2 t13 ((NL.map mkN).flatMap mkC) :: ps)→St F0 w0 w' ps:=fun h=>h.drop.drop
 unfold qh.j6
 refine h.drewK fun w h=>?_
 refine h.rix (s:=t5) (f:=slF) (L:=[y0,y1,y2,y3]) 2 rfl (by simp) fun a0 ha=>?_
 have hL2:∀ {w':World} {Z:Sl→Prop},Rd w' 1 t5 ([y0,y1,y2,y3].flatMap slF)→Z y2.1→ldL w' (Addr.add a0 (2 * 1)) Z:=fun hr hz=>by
  have:=hr.rL (f:=slF) (L:=[y0,y1,y2,y3]) (v:=y2.1) (j:=2) (o:=0) ha (by simp) (by decide) rfl hz
  simpa [qke] using this
 refine hL2 (h.rdb t5) ?_
 refine h.rix (s:=t5) (f:=slF) (L:=[y0,y1,y2,y3]) 3 rfl (by simp) fun a1 ha1=>?_
 have hL3:∀ {w':World} {Z:Sl→Prop},Rd w' 1 t5 ([y0,y1,y2,y3].flatMap slF)→Z y3.1→ldL w' (Addr.add a1 (3 * 1)) Z:=fun hr hz=>by
  have:=hr.rL (f:=slF) (L:=[y0,y1,y2,y3]) (v:=y3.1) (j:=3) (o:=0) ha1 (by simp) (by decide) rfl hz
  simpa [qke] using this
 refine ⟨?_,?_⟩
 · refine qef.c (s:=y2.1) h h2 (by omega) fun r1 w h=>⟨_,rfl,?_⟩
   refine hL3 (h.rdb t5) ?_
   refine qef.c (s:=y3.1) h h3 (by omega) fun r2 w h=>⟨_,rfl,?_⟩
   exact fin h
 · refine hL3 (h.rdb t5) ?_
   refine qef.c (s:=y2.1) h h2 (by omega) fun r1 w h=>⟨_,rfl,?_⟩
   refine qef.c (s:=y3.1) h h3 (by omega) fun r2 w h=>⟨_,rfl,?_⟩
   exact fin h
theorem read_4 (h:St F0 w0 w (qt tb [sV sp,.slice none 0 0,.slice none 0 0] :: ps)) [Rdb F0 w0 sp ps 1 (NL.flatMap stC)] (hN:NL.length≤1000000) [Rdb F0 w0 t5 ps 1 ([y0,y1,y2,y3].flatMap slF)] (h2:qbd y2.2) (h3:qbd y3.2) (hl2:y2.2.length≤1000000) (hl3:y3.2.length≤1000000) [Rdb F0 w0 y2.1 ps 1 (u8s y2.2)] [Rdb F0 w0 y3.1 ps 1 (u8s y3.2)]
 (hV:∀ NL' O,VM NL' O→xs=mB NL' O→NL'=NL∧y2.2=nB (qvc O)∧y3.2=atB O)
 (hno:∀ w',(∀ NL O,VM NL O→xs ≠ mB NL O)→St F0 w0 w' ps→Q (.tuple ⟨[.pointer none,.slice none 0 0,.bool false]⟩) w')
 (hok:∀ t13 si ss LM S w',RdR NL S LM→S.length≤50000→(∀ NL' O,VM NL' O→xs=mB NL' O→S=O)→t13.len=LM.length→St F0 w0 w' (qt tb [sV sp,sV si,sV ss] :: qp 20 si ((qvc S).flatMap nmC) :: qp 22 ss (S.flatMap spC) :: qp 2 t13 ((LM.map Prod.fst).flatMap mkC) :: qze (LM.map qve) :: ps)→Q (.tuple ⟨[.pointer (some ⟨tb,0,none⟩),sV t13,.bool true]⟩) w') :
 qh.j4 t5 (some ⟨tb,0,none⟩) Q w:=by
 have hsl:=h.drop.rlen (s:=sp) (f:=stC) (L:=NL)
 have hld:∀ {w':World} {qs:List As} {Z:Sl→Prop},St F0 w0 w' (qt tb [sV sp,.slice none 0 0,.slice none 0 0] :: qs)→Z sp→ldL w' (Addr.add ⟨tb,0,none⟩ 0) Z:=fun h hz=>by
  rw [qjb]
  exact h.blk.ldL (n:=sp) rfl hz
 unfold qh.j4
 refine qee (hld h ?_)
 refine h.makeR (f:=mkC) (x0:=mkZ) (n:=NL.length) rfl (by omega) (by omega) hN fun t13 w ht _ h=>?_
 have h:St F0 w0 w (qt tb [sV sp,.slice none 0 0,.slice none 0 0] :: qp 2 t13 ((nmK NL 0).flatMap mkC) :: ps):=h.at1
 unfold qh.j5
 refine qee (hld h ?_)
 unfold qh.j13
 refine loop1 (fun (i:Nat) (i':Int) w'=>i'=(i:Int)∧i≤NL.length∧St F0 w0 w' (qt tb [sV sp,.slice none 0 0,.slice none 0 0] :: qp 2 t13 ((nmK NL i).flatMap mkC) :: ps)) (fun i=>NL.length - i) 0 ⟨rfl,Nat.zero_le _,h⟩ ?_
 clear h
 rintro i _ wL I μ ⟨rfl,hi,h⟩ hin
 unfold qh.b2
 refine qwc (fun g=>?_) (fun g=>?_)
 · have hix:i < NL.length:=by omega
   refine h.rix (s:=sp) (f:=stC) (L:=NL) i rfl hix fun a0 ha=>?_
   have hc:=(h.rdb sp).rcell (f:=stC) (L:=NL) (j:=i) (o:=0) ha hix (by decide)
   refine ⟨NL[i],by simpa [stC,qke] using hc,?_⟩
   have h:St F0 w0 wL (qp 2 t13 ((nmK NL i).flatMap mkC) :: qt tb [sV sp,.slice none 0 0,.slice none 0 0] :: ps):=h.at1
   have hkl:i < (nmK NL i).length:=by rw [nmK_len NL hi]; exact hix
   have hel:(nmK NL i)[i]=mkZ:=by
    have hl:((NL.take i).map mkN).length=i:=by rw [List.length_map,List.length_take]; omega
    have:(nmK NL i)[i]?=some mkZ:=by
     unfold nmK
     rw [List.getElem?_append_right (by omega),hl,Nat.sub_self,List.getElem?_replicate,if_pos (by omega)]
    rw [List.getElem?_eq_getElem hkl] at this
    injection this
   refine h.sF (f:=mkC) (x:=mkN NL[i]) i rfl hkl (by decide) trivial (by rw [hel]; rfl) fun w h=>?_
   rw [nmK_set NL hix] at h
   refine qy (e':=((i+1:Nat):Int)) (by rw [ql (by omega) (by omega)]; rfl) ?_
   exact ⟨⟨rfl,rfl,rfl,rfl,rfl⟩,hin (i+1) _ _ ⟨rfl,by omega,h.at1⟩ (by omega)⟩
 · have:i=NL.length:=by omega
   subst this
   rw [nmK_end] at h
   exact read_6 h ht h2 h3 hl2 hl3 hV hno fun si ss LM S w a b c d h=>hok t13 si ss LM S w a b c d h
end
end Go.Proofs.YtonmgkkkiejicaaGreat
namespace Go.Proofs.YtonmgkkkiejicaaGreat
open Go Go.Proofs
set_option linter.unusedVariables false
set_option linter.unusedSimpArgs false
attribute [local irreducible] apK cpK mkK br qte mB
theorem nm0_len (n:ByteArray):(nm0 n).length=n.size+1:=by
 unfold nm0
 rw [List.length_append,qod]
 rfl
section
variable {F0:List Nat} {w0 w:World} {ps rest:List As} {t5 t13 b sp:Sl} {NL:List ByteArray} {Q:VWP} {tb:Nat} {xs:List Int} {y0 y1 y2 y3:Sl × List Int} {K:Ending→World→Prop} {N:Int} {s:ByteArray}
theorem read_3 (h:St F0 w0 w (qt tb [.slice none 0 0,.slice none 0 0,.slice none 0 0] :: ps)) (hs:s.size≤1000000) [Rdb F0 w0 t5 ps 1 ([y0,y1,y2,y3].flatMap slF)] (h2:qbd y2.2) (h3:qbd y3.2) (hl2:y2.2.length≤1000000) (hl3:y3.2.length≤1000000) [Rdb F0 w0 y2.1 ps 1 (u8s y2.2)] [Rdb F0 w0 y3.1 ps 1 (u8s y3.2)] (hN:0≤N∧N < 4294967296)
 (hV:∀ NL' O,VM NL' O→xs=mB NL' O→N=NL'.length∧biB s=nmsB NL'∧y2.2=nB (qvc O)∧y3.2=atB O)
 (hno:∀ w',(∀ NL O,VM NL O→xs ≠ mB NL O)→St F0 w0 w' ps→Q (.tuple ⟨[.pointer none,.slice none 0 0,.bool false]⟩) w')
 (hok:∀ t13 sp si ss NL LM S w',RdR NL S LM→NL.length≤1000000→(∀ n ∈ NL,n.size≤1000000)→S.length≤50000→(∀ NL' O,VM NL' O→xs=mB NL' O→NL'=NL∧S=O)→t13.len=LM.length→St F0 w0 w' (qt tb [sV sp,sV si,sV ss] :: qp 20 si ((qvc S).flatMap nmC) :: qp 22 ss (S.flatMap spC) :: qp 2 t13 ((LM.map Prod.fst).flatMap mkC) :: qze (LM.map qve) :: qp 1 sp (NL.flatMap stC) :: ps)→Q (.tuple ⟨[.pointer (some ⟨tb,0,none⟩),sV t13,.bool true]⟩) w') :
 qh.j3 t5 (some ⟨tb,0,none⟩) N s Q w:=by
 obtain ⟨n,rfl⟩:∃ n:Nat,N=n:=⟨N.toNat,by omega⟩
 unfold qh.j3 qh.j14
 refine loop2 (fun (a:Nat × List ByteArray × Sl) (r:ByteArray) (i':Int) w'=>i'=(a.1:Int)∧a.1≤n∧a.2.1.length=a.1∧a.1+r.size≤1000000∧(∀ m ∈ a.2.1,m.size≤1000000)∧(∀ NL' O,VM NL' O→xs=mB NL' O→a.2.1=NL'.take a.1∧∃ z,biB r=(NL'.drop a.1).flatMap nm0 ++ z)∧St F0 w0 w' (qt tb [sV a.2.2,.slice none 0 0,.slice none 0 0] :: qp 1 a.2.2 (a.2.1.flatMap stC) :: ps)) (fun a=>n - a.1) (0,[],⟨none,0,0⟩) ⟨rfl,Nat.zero_le _,rfl,by simpa using hs,by simp,fun NL' O a b=>⟨rfl,?_⟩,?_⟩ ?_
 · obtain ⟨_,e,_⟩:=hV NL' O a b
   rw [e]
   exact ⟨_,rfl⟩
 · have h1:St F0 w0 w (qp 1 ⟨none,0,0⟩ (([]:List ByteArray).flatMap stC) :: qt tb [.slice none 0 0,.slice none 0 0,.slice none 0 0] :: ps):=h.nilO
   exact h1.at1
 clear h hs
 rintro ⟨i,P,sp⟩ r _ wL I μ ⟨rfl,hi,hPl,hrs,hPs,hPV,h⟩ hin
 simp only at hi hPl hrs hPs hPV h hin ⊢
 unfold qh.b3
 refine qwc (fun g=>?_) (fun g=>?_)
 · have hix:i < n:=by omega
   have hVi:∀ NL' O,VM NL' O→xs=mB NL' O→∃ hl:i < NL'.length,P=NL'.take i∧∃ z,biB r=biB NL'[i] ++ [0] ++ ((NL'.drop (i+1)).flatMap nm0 ++ z)∧(0:Int) ∉ biB NL'[i]:=fun NL' O a b=>by
    obtain ⟨e1,_⟩:=hV NL' O a b
    have hl:i < NL'.length:=by omega
    obtain ⟨e2,z,e3⟩:=hPV NL' O a b
    refine ⟨hl,e2,z,?_,nmd_no0 (a.nm _ (List.getElem_mem hl))⟩
    rw [e3,List.drop_eq_getElem_cons hl,List.flatMap_cons,List.append_assoc]
    rfl
   refine CutZ.c (s:=r) (by omega) (fun p r2 w _ hb hp0 hm=>⟨_,_,_,rfl,?_⟩) (fun hz=>⟨_,_,_,rfl,?_⟩)
   · have h:=h.skip hm
     have hbl:=congrArg List.length hb
     rw [List.length_append,nm0_len,qod,qod] at hbl
     refine qyd (fun g=>by cases g) (fun _=>qee ?_)
     rw [qjb]
     refine h.blk.ldL (n:=sp) rfl ?_
     refine h.pushR (s:=sp) (f:=stC) (L:=P) (x:=p) (by omega) rfl fun sp' w _ h=>qee ?_
     have h:St F0 w0 w (qt tb [sV sp,.slice none 0 0,.slice none 0 0] :: qp 1 sp' ((P ++ [p]).flatMap stC) :: ps):=h.at1
     rw [qjb]
     refine h.st (by show 0 < 3; decide) trivial fun w h=>?_
     have h:St F0 w0 w (qt tb [sV sp',.slice none 0 0,.slice none 0 0] :: qp 1 sp' ((P ++ [p]).flatMap stC) :: ps):=h
     refine qy (e':=((i+1:Nat):Int)) (by rw [ql (by omega) (by omega)]; rfl) ?_
     refine ⟨⟨rfl,rfl,rfl⟩,hin (i+1,P ++ [p],sp') _ _ _ ⟨rfl,by simp only; omega,by simp only [List.length_append,List.length_singleton]; omega,by simp only; omega,?_,?_,h⟩ (by simp only; omega)⟩
     · intro m hm2
       rcases List.mem_append.1 hm2 with hm2 | hm2
       · exact hPs m hm2
       · have:m=p:=by simpa using hm2
         subst this
         omega
     · intro NL' O a b
       obtain ⟨hl,e1,z,e2,hn0⟩:=hVi NL' O a b
       rw [hb] at e2
       obtain ⟨e3,e4⟩:=nm0_eq hp0 hn0 e2
       have e5:=qqi e3
       refine ⟨?_,z,e4⟩
       simp only
       rw [List.take_succ_eq_append_getElem hl,e1,e5]
   · refine qyd (fun _=>hno _ (fun NL' O a b=>?_) h.drop.drop) (fun g=>by cases g)
     obtain ⟨_,_,z,e2,_⟩:=hVi NL' O a b
     rw [e2] at hz
     exact hz (by simp)
 · have:i=n:=by omega
   subst this
   refine read_4 (xs:=xs) (NL:=P) (y0:=y0) (y1:=y1) (y2:=y2) (y3:=y3) h (by omega) h2 h3 hl2 hl3 (fun NL' O a b=>?_) (fun w hz h=>hno w hz h.drop) fun t13 si ss LM S w q1 q2 q3 q4 h=>hok t13 sp si ss P LM S w q1 (by omega) hPs q2 (fun NL' O a b=>⟨?_,q3 NL' O a b⟩) q4 h
   · obtain ⟨e1,_,e2,e3⟩:=hV NL' O a b
     obtain ⟨e4,_⟩:=hPV NL' O a b
     refine ⟨?_,e2,e3⟩
     rw [e4,List.take_of_length_le (by omega)]
   · obtain ⟨e1,_,e2,e3⟩:=hV NL' O a b
     obtain ⟨e4,_⟩:=hPV NL' O a b
     rw [e4,List.take_of_length_le (by omega)]
theorem mread.c (h:St F0 w0 w ps) [Rdb F0 w0 b ps 1 (u8s xs)] (hc:b.len≤b.cap) (hB:qbd xs) (hx1:32≤xs.length) (hx2:xs.length≤1000000)
 (hno:∀ w',(∀ NL O,VM NL O→xs ≠ mB NL O)→St F0 w0 w' ps→K (.returned (.tuple ⟨[.pointer none,.slice none 0 0,.bool false]⟩)) w')
 (hok:∀ tb t13 sp si ss NL LM S w',RdR NL S LM→NL.length≤1000000→(∀ n ∈ NL,n.size≤1000000)→S.length≤50000→(∀ NL' O,VM NL' O→xs=mB NL' O→NL'=NL∧S=O)→t13.len=LM.length→St F0 w0 w' (qt tb [sV sp,sV si,sV ss] :: qp 20 si ((qvc S).flatMap nmC) :: qp 22 ss (S.flatMap spC) :: qp 2 t13 ((LM.map Prod.fst).flatMap mkC) :: qze (LM.map qve) :: qp 1 sp (NL.flatMap stC) :: ps)→K (.returned (.tuple ⟨[.pointer (some ⟨tb,0,none⟩),sV t13,.bool true]⟩)) w') :
 Calls Tryz.prog 31 ⟨[sV b]⟩ w K:=by
 have hbl:=(h.rdb b).1
 rw [qeb,Nat.mul_one] at hbl
 refine qmb (qh.ok _ _ _ ?_)
 unfold qh
 refine cut.c h hc hB hx1 hx2 (fun w hz h=>⟨⟨none,0,0⟩,_,rfl,?_⟩) (fun t LL w hl hLL hLV h=>⟨t,_,rfl,?_⟩)
 · unfold qh.j1
   exact qyd (fun _=>hno w hz h) (fun g=>by cases g)
 · unfold qh.j1
   refine qyd (fun g=>by cases g) (fun _=>?_)
   obtain ⟨y0,y1,y2,y3,rfl⟩:∃ y0 y1 y2 y3,LL=[y0,y1,y2,y3]:=by
    match LL,hl with
    | [a,b,c,d],_=>exact ⟨a,b,c,d,rfl⟩
   obtain ⟨a0,l0,c0,r0⟩:=hLL y0 (by simp)
   obtain ⟨a2,l2,c2,r2⟩:=hLL y2 (by simp)
   obtain ⟨a3,l3,c3,r3⟩:=hLL y3 (by simp)
   refine h.new fun tb w h=>?_
   have h:St F0 w0 w (qt tb [.slice none 0 0,.slice none 0 0,.slice none 0 0] :: qp 1 t ([y0,y1,y2,y3].flatMap slF) :: ps):=h
   unfold qh.j2
   refine qxk (n:=8) rfl (by omega) (qvd ?_)
   haveI i1:Rdb F0 w0 ⟨qme b.a b.cap 8 1,b.len - 8,b.cap - 8⟩ (qt tb [.slice none 0 0,.slice none 0 0,.slice none 0 0] :: qp 1 t ([y0,y1,y2,y3].flatMap slF) :: ps) 1 (u8s (xs.drop 8)):=h.cutR b 8 b.len (b.cap - 8) (Nat.le_refl _) (by omega) hc (List.take_of_length_le (by rw [List.length_drop]; omega))
   have hRB:qbd (xs.drop 8):=fun x hx=>hB x (List.mem_of_mem_drop hx)
   refine qef.c (s:=⟨qme b.a b.cap 8 1,b.len - 8,b.cap - 8⟩) h hRB (by rw [List.length_drop]; omega) fun rb w h=>⟨_,rfl,?_⟩
   refine qqc.c (rb:=rb) h hRB fun w h=>⟨_,rfl,?_⟩
   have h:=h.drop
   have u1:=u32_rg hRB 0 0
   rw [nu4 hRB]
   have t4:tkS (xs.drop 8) 0 0 4=(((xs.drop 8).drop 0).take 4,0+4,0):=tk_in (n:=4) (by rw [List.length_drop]; omega)
   rw [t4] at u1 ⊢
   rw [List.drop_zero] at u1 ⊢
   refine h.rix (s:=t) (f:=slF) (L:=[y0,y1,y2,y3]) 0 rfl (by simp) fun q0 hq=>?_
   have hL0:∀ {Z:Sl→Prop},Z y0.1→ldL w (Addr.add q0 (0 * 1)) Z:=fun hz=>by
    have:=(h.rdb t).rL (f:=slF) (L:=[y0,y1,y2,y3]) (v:=y0.1) (j:=0) (o:=0) hq (by simp) (by decide) rfl hz
    simpa [qke] using this
   refine hL0 ?_
   refine (h.drop.drop.rdb y0.1).btS a0 ?_
   have hsz:ByteArray.size ⟨⟨u8 y0.2⟩⟩=y0.2.length:=by
    have:=qod ⟨⟨u8 y0.2⟩⟩
    rw [qdk a0] at this
    exact this.symm
   refine read_3 (xs:=xs) (y0:=y0) (y1:=y1) (y2:=y2) (y3:=y3) h (by omega) a2 a3 (by omega) (by omega) u1 (fun NL' O a b=>?_) (fun w hz h=>hno w hz h.drop) fun t13 sp si ss NL LM S w q1 q2 q3 q4 q5 q6 h=>hok tb t13 sp si ss NL LM S w q1 q2 q3 q4 q5 q6 h.sub
   have e:=hLV NL' O a b
   have e0:y0.2=nmsB NL':=by have:=congrArg (fun l=>l.getD 0 []) e; exact this
   have e2:y2.2=nB (qvc O):=by have:=congrArg (fun l=>l.getD 2 []) e; exact this
   have e3:y3.2=atB O:=by have:=congrArg (fun l=>l.getD 3 []) e; exact this
   refine ⟨?_,?_,e2,e3⟩
   · have hn:=endM_n (n:=NL'.length) (l:=mdL NL' O)
     have e:endM NL'.length (mdL NL' O)=xs:=by rw [b]; unfold mB; rfl
     rw [e] at hn
     rw [hn]
     have:=a.ln
     exact be_4 (by omega)
   · rw [qdk a0,e0]
end
end Go.Proofs.YtonmgkkkiejicaaGreat
namespace Go.Proofs.YtonmgkkkiejicaaGreat
open Go Go.Proofs
set_option linter.unusedVariables false
set_option linter.unusedSimpArgs false
attribute [local irreducible] qte mB
theorem qaf {rw:Mk→List Rw} {L:List Mk} {o:Sp}:o ∈ qmg rw L ↔ ∃ k,∃ h:k < L.length,∃ r ∈ rw L[k],o=spR k r:=by
 unfold qmg
 rw [List.mem_flatMap]
 constructor
 · rintro ⟨⟨m,k⟩,hm,ho⟩
   obtain ⟨r,hr,rfl⟩:=List.mem_map.1 ho
   have:=List.mem_zipIdx hm
   simp only [Nat.zero_add,Nat.sub_zero] at this
   obtain ⟨_,h2,h3⟩:=this
   exact ⟨k,h2,r,by rw [← h3]; exact hr,rfl⟩
 · rintro ⟨k,h,r,hr,rfl⟩
   refine ⟨(L[k],k),?_,List.mem_map.2 ⟨r,hr,rfl⟩⟩
   rw [List.mem_zipIdx_iff_getElem?]
   exact List.getElem?_eq_getElem h
section
variable {rw:Mk→List Rw} {L:List Mk} {O:List Sp}
theorem notBad (h:¬ badM rw L) {i:Nat} (hi:i < L.length):nmdB L[i].1=true∧(∀ h0:0 < i,L[i - 1].1 ≠ L[i].1)∧¬ badR (rw L[i]):=by
 refine ⟨?_,fun h0 e=>h ⟨i,hi,Or.inr (Or.inl ⟨h0,e⟩)⟩,fun e=>h ⟨i,hi,Or.inr (Or.inr e)⟩⟩
 cases e:nmdB L[i].1 with
 | true=>rfl
 | false=>exact absurd ⟨i,hi,Or.inl e⟩ h
theorem strict_of (h:¬ badM rw L) (hs:L.Pairwise fun x y=>ltB y.1 x.1=false):L.Pairwise fun x y=>ltB x.1 y.1=true:=by
 have adj:∀ i (hi:i+1 < L.length),ltB L[i].1 L[i+1].1=true:=fun i hi=>by
  have h1:=(notBad h hi).2.1 (by omega)
  have h2:=List.pairwise_iff_getElem.1 hs i (i+1) (by omega) hi (by omega)
  cases e:ltB L[i].1 L[i+1].1 with
  | true=>rfl
  | false=>exact absurd (qsg e h2) h1
 rw [List.pairwise_iff_getElem]
 intro i j hi hj hij
 obtain ⟨d,rfl⟩:∃ d,j=i+1+d:=⟨j - i - 1,by omega⟩
 clear hij
 induction d with
 | zero=>exact adj i hj
 | succ d ih=>exact qcf (ih (by omega)) (adj (i+1+d) (by omega))
theorem VM_build (h:¬ badM rw L) (hs:L.Pairwise fun x y=>ltB y.1 x.1=false) (hl:L.length≤64) (hO:MgO (qmg rw L) O) (hO2:O.length≤2048):VM (L.map (·.1)) O where
 nm n hn:=by
  obtain ⟨m,hm,rfl⟩:=List.mem_map.1 hn
  obtain ⟨i,hi,rfl⟩:=List.getElem_of_mem hm
  exact (notBad h hi).1
 so:=by
  rw [List.pairwise_map]
  exact strict_of h hs
 ln:=by rw [List.length_map]; exact hl
 ris:=hO.1
 ol:=hO2
 rg o ho:=by
  obtain ⟨k,hk,r,hr,rfl⟩:=qaf.1 (hO.2.1 o ho)
  have:=(notBad h hk).2.2
  have h1:¬ (r.2.2 < 0 ∨ 2147483647 < r.2.2):=fun e=>this (Or.inl ⟨r,hr,e⟩)
  rw [List.length_map]
  show (0≤(k:Int)∧(k:Int) < _)∧0≤r.2.2∧r.2.2≤2147483647
  omega
theorem ris_nodup {O:List Sp} (h:O.Pairwise fun x y=>ltI x.1.1 y.1.1=true):(O.map (·.1)).Nodup:=by
 unfold List.Nodup
 rw [List.pairwise_map]
 refine h.imp fun {a b} hab e=>?_
 rw [e,qhd] at hab
 cases hab
theorem ris_id {O:List Sp} (h:O.Pairwise fun x y=>ltI x.1.1 y.1.1=true) {a b:Sp} (ha:a ∈ O) (hb:b ∈ O) (e:a.1=b.1):a=b:=by
 obtain ⟨i,hi,rfl⟩:=List.getElem_of_mem ha
 obtain ⟨j,hj,rfl⟩:=List.getElem_of_mem hb
 rcases Nat.lt_trichotomy i j with g | g | g
 · have:=List.pairwise_iff_getElem.1 h i j hi hj g
   rw [e,qhd] at this; cases this
 · subst g; rfl
 · have:=List.pairwise_iff_getElem.1 h j i hj hi g
   rw [e,qhd] at this; cases this
theorem ris_eq {O O':List Sp} (h:O.Pairwise fun x y=>ltI x.1.1 y.1.1=true) (h':O'.Pairwise fun x y=>ltI x.1.1 y.1.1=true) (hm:∀ x,x ∈ O ↔ x ∈ O'):O=O':=by
 have n1:O.Nodup:=by
  exact h.imp fun {a b} hab e=>by rw [e,qhd] at hab; cases hab
 have n2:O'.Nodup:=by
  exact h'.imp fun {a b} hab e=>by rw [e,qhd] at hab; cases hab
 have hp:=(List.perm_ext_iff_of_nodup n1 n2).2 hm
 refine hp.eq_of_pairwise (le:=fun x y=>ltI x.1.1 y.1.1=true) (fun a b _ _ h1 h2=>?_) h h'
 have:=qtj h1
 rw [h2] at this
 cases this
theorem sort_strict (hs:L.Pairwise fun x y=>ltB x.1 y.1=true):qgc L=L:=by
 have hs2:L.Pairwise fun x y=>ltB y.1 x.1=false:=hs.imp fun {a b} h=>by
  cases e:ltB b.1 a.1 with
  | false=>rfl
  | true =>
    have:=qcf h e
    rw [qrc] at this
    cases this
 refine (qec L).eq_of_pairwise (le:=fun x y=>ltB y.1 x.1=false) (fun a b ha hb h1 h2=>?_) (qbg L) hs2
 have hn:=qsg h2 h1
 have ha:=(qec L).mem_iff.1 ha
 obtain ⟨i,hi,rfl⟩:=List.getElem_of_mem ha
 obtain ⟨j,hj,rfl⟩:=List.getElem_of_mem hb
 rcases Nat.lt_trichotomy i j with g | g | g
 · have:=List.pairwise_iff_getElem.1 hs i j hi hj g
   rw [hn,qrc] at this; cases this
 · subst g; rfl
 · have:=List.pairwise_iff_getElem.1 hs j i hj hi g
   rw [hn,qrc] at this; cases this
end
section
variable {rw:Mk→List Rw} {NL:List ByteArray} {O:List Sp} {LM:List Mp}
theorem back_1 (hV:VM NL O) (hR:RdR NL O LM) (hrw:∀ x ∈ LM,rw x.1=x.2):qgc (LM.map Prod.fst)=LM.map Prod.fst∧¬ badM rw (LM.map Prod.fst)∧(∀ o,o ∈ qmg rw (LM.map Prod.fst) ↔ o ∈ O):=by
 have hnm:(LM.map Prod.fst).map (·.1)=NL:=by rw [List.map_map]; exact hR.nm
 have hst:(LM.map Prod.fst).Pairwise fun x y=>ltB x.1 y.1=true:=by
  have:=hV.so
  rw [← hnm,List.pairwise_map] at this
  exact this
 have hrk:∀ k (h:k < LM.length),rw ((LM.map Prod.fst)[k]'(by rw [List.length_map]; exact h))=(O.filter fun s=>decide (s.2.1=(k:Int))).map rwX:=fun k h=>by
  rw [List.getElem_map,hrw _ (List.getElem_mem h),hR.row k h]
 refine ⟨sort_strict hst,?_,fun o=>?_⟩
 · rintro ⟨i,hi,h⟩
   have hi2:i < LM.length:=by rw [List.length_map] at hi; exact hi
   rcases h with h | ⟨h0,h⟩ | h
   · have:(LM.map Prod.fst)[i].1 ∈ NL:=by
      rw [← hnm]
      exact List.mem_map.2 ⟨_,List.getElem_mem hi,rfl⟩
     rw [hV.nm _ this] at h
     cases h
   · have:=List.pairwise_iff_getElem.1 hst (i - 1) i (by omega) hi (by omega)
     rw [h,qrc] at this
     cases this
   · rw [hrk i hi2] at h
     rcases h with ⟨r,hr,h⟩ | h
     · obtain ⟨s,hs,rfl⟩:=List.mem_map.1 hr
       have:=(hV.rg s (List.mem_filter.1 hs).1).2
       have h:s.2.2 < 0 ∨ 2147483647 < s.2.2:=h
       omega
     · refine h ?_
       rw [List.map_map]
       have hn:=ris_nodup hV.ris
       have e:(O.filter fun s=>decide (s.2.1=(i:Int))).map ((·.1) ∘ rwX)=(O.filter fun s=>decide (s.2.1=(i:Int))).map (·.1):=rfl
       rw [e]
       exact hn.sublist (List.filter_sublist.map _)
 · rw [qaf]
   constructor
   · rintro ⟨k,hk,r,hr,rfl⟩
     have hk2:k < LM.length:=by rw [List.length_map] at hk; exact hk
     rw [hrk k hk2] at hr
     obtain ⟨s,hs,rfl⟩:=List.mem_map.1 hr
     obtain ⟨h1,h2⟩:=List.mem_filter.1 hs
     have h2:s.2.1=(k:Int):=by simpa using h2
     have e:spR k (rwX s)=s:=by
      unfold spR rwX
      rw [← h2]
     rw [e]
     exact h1
   · intro ho
     have h:=(hR.rg o ho).1
     obtain ⟨k,hk⟩:∃ k:Nat,o.2.1=k:=⟨o.2.1.toNat,by omega⟩
     have hk2:k < LM.length:=by omega
     refine ⟨k,by rw [List.length_map]; exact hk2,rwX o,?_,?_⟩
     · rw [hrk k hk2]
       exact List.mem_map.2 ⟨o,List.mem_filter.2 ⟨ho,by simpa using hk⟩,rfl⟩
     · unfold spR rwX
       rw [← hk]
theorem back_2 (hV:VM NL O) {L:List Mk} (hm:∀ o,o ∈ qmg rw L ↔ o ∈ O) {O':List Sp} (hO:MgO (qmg rw L) O'):O'=O:=by
 refine ris_eq hO.1 hV.ris fun x=>⟨fun h=>(hm x).1 (hO.2.1 x h),fun h=>?_⟩
 obtain ⟨o,ho,e,_⟩:=hO.2.2 x ((hm x).2 h)
 have:o=x:=ris_id hV.ris ((hm o).1 (hO.2.1 o ho)) h e
 rw [← this]
 exact ho
theorem one_count (a:Int) (n:Nat):((List.range n).map fun k:Nat=>if a=(k:Int) then 1 else 0).sum≤1∧(((List.range n).map fun k:Nat=>if a=(k:Int) then 1 else 0).sum=1→a < n):=by
 induction n with
 | zero=>simp
 | succ n ih =>
   rw [List.range_succ,List.map_append,List.sum_append]
   simp only [List.map_cons,List.map_nil,List.sum_cons,List.sum_nil]
   split <;> omega
theorem rows_sum (S:List Sp) (n:Nat):((List.range n).map fun k:Nat=>(S.filter fun s=>decide (s.2.1=(k:Int))).length).sum≤S.length:=by
 induction S with
 | nil =>
   generalize List.range n=R
   induction R with
   | nil=>exact Nat.le_refl _
   | cons k R ih=>simpa using ih
 | cons s S ih =>
   have e:((List.range n).map fun k:Nat=>((s :: S).filter fun s=>decide (s.2.1=(k:Int))).length).sum=((List.range n).map fun k:Nat=>if s.2.1=(k:Int) then 1 else 0).sum+((List.range n).map fun k:Nat=>(S.filter fun s=>decide (s.2.1=(k:Int))).length).sum:=by
    generalize List.range n=R
    induction R with
    | nil=>rfl
    | cons k R ihR =>
      simp only [List.map_cons,List.sum_cons]
      rw [ihR,List.filter_cons]
      split
      · rename_i h
        have h:s.2.1=(k:Int):=by simpa using h
        rw [if_pos h,List.length_cons]
        omega
      · rename_i h
        have h:¬ s.2.1=(k:Int):=by simpa using h
        rw [if_neg h]
        omega
   rw [e,List.length_cons]
   have:=(one_count s.2.1 n).1
   omega
theorem RdR.sum {S:List Sp} (hR:RdR NL S LM):(LM.map fun x=>x.2.length).sum≤S.length:=by
 have e:(LM.map fun x=>x.2.length)=(List.range LM.length).map fun k:Nat=>(S.filter fun s=>decide (s.2.1=(k:Int))).length:=by
  refine List.ext_getElem (by simp) fun j h1 h2=>?_
  have hj:j < LM.length:=by rw [List.length_map] at h1; exact h1
  rw [List.getElem_map,List.getElem_map,List.getElem_range,hR.row j hj,List.length_map]
 rw [e]
 exact rows_sum S _
end
end Go.Proofs.YtonmgkkkiejicaaGreat
namespace Go.Proofs.YtonmgkkkiejicaaGreat
open Go Go.Proofs
set_option linter.unusedVariables false
set_option linter.unusedSimpArgs false
attribute [local irreducible] apK cpK mkK br qte mB
open Classical in
noncomputable def errM (xs:List Int):Int:=if 262144 < xs.length then 5 else if xs.length < 20 then 3 else if ¬ xs.length < 32∧xs.take 8=markM then (if qte (xs.take (xs.length - 20))=xs.drop (xs.length - 20) then 2 else 4) else 2
section
variable {NL:List ByteArray} {O:List Sp} {xs:List Int}
theorem mB_end (NL:List ByteArray) (O:List Sp):mB NL O=endM NL.length (mdL NL O):=by unfold mB; rfl
theorem mB_sum (b:xs=mB NL O):qte (xs.take (xs.length - 20))=xs.drop (xs.length - 20):=by
 rw [b,mB_end]
 unfold endM
 generalize preM NL.length (mdL NL O)=X
 have hl:=qbf X
 rw [List.length_append,hl,Nat.add_sub_cancel,List.take_left' rfl,List.drop_left' rfl]
theorem mB_len (b:xs=mB NL O):92≤xs.length:=by
 rw [b,mB_end,qai]
 omega
theorem mB_mark (b:xs=mB NL O):xs.take 8=markM:=by rw [b,mB_end,endM_mark]
end
theorem rwC_inj1 {a b:Rw} (h:rwC a=rwC b):a=b:=by
 unfold rwC at h
 have hl:(ivs .u8 a.1.1).length=(ivs .u8 b.1.1).length:=by rw [qo,qo,a.1.2.1,b.1.2.1]
 obtain ⟨h1,h2⟩:=List.append_inj h hl
 have e1:a.1=b.1:=Nm.ext' (ivs_inj h1)
 simp only [List.cons.injEq,Value.int.injEq,true_and,and_true] at h2
 obtain ⟨a1,a2,a3⟩:=a
 obtain ⟨b1,b2,b3⟩:=b
 simp only at e1 h2
 rw [e1,h2.1,h2.2]
theorem rwC_inj:∀ {L M:List Rw},L.flatMap rwC=M.flatMap rwC→L=M:=by
 intro L
 induction L with
 | nil =>
   intro M h
   cases M with
   | nil=>rfl
   | cons b M =>
     have:=congrArg List.length h
     rw [List.flatMap_nil,List.flatMap_cons,List.length_append,qsc] at this
     simp only [List.length_nil] at this
     omega
 | cons a L ih =>
   intro M h
   cases M with
   | nil =>
     have:=congrArg List.length h
     rw [List.flatMap_nil,List.flatMap_cons,List.length_append,qsc] at this
     simp only [List.length_nil] at this
     omega
   | cons b M =>
     rw [List.flatMap_cons,List.flatMap_cons] at h
     obtain ⟨h1,h2⟩:=List.append_inj h (by rw [qsc,qsc])
     rw [rwC_inj1 h1,ih h2]
theorem bagM_rd {F0:List Nat} {w0:World} {LM:List Mp} {ps:List As} {x:Mp} (hx:x ∈ LM):Rdb F0 w0 x.1.2 (qze (LM.map qve) :: ps) 22 (x.2.flatMap rwC):=⟨fun h=>by
 obtain ⟨k,hk,rfl⟩:=List.getElem_of_mem hx
 have h2:St F0 w0 _ (qp 22 LM[k].1.2 (LM[k].2.flatMap rwC) :: _):=h.bagSet hk
 exact h2.rdb LM[k].1.2⟩
section
variable {F0:List Nat} {w0 w:World} {ps rest:List As} {b s t:Sl} {xs ys:List Int} {LM:List Mp} {K:Ending→World→Prop}
open Classical in
theorem St.rwX (h:St F0 w0 w ps) (hP:∀ x ∈ LM,Rdb F0 w0 x.1.2 ps 22 (x.2.flatMap rwC)):∃ rw:Mk→List Rw,∀ x ∈ LM,rw x.1=x.2:=by
 refine ⟨fun n=>if hn:∃ x ∈ LM,x.1=n then hn.choose.2 else [],fun x hx=>?_⟩
 have hn:∃ y ∈ LM,y.1=x.1:=⟨x,hx,rfl⟩
 show (if hn:∃ y ∈ LM,y.1=x.1 then hn.choose.2 else [])=_
 rw [dif_pos hn]
 obtain ⟨h1,h2⟩:=hn.choose_spec
 generalize hn.choose=y at h1 h2
 haveI:=hP y h1
 haveI:=hP x hx
 have r1:=h.rdb y.1.2
 have r2:=h.rdb x.1.2
 rw [h2] at r1
 exact rwC_inj (rd_one r1 r2)
theorem prefix8.c (hx:xs.length=12) (hB:qbd xs) (hk:K (.returned (.bool (xs.take 8 == markM))) w):Calls Tryz.prog 30 ⟨[.string ⟨⟨u8 xs⟩⟩,.string { data:=#[77,73,68,88,1,1,4,0] }]⟩ w K:=by
 refine qmb (qqd.ok _ _ _ _ ?_)
 unfold qqd
 have hsz:ByteArray.size ⟨⟨u8 xs⟩⟩=12:=by
  show (u8 xs).length=12
  simp [u8,hx]
 have e2:({ data:=#[77,73,68,88,1,1,4,0] }:ByteArray)=⟨⟨u8 markM⟩⟩:=by kernel_rfl
 have e:begB ⟨⟨u8 xs⟩⟩ { data:=#[77,73,68,88,1,1,4,0] }=(xs.take 8 == markM):=by
  have e1:ByteArray.extract ⟨⟨u8 xs⟩⟩ 0 8=⟨⟨u8 (xs.take 8)⟩⟩:=by
   refine qqi ?_
   rw [qff,qdk hB,qdk (fun x hx=>hB x (List.mem_of_mem_take hx)),List.drop_zero]
  unfold begB
  have hp:ByteArray.size { data:=#[77,73,68,88,1,1,4,0] }=8:=rfl
  rw [hp,hsz,e1,e2,u8_beq (fun x hx=>hB x (List.mem_of_mem_take hx)) (by intro x hx; simp [markM] at hx; omega)]
  rfl
 refine HasPrefix.c ⟨_,rfl,?_⟩
 rw [e]
 exact hk
theorem MOpen_2 (h:St F0 w0 w ps) [Rdb F0 w0 b ps 1 (u8s xs)] (hc:b.len≤b.cap) (hB:qbd xs) (hx1:32≤xs.length) (hx2:xs.length≤262144)
 (hno:∀ w',(∀ NL O,VM NL O→xs ≠ mB NL O)→St F0 w0 w' ps→K (.returned (.tuple ⟨[.pointer none,.int .i64 2]⟩)) w')
 (hok:∀ tb sp si ss NL O w',VM NL O→xs=mB NL O→(∀ NL' O',VM NL' O'→xs=mB NL' O'→NL'=NL∧O'=O)→St F0 w0 w' (qt tb [sV sp,sV si,sV ss] :: qp 1 sp (NL.flatMap stC) :: qp 20 si ((qvc O).flatMap nmC) :: qp 22 ss (O.flatMap spC) :: ps)→K (.returned (.tuple ⟨[.pointer (some ⟨tb,0,none⟩),.int .i64 0]⟩)) w') :
 qib.j2 b (fun v w'=>K (.returned v) w') w:=by
 unfold qib.j2
 refine mread.c (b:=b) h hc hB hx1 (by omega) (fun w hz h=>⟨none,⟨none,0,0⟩,false,rfl,?_⟩) (fun tb t13 sp si ss NL LM S w hR hNL hns hS hV ht h=>⟨some ⟨tb,0,none⟩,t13,true,rfl,?_⟩)
 · exact qyd (fun _=>hno w hz h) (fun g=>by cases g)
 refine qyd (fun g=>by cases g) (fun _=>?_)
 have h:St F0 w0 w (qp 2 t13 ((LM.map Prod.fst).flatMap mkC) :: qze (LM.map qve) :: qt tb [sV sp,sV si,sV ss] :: qp 1 sp (NL.flatMap stC) :: qp 20 si ((qvc S).flatMap nmC) :: qp 22 ss (S.flatMap spC) :: ps):=h.sub
 have hP0:∀ x ∈ LM,Rdb F0 w0 x.1.2 (qp 2 t13 ((LM.map Prod.fst).flatMap mkC) :: qze (LM.map qve) :: qt tb [sV sp,sV si,sV ss] :: qp 1 sp (NL.flatMap stC) :: qp 20 si ((qvc S).flatMap nmC) :: qp 22 ss (S.flatMap spC) :: ps) 22 (x.2.flatMap rwC):=fun x hx=>by
  haveI:=bagM_rd (F0:=F0) (w0:=w0) (ps:=qt tb [sV sp,sV si,sV ss] :: qp 1 sp (NL.flatMap stC) :: qp 20 si ((qvc S).flatMap nmC) :: qp 22 ss (S.flatMap spC) :: ps) hx
  exact inferInstance
 obtain ⟨rw,hrw⟩:=h.rwX hP0
 have hLl:LM.length=NL.length:=by rw [← hR.nm,List.length_map]
 have hPm:∀ m ∈ LM.map Prod.fst,Rdb F0 w0 m.2 (qp 2 t13 ((LM.map Prod.fst).flatMap mkC) :: qze (LM.map qve) :: qt tb [sV sp,sV si,sV ss] :: qp 1 sp (NL.flatMap stC) :: qp 20 si ((qvc S).flatMap nmC) :: qp 22 ss (S.flatMap spC) :: ps) 22 ((rw m).flatMap rwC):=fun m hm=>by
  obtain ⟨x,hx,rfl⟩:=List.mem_map.1 hm
  rw [hrw x hx]
  exact hP0 x hx
 have hnm:∀ m ∈ LM.map Prod.fst,m.1.size≤1000000000:=fun m hm=>by
  obtain ⟨x,hx,rfl⟩:=List.mem_map.1 hm
  have:x.1.1 ∈ NL:=by rw [← hR.nm]; exact List.mem_map.2 ⟨x,hx,rfl⟩
  have:=hns _ this
  omega
 have hsum:((LM.map Prod.fst).map fun m=>(rw m).length).sum≤900000000:=by
  have e:((LM.map Prod.fst).map fun m=>(rw m).length)=LM.map fun x=>x.2.length:=by
   rw [List.map_map]
   exact List.map_congr_left fun x hx=>by show (rw x.1).length=_; rw [hrw x hx]
  rw [e]
  have:=hR.sum
  omega
 haveI:Rdb F0 w0 t13 (qp 2 t13 ((LM.map Prod.fst).flatMap mkC) :: qze (LM.map qve) :: qt tb [sV sp,sV si,sV ss] :: qp 1 sp (NL.flatMap stC) :: qp 20 si ((qvc S).flatMap nmC) :: qp 22 ss (S.flatMap spC) :: ps) 2 (mks (LM.map Prod.fst)):=(inferInstance:Rdb F0 w0 t13 _ 2 ((LM.map Prod.fst).flatMap mkC))
 have hVb:∀ NL' O,VM NL' O→xs=mB NL' O→qgc (LM.map Prod.fst)=LM.map Prod.fst∧¬ badM rw (LM.map Prod.fst)∧(∀ o,o ∈ qmg rw (LM.map Prod.fst) ↔ o ∈ O)∧(LM.map Prod.fst).map (·.1)=NL'∧LM.length≤64:=fun NL' O a b=>by
  obtain ⟨e1,e2⟩:=hV NL' O a b
  subst e1 e2
  obtain ⟨q1,q2,q3⟩:=back_1 a hR hrw
  exact ⟨q1,q2,q3,by rw [List.map_map]; exact hR.nm,by have:=a.ln; omega⟩
 refine MBuild.c (s:=t13) (L:=LM.map Prod.fst) (rw:=rw) h (by rw [List.length_map]; omega) hnm hsum hPm (fun w hb h=>⟨⟨none,0,0⟩,1,rfl,?_⟩) (fun w hb h5 h=>⟨⟨none,0,0⟩,5,rfl,?_⟩) (fun O t w hb hl hO hO2 ht h=>⟨t,0,rfl,?_⟩)
 · refine qyd (fun _=>hno w (fun NL' O a b=>?_) h.sub) (fun g=>by cases g)
   obtain ⟨q1,q2,_⟩:=hVb NL' O a b
   rw [q1] at hb
   exact q2 hb
 · refine qyd (fun _=>hno w (fun NL' O a b=>?_) h.sub) (fun g=>by cases g)
   obtain ⟨q1,q2,q3,q4,q5⟩:=hVb NL' O a b
   rcases h5 with h5 | ⟨O',hO',h5⟩
   · rw [List.length_map] at h5; omega
   · rw [q1] at hO'
     rw [back_2 a q3 hO'] at h5
     have:=a.ol
     omega
 refine qyd (fun g=>by cases g) (fun _=>?_)
 have hVM:=VM_build hb (qbg _) (by rw [(qec _).length_eq]; exact hl) hO hO2
 generalize hNs:(qgc (LM.map Prod.fst)).map (fun m:Mk=>m.1)=Ns at h ht hVM
 refine qne.c (s:=t) (t:=b) (xs:=mB Ns O) (ys:=xs) h hVM.ok hB ⟨_,rfl,?_⟩
 refine qyd (fun g2=>?_) (fun g2=>?_)
 · have g2:¬ mB Ns O=xs:=by simpa using g2
   refine hno w (fun NL' O' a b=>g2 ?_) (h.drop.sub)
   obtain ⟨q1,q2,q3,q4,q5⟩:=hVb NL' O' a b
   rw [q1] at hO hNs
   rw [q4] at hNs
   rw [back_2 a q3 hO,← hNs]
   exact b.symm
 · have g2:mB Ns O=xs:=by simpa using g2
   obtain ⟨e1,e2⟩:=hV _ _ hVM g2.symm
   have h2:=h.drop
   rw [e1] at hVM g2
   subst e2
   exact hok tb sp si ss NL S w hVM g2.symm (fun NL' O' a b=>⟨(hV NL' O' a b).1,(hV NL' O' a b).2.symm⟩) h2.sub
theorem MOpen.c (h:St F0 w0 w ps) [Rdb F0 w0 b ps 1 (u8s xs)] (hc:b.len≤b.cap) (hB:qbd xs)
 (hkE:∀ w',(¬ xs.length≤262144 ∨ ∀ NL O,VM NL O→xs ≠ mB NL O)→St F0 w0 w' ps→K (.returned (.tuple ⟨[.pointer none,.int .i64 (errM xs)]⟩)) w')
 (hok:∀ tb sp si ss NL O w',VM NL O→xs=mB NL O→(∀ NL' O',VM NL' O'→xs=mB NL' O'→NL'=NL∧O'=O)→St F0 w0 w' (qt tb [sV sp,sV si,sV ss] :: qp 1 sp (NL.flatMap stC) :: qp 20 si ((qvc O).flatMap nmC) :: qp 22 ss (O.flatMap spC) :: ps)→K (.returned (.tuple ⟨[.pointer (some ⟨tb,0,none⟩),.int .i64 0]⟩)) w') :
 Calls Tryz.prog 11 ⟨[sV b]⟩ w K:=by
 have hbl:=(h.rdb b).1
 rw [qeb,Nat.mul_one] at hbl
 refine qmb (qib.ok _ _ _ ?_)
 unfold qib qib.j1 qib.j3
 refine qwc (fun g=>?_) (fun g1=>?_)
 · have:=hkE w (Or.inl (by omega)) h
   unfold errM at this
   rw [if_pos (by omega)] at this
   exact this
 unfold qib.j4
 refine qwc (fun g=>?_) (fun g2=>?_)
 · have:=hkE w (Or.inr fun NL O a b=>by have:=mB_len b; omega) h
   unfold errM at this
   rw [if_neg (by omega),if_pos (by omega)] at this
   exact this
 have short:∀ w,(xs.length < 32 ∨ ¬ xs.take 8=markM)→St F0 w0 w ps→qib.j5 b true (fun v w'=>K (.returned v) w') w:=fun w hs h=>by
  unfold qib.j5
  refine qyd (fun _=>?_) (fun g=>by cases g)
  have:=hkE w (Or.inr fun NL O a b=>by
   rcases hs with hs | hs
   · have:=mB_len b; omega
   · exact hs (mB_mark b)) h
  unfold errM at this
  rw [if_neg (by omega),if_neg (by omega),if_neg (by rintro ⟨a,b⟩; rcases hs with hs | hs; exact a hs; exact hs b)] at this
  exact this
 refine qwc (fun g=>short w (Or.inl (by omega)) h) (fun g3=>?_)
 refine qxk (n:=12) rfl (by omega) (qvd ?_)
 haveI i6:Rdb F0 w0 ⟨qme b.a b.cap 0 1,12 - 0,b.cap - 0⟩ ps 1 (u8s (xs.take 12)):=h.cutR b 0 12 (b.cap - 0) (by omega) (by omega) hc (by rw [List.drop_zero])
 have hB6:qbd (xs.take 12):=fun x hx=>hB x (List.mem_of_mem_take hx)
 refine h.bt (s:=⟨qme b.a b.cap 0 1,12 - 0,b.cap - 0⟩) hB6 ?_
 have ht8:(xs.take 12).take 8=xs.take 8:=by rw [List.take_take]; rfl
 refine prefix8.c (by rw [List.length_take]; omega) hB6 ⟨_,rfl,?_⟩
 rw [ht8]
 by_cases g4:¬ xs.take 8=markM
 · have e:(xs.take 8 == markM)=false:=by simpa using g4
   rw [e]
   exact short w (Or.inr g4) h
 have g4:xs.take 8=markM:=Classical.byContradiction g4
 have e:(xs.take 8 == markM)=true:=by rw [g4]; exact beq_self_eq_true _
 rw [e]
 show qib.j5 b false _ w
 unfold qib.j5
 refine qyd (fun g=>by cases g) (fun _=>?_)
 refine h.drewK fun w h=>?_
 refine qy (e':=((xs.length - 20:Nat):Int)) (by rw [ql (by omega) (by omega)]; omega) ?_
 refine qxk (n:=xs.length - 20) rfl (by omega) (qvd ?_)
 refine qy (e':=((xs.length - 20:Nat):Int)) (by rw [ql (by omega) (by omega)]; omega) ?_
 refine qxk (n:=xs.length - 20) rfl (by omega) (qvd ?_)
 haveI i7:Rdb F0 w0 ⟨qme b.a b.cap 0 1,xs.length - 20 - 0,b.cap - 0⟩ ps 1 (u8s (xs.take (xs.length - 20))):=h.cutR b 0 (xs.length - 20) (b.cap - 0) (by omega) (by omega) hc (by rw [List.drop_zero]; rfl)
 have i8:Rdb F0 w0 ⟨qme b.a b.cap (xs.length - 20) 1,b.len - (xs.length - 20),b.cap - (xs.length - 20)⟩ ps 1 (u8s (xs.drop (xs.length - 20))):=h.cutR b (xs.length - 20) b.len _ (Nat.le_refl _) (by omega) hc (List.take_of_length_le (by rw [List.length_drop]; omega))
 have hdl:(xs.drop (xs.length - 20)).length=20:=by rw [List.length_drop]; omega
 refine ⟨by show 20≤b.len - _; omega,?_⟩
 have hBt:qbd (xs.take (xs.length - 20)):=fun x hx=>hB x (List.mem_of_mem_take hx)
 obtain ⟨a0,ha0⟩:∃ a0,qme b.a b.cap (xs.length - 20) 1=some a0:=by
  obtain ⟨a,ha,_⟩:=(i8.rd h).2 0 (by rw [qeb]; omega)
  exact ⟨a,ha⟩
 have hl20:∀ {w':World} {Z:Array Value→Prop},St F0 w0 w' ps→Z ⟨u8s (xs.drop (xs.length - 20))⟩→ldA w' a0 20 Z:=fun {w' Z} h hz=>by
  have:=(i8.rd h).ldF (n:=20) (by decide) (by omega) (K:=Z) (by rw [List.take_of_length_le (by omega)]; exact hz)
  have e:(⟨qme b.a b.cap (xs.length - 20) 1,b.len - (xs.length - 20),b.cap - (xs.length - 20)⟩:Sl).a=some a0:=ha0
  rw [e] at this
  exact nz_o this
 have fin:∀ w,St F0 w0 w ps→eqA .u8 20 ⟨u8s (qte (xs.take (xs.length - 20)))⟩ ⟨u8s (xs.drop (xs.length - 20))⟩ fun x=>br (!x) ((fun v w'=>K (.returned v) w') (.tuple ⟨[.pointer none,.int .i64 4]⟩) w) (qib.j2 b (fun v w'=>K (.returned v) w') w):=fun w h=>by
  refine eqA_i (qbf _) hdl ?_
  refine qyd (fun g=>?_) (fun g5=>?_)
  · have g:¬ qte (xs.take (xs.length - 20))=xs.drop (xs.length - 20):=by simpa using g
    have:=hkE w (Or.inr fun NL O a b=>g (mB_sum b)) h
    unfold errM at this
    rw [if_neg (by omega),if_neg (by omega),if_pos ⟨by omega,g4⟩,if_neg g] at this
    exact this
  · have g5:qte (xs.take (xs.length - 20))=xs.drop (xs.length - 20):=by simpa using g5
    refine MOpen_2 h hc hB (by omega) (by omega) (fun w hz h=>?_) hok
    have:=hkE w (Or.inr hz) h
    unfold errM at this
    rw [if_neg (by omega),if_neg (by omega),if_pos ⟨by omega,g4⟩,if_pos g5] at this
    exact this
 have hS:∀ {w':World} {Z:Array Value→World→Prop},St F0 w0 w' ps→(∀ w'',St F0 w0 w'' ps→Z ⟨u8s (qte (xs.take (xs.length - 20)))⟩ w'')→cr_G 27 [sV ⟨qme b.a b.cap 0 1,xs.length - 20 - 0,b.cap - 0⟩] w' Z:=fun h hz =>
  qdg.d (s:=⟨qme b.a b.cap 0 1,xs.length - 20 - 0,b.cap - 0⟩) (xs:=xs.take (xs.length - 20)) h hBt (by rw [List.length_take]; omega) fun w h=>⟨_,rfl,hz w h⟩
 rw [ha0]
 refine qee ⟨?_,?_⟩
 · exact hS h fun w h=>hl20 h (fin w h)
 · exact hl20 h (hS h fun w h=>fin w h)
end
end Go.Proofs.YtonmgkkkiejicaaGreat
namespace Go.Proofs.YtonmgkkkiejicaaGreat
open Go Go.Proofs
set_option linter.unusedVariables false
set_option linter.unusedSimpArgs false
attribute [local irreducible] apK cpK mkK br qte mB
def fdM (NL:List ByteArray) (O:List Sp) (q:Nm):ByteArray × Int:=match O.find? (fun o=>decide (o.1=q)) with
 | some o=>(NL.getD o.2.1.toNat ⟨#[]⟩,o.2.2)
 | none=>(⟨#[]⟩,0)
theorem fdM_no {NL:List ByteArray} {O:List Sp} {q:Nm} (h:q ∉ qvc O):fdM NL O q=(⟨#[]⟩,0):=by
 unfold fdM
 have:O.find? (fun o=>decide (o.1=q))=none:=by
  rw [List.find?_eq_none]
  intro o ho e
  have e:o.1=q:=by simpa using e
  exact h (List.mem_map.2 ⟨o,ho,e⟩)
 rw [this]
theorem fdM_at {NL:List ByteArray} {O:List Sp} (hV:VM NL O) {o:Sp} (ho:o ∈ O):fdM NL O o.1=(NL.getD o.2.1.toNat ⟨#[]⟩,o.2.2):=by
 unfold fdM
 cases e:O.find? (fun p=>decide (p.1=o.1)) with
 | none =>
   rw [List.find?_eq_none] at e
   exact absurd (e o ho) (by simp)
 | some p =>
   have h1:=List.find?_some e
   have h1:p.1=o.1:=by simpa using h1
   have h2:=List.mem_of_find?_eq_some e
   have:=ris_id hV.ris h2 ho h1
   rw [this]
section
variable {F0:List Nat} {w0 w:World} {ps rest:List As} {sp si ss s:Sl} {tb:Nat} {NL:List ByteArray} {O:List Sp} {q:Nm} {K:Ending→World→Prop}
theorem MLen.c (h:St F0 w0 w ps) [PkB tb ps [sV sp,sV si,sV ss] rest] (hk:K (.returned (.int .i64 (si.len:Int))) w):Calls Tryz.prog 12 ⟨[.pointer (some ⟨tb,0,none⟩)]⟩ w K:=by
 refine qmb (qqe.ok _ _ _ ?_)
 unfold qqe
 refine qee ?_
 rw [qjb]
 exact (h.toB tb).blk.ldL (n:=si) rfl hk
theorem strs_Clone.c {L:List ByteArray} (h:St F0 w0 w ps) [Rdb F0 w0 s ps 1 (L.flatMap stC)] (hP:L.length≤1000000) (hk:∀ t w',t.len=L.length→St F0 w0 w' (qp 1 t (L.flatMap stC) :: ps)→K (.returned (sV t)) w') :
 Calls Tryz.prog 44 ⟨[sV s]⟩ w K:=by
 refine qmb (qed.ok _ _ _ ?_)
 unfold qed
 refine qyd (fun g=>?_) (fun g=>?_)
 · have:s.a=none:=by simpa using g
   have hP:=h.isnil (s:=s) (f:=stC) (L:=L) this
   subst hP
   exact hk ⟨none,0,0⟩ w rfl h.nilO
 · refine h.cloneR (s2:=s) (f:=stC) (M:=L) (by omega) fun s' w' hs h=>?_
   exact hk s' w' hs h
theorem MPacks.c (h:St F0 w0 w ps) [PkB tb ps [sV sp,sV si,sV ss] rest] [Rdb F0 w0 sp ps 1 (NL.flatMap stC)] (hN:NL.length≤1000000) (hk:∀ t w',t.len=NL.length→St F0 w0 w' (qp 1 t (NL.flatMap stC) :: ps)→K (.returned (sV t)) w'):Calls Tryz.prog 16 ⟨[.pointer (some ⟨tb,0,none⟩)]⟩ w K:=by
 refine qmb (qbe.ok _ _ _ ?_)
 unfold qbe
 refine qee ?_
 rw [qjb]
 refine (h.toB tb).blk.ldL (n:=sp) rfl ?_
 exact strs_Clone.c (s:=sp) (L:=NL) h hN fun t w ht h=>⟨t,rfl,hk t w ht h⟩
theorem MIDs.c (h:St F0 w0 w ps) [PkB tb ps [sV sp,sV si,sV ss] rest] [Rdb F0 w0 si ps 20 ((qvc O).flatMap nmC)] (hN:O.length≤1000000) (hk:∀ t w',t.len=O.length→St F0 w0 w' (qp 20 t ((qvc O).flatMap nmC) :: ps)→K (.returned (sV t)) w'):Calls Tryz.prog 42 ⟨[.pointer (some ⟨tb,0,none⟩)]⟩ w K:=by
 have hl:(qvc O).length=O.length:=List.length_map ..
 refine qmb (qre.ok _ _ _ ?_)
 unfold qre
 refine qee ?_
 rw [qjb]
 refine (h.toB tb).blk.ldL (n:=si) rfl ?_
 exact ids_Clone.c (s:=si) (P:=qvc O) h (by omega) fun t w ht h=>⟨t,rfl,hk t w (by omega) h⟩
def plC (x:ByteArray × Int):List Value:=[.string x.1,.int .i64 x.2]
theorem ris_ids (hV:VM NL O):Ris (qvc O):=by
 unfold Ris qvc
 rw [List.pairwise_map]
 exact hV.ris
theorem MFind.c (h:St F0 w0 w ps) [PkB tb ps [sV sp,sV si,sV ss] rest] [Rdb F0 w0 sp ps 1 (NL.flatMap stC)] [Rdb F0 w0 si ps 20 ((qvc O).flatMap nmC)] [Rdb F0 w0 ss ps 22 (O.flatMap spC)] (hV:VM NL O)
 (hk:∀ w',St F0 w0 w' ps→K (.returned (.tuple ⟨[.agg ⟨plC (fdM NL O q)⟩,.bool (decide (q ∈ qvc O))]⟩)) w'):Calls Tryz.prog 13 ⟨[.pointer (some ⟨tb,0,none⟩),.agg ⟨nmC q⟩]⟩ w K:=by
 have hl:(qvc O).length=O.length:=List.length_map ..
 have hO:=hV.ol
 refine qmb (qie.ok _ _ _ _ ?_)
 unfold qie
 refine h.new fun qb w h=>?_
 have h:St F0 w0 w (qt qb (nmC q) :: ps):=h
 have hz:zc Tryz.prog 52=⟨plC (⟨#[]⟩,0)⟩:=by kernel_rfl
 rw [hz]
 refine h.new fun pb w h=>?_
 have h:St F0 w0 w (qt pb (plC (⟨#[]⟩,0)) :: qt qb (nmC q) :: ps):=h
 refine h.drewK fun w h=>qee ?_
 have hT:∀ {w':World} {qs:List As} {l:List Value},St F0 w0 w' (qt pb l :: qt qb (nmC q) :: ps)→Blk w' tb [sV sp,sV si,sV ss]:=fun h=>(h.drop.drop.toB tb).blk
 rw [qjb]
 refine (hT (qs:=[]) h).ldL (n:=si) rfl ?_
 refine h.lA (b:=qb) ((inferInstance:Rec nmC 20).len q) ?_
 refine qbh.c (A:=qvc O) (s:=si) (q:=q) h (ris_ids hV) (by omega) fun w h=>⟨_,_,rfl,?_⟩
 have sto:∀ x:ByteArray × Int,∀ v ∈ (⟨plC x⟩:Array Value),storable v:=fun x v hv=>by
  have hv:v ∈ plC x:=by simpa using hv
  simp [plC] at hv
  rcases hv with rfl | rfl <;> trivial
 by_cases g:q ∈ qvc O
 · rw [decide_eq_true g]
   rw [decide_eq_true g] at hk
   refine qyd (fun g2=>by cases g2) (fun _=>?_)
   obtain ⟨i,hi,rfl⟩:=List.getElem_of_mem g
   have hio:i < O.length:=by omega
   have eid:(qvc O)[i]=O[i].1:=List.getElem_map ..
   have hpos:=pos_at (ris_ids hV) hi
   rw [hpos]
   have hrg:=hV.rg _ (List.getElem_mem hio)
   have hfd:fdM NL O (qvc O)[i]=(NL.getD O[i].2.1.toNat ⟨#[]⟩,O[i].2.2):=by rw [eid]; exact fdM_at hV (List.getElem_mem hio)
   rw [hfd] at hk
   obtain ⟨k,hk1⟩:∃ k:Nat,O[i].2.1=k:=⟨O[i].2.1.toNat,by omega⟩
   have hkN:k < NL.length:=by omega
   have hgd:NL.getD O[i].2.1.toNat ⟨#[]⟩=NL[k]:=by
    rw [hk1,Int.toNat_natCast,List.getD_eq_getElem?_getD,List.getElem?_eq_getElem hkN]
    rfl
   rw [hgd] at hk
   refine h.drewK fun w h=>qee ?_
   rw [qjb]
   refine (hT (qs:=[]) h).ldL (n:=sp) rfl (qee ?_)
   rw [qjb]
   refine (hT (qs:=[]) h).ldL (n:=ss) rfl ?_
   have hl1:∀ {Z:Int→Prop},Z (k:Int)→ixS ss.a ss.len (i:Int) 22 fun a=>ldI .i64 w (Addr.add a 20) Z:=fun hz=>h.spPk (s:=ss) (D:=O) i rfl hio (by rw [hk1]; exact hz)
   refine hl1 ?_
   refine h.rix (s:=sp) (f:=stC) (L:=NL) k rfl hkN fun a0 ha=>?_
   have hc:=(h.rdb sp).rcell (f:=stC) (L:=NL) (j:=k) (o:=0) ha hkN (by decide)
   refine ⟨NL[k],by simpa [stC,qke] using hc,qee ?_⟩
   rw [qjb]
   refine (hT (qs:=[]) h).ldL (n:=ss) rfl ?_
   refine h.rix (s:=ss) (f:=spC) (L:=O) i rfl hio fun a1 ha1=>?_
   refine (h.rdb ss).rI (f:=spC) (L:=O) ha1 hio (by decide) (sp_21 O[i]) ⟨rfl,?_⟩
   refine h.sA (b:=pb) (l':=plC (NL[k],O[i].2.2)) rfl rfl (sto _) fun w h=>?_
   refine h.lA (b:=pb) rfl ?_
   exact hk w (h.drop.drop)
 · rw [decide_eq_false g]
   rw [decide_eq_false g,fdM_no g] at hk
   refine qyd (fun _=>⟨rfl,?_⟩) (fun g2=>by cases g2)
   refine h.sA (b:=pb) (l':=plC (⟨#[]⟩,0)) rfl rfl (sto _) fun w h=>?_
   refine h.lA (b:=pb) rfl ?_
   exact hk w (h.drop.drop)
end
end Go.Proofs.YtonmgkkkiejicaaGreat
namespace Go.Proofs.YtonmgkkkiejicaaGreat
open Go Go.Proofs
set_option linter.unusedVariables false
set_option maxRecDepth 100000
def qde (i_0:Int) (Q:VWP) (w:World):Prop :=
 nw w (zc Tryz.prog 38) 38 fun a1 w2 =>
 ixA a1 20 0 1 fun a3 =>
 st w2 a3 (.int .u8 i_0) fun w4 =>
 ldA w4 a1 20 fun c5 =>
 Calls Tryz.prog 29 ⟨[.agg c5]⟩ w4 fun e6 w7 =>
 ∃ r8:ByteArray,e6=.returned (.string r8) ∧
 ((ByteArray.size ({ data:=#[112,97,99,107,45] })+ByteArray.size r8:Nat):Int)≤IntKind.i64.max ∧
 lt (({ data:=#[112,97,99,107,45] }) ++ r8:ByteArray) fun x9 =>
 ((ByteArray.size x9+ByteArray.size ({ data:=#[46,105,100,120] }):Nat):Int)≤IntKind.i64.max ∧
 lt (x9 ++ ({ data:=#[46,105,100,120] }):ByteArray) fun x10 =>
 Q (.string x10) w7
theorem qde.ok (i_0:Int) (Q:VWP) (w:World) (h:qde i_0 Q w):Calls Tryz.prog 10 ⟨[.int .u8 i_0]⟩ w (Ret Q) :=
 qqb [.tmp 2] qdd Tryz.func10 rfl rfl rfl rfl .lf (by kernel_rfl) h
def qd.j2 (t3:Sl) (t4:Int) (Q:VWP) (w:World):Prop :=
 ct_PI 11 [sV t3] w fun r3 r4 w2 =>
 lt (IntKind.i64.wrap (t4+r4)) fun x5 =>
 br (x5 != 0) (
 Q (.bool false) w2) (
 br (Option.isNone r3) (
 Q (.bool false) w2) (
 ct_GB 13 [.pointer r3,.agg ⟨[.int .u8 0,.int .u8 0,.int .u8 0,.int .u8 0,.int .u8 0,.int .u8 0,.int .u8 0,.int .u8 0,.int .u8 0,.int .u8 0,.int .u8 0,.int .u8 0,.int .u8 0,.int .u8 0,.int .u8 0,.int .u8 0,.int .u8 0,.int .u8 0,.int .u8 0,.int .u8 0]⟩] w2 fun r8 r9 w7 =>
 nw w7 (zc Tryz.prog 52) 52 fun a10 w11 =>
 (r8).size=2 ∧
 stA w11 a10 r8 fun w12 =>
 lt (World.drew w12) fun w13 =>
 br r9 (
 (ldS w13 (Addr.add a10 0) fun x14 =>
 Calls Tryz.prog 10 ⟨[.int .u8 1]⟩ w13 fun e15 w16 =>
 ∃ r17:ByteArray,e15=.returned (.string r17) ∧
 br (ByteArray.toList x14 == ByteArray.toList r17) (
 ldI .i64 w16 (Addr.add a10 1) fun x18 =>
 br (x18 == 12) (
 qmi 12 [.pointer r3] w16 fun r21 w20 =>
 br (r21 == 1) (
 qgh 16 [.pointer r3] w20 fun r24 w23 =>
 br ((r24.len:Int) == 2) (
 Q (.bool ((t3.len:Int) == 1244)) w23) (
 Q (.bool false) w23)) (
 Q (.bool false) w20)) (
 Q (.bool false) w16)) (
 Q (.bool false) w16))∧(
 Calls Tryz.prog 10 ⟨[.int .u8 1]⟩ w13 fun e25 w26 =>
 ∃ r27:ByteArray,e25=.returned (.string r27) ∧
 ldS w26 (Addr.add a10 0) fun x28 =>
 br (ByteArray.toList x28 == ByteArray.toList r27) (
 ldI .i64 w26 (Addr.add a10 1) fun x29 =>
 br (x29 == 12) (
 qmi 12 [.pointer r3] w26 fun r32 w31 =>
 br (r32 == 1) (
 qgh 16 [.pointer r3] w31 fun r35 w34 =>
 br ((r35.len:Int) == 2) (
 Q (.bool ((t3.len:Int) == 1244)) w34) (
 Q (.bool false) w34)) (
 Q (.bool false) w31)) (
 Q (.bool false) w26)) (
 Q (.bool false) w26))) (
 (Q (.bool false) w13)∧(
 Q (.bool false) w13))))
def qd.j1 (i_1:Addr) (Q:VWP) (w:World):Prop :=
 nw w (zc Tryz.prog 42) 42 fun a36 w37 =>
 ((⟨[.int .u8 0,.int .u8 0,.int .u8 0,.int .u8 0,.int .u8 0,.int .u8 0,.int .u8 0,.int .u8 0,.int .u8 0,.int .u8 0,.int .u8 0,.int .u8 0,.int .u8 0,.int .u8 0,.int .u8 0,.int .u8 0,.int .u8 0,.int .u8 0,.int .u8 0,.int .u8 0,.int .u32 0,.int .i64 50]⟩:Array Value)).size=22 ∧
 stA w37 a36 (⟨[.int .u8 0,.int .u8 0,.int .u8 0,.int .u8 0,.int .u8 0,.int .u8 0,.int .u8 0,.int .u8 0,.int .u8 0,.int .u8 0,.int .u8 0,.int .u8 0,.int .u8 0,.int .u8 0,.int .u8 0,.int .u8 0,.int .u8 0,.int .u8 0,.int .u8 0,.int .u8 0,.int .u32 0,.int .i64 50]⟩:Array Value) fun w38 =>
 lt (World.drew w38) fun w39 =>
 (Calls Tryz.prog 10 ⟨[.int .u8 2]⟩ w39 fun e40 w41 =>
 ∃ r42:ByteArray,e40=.returned (.string r42) ∧
 (ldA w41 a36 22 fun c43 =>
 ((c43).size=22 ∧
 nw w41 ⟨(spl [.int .u8 0,.int .u8 0,.int .u8 0,.int .u8 0,.int .u8 0,.int .u8 0,.int .u8 0,.int .u8 0,.int .u8 0,.int .u8 0,.int .u8 0,.int .u8 0,.int .u8 0,.int .u8 0,.int .u8 0,.int .u8 0,.int .u8 0,.int .u8 0,.int .u8 0,.int .u8 0,.int .u32 0,.int .i64 0] 0 c43)⟩ 42 fun a44 w45 =>
 (Calls Tryz.prog 10 ⟨[.int .u8 1]⟩ w45 fun e46 w47 =>
 ∃ r48:ByteArray,e46=.returned (.string r48) ∧
 ldA w47 i_1 22 fun c49 =>
 (c49).size=22 ∧
 nw w47 ⟨(spl [.int .u8 0,.int .u8 0,.int .u8 0,.int .u8 0,.int .u8 0,.int .u8 0,.int .u8 0,.int .u8 0,.int .u8 0,.int .u8 0,.int .u8 0,.int .u8 0,.int .u8 0,.int .u8 0,.int .u8 0,.int .u8 0,.int .u8 0,.int .u8 0,.int .u8 0,.int .u8 0,.int .u32 0,.int .i64 0] 0 c49)⟩ 42 fun a50 w51 =>
 ((⟨[.string r42,.slice (some a44) 1 1]⟩:Array Value)).size=2 ∧
 ((⟨[.string r48,.slice (some a50) 1 1]⟩:Array Value)).size=2 ∧
 nw w51 ⟨(spl (spl [.string ({ data:=#[] }),.slice none 0 0,.string ({ data:=#[] }),.slice none 0 0] 0 (⟨[.string r42,.slice (some a44) 1 1]⟩:Array Value)) 2 (⟨[.string r48,.slice (some a50) 1 1]⟩:Array Value))⟩ 46 fun a52 w53 =>
 qhb 9 [.slice (some a52) 2 2] w53 fun r56 r57 w55 =>
 qd.j2 r56 r57 Q w55)∧(
 ldA w45 i_1 22 fun c58 =>
 (Calls Tryz.prog 10 ⟨[.int .u8 1]⟩ w45 fun e59 w60 =>
 ∃ r61:ByteArray,e59=.returned (.string r61) ∧
 (c58).size=22 ∧
 nw w60 ⟨(spl [.int .u8 0,.int .u8 0,.int .u8 0,.int .u8 0,.int .u8 0,.int .u8 0,.int .u8 0,.int .u8 0,.int .u8 0,.int .u8 0,.int .u8 0,.int .u8 0,.int .u8 0,.int .u8 0,.int .u8 0,.int .u8 0,.int .u8 0,.int .u8 0,.int .u8 0,.int .u8 0,.int .u32 0,.int .i64 0] 0 c58)⟩ 42 fun a62 w63 =>
 ((⟨[.string r42,.slice (some a44) 1 1]⟩:Array Value)).size=2 ∧
 ((⟨[.string r61,.slice (some a62) 1 1]⟩:Array Value)).size=2 ∧
 nw w63 ⟨(spl (spl [.string ({ data:=#[] }),.slice none 0 0,.string ({ data:=#[] }),.slice none 0 0] 0 (⟨[.string r42,.slice (some a44) 1 1]⟩:Array Value)) 2 (⟨[.string r61,.slice (some a62) 1 1]⟩:Array Value))⟩ 46 fun a64 w65 =>
 qhb 9 [.slice (some a64) 2 2] w65 fun r68 r69 w67 =>
 qd.j2 r68 r69 Q w67)∧(
 (c58).size=22 ∧
 nw w45 ⟨(spl [.int .u8 0,.int .u8 0,.int .u8 0,.int .u8 0,.int .u8 0,.int .u8 0,.int .u8 0,.int .u8 0,.int .u8 0,.int .u8 0,.int .u8 0,.int .u8 0,.int .u8 0,.int .u8 0,.int .u8 0,.int .u8 0,.int .u8 0,.int .u8 0,.int .u8 0,.int .u8 0,.int .u32 0,.int .i64 0] 0 c58)⟩ 42 fun a70 w71 =>
 Calls Tryz.prog 10 ⟨[.int .u8 1]⟩ w71 fun e72 w73 =>
 ∃ r74:ByteArray,e72=.returned (.string r74) ∧
 ((⟨[.string r42,.slice (some a44) 1 1]⟩:Array Value)).size=2 ∧
 ((⟨[.string r74,.slice (some a70) 1 1]⟩:Array Value)).size=2 ∧
 nw w73 ⟨(spl (spl [.string ({ data:=#[] }),.slice none 0 0,.string ({ data:=#[] }),.slice none 0 0] 0 (⟨[.string r42,.slice (some a44) 1 1]⟩:Array Value)) 2 (⟨[.string r74,.slice (some a70) 1 1]⟩:Array Value))⟩ 46 fun a75 w76 =>
 qhb 9 [.slice (some a75) 2 2] w76 fun r79 r80 w78 =>
 qd.j2 r79 r80 Q w78)))∧(
 Calls Tryz.prog 10 ⟨[.int .u8 1]⟩ w41 fun e81 w82 =>
 ∃ r83:ByteArray,e81=.returned (.string r83) ∧
 ((c43).size=22 ∧
 nw w82 ⟨(spl [.int .u8 0,.int .u8 0,.int .u8 0,.int .u8 0,.int .u8 0,.int .u8 0,.int .u8 0,.int .u8 0,.int .u8 0,.int .u8 0,.int .u8 0,.int .u8 0,.int .u8 0,.int .u8 0,.int .u8 0,.int .u8 0,.int .u8 0,.int .u8 0,.int .u8 0,.int .u8 0,.int .u32 0,.int .i64 0] 0 c43)⟩ 42 fun a84 w85 =>
 ldA w85 i_1 22 fun c86 =>
 (c86).size=22 ∧
 nw w85 ⟨(spl [.int .u8 0,.int .u8 0,.int .u8 0,.int .u8 0,.int .u8 0,.int .u8 0,.int .u8 0,.int .u8 0,.int .u8 0,.int .u8 0,.int .u8 0,.int .u8 0,.int .u8 0,.int .u8 0,.int .u8 0,.int .u8 0,.int .u8 0,.int .u8 0,.int .u8 0,.int .u8 0,.int .u32 0,.int .i64 0] 0 c86)⟩ 42 fun a87 w88 =>
 ((⟨[.string r42,.slice (some a84) 1 1]⟩:Array Value)).size=2 ∧
 ((⟨[.string r83,.slice (some a87) 1 1]⟩:Array Value)).size=2 ∧
 nw w88 ⟨(spl (spl [.string ({ data:=#[] }),.slice none 0 0,.string ({ data:=#[] }),.slice none 0 0] 0 (⟨[.string r42,.slice (some a84) 1 1]⟩:Array Value)) 2 (⟨[.string r83,.slice (some a87) 1 1]⟩:Array Value))⟩ 46 fun a89 w90 =>
 qhb 9 [.slice (some a89) 2 2] w90 fun r93 r94 w92 =>
 qd.j2 r93 r94 Q w92)∧(
 ldA w82 i_1 22 fun c95 =>
 ((c43).size=22 ∧
 nw w82 ⟨(spl [.int .u8 0,.int .u8 0,.int .u8 0,.int .u8 0,.int .u8 0,.int .u8 0,.int .u8 0,.int .u8 0,.int .u8 0,.int .u8 0,.int .u8 0,.int .u8 0,.int .u8 0,.int .u8 0,.int .u8 0,.int .u8 0,.int .u8 0,.int .u8 0,.int .u8 0,.int .u8 0,.int .u32 0,.int .i64 0] 0 c43)⟩ 42 fun a96 w97 =>
 (c95).size=22 ∧
 nw w97 ⟨(spl [.int .u8 0,.int .u8 0,.int .u8 0,.int .u8 0,.int .u8 0,.int .u8 0,.int .u8 0,.int .u8 0,.int .u8 0,.int .u8 0,.int .u8 0,.int .u8 0,.int .u8 0,.int .u8 0,.int .u8 0,.int .u8 0,.int .u8 0,.int .u8 0,.int .u8 0,.int .u8 0,.int .u32 0,.int .i64 0] 0 c95)⟩ 42 fun a98 w99 =>
 ((⟨[.string r42,.slice (some a96) 1 1]⟩:Array Value)).size=2 ∧
 ((⟨[.string r83,.slice (some a98) 1 1]⟩:Array Value)).size=2 ∧
 nw w99 ⟨(spl (spl [.string ({ data:=#[] }),.slice none 0 0,.string ({ data:=#[] }),.slice none 0 0] 0 (⟨[.string r42,.slice (some a96) 1 1]⟩:Array Value)) 2 (⟨[.string r83,.slice (some a98) 1 1]⟩:Array Value))⟩ 46 fun a100 w101 =>
 qhb 9 [.slice (some a100) 2 2] w101 fun r104 r105 w103 =>
 qd.j2 r104 r105 Q w103)∧(
 (c95).size=22 ∧
 nw w82 ⟨(spl [.int .u8 0,.int .u8 0,.int .u8 0,.int .u8 0,.int .u8 0,.int .u8 0,.int .u8 0,.int .u8 0,.int .u8 0,.int .u8 0,.int .u8 0,.int .u8 0,.int .u8 0,.int .u8 0,.int .u8 0,.int .u8 0,.int .u8 0,.int .u8 0,.int .u8 0,.int .u8 0,.int .u32 0,.int .i64 0] 0 c95)⟩ 42 fun a106 w107 =>
 (c43).size=22 ∧
 nw w107 ⟨(spl [.int .u8 0,.int .u8 0,.int .u8 0,.int .u8 0,.int .u8 0,.int .u8 0,.int .u8 0,.int .u8 0,.int .u8 0,.int .u8 0,.int .u8 0,.int .u8 0,.int .u8 0,.int .u8 0,.int .u8 0,.int .u8 0,.int .u8 0,.int .u8 0,.int .u8 0,.int .u8 0,.int .u32 0,.int .i64 0] 0 c43)⟩ 42 fun a108 w109 =>
 ((⟨[.string r42,.slice (some a108) 1 1]⟩:Array Value)).size=2 ∧
 ((⟨[.string r83,.slice (some a106) 1 1]⟩:Array Value)).size=2 ∧
 nw w109 ⟨(spl (spl [.string ({ data:=#[] }),.slice none 0 0,.string ({ data:=#[] }),.slice none 0 0] 0 (⟨[.string r42,.slice (some a108) 1 1]⟩:Array Value)) 2 (⟨[.string r83,.slice (some a106) 1 1]⟩:Array Value))⟩ 46 fun a110 w111 =>
 qhb 9 [.slice (some a110) 2 2] w111 fun r114 r115 w113 =>
 qd.j2 r114 r115 Q w113)))∧(
 ldA w41 i_1 22 fun c116 =>
 ((c43).size=22 ∧
 nw w41 ⟨(spl [.int .u8 0,.int .u8 0,.int .u8 0,.int .u8 0,.int .u8 0,.int .u8 0,.int .u8 0,.int .u8 0,.int .u8 0,.int .u8 0,.int .u8 0,.int .u8 0,.int .u8 0,.int .u8 0,.int .u8 0,.int .u8 0,.int .u8 0,.int .u8 0,.int .u8 0,.int .u8 0,.int .u32 0,.int .i64 0] 0 c43)⟩ 42 fun a117 w118 =>
 (Calls Tryz.prog 10 ⟨[.int .u8 1]⟩ w118 fun e119 w120 =>
 ∃ r121:ByteArray,e119=.returned (.string r121) ∧
 (c116).size=22 ∧
 nw w120 ⟨(spl [.int .u8 0,.int .u8 0,.int .u8 0,.int .u8 0,.int .u8 0,.int .u8 0,.int .u8 0,.int .u8 0,.int .u8 0,.int .u8 0,.int .u8 0,.int .u8 0,.int .u8 0,.int .u8 0,.int .u8 0,.int .u8 0,.int .u8 0,.int .u8 0,.int .u8 0,.int .u8 0,.int .u32 0,.int .i64 0] 0 c116)⟩ 42 fun a122 w123 =>
 ((⟨[.string r42,.slice (some a117) 1 1]⟩:Array Value)).size=2 ∧
 ((⟨[.string r121,.slice (some a122) 1 1]⟩:Array Value)).size=2 ∧
 nw w123 ⟨(spl (spl [.string ({ data:=#[] }),.slice none 0 0,.string ({ data:=#[] }),.slice none 0 0] 0 (⟨[.string r42,.slice (some a117) 1 1]⟩:Array Value)) 2 (⟨[.string r121,.slice (some a122) 1 1]⟩:Array Value))⟩ 46 fun a124 w125 =>
 qhb 9 [.slice (some a124) 2 2] w125 fun r128 r129 w127 =>
 qd.j2 r128 r129 Q w127)∧(
 (c116).size=22 ∧
 nw w118 ⟨(spl [.int .u8 0,.int .u8 0,.int .u8 0,.int .u8 0,.int .u8 0,.int .u8 0,.int .u8 0,.int .u8 0,.int .u8 0,.int .u8 0,.int .u8 0,.int .u8 0,.int .u8 0,.int .u8 0,.int .u8 0,.int .u8 0,.int .u8 0,.int .u8 0,.int .u8 0,.int .u8 0,.int .u32 0,.int .i64 0] 0 c116)⟩ 42 fun a130 w131 =>
 Calls Tryz.prog 10 ⟨[.int .u8 1]⟩ w131 fun e132 w133 =>
 ∃ r134:ByteArray,e132=.returned (.string r134) ∧
 ((⟨[.string r42,.slice (some a117) 1 1]⟩:Array Value)).size=2 ∧
 ((⟨[.string r134,.slice (some a130) 1 1]⟩:Array Value)).size=2 ∧
 nw w133 ⟨(spl (spl [.string ({ data:=#[] }),.slice none 0 0,.string ({ data:=#[] }),.slice none 0 0] 0 (⟨[.string r42,.slice (some a117) 1 1]⟩:Array Value)) 2 (⟨[.string r134,.slice (some a130) 1 1]⟩:Array Value))⟩ 46 fun a135 w136 =>
 qhb 9 [.slice (some a135) 2 2] w136 fun r139 r140 w138 =>
 qd.j2 r139 r140 Q w138))∧(
 Calls Tryz.prog 10 ⟨[.int .u8 1]⟩ w41 fun e141 w142 =>
 ∃ r143:ByteArray,e141=.returned (.string r143) ∧
 ((c43).size=22 ∧
 nw w142 ⟨(spl [.int .u8 0,.int .u8 0,.int .u8 0,.int .u8 0,.int .u8 0,.int .u8 0,.int .u8 0,.int .u8 0,.int .u8 0,.int .u8 0,.int .u8 0,.int .u8 0,.int .u8 0,.int .u8 0,.int .u8 0,.int .u8 0,.int .u8 0,.int .u8 0,.int .u8 0,.int .u8 0,.int .u32 0,.int .i64 0] 0 c43)⟩ 42 fun a144 w145 =>
 (c116).size=22 ∧
 nw w145 ⟨(spl [.int .u8 0,.int .u8 0,.int .u8 0,.int .u8 0,.int .u8 0,.int .u8 0,.int .u8 0,.int .u8 0,.int .u8 0,.int .u8 0,.int .u8 0,.int .u8 0,.int .u8 0,.int .u8 0,.int .u8 0,.int .u8 0,.int .u8 0,.int .u8 0,.int .u8 0,.int .u8 0,.int .u32 0,.int .i64 0] 0 c116)⟩ 42 fun a146 w147 =>
 ((⟨[.string r42,.slice (some a144) 1 1]⟩:Array Value)).size=2 ∧
 ((⟨[.string r143,.slice (some a146) 1 1]⟩:Array Value)).size=2 ∧
 nw w147 ⟨(spl (spl [.string ({ data:=#[] }),.slice none 0 0,.string ({ data:=#[] }),.slice none 0 0] 0 (⟨[.string r42,.slice (some a144) 1 1]⟩:Array Value)) 2 (⟨[.string r143,.slice (some a146) 1 1]⟩:Array Value))⟩ 46 fun a148 w149 =>
 qhb 9 [.slice (some a148) 2 2] w149 fun r152 r153 w151 =>
 qd.j2 r152 r153 Q w151)∧(
 (c116).size=22 ∧
 nw w142 ⟨(spl [.int .u8 0,.int .u8 0,.int .u8 0,.int .u8 0,.int .u8 0,.int .u8 0,.int .u8 0,.int .u8 0,.int .u8 0,.int .u8 0,.int .u8 0,.int .u8 0,.int .u8 0,.int .u8 0,.int .u8 0,.int .u8 0,.int .u8 0,.int .u8 0,.int .u8 0,.int .u8 0,.int .u32 0,.int .i64 0] 0 c116)⟩ 42 fun a154 w155 =>
 (c43).size=22 ∧
 nw w155 ⟨(spl [.int .u8 0,.int .u8 0,.int .u8 0,.int .u8 0,.int .u8 0,.int .u8 0,.int .u8 0,.int .u8 0,.int .u8 0,.int .u8 0,.int .u8 0,.int .u8 0,.int .u8 0,.int .u8 0,.int .u8 0,.int .u8 0,.int .u8 0,.int .u8 0,.int .u8 0,.int .u8 0,.int .u32 0,.int .i64 0] 0 c43)⟩ 42 fun a156 w157 =>
 ((⟨[.string r42,.slice (some a156) 1 1]⟩:Array Value)).size=2 ∧
 ((⟨[.string r143,.slice (some a154) 1 1]⟩:Array Value)).size=2 ∧
 nw w157 ⟨(spl (spl [.string ({ data:=#[] }),.slice none 0 0,.string ({ data:=#[] }),.slice none 0 0] 0 (⟨[.string r42,.slice (some a156) 1 1]⟩:Array Value)) 2 (⟨[.string r143,.slice (some a154) 1 1]⟩:Array Value))⟩ 46 fun a158 w159 =>
 qhb 9 [.slice (some a158) 2 2] w159 fun r162 r163 w161 =>
 qd.j2 r162 r163 Q w161))∧(
 (c116).size=22 ∧
 nw w41 ⟨(spl [.int .u8 0,.int .u8 0,.int .u8 0,.int .u8 0,.int .u8 0,.int .u8 0,.int .u8 0,.int .u8 0,.int .u8 0,.int .u8 0,.int .u8 0,.int .u8 0,.int .u8 0,.int .u8 0,.int .u8 0,.int .u8 0,.int .u8 0,.int .u8 0,.int .u8 0,.int .u8 0,.int .u32 0,.int .i64 0] 0 c116)⟩ 42 fun a164 w165 =>
 ((c43).size=22 ∧
 nw w165 ⟨(spl [.int .u8 0,.int .u8 0,.int .u8 0,.int .u8 0,.int .u8 0,.int .u8 0,.int .u8 0,.int .u8 0,.int .u8 0,.int .u8 0,.int .u8 0,.int .u8 0,.int .u8 0,.int .u8 0,.int .u8 0,.int .u8 0,.int .u8 0,.int .u8 0,.int .u8 0,.int .u8 0,.int .u32 0,.int .i64 0] 0 c43)⟩ 42 fun a166 w167 =>
 Calls Tryz.prog 10 ⟨[.int .u8 1]⟩ w167 fun e168 w169 =>
 ∃ r170:ByteArray,e168=.returned (.string r170) ∧
 ((⟨[.string r42,.slice (some a166) 1 1]⟩:Array Value)).size=2 ∧
 ((⟨[.string r170,.slice (some a164) 1 1]⟩:Array Value)).size=2 ∧
 nw w169 ⟨(spl (spl [.string ({ data:=#[] }),.slice none 0 0,.string ({ data:=#[] }),.slice none 0 0] 0 (⟨[.string r42,.slice (some a166) 1 1]⟩:Array Value)) 2 (⟨[.string r170,.slice (some a164) 1 1]⟩:Array Value))⟩ 46 fun a171 w172 =>
 qhb 9 [.slice (some a171) 2 2] w172 fun r175 r176 w174 =>
 qd.j2 r175 r176 Q w174)∧(
 Calls Tryz.prog 10 ⟨[.int .u8 1]⟩ w165 fun e177 w178 =>
 ∃ r179:ByteArray,e177=.returned (.string r179) ∧
 (c43).size=22 ∧
 nw w178 ⟨(spl [.int .u8 0,.int .u8 0,.int .u8 0,.int .u8 0,.int .u8 0,.int .u8 0,.int .u8 0,.int .u8 0,.int .u8 0,.int .u8 0,.int .u8 0,.int .u8 0,.int .u8 0,.int .u8 0,.int .u8 0,.int .u8 0,.int .u8 0,.int .u8 0,.int .u8 0,.int .u8 0,.int .u32 0,.int .i64 0] 0 c43)⟩ 42 fun a180 w181 =>
 ((⟨[.string r42,.slice (some a180) 1 1]⟩:Array Value)).size=2 ∧
 ((⟨[.string r179,.slice (some a164) 1 1]⟩:Array Value)).size=2 ∧
 nw w181 ⟨(spl (spl [.string ({ data:=#[] }),.slice none 0 0,.string ({ data:=#[] }),.slice none 0 0] 0 (⟨[.string r42,.slice (some a180) 1 1]⟩:Array Value)) 2 (⟨[.string r179,.slice (some a164) 1 1]⟩:Array Value))⟩ 46 fun a182 w183 =>
 qhb 9 [.slice (some a182) 2 2] w183 fun r186 r187 w185 =>
 qd.j2 r186 r187 Q w185))))∧(
 Calls Tryz.prog 10 ⟨[.int .u8 1]⟩ w41 fun e188 w189 =>
 ∃ r190:ByteArray,e188=.returned (.string r190) ∧
 (ldA w189 a36 22 fun c191 =>
 ((c191).size=22 ∧
 nw w189 ⟨(spl [.int .u8 0,.int .u8 0,.int .u8 0,.int .u8 0,.int .u8 0,.int .u8 0,.int .u8 0,.int .u8 0,.int .u8 0,.int .u8 0,.int .u8 0,.int .u8 0,.int .u8 0,.int .u8 0,.int .u8 0,.int .u8 0,.int .u8 0,.int .u8 0,.int .u8 0,.int .u8 0,.int .u32 0,.int .i64 0] 0 c191)⟩ 42 fun a192 w193 =>
 ldA w193 i_1 22 fun c194 =>
 (c194).size=22 ∧
 nw w193 ⟨(spl [.int .u8 0,.int .u8 0,.int .u8 0,.int .u8 0,.int .u8 0,.int .u8 0,.int .u8 0,.int .u8 0,.int .u8 0,.int .u8 0,.int .u8 0,.int .u8 0,.int .u8 0,.int .u8 0,.int .u8 0,.int .u8 0,.int .u8 0,.int .u8 0,.int .u8 0,.int .u8 0,.int .u32 0,.int .i64 0] 0 c194)⟩ 42 fun a195 w196 =>
 ((⟨[.string r42,.slice (some a192) 1 1]⟩:Array Value)).size=2 ∧
 ((⟨[.string r190,.slice (some a195) 1 1]⟩:Array Value)).size=2 ∧
 nw w196 ⟨(spl (spl [.string ({ data:=#[] }),.slice none 0 0,.string ({ data:=#[] }),.slice none 0 0] 0 (⟨[.string r42,.slice (some a192) 1 1]⟩:Array Value)) 2 (⟨[.string r190,.slice (some a195) 1 1]⟩:Array Value))⟩ 46 fun a197 w198 =>
 qhb 9 [.slice (some a197) 2 2] w198 fun r201 r202 w200 =>
 qd.j2 r201 r202 Q w200)∧(
 ldA w189 i_1 22 fun c203 =>
 ((c191).size=22 ∧
 nw w189 ⟨(spl [.int .u8 0,.int .u8 0,.int .u8 0,.int .u8 0,.int .u8 0,.int .u8 0,.int .u8 0,.int .u8 0,.int .u8 0,.int .u8 0,.int .u8 0,.int .u8 0,.int .u8 0,.int .u8 0,.int .u8 0,.int .u8 0,.int .u8 0,.int .u8 0,.int .u8 0,.int .u8 0,.int .u32 0,.int .i64 0] 0 c191)⟩ 42 fun a204 w205 =>
 (c203).size=22 ∧
 nw w205 ⟨(spl [.int .u8 0,.int .u8 0,.int .u8 0,.int .u8 0,.int .u8 0,.int .u8 0,.int .u8 0,.int .u8 0,.int .u8 0,.int .u8 0,.int .u8 0,.int .u8 0,.int .u8 0,.int .u8 0,.int .u8 0,.int .u8 0,.int .u8 0,.int .u8 0,.int .u8 0,.int .u8 0,.int .u32 0,.int .i64 0] 0 c203)⟩ 42 fun a206 w207 =>
 ((⟨[.string r42,.slice (some a204) 1 1]⟩:Array Value)).size=2 ∧
 ((⟨[.string r190,.slice (some a206) 1 1]⟩:Array Value)).size=2 ∧
 nw w207 ⟨(spl (spl [.string ({ data:=#[] }),.slice none 0 0,.string ({ data:=#[] }),.slice none 0 0] 0 (⟨[.string r42,.slice (some a204) 1 1]⟩:Array Value)) 2 (⟨[.string r190,.slice (some a206) 1 1]⟩:Array Value))⟩ 46 fun a208 w209 =>
 qhb 9 [.slice (some a208) 2 2] w209 fun r212 r213 w211 =>
 qd.j2 r212 r213 Q w211)∧(
 (c203).size=22 ∧
 nw w189 ⟨(spl [.int .u8 0,.int .u8 0,.int .u8 0,.int .u8 0,.int .u8 0,.int .u8 0,.int .u8 0,.int .u8 0,.int .u8 0,.int .u8 0,.int .u8 0,.int .u8 0,.int .u8 0,.int .u8 0,.int .u8 0,.int .u8 0,.int .u8 0,.int .u8 0,.int .u8 0,.int .u8 0,.int .u32 0,.int .i64 0] 0 c203)⟩ 42 fun a214 w215 =>
 (c191).size=22 ∧
 nw w215 ⟨(spl [.int .u8 0,.int .u8 0,.int .u8 0,.int .u8 0,.int .u8 0,.int .u8 0,.int .u8 0,.int .u8 0,.int .u8 0,.int .u8 0,.int .u8 0,.int .u8 0,.int .u8 0,.int .u8 0,.int .u8 0,.int .u8 0,.int .u8 0,.int .u8 0,.int .u8 0,.int .u8 0,.int .u32 0,.int .i64 0] 0 c191)⟩ 42 fun a216 w217 =>
 ((⟨[.string r42,.slice (some a216) 1 1]⟩:Array Value)).size=2 ∧
 ((⟨[.string r190,.slice (some a214) 1 1]⟩:Array Value)).size=2 ∧
 nw w217 ⟨(spl (spl [.string ({ data:=#[] }),.slice none 0 0,.string ({ data:=#[] }),.slice none 0 0] 0 (⟨[.string r42,.slice (some a216) 1 1]⟩:Array Value)) 2 (⟨[.string r190,.slice (some a214) 1 1]⟩:Array Value))⟩ 46 fun a218 w219 =>
 qhb 9 [.slice (some a218) 2 2] w219 fun r222 r223 w221 =>
 qd.j2 r222 r223 Q w221)))∧(
 ldA w189 i_1 22 fun c224 =>
 (ldA w189 a36 22 fun c225 =>
 ((c225).size=22 ∧
 nw w189 ⟨(spl [.int .u8 0,.int .u8 0,.int .u8 0,.int .u8 0,.int .u8 0,.int .u8 0,.int .u8 0,.int .u8 0,.int .u8 0,.int .u8 0,.int .u8 0,.int .u8 0,.int .u8 0,.int .u8 0,.int .u8 0,.int .u8 0,.int .u8 0,.int .u8 0,.int .u8 0,.int .u8 0,.int .u32 0,.int .i64 0] 0 c225)⟩ 42 fun a226 w227 =>
 (c224).size=22 ∧
 nw w227 ⟨(spl [.int .u8 0,.int .u8 0,.int .u8 0,.int .u8 0,.int .u8 0,.int .u8 0,.int .u8 0,.int .u8 0,.int .u8 0,.int .u8 0,.int .u8 0,.int .u8 0,.int .u8 0,.int .u8 0,.int .u8 0,.int .u8 0,.int .u8 0,.int .u8 0,.int .u8 0,.int .u8 0,.int .u32 0,.int .i64 0] 0 c224)⟩ 42 fun a228 w229 =>
 ((⟨[.string r42,.slice (some a226) 1 1]⟩:Array Value)).size=2 ∧
 ((⟨[.string r190,.slice (some a228) 1 1]⟩:Array Value)).size=2 ∧
 nw w229 ⟨(spl (spl [.string ({ data:=#[] }),.slice none 0 0,.string ({ data:=#[] }),.slice none 0 0] 0 (⟨[.string r42,.slice (some a226) 1 1]⟩:Array Value)) 2 (⟨[.string r190,.slice (some a228) 1 1]⟩:Array Value))⟩ 46 fun a230 w231 =>
 qhb 9 [.slice (some a230) 2 2] w231 fun r234 r235 w233 =>
 qd.j2 r234 r235 Q w233)∧(
 (c224).size=22 ∧
 nw w189 ⟨(spl [.int .u8 0,.int .u8 0,.int .u8 0,.int .u8 0,.int .u8 0,.int .u8 0,.int .u8 0,.int .u8 0,.int .u8 0,.int .u8 0,.int .u8 0,.int .u8 0,.int .u8 0,.int .u8 0,.int .u8 0,.int .u8 0,.int .u8 0,.int .u8 0,.int .u8 0,.int .u8 0,.int .u32 0,.int .i64 0] 0 c224)⟩ 42 fun a236 w237 =>
 (c225).size=22 ∧
 nw w237 ⟨(spl [.int .u8 0,.int .u8 0,.int .u8 0,.int .u8 0,.int .u8 0,.int .u8 0,.int .u8 0,.int .u8 0,.int .u8 0,.int .u8 0,.int .u8 0,.int .u8 0,.int .u8 0,.int .u8 0,.int .u8 0,.int .u8 0,.int .u8 0,.int .u8 0,.int .u8 0,.int .u8 0,.int .u32 0,.int .i64 0] 0 c225)⟩ 42 fun a238 w239 =>
 ((⟨[.string r42,.slice (some a238) 1 1]⟩:Array Value)).size=2 ∧
 ((⟨[.string r190,.slice (some a236) 1 1]⟩:Array Value)).size=2 ∧
 nw w239 ⟨(spl (spl [.string ({ data:=#[] }),.slice none 0 0,.string ({ data:=#[] }),.slice none 0 0] 0 (⟨[.string r42,.slice (some a238) 1 1]⟩:Array Value)) 2 (⟨[.string r190,.slice (some a236) 1 1]⟩:Array Value))⟩ 46 fun a240 w241 =>
 qhb 9 [.slice (some a240) 2 2] w241 fun r244 r245 w243 =>
 qd.j2 r244 r245 Q w243))∧(
 (c224).size=22 ∧
 nw w189 ⟨(spl [.int .u8 0,.int .u8 0,.int .u8 0,.int .u8 0,.int .u8 0,.int .u8 0,.int .u8 0,.int .u8 0,.int .u8 0,.int .u8 0,.int .u8 0,.int .u8 0,.int .u8 0,.int .u8 0,.int .u8 0,.int .u8 0,.int .u8 0,.int .u8 0,.int .u8 0,.int .u8 0,.int .u32 0,.int .i64 0] 0 c224)⟩ 42 fun a246 w247 =>
 ldA w247 a36 22 fun c248 =>
 (c248).size=22 ∧
 nw w247 ⟨(spl [.int .u8 0,.int .u8 0,.int .u8 0,.int .u8 0,.int .u8 0,.int .u8 0,.int .u8 0,.int .u8 0,.int .u8 0,.int .u8 0,.int .u8 0,.int .u8 0,.int .u8 0,.int .u8 0,.int .u8 0,.int .u8 0,.int .u8 0,.int .u8 0,.int .u8 0,.int .u8 0,.int .u32 0,.int .i64 0] 0 c248)⟩ 42 fun a249 w250 =>
 ((⟨[.string r42,.slice (some a249) 1 1]⟩:Array Value)).size=2 ∧
 ((⟨[.string r190,.slice (some a246) 1 1]⟩:Array Value)).size=2 ∧
 nw w250 ⟨(spl (spl [.string ({ data:=#[] }),.slice none 0 0,.string ({ data:=#[] }),.slice none 0 0] 0 (⟨[.string r42,.slice (some a249) 1 1]⟩:Array Value)) 2 (⟨[.string r190,.slice (some a246) 1 1]⟩:Array Value))⟩ 46 fun a251 w252 =>
 qhb 9 [.slice (some a251) 2 2] w252 fun r255 r256 w254 =>
 qd.j2 r255 r256 Q w254)))∧(
 ldA w41 i_1 22 fun c257 =>
 (ldA w41 a36 22 fun c258 =>
 ((c258).size=22 ∧
 nw w41 ⟨(spl [.int .u8 0,.int .u8 0,.int .u8 0,.int .u8 0,.int .u8 0,.int .u8 0,.int .u8 0,.int .u8 0,.int .u8 0,.int .u8 0,.int .u8 0,.int .u8 0,.int .u8 0,.int .u8 0,.int .u8 0,.int .u8 0,.int .u8 0,.int .u8 0,.int .u8 0,.int .u8 0,.int .u32 0,.int .i64 0] 0 c258)⟩ 42 fun a259 w260 =>
 (Calls Tryz.prog 10 ⟨[.int .u8 1]⟩ w260 fun e261 w262 =>
 ∃ r263:ByteArray,e261=.returned (.string r263) ∧
 (c257).size=22 ∧
 nw w262 ⟨(spl [.int .u8 0,.int .u8 0,.int .u8 0,.int .u8 0,.int .u8 0,.int .u8 0,.int .u8 0,.int .u8 0,.int .u8 0,.int .u8 0,.int .u8 0,.int .u8 0,.int .u8 0,.int .u8 0,.int .u8 0,.int .u8 0,.int .u8 0,.int .u8 0,.int .u8 0,.int .u8 0,.int .u32 0,.int .i64 0] 0 c257)⟩ 42 fun a264 w265 =>
 ((⟨[.string r42,.slice (some a259) 1 1]⟩:Array Value)).size=2 ∧
 ((⟨[.string r263,.slice (some a264) 1 1]⟩:Array Value)).size=2 ∧
 nw w265 ⟨(spl (spl [.string ({ data:=#[] }),.slice none 0 0,.string ({ data:=#[] }),.slice none 0 0] 0 (⟨[.string r42,.slice (some a259) 1 1]⟩:Array Value)) 2 (⟨[.string r263,.slice (some a264) 1 1]⟩:Array Value))⟩ 46 fun a266 w267 =>
 qhb 9 [.slice (some a266) 2 2] w267 fun r270 r271 w269 =>
 qd.j2 r270 r271 Q w269)∧(
 (c257).size=22 ∧
 nw w260 ⟨(spl [.int .u8 0,.int .u8 0,.int .u8 0,.int .u8 0,.int .u8 0,.int .u8 0,.int .u8 0,.int .u8 0,.int .u8 0,.int .u8 0,.int .u8 0,.int .u8 0,.int .u8 0,.int .u8 0,.int .u8 0,.int .u8 0,.int .u8 0,.int .u8 0,.int .u8 0,.int .u8 0,.int .u32 0,.int .i64 0] 0 c257)⟩ 42 fun a272 w273 =>
 Calls Tryz.prog 10 ⟨[.int .u8 1]⟩ w273 fun e274 w275 =>
 ∃ r276:ByteArray,e274=.returned (.string r276) ∧
 ((⟨[.string r42,.slice (some a259) 1 1]⟩:Array Value)).size=2 ∧
 ((⟨[.string r276,.slice (some a272) 1 1]⟩:Array Value)).size=2 ∧
 nw w275 ⟨(spl (spl [.string ({ data:=#[] }),.slice none 0 0,.string ({ data:=#[] }),.slice none 0 0] 0 (⟨[.string r42,.slice (some a259) 1 1]⟩:Array Value)) 2 (⟨[.string r276,.slice (some a272) 1 1]⟩:Array Value))⟩ 46 fun a277 w278 =>
 qhb 9 [.slice (some a277) 2 2] w278 fun r281 r282 w280 =>
 qd.j2 r281 r282 Q w280))∧(
 Calls Tryz.prog 10 ⟨[.int .u8 1]⟩ w41 fun e283 w284 =>
 ∃ r285:ByteArray,e283=.returned (.string r285) ∧
 ((c258).size=22 ∧
 nw w284 ⟨(spl [.int .u8 0,.int .u8 0,.int .u8 0,.int .u8 0,.int .u8 0,.int .u8 0,.int .u8 0,.int .u8 0,.int .u8 0,.int .u8 0,.int .u8 0,.int .u8 0,.int .u8 0,.int .u8 0,.int .u8 0,.int .u8 0,.int .u8 0,.int .u8 0,.int .u8 0,.int .u8 0,.int .u32 0,.int .i64 0] 0 c258)⟩ 42 fun a286 w287 =>
 (c257).size=22 ∧
 nw w287 ⟨(spl [.int .u8 0,.int .u8 0,.int .u8 0,.int .u8 0,.int .u8 0,.int .u8 0,.int .u8 0,.int .u8 0,.int .u8 0,.int .u8 0,.int .u8 0,.int .u8 0,.int .u8 0,.int .u8 0,.int .u8 0,.int .u8 0,.int .u8 0,.int .u8 0,.int .u8 0,.int .u8 0,.int .u32 0,.int .i64 0] 0 c257)⟩ 42 fun a288 w289 =>
 ((⟨[.string r42,.slice (some a286) 1 1]⟩:Array Value)).size=2 ∧
 ((⟨[.string r285,.slice (some a288) 1 1]⟩:Array Value)).size=2 ∧
 nw w289 ⟨(spl (spl [.string ({ data:=#[] }),.slice none 0 0,.string ({ data:=#[] }),.slice none 0 0] 0 (⟨[.string r42,.slice (some a286) 1 1]⟩:Array Value)) 2 (⟨[.string r285,.slice (some a288) 1 1]⟩:Array Value))⟩ 46 fun a290 w291 =>
 qhb 9 [.slice (some a290) 2 2] w291 fun r294 r295 w293 =>
 qd.j2 r294 r295 Q w293)∧(
 (c257).size=22 ∧
 nw w284 ⟨(spl [.int .u8 0,.int .u8 0,.int .u8 0,.int .u8 0,.int .u8 0,.int .u8 0,.int .u8 0,.int .u8 0,.int .u8 0,.int .u8 0,.int .u8 0,.int .u8 0,.int .u8 0,.int .u8 0,.int .u8 0,.int .u8 0,.int .u8 0,.int .u8 0,.int .u8 0,.int .u8 0,.int .u32 0,.int .i64 0] 0 c257)⟩ 42 fun a296 w297 =>
 (c258).size=22 ∧
 nw w297 ⟨(spl [.int .u8 0,.int .u8 0,.int .u8 0,.int .u8 0,.int .u8 0,.int .u8 0,.int .u8 0,.int .u8 0,.int .u8 0,.int .u8 0,.int .u8 0,.int .u8 0,.int .u8 0,.int .u8 0,.int .u8 0,.int .u8 0,.int .u8 0,.int .u8 0,.int .u8 0,.int .u8 0,.int .u32 0,.int .i64 0] 0 c258)⟩ 42 fun a298 w299 =>
 ((⟨[.string r42,.slice (some a298) 1 1]⟩:Array Value)).size=2 ∧
 ((⟨[.string r285,.slice (some a296) 1 1]⟩:Array Value)).size=2 ∧
 nw w299 ⟨(spl (spl [.string ({ data:=#[] }),.slice none 0 0,.string ({ data:=#[] }),.slice none 0 0] 0 (⟨[.string r42,.slice (some a298) 1 1]⟩:Array Value)) 2 (⟨[.string r285,.slice (some a296) 1 1]⟩:Array Value))⟩ 46 fun a300 w301 =>
 qhb 9 [.slice (some a300) 2 2] w301 fun r304 r305 w303 =>
 qd.j2 r304 r305 Q w303))∧(
 (c257).size=22 ∧
 nw w41 ⟨(spl [.int .u8 0,.int .u8 0,.int .u8 0,.int .u8 0,.int .u8 0,.int .u8 0,.int .u8 0,.int .u8 0,.int .u8 0,.int .u8 0,.int .u8 0,.int .u8 0,.int .u8 0,.int .u8 0,.int .u8 0,.int .u8 0,.int .u8 0,.int .u8 0,.int .u8 0,.int .u8 0,.int .u32 0,.int .i64 0] 0 c257)⟩ 42 fun a306 w307 =>
 ((c258).size=22 ∧
 nw w307 ⟨(spl [.int .u8 0,.int .u8 0,.int .u8 0,.int .u8 0,.int .u8 0,.int .u8 0,.int .u8 0,.int .u8 0,.int .u8 0,.int .u8 0,.int .u8 0,.int .u8 0,.int .u8 0,.int .u8 0,.int .u8 0,.int .u8 0,.int .u8 0,.int .u8 0,.int .u8 0,.int .u8 0,.int .u32 0,.int .i64 0] 0 c258)⟩ 42 fun a308 w309 =>
 Calls Tryz.prog 10 ⟨[.int .u8 1]⟩ w309 fun e310 w311 =>
 ∃ r312:ByteArray,e310=.returned (.string r312) ∧
 ((⟨[.string r42,.slice (some a308) 1 1]⟩:Array Value)).size=2 ∧
 ((⟨[.string r312,.slice (some a306) 1 1]⟩:Array Value)).size=2 ∧
 nw w311 ⟨(spl (spl [.string ({ data:=#[] }),.slice none 0 0,.string ({ data:=#[] }),.slice none 0 0] 0 (⟨[.string r42,.slice (some a308) 1 1]⟩:Array Value)) 2 (⟨[.string r312,.slice (some a306) 1 1]⟩:Array Value))⟩ 46 fun a313 w314 =>
 qhb 9 [.slice (some a313) 2 2] w314 fun r317 r318 w316 =>
 qd.j2 r317 r318 Q w316)∧(
 Calls Tryz.prog 10 ⟨[.int .u8 1]⟩ w307 fun e319 w320 =>
 ∃ r321:ByteArray,e319=.returned (.string r321) ∧
 (c258).size=22 ∧
 nw w320 ⟨(spl [.int .u8 0,.int .u8 0,.int .u8 0,.int .u8 0,.int .u8 0,.int .u8 0,.int .u8 0,.int .u8 0,.int .u8 0,.int .u8 0,.int .u8 0,.int .u8 0,.int .u8 0,.int .u8 0,.int .u8 0,.int .u8 0,.int .u8 0,.int .u8 0,.int .u8 0,.int .u8 0,.int .u32 0,.int .i64 0] 0 c258)⟩ 42 fun a322 w323 =>
 ((⟨[.string r42,.slice (some a322) 1 1]⟩:Array Value)).size=2 ∧
 ((⟨[.string r321,.slice (some a306) 1 1]⟩:Array Value)).size=2 ∧
 nw w323 ⟨(spl (spl [.string ({ data:=#[] }),.slice none 0 0,.string ({ data:=#[] }),.slice none 0 0] 0 (⟨[.string r42,.slice (some a322) 1 1]⟩:Array Value)) 2 (⟨[.string r321,.slice (some a306) 1 1]⟩:Array Value))⟩ 46 fun a324 w325 =>
 qhb 9 [.slice (some a324) 2 2] w325 fun r328 r329 w327 =>
 qd.j2 r328 r329 Q w327)))∧(
 Calls Tryz.prog 10 ⟨[.int .u8 1]⟩ w41 fun e330 w331 =>
 ∃ r332:ByteArray,e330=.returned (.string r332) ∧
 (ldA w331 a36 22 fun c333 =>
 ((c333).size=22 ∧
 nw w331 ⟨(spl [.int .u8 0,.int .u8 0,.int .u8 0,.int .u8 0,.int .u8 0,.int .u8 0,.int .u8 0,.int .u8 0,.int .u8 0,.int .u8 0,.int .u8 0,.int .u8 0,.int .u8 0,.int .u8 0,.int .u8 0,.int .u8 0,.int .u8 0,.int .u8 0,.int .u8 0,.int .u8 0,.int .u32 0,.int .i64 0] 0 c333)⟩ 42 fun a334 w335 =>
 (c257).size=22 ∧
 nw w335 ⟨(spl [.int .u8 0,.int .u8 0,.int .u8 0,.int .u8 0,.int .u8 0,.int .u8 0,.int .u8 0,.int .u8 0,.int .u8 0,.int .u8 0,.int .u8 0,.int .u8 0,.int .u8 0,.int .u8 0,.int .u8 0,.int .u8 0,.int .u8 0,.int .u8 0,.int .u8 0,.int .u8 0,.int .u32 0,.int .i64 0] 0 c257)⟩ 42 fun a336 w337 =>
 ((⟨[.string r42,.slice (some a334) 1 1]⟩:Array Value)).size=2 ∧
 ((⟨[.string r332,.slice (some a336) 1 1]⟩:Array Value)).size=2 ∧
 nw w337 ⟨(spl (spl [.string ({ data:=#[] }),.slice none 0 0,.string ({ data:=#[] }),.slice none 0 0] 0 (⟨[.string r42,.slice (some a334) 1 1]⟩:Array Value)) 2 (⟨[.string r332,.slice (some a336) 1 1]⟩:Array Value))⟩ 46 fun a338 w339 =>
 qhb 9 [.slice (some a338) 2 2] w339 fun r342 r343 w341 =>
 qd.j2 r342 r343 Q w341)∧(
 (c257).size=22 ∧
 nw w331 ⟨(spl [.int .u8 0,.int .u8 0,.int .u8 0,.int .u8 0,.int .u8 0,.int .u8 0,.int .u8 0,.int .u8 0,.int .u8 0,.int .u8 0,.int .u8 0,.int .u8 0,.int .u8 0,.int .u8 0,.int .u8 0,.int .u8 0,.int .u8 0,.int .u8 0,.int .u8 0,.int .u8 0,.int .u32 0,.int .i64 0] 0 c257)⟩ 42 fun a344 w345 =>
 (c333).size=22 ∧
 nw w345 ⟨(spl [.int .u8 0,.int .u8 0,.int .u8 0,.int .u8 0,.int .u8 0,.int .u8 0,.int .u8 0,.int .u8 0,.int .u8 0,.int .u8 0,.int .u8 0,.int .u8 0,.int .u8 0,.int .u8 0,.int .u8 0,.int .u8 0,.int .u8 0,.int .u8 0,.int .u8 0,.int .u8 0,.int .u32 0,.int .i64 0] 0 c333)⟩ 42 fun a346 w347 =>
 ((⟨[.string r42,.slice (some a346) 1 1]⟩:Array Value)).size=2 ∧
 ((⟨[.string r332,.slice (some a344) 1 1]⟩:Array Value)).size=2 ∧
 nw w347 ⟨(spl (spl [.string ({ data:=#[] }),.slice none 0 0,.string ({ data:=#[] }),.slice none 0 0] 0 (⟨[.string r42,.slice (some a346) 1 1]⟩:Array Value)) 2 (⟨[.string r332,.slice (some a344) 1 1]⟩:Array Value))⟩ 46 fun a348 w349 =>
 qhb 9 [.slice (some a348) 2 2] w349 fun r352 r353 w351 =>
 qd.j2 r352 r353 Q w351))∧(
 (c257).size=22 ∧
 nw w331 ⟨(spl [.int .u8 0,.int .u8 0,.int .u8 0,.int .u8 0,.int .u8 0,.int .u8 0,.int .u8 0,.int .u8 0,.int .u8 0,.int .u8 0,.int .u8 0,.int .u8 0,.int .u8 0,.int .u8 0,.int .u8 0,.int .u8 0,.int .u8 0,.int .u8 0,.int .u8 0,.int .u8 0,.int .u32 0,.int .i64 0] 0 c257)⟩ 42 fun a354 w355 =>
 ldA w355 a36 22 fun c356 =>
 (c356).size=22 ∧
 nw w355 ⟨(spl [.int .u8 0,.int .u8 0,.int .u8 0,.int .u8 0,.int .u8 0,.int .u8 0,.int .u8 0,.int .u8 0,.int .u8 0,.int .u8 0,.int .u8 0,.int .u8 0,.int .u8 0,.int .u8 0,.int .u8 0,.int .u8 0,.int .u8 0,.int .u8 0,.int .u8 0,.int .u8 0,.int .u32 0,.int .i64 0] 0 c356)⟩ 42 fun a357 w358 =>
 ((⟨[.string r42,.slice (some a357) 1 1]⟩:Array Value)).size=2 ∧
 ((⟨[.string r332,.slice (some a354) 1 1]⟩:Array Value)).size=2 ∧
 nw w358 ⟨(spl (spl [.string ({ data:=#[] }),.slice none 0 0,.string ({ data:=#[] }),.slice none 0 0] 0 (⟨[.string r42,.slice (some a357) 1 1]⟩:Array Value)) 2 (⟨[.string r332,.slice (some a354) 1 1]⟩:Array Value))⟩ 46 fun a359 w360 =>
 qhb 9 [.slice (some a359) 2 2] w360 fun r363 r364 w362 =>
 qd.j2 r363 r364 Q w362))∧(
 (c257).size=22 ∧
 nw w41 ⟨(spl [.int .u8 0,.int .u8 0,.int .u8 0,.int .u8 0,.int .u8 0,.int .u8 0,.int .u8 0,.int .u8 0,.int .u8 0,.int .u8 0,.int .u8 0,.int .u8 0,.int .u8 0,.int .u8 0,.int .u8 0,.int .u8 0,.int .u8 0,.int .u8 0,.int .u8 0,.int .u8 0,.int .u32 0,.int .i64 0] 0 c257)⟩ 42 fun a365 w366 =>
 (ldA w366 a36 22 fun c367 =>
 ((c367).size=22 ∧
 nw w366 ⟨(spl [.int .u8 0,.int .u8 0,.int .u8 0,.int .u8 0,.int .u8 0,.int .u8 0,.int .u8 0,.int .u8 0,.int .u8 0,.int .u8 0,.int .u8 0,.int .u8 0,.int .u8 0,.int .u8 0,.int .u8 0,.int .u8 0,.int .u8 0,.int .u8 0,.int .u8 0,.int .u8 0,.int .u32 0,.int .i64 0] 0 c367)⟩ 42 fun a368 w369 =>
 Calls Tryz.prog 10 ⟨[.int .u8 1]⟩ w369 fun e370 w371 =>
 ∃ r372:ByteArray,e370=.returned (.string r372) ∧
 ((⟨[.string r42,.slice (some a368) 1 1]⟩:Array Value)).size=2 ∧
 ((⟨[.string r372,.slice (some a365) 1 1]⟩:Array Value)).size=2 ∧
 nw w371 ⟨(spl (spl [.string ({ data:=#[] }),.slice none 0 0,.string ({ data:=#[] }),.slice none 0 0] 0 (⟨[.string r42,.slice (some a368) 1 1]⟩:Array Value)) 2 (⟨[.string r372,.slice (some a365) 1 1]⟩:Array Value))⟩ 46 fun a373 w374 =>
 qhb 9 [.slice (some a373) 2 2] w374 fun r377 r378 w376 =>
 qd.j2 r377 r378 Q w376)∧(
 Calls Tryz.prog 10 ⟨[.int .u8 1]⟩ w366 fun e379 w380 =>
 ∃ r381:ByteArray,e379=.returned (.string r381) ∧
 (c367).size=22 ∧
 nw w380 ⟨(spl [.int .u8 0,.int .u8 0,.int .u8 0,.int .u8 0,.int .u8 0,.int .u8 0,.int .u8 0,.int .u8 0,.int .u8 0,.int .u8 0,.int .u8 0,.int .u8 0,.int .u8 0,.int .u8 0,.int .u8 0,.int .u8 0,.int .u8 0,.int .u8 0,.int .u8 0,.int .u8 0,.int .u32 0,.int .i64 0] 0 c367)⟩ 42 fun a382 w383 =>
 ((⟨[.string r42,.slice (some a382) 1 1]⟩:Array Value)).size=2 ∧
 ((⟨[.string r381,.slice (some a365) 1 1]⟩:Array Value)).size=2 ∧
 nw w383 ⟨(spl (spl [.string ({ data:=#[] }),.slice none 0 0,.string ({ data:=#[] }),.slice none 0 0] 0 (⟨[.string r42,.slice (some a382) 1 1]⟩:Array Value)) 2 (⟨[.string r381,.slice (some a365) 1 1]⟩:Array Value))⟩ 46 fun a384 w385 =>
 qhb 9 [.slice (some a384) 2 2] w385 fun r388 r389 w387 =>
 qd.j2 r388 r389 Q w387))∧(
 Calls Tryz.prog 10 ⟨[.int .u8 1]⟩ w366 fun e390 w391 =>
 ∃ r392:ByteArray,e390=.returned (.string r392) ∧
 ldA w391 a36 22 fun c393 =>
 (c393).size=22 ∧
 nw w391 ⟨(spl [.int .u8 0,.int .u8 0,.int .u8 0,.int .u8 0,.int .u8 0,.int .u8 0,.int .u8 0,.int .u8 0,.int .u8 0,.int .u8 0,.int .u8 0,.int .u8 0,.int .u8 0,.int .u8 0,.int .u8 0,.int .u8 0,.int .u8 0,.int .u8 0,.int .u8 0,.int .u8 0,.int .u32 0,.int .i64 0] 0 c393)⟩ 42 fun a394 w395 =>
 ((⟨[.string r42,.slice (some a394) 1 1]⟩:Array Value)).size=2 ∧
 ((⟨[.string r392,.slice (some a365) 1 1]⟩:Array Value)).size=2 ∧
 nw w395 ⟨(spl (spl [.string ({ data:=#[] }),.slice none 0 0,.string ({ data:=#[] }),.slice none 0 0] 0 (⟨[.string r42,.slice (some a394) 1 1]⟩:Array Value)) 2 (⟨[.string r392,.slice (some a365) 1 1]⟩:Array Value))⟩ 46 fun a396 w397 =>
 qhb 9 [.slice (some a396) 2 2] w397 fun r400 r401 w399 =>
 qd.j2 r400 r401 Q w399))))∧(
 ldA w39 a36 22 fun c402 =>
 (Calls Tryz.prog 10 ⟨[.int .u8 2]⟩ w39 fun e403 w404 =>
 ∃ r405:ByteArray,e403=.returned (.string r405) ∧
 ((c402).size=22 ∧
 nw w404 ⟨(spl [.int .u8 0,.int .u8 0,.int .u8 0,.int .u8 0,.int .u8 0,.int .u8 0,.int .u8 0,.int .u8 0,.int .u8 0,.int .u8 0,.int .u8 0,.int .u8 0,.int .u8 0,.int .u8 0,.int .u8 0,.int .u8 0,.int .u8 0,.int .u8 0,.int .u8 0,.int .u8 0,.int .u32 0,.int .i64 0] 0 c402)⟩ 42 fun a406 w407 =>
 (Calls Tryz.prog 10 ⟨[.int .u8 1]⟩ w407 fun e408 w409 =>
 ∃ r410:ByteArray,e408=.returned (.string r410) ∧
 ldA w409 i_1 22 fun c411 =>
 (c411).size=22 ∧
 nw w409 ⟨(spl [.int .u8 0,.int .u8 0,.int .u8 0,.int .u8 0,.int .u8 0,.int .u8 0,.int .u8 0,.int .u8 0,.int .u8 0,.int .u8 0,.int .u8 0,.int .u8 0,.int .u8 0,.int .u8 0,.int .u8 0,.int .u8 0,.int .u8 0,.int .u8 0,.int .u8 0,.int .u8 0,.int .u32 0,.int .i64 0] 0 c411)⟩ 42 fun a412 w413 =>
 ((⟨[.string r405,.slice (some a406) 1 1]⟩:Array Value)).size=2 ∧
 ((⟨[.string r410,.slice (some a412) 1 1]⟩:Array Value)).size=2 ∧
 nw w413 ⟨(spl (spl [.string ({ data:=#[] }),.slice none 0 0,.string ({ data:=#[] }),.slice none 0 0] 0 (⟨[.string r405,.slice (some a406) 1 1]⟩:Array Value)) 2 (⟨[.string r410,.slice (some a412) 1 1]⟩:Array Value))⟩ 46 fun a414 w415 =>
 qhb 9 [.slice (some a414) 2 2] w415 fun r418 r419 w417 =>
 qd.j2 r418 r419 Q w417)∧(
 ldA w407 i_1 22 fun c420 =>
 (Calls Tryz.prog 10 ⟨[.int .u8 1]⟩ w407 fun e421 w422 =>
 ∃ r423:ByteArray,e421=.returned (.string r423) ∧
 (c420).size=22 ∧
 nw w422 ⟨(spl [.int .u8 0,.int .u8 0,.int .u8 0,.int .u8 0,.int .u8 0,.int .u8 0,.int .u8 0,.int .u8 0,.int .u8 0,.int .u8 0,.int .u8 0,.int .u8 0,.int .u8 0,.int .u8 0,.int .u8 0,.int .u8 0,.int .u8 0,.int .u8 0,.int .u8 0,.int .u8 0,.int .u32 0,.int .i64 0] 0 c420)⟩ 42 fun a424 w425 =>
 ((⟨[.string r405,.slice (some a406) 1 1]⟩:Array Value)).size=2 ∧
 ((⟨[.string r423,.slice (some a424) 1 1]⟩:Array Value)).size=2 ∧
 nw w425 ⟨(spl (spl [.string ({ data:=#[] }),.slice none 0 0,.string ({ data:=#[] }),.slice none 0 0] 0 (⟨[.string r405,.slice (some a406) 1 1]⟩:Array Value)) 2 (⟨[.string r423,.slice (some a424) 1 1]⟩:Array Value))⟩ 46 fun a426 w427 =>
 qhb 9 [.slice (some a426) 2 2] w427 fun r430 r431 w429 =>
 qd.j2 r430 r431 Q w429)∧(
 (c420).size=22 ∧
 nw w407 ⟨(spl [.int .u8 0,.int .u8 0,.int .u8 0,.int .u8 0,.int .u8 0,.int .u8 0,.int .u8 0,.int .u8 0,.int .u8 0,.int .u8 0,.int .u8 0,.int .u8 0,.int .u8 0,.int .u8 0,.int .u8 0,.int .u8 0,.int .u8 0,.int .u8 0,.int .u8 0,.int .u8 0,.int .u32 0,.int .i64 0] 0 c420)⟩ 42 fun a432 w433 =>
 Calls Tryz.prog 10 ⟨[.int .u8 1]⟩ w433 fun e434 w435 =>
 ∃ r436:ByteArray,e434=.returned (.string r436) ∧
 ((⟨[.string r405,.slice (some a406) 1 1]⟩:Array Value)).size=2 ∧
 ((⟨[.string r436,.slice (some a432) 1 1]⟩:Array Value)).size=2 ∧
 nw w435 ⟨(spl (spl [.string ({ data:=#[] }),.slice none 0 0,.string ({ data:=#[] }),.slice none 0 0] 0 (⟨[.string r405,.slice (some a406) 1 1]⟩:Array Value)) 2 (⟨[.string r436,.slice (some a432) 1 1]⟩:Array Value))⟩ 46 fun a437 w438 =>
 qhb 9 [.slice (some a437) 2 2] w438 fun r441 r442 w440 =>
 qd.j2 r441 r442 Q w440)))∧(
 Calls Tryz.prog 10 ⟨[.int .u8 1]⟩ w404 fun e443 w444 =>
 ∃ r445:ByteArray,e443=.returned (.string r445) ∧
 ((c402).size=22 ∧
 nw w444 ⟨(spl [.int .u8 0,.int .u8 0,.int .u8 0,.int .u8 0,.int .u8 0,.int .u8 0,.int .u8 0,.int .u8 0,.int .u8 0,.int .u8 0,.int .u8 0,.int .u8 0,.int .u8 0,.int .u8 0,.int .u8 0,.int .u8 0,.int .u8 0,.int .u8 0,.int .u8 0,.int .u8 0,.int .u32 0,.int .i64 0] 0 c402)⟩ 42 fun a446 w447 =>
 ldA w447 i_1 22 fun c448 =>
 (c448).size=22 ∧
 nw w447 ⟨(spl [.int .u8 0,.int .u8 0,.int .u8 0,.int .u8 0,.int .u8 0,.int .u8 0,.int .u8 0,.int .u8 0,.int .u8 0,.int .u8 0,.int .u8 0,.int .u8 0,.int .u8 0,.int .u8 0,.int .u8 0,.int .u8 0,.int .u8 0,.int .u8 0,.int .u8 0,.int .u8 0,.int .u32 0,.int .i64 0] 0 c448)⟩ 42 fun a449 w450 =>
 ((⟨[.string r405,.slice (some a446) 1 1]⟩:Array Value)).size=2 ∧
 ((⟨[.string r445,.slice (some a449) 1 1]⟩:Array Value)).size=2 ∧
 nw w450 ⟨(spl (spl [.string ({ data:=#[] }),.slice none 0 0,.string ({ data:=#[] }),.slice none 0 0] 0 (⟨[.string r405,.slice (some a446) 1 1]⟩:Array Value)) 2 (⟨[.string r445,.slice (some a449) 1 1]⟩:Array Value))⟩ 46 fun a451 w452 =>
 qhb 9 [.slice (some a451) 2 2] w452 fun r455 r456 w454 =>
 qd.j2 r455 r456 Q w454)∧(
 ldA w444 i_1 22 fun c457 =>
 ((c402).size=22 ∧
 nw w444 ⟨(spl [.int .u8 0,.int .u8 0,.int .u8 0,.int .u8 0,.int .u8 0,.int .u8 0,.int .u8 0,.int .u8 0,.int .u8 0,.int .u8 0,.int .u8 0,.int .u8 0,.int .u8 0,.int .u8 0,.int .u8 0,.int .u8 0,.int .u8 0,.int .u8 0,.int .u8 0,.int .u8 0,.int .u32 0,.int .i64 0] 0 c402)⟩ 42 fun a458 w459 =>
 (c457).size=22 ∧
 nw w459 ⟨(spl [.int .u8 0,.int .u8 0,.int .u8 0,.int .u8 0,.int .u8 0,.int .u8 0,.int .u8 0,.int .u8 0,.int .u8 0,.int .u8 0,.int .u8 0,.int .u8 0,.int .u8 0,.int .u8 0,.int .u8 0,.int .u8 0,.int .u8 0,.int .u8 0,.int .u8 0,.int .u8 0,.int .u32 0,.int .i64 0] 0 c457)⟩ 42 fun a460 w461 =>
 ((⟨[.string r405,.slice (some a458) 1 1]⟩:Array Value)).size=2 ∧
 ((⟨[.string r445,.slice (some a460) 1 1]⟩:Array Value)).size=2 ∧
 nw w461 ⟨(spl (spl [.string ({ data:=#[] }),.slice none 0 0,.string ({ data:=#[] }),.slice none 0 0] 0 (⟨[.string r405,.slice (some a458) 1 1]⟩:Array Value)) 2 (⟨[.string r445,.slice (some a460) 1 1]⟩:Array Value))⟩ 46 fun a462 w463 =>
 qhb 9 [.slice (some a462) 2 2] w463 fun r466 r467 w465 =>
 qd.j2 r466 r467 Q w465)∧(
 (c457).size=22 ∧
 nw w444 ⟨(spl [.int .u8 0,.int .u8 0,.int .u8 0,.int .u8 0,.int .u8 0,.int .u8 0,.int .u8 0,.int .u8 0,.int .u8 0,.int .u8 0,.int .u8 0,.int .u8 0,.int .u8 0,.int .u8 0,.int .u8 0,.int .u8 0,.int .u8 0,.int .u8 0,.int .u8 0,.int .u8 0,.int .u32 0,.int .i64 0] 0 c457)⟩ 42 fun a468 w469 =>
 (c402).size=22 ∧
 nw w469 ⟨(spl [.int .u8 0,.int .u8 0,.int .u8 0,.int .u8 0,.int .u8 0,.int .u8 0,.int .u8 0,.int .u8 0,.int .u8 0,.int .u8 0,.int .u8 0,.int .u8 0,.int .u8 0,.int .u8 0,.int .u8 0,.int .u8 0,.int .u8 0,.int .u8 0,.int .u8 0,.int .u8 0,.int .u32 0,.int .i64 0] 0 c402)⟩ 42 fun a470 w471 =>
 ((⟨[.string r405,.slice (some a470) 1 1]⟩:Array Value)).size=2 ∧
 ((⟨[.string r445,.slice (some a468) 1 1]⟩:Array Value)).size=2 ∧
 nw w471 ⟨(spl (spl [.string ({ data:=#[] }),.slice none 0 0,.string ({ data:=#[] }),.slice none 0 0] 0 (⟨[.string r405,.slice (some a470) 1 1]⟩:Array Value)) 2 (⟨[.string r445,.slice (some a468) 1 1]⟩:Array Value))⟩ 46 fun a472 w473 =>
 qhb 9 [.slice (some a472) 2 2] w473 fun r476 r477 w475 =>
 qd.j2 r476 r477 Q w475)))∧(
 ldA w404 i_1 22 fun c478 =>
 ((c402).size=22 ∧
 nw w404 ⟨(spl [.int .u8 0,.int .u8 0,.int .u8 0,.int .u8 0,.int .u8 0,.int .u8 0,.int .u8 0,.int .u8 0,.int .u8 0,.int .u8 0,.int .u8 0,.int .u8 0,.int .u8 0,.int .u8 0,.int .u8 0,.int .u8 0,.int .u8 0,.int .u8 0,.int .u8 0,.int .u8 0,.int .u32 0,.int .i64 0] 0 c402)⟩ 42 fun a479 w480 =>
 (Calls Tryz.prog 10 ⟨[.int .u8 1]⟩ w480 fun e481 w482 =>
 ∃ r483:ByteArray,e481=.returned (.string r483) ∧
 (c478).size=22 ∧
 nw w482 ⟨(spl [.int .u8 0,.int .u8 0,.int .u8 0,.int .u8 0,.int .u8 0,.int .u8 0,.int .u8 0,.int .u8 0,.int .u8 0,.int .u8 0,.int .u8 0,.int .u8 0,.int .u8 0,.int .u8 0,.int .u8 0,.int .u8 0,.int .u8 0,.int .u8 0,.int .u8 0,.int .u8 0,.int .u32 0,.int .i64 0] 0 c478)⟩ 42 fun a484 w485 =>
 ((⟨[.string r405,.slice (some a479) 1 1]⟩:Array Value)).size=2 ∧
 ((⟨[.string r483,.slice (some a484) 1 1]⟩:Array Value)).size=2 ∧
 nw w485 ⟨(spl (spl [.string ({ data:=#[] }),.slice none 0 0,.string ({ data:=#[] }),.slice none 0 0] 0 (⟨[.string r405,.slice (some a479) 1 1]⟩:Array Value)) 2 (⟨[.string r483,.slice (some a484) 1 1]⟩:Array Value))⟩ 46 fun a486 w487 =>
 qhb 9 [.slice (some a486) 2 2] w487 fun r490 r491 w489 =>
 qd.j2 r490 r491 Q w489)∧(
 (c478).size=22 ∧
 nw w480 ⟨(spl [.int .u8 0,.int .u8 0,.int .u8 0,.int .u8 0,.int .u8 0,.int .u8 0,.int .u8 0,.int .u8 0,.int .u8 0,.int .u8 0,.int .u8 0,.int .u8 0,.int .u8 0,.int .u8 0,.int .u8 0,.int .u8 0,.int .u8 0,.int .u8 0,.int .u8 0,.int .u8 0,.int .u32 0,.int .i64 0] 0 c478)⟩ 42 fun a492 w493 =>
 Calls Tryz.prog 10 ⟨[.int .u8 1]⟩ w493 fun e494 w495 =>
 ∃ r496:ByteArray,e494=.returned (.string r496) ∧
 ((⟨[.string r405,.slice (some a479) 1 1]⟩:Array Value)).size=2 ∧
 ((⟨[.string r496,.slice (some a492) 1 1]⟩:Array Value)).size=2 ∧
 nw w495 ⟨(spl (spl [.string ({ data:=#[] }),.slice none 0 0,.string ({ data:=#[] }),.slice none 0 0] 0 (⟨[.string r405,.slice (some a479) 1 1]⟩:Array Value)) 2 (⟨[.string r496,.slice (some a492) 1 1]⟩:Array Value))⟩ 46 fun a497 w498 =>
 qhb 9 [.slice (some a497) 2 2] w498 fun r501 r502 w500 =>
 qd.j2 r501 r502 Q w500))∧(
 Calls Tryz.prog 10 ⟨[.int .u8 1]⟩ w404 fun e503 w504 =>
 ∃ r505:ByteArray,e503=.returned (.string r505) ∧
 ((c402).size=22 ∧
 nw w504 ⟨(spl [.int .u8 0,.int .u8 0,.int .u8 0,.int .u8 0,.int .u8 0,.int .u8 0,.int .u8 0,.int .u8 0,.int .u8 0,.int .u8 0,.int .u8 0,.int .u8 0,.int .u8 0,.int .u8 0,.int .u8 0,.int .u8 0,.int .u8 0,.int .u8 0,.int .u8 0,.int .u8 0,.int .u32 0,.int .i64 0] 0 c402)⟩ 42 fun a506 w507 =>
 (c478).size=22 ∧
 nw w507 ⟨(spl [.int .u8 0,.int .u8 0,.int .u8 0,.int .u8 0,.int .u8 0,.int .u8 0,.int .u8 0,.int .u8 0,.int .u8 0,.int .u8 0,.int .u8 0,.int .u8 0,.int .u8 0,.int .u8 0,.int .u8 0,.int .u8 0,.int .u8 0,.int .u8 0,.int .u8 0,.int .u8 0,.int .u32 0,.int .i64 0] 0 c478)⟩ 42 fun a508 w509 =>
 ((⟨[.string r405,.slice (some a506) 1 1]⟩:Array Value)).size=2 ∧
 ((⟨[.string r505,.slice (some a508) 1 1]⟩:Array Value)).size=2 ∧
 nw w509 ⟨(spl (spl [.string ({ data:=#[] }),.slice none 0 0,.string ({ data:=#[] }),.slice none 0 0] 0 (⟨[.string r405,.slice (some a506) 1 1]⟩:Array Value)) 2 (⟨[.string r505,.slice (some a508) 1 1]⟩:Array Value))⟩ 46 fun a510 w511 =>
 qhb 9 [.slice (some a510) 2 2] w511 fun r514 r515 w513 =>
 qd.j2 r514 r515 Q w513)∧(
 (c478).size=22 ∧
 nw w504 ⟨(spl [.int .u8 0,.int .u8 0,.int .u8 0,.int .u8 0,.int .u8 0,.int .u8 0,.int .u8 0,.int .u8 0,.int .u8 0,.int .u8 0,.int .u8 0,.int .u8 0,.int .u8 0,.int .u8 0,.int .u8 0,.int .u8 0,.int .u8 0,.int .u8 0,.int .u8 0,.int .u8 0,.int .u32 0,.int .i64 0] 0 c478)⟩ 42 fun a516 w517 =>
 (c402).size=22 ∧
 nw w517 ⟨(spl [.int .u8 0,.int .u8 0,.int .u8 0,.int .u8 0,.int .u8 0,.int .u8 0,.int .u8 0,.int .u8 0,.int .u8 0,.int .u8 0,.int .u8 0,.int .u8 0,.int .u8 0,.int .u8 0,.int .u8 0,.int .u8 0,.int .u8 0,.int .u8 0,.int .u8 0,.int .u8 0,.int .u32 0,.int .i64 0] 0 c402)⟩ 42 fun a518 w519 =>
 ((⟨[.string r405,.slice (some a518) 1 1]⟩:Array Value)).size=2 ∧
 ((⟨[.string r505,.slice (some a516) 1 1]⟩:Array Value)).size=2 ∧
 nw w519 ⟨(spl (spl [.string ({ data:=#[] }),.slice none 0 0,.string ({ data:=#[] }),.slice none 0 0] 0 (⟨[.string r405,.slice (some a518) 1 1]⟩:Array Value)) 2 (⟨[.string r505,.slice (some a516) 1 1]⟩:Array Value))⟩ 46 fun a520 w521 =>
 qhb 9 [.slice (some a520) 2 2] w521 fun r524 r525 w523 =>
 qd.j2 r524 r525 Q w523))∧(
 (c478).size=22 ∧
 nw w404 ⟨(spl [.int .u8 0,.int .u8 0,.int .u8 0,.int .u8 0,.int .u8 0,.int .u8 0,.int .u8 0,.int .u8 0,.int .u8 0,.int .u8 0,.int .u8 0,.int .u8 0,.int .u8 0,.int .u8 0,.int .u8 0,.int .u8 0,.int .u8 0,.int .u8 0,.int .u8 0,.int .u8 0,.int .u32 0,.int .i64 0] 0 c478)⟩ 42 fun a526 w527 =>
 ((c402).size=22 ∧
 nw w527 ⟨(spl [.int .u8 0,.int .u8 0,.int .u8 0,.int .u8 0,.int .u8 0,.int .u8 0,.int .u8 0,.int .u8 0,.int .u8 0,.int .u8 0,.int .u8 0,.int .u8 0,.int .u8 0,.int .u8 0,.int .u8 0,.int .u8 0,.int .u8 0,.int .u8 0,.int .u8 0,.int .u8 0,.int .u32 0,.int .i64 0] 0 c402)⟩ 42 fun a528 w529 =>
 Calls Tryz.prog 10 ⟨[.int .u8 1]⟩ w529 fun e530 w531 =>
 ∃ r532:ByteArray,e530=.returned (.string r532) ∧
 ((⟨[.string r405,.slice (some a528) 1 1]⟩:Array Value)).size=2 ∧
 ((⟨[.string r532,.slice (some a526) 1 1]⟩:Array Value)).size=2 ∧
 nw w531 ⟨(spl (spl [.string ({ data:=#[] }),.slice none 0 0,.string ({ data:=#[] }),.slice none 0 0] 0 (⟨[.string r405,.slice (some a528) 1 1]⟩:Array Value)) 2 (⟨[.string r532,.slice (some a526) 1 1]⟩:Array Value))⟩ 46 fun a533 w534 =>
 qhb 9 [.slice (some a533) 2 2] w534 fun r537 r538 w536 =>
 qd.j2 r537 r538 Q w536)∧(
 Calls Tryz.prog 10 ⟨[.int .u8 1]⟩ w527 fun e539 w540 =>
 ∃ r541:ByteArray,e539=.returned (.string r541) ∧
 (c402).size=22 ∧
 nw w540 ⟨(spl [.int .u8 0,.int .u8 0,.int .u8 0,.int .u8 0,.int .u8 0,.int .u8 0,.int .u8 0,.int .u8 0,.int .u8 0,.int .u8 0,.int .u8 0,.int .u8 0,.int .u8 0,.int .u8 0,.int .u8 0,.int .u8 0,.int .u8 0,.int .u8 0,.int .u8 0,.int .u8 0,.int .u32 0,.int .i64 0] 0 c402)⟩ 42 fun a542 w543 =>
 ((⟨[.string r405,.slice (some a542) 1 1]⟩:Array Value)).size=2 ∧
 ((⟨[.string r541,.slice (some a526) 1 1]⟩:Array Value)).size=2 ∧
 nw w543 ⟨(spl (spl [.string ({ data:=#[] }),.slice none 0 0,.string ({ data:=#[] }),.slice none 0 0] 0 (⟨[.string r405,.slice (some a542) 1 1]⟩:Array Value)) 2 (⟨[.string r541,.slice (some a526) 1 1]⟩:Array Value))⟩ 46 fun a544 w545 =>
 qhb 9 [.slice (some a544) 2 2] w545 fun r548 r549 w547 =>
 qd.j2 r548 r549 Q w547))))∧(
 (c402).size=22 ∧
 nw w39 ⟨(spl [.int .u8 0,.int .u8 0,.int .u8 0,.int .u8 0,.int .u8 0,.int .u8 0,.int .u8 0,.int .u8 0,.int .u8 0,.int .u8 0,.int .u8 0,.int .u8 0,.int .u8 0,.int .u8 0,.int .u8 0,.int .u8 0,.int .u8 0,.int .u8 0,.int .u8 0,.int .u8 0,.int .u32 0,.int .i64 0] 0 c402)⟩ 42 fun a550 w551 =>
 (Calls Tryz.prog 10 ⟨[.int .u8 2]⟩ w551 fun e552 w553 =>
 ∃ r554:ByteArray,e552=.returned (.string r554) ∧
 (Calls Tryz.prog 10 ⟨[.int .u8 1]⟩ w553 fun e555 w556 =>
 ∃ r557:ByteArray,e555=.returned (.string r557) ∧
 ldA w556 i_1 22 fun c558 =>
 (c558).size=22 ∧
 nw w556 ⟨(spl [.int .u8 0,.int .u8 0,.int .u8 0,.int .u8 0,.int .u8 0,.int .u8 0,.int .u8 0,.int .u8 0,.int .u8 0,.int .u8 0,.int .u8 0,.int .u8 0,.int .u8 0,.int .u8 0,.int .u8 0,.int .u8 0,.int .u8 0,.int .u8 0,.int .u8 0,.int .u8 0,.int .u32 0,.int .i64 0] 0 c558)⟩ 42 fun a559 w560 =>
 ((⟨[.string r554,.slice (some a550) 1 1]⟩:Array Value)).size=2 ∧
 ((⟨[.string r557,.slice (some a559) 1 1]⟩:Array Value)).size=2 ∧
 nw w560 ⟨(spl (spl [.string ({ data:=#[] }),.slice none 0 0,.string ({ data:=#[] }),.slice none 0 0] 0 (⟨[.string r554,.slice (some a550) 1 1]⟩:Array Value)) 2 (⟨[.string r557,.slice (some a559) 1 1]⟩:Array Value))⟩ 46 fun a561 w562 =>
 qhb 9 [.slice (some a561) 2 2] w562 fun r565 r566 w564 =>
 qd.j2 r565 r566 Q w564)∧(
 ldA w553 i_1 22 fun c567 =>
 (Calls Tryz.prog 10 ⟨[.int .u8 1]⟩ w553 fun e568 w569 =>
 ∃ r570:ByteArray,e568=.returned (.string r570) ∧
 (c567).size=22 ∧
 nw w569 ⟨(spl [.int .u8 0,.int .u8 0,.int .u8 0,.int .u8 0,.int .u8 0,.int .u8 0,.int .u8 0,.int .u8 0,.int .u8 0,.int .u8 0,.int .u8 0,.int .u8 0,.int .u8 0,.int .u8 0,.int .u8 0,.int .u8 0,.int .u8 0,.int .u8 0,.int .u8 0,.int .u8 0,.int .u32 0,.int .i64 0] 0 c567)⟩ 42 fun a571 w572 =>
 ((⟨[.string r554,.slice (some a550) 1 1]⟩:Array Value)).size=2 ∧
 ((⟨[.string r570,.slice (some a571) 1 1]⟩:Array Value)).size=2 ∧
 nw w572 ⟨(spl (spl [.string ({ data:=#[] }),.slice none 0 0,.string ({ data:=#[] }),.slice none 0 0] 0 (⟨[.string r554,.slice (some a550) 1 1]⟩:Array Value)) 2 (⟨[.string r570,.slice (some a571) 1 1]⟩:Array Value))⟩ 46 fun a573 w574 =>
 qhb 9 [.slice (some a573) 2 2] w574 fun r577 r578 w576 =>
 qd.j2 r577 r578 Q w576)∧(
 (c567).size=22 ∧
 nw w553 ⟨(spl [.int .u8 0,.int .u8 0,.int .u8 0,.int .u8 0,.int .u8 0,.int .u8 0,.int .u8 0,.int .u8 0,.int .u8 0,.int .u8 0,.int .u8 0,.int .u8 0,.int .u8 0,.int .u8 0,.int .u8 0,.int .u8 0,.int .u8 0,.int .u8 0,.int .u8 0,.int .u8 0,.int .u32 0,.int .i64 0] 0 c567)⟩ 42 fun a579 w580 =>
 Calls Tryz.prog 10 ⟨[.int .u8 1]⟩ w580 fun e581 w582 =>
 ∃ r583:ByteArray,e581=.returned (.string r583) ∧
 ((⟨[.string r554,.slice (some a550) 1 1]⟩:Array Value)).size=2 ∧
 ((⟨[.string r583,.slice (some a579) 1 1]⟩:Array Value)).size=2 ∧
 nw w582 ⟨(spl (spl [.string ({ data:=#[] }),.slice none 0 0,.string ({ data:=#[] }),.slice none 0 0] 0 (⟨[.string r554,.slice (some a550) 1 1]⟩:Array Value)) 2 (⟨[.string r583,.slice (some a579) 1 1]⟩:Array Value))⟩ 46 fun a584 w585 =>
 qhb 9 [.slice (some a584) 2 2] w585 fun r588 r589 w587 =>
 qd.j2 r588 r589 Q w587)))∧(
 ldA w551 i_1 22 fun c590 =>
 (Calls Tryz.prog 10 ⟨[.int .u8 2]⟩ w551 fun e591 w592 =>
 ∃ r593:ByteArray,e591=.returned (.string r593) ∧
 (Calls Tryz.prog 10 ⟨[.int .u8 1]⟩ w592 fun e594 w595 =>
 ∃ r596:ByteArray,e594=.returned (.string r596) ∧
 (c590).size=22 ∧
 nw w595 ⟨(spl [.int .u8 0,.int .u8 0,.int .u8 0,.int .u8 0,.int .u8 0,.int .u8 0,.int .u8 0,.int .u8 0,.int .u8 0,.int .u8 0,.int .u8 0,.int .u8 0,.int .u8 0,.int .u8 0,.int .u8 0,.int .u8 0,.int .u8 0,.int .u8 0,.int .u8 0,.int .u8 0,.int .u32 0,.int .i64 0] 0 c590)⟩ 42 fun a597 w598 =>
 ((⟨[.string r593,.slice (some a550) 1 1]⟩:Array Value)).size=2 ∧
 ((⟨[.string r596,.slice (some a597) 1 1]⟩:Array Value)).size=2 ∧
 nw w598 ⟨(spl (spl [.string ({ data:=#[] }),.slice none 0 0,.string ({ data:=#[] }),.slice none 0 0] 0 (⟨[.string r593,.slice (some a550) 1 1]⟩:Array Value)) 2 (⟨[.string r596,.slice (some a597) 1 1]⟩:Array Value))⟩ 46 fun a599 w600 =>
 qhb 9 [.slice (some a599) 2 2] w600 fun r603 r604 w602 =>
 qd.j2 r603 r604 Q w602)∧(
 (c590).size=22 ∧
 nw w592 ⟨(spl [.int .u8 0,.int .u8 0,.int .u8 0,.int .u8 0,.int .u8 0,.int .u8 0,.int .u8 0,.int .u8 0,.int .u8 0,.int .u8 0,.int .u8 0,.int .u8 0,.int .u8 0,.int .u8 0,.int .u8 0,.int .u8 0,.int .u8 0,.int .u8 0,.int .u8 0,.int .u8 0,.int .u32 0,.int .i64 0] 0 c590)⟩ 42 fun a605 w606 =>
 Calls Tryz.prog 10 ⟨[.int .u8 1]⟩ w606 fun e607 w608 =>
 ∃ r609:ByteArray,e607=.returned (.string r609) ∧
 ((⟨[.string r593,.slice (some a550) 1 1]⟩:Array Value)).size=2 ∧
 ((⟨[.string r609,.slice (some a605) 1 1]⟩:Array Value)).size=2 ∧
 nw w608 ⟨(spl (spl [.string ({ data:=#[] }),.slice none 0 0,.string ({ data:=#[] }),.slice none 0 0] 0 (⟨[.string r593,.slice (some a550) 1 1]⟩:Array Value)) 2 (⟨[.string r609,.slice (some a605) 1 1]⟩:Array Value))⟩ 46 fun a610 w611 =>
 qhb 9 [.slice (some a610) 2 2] w611 fun r614 r615 w613 =>
 qd.j2 r614 r615 Q w613))∧(
 (c590).size=22 ∧
 nw w551 ⟨(spl [.int .u8 0,.int .u8 0,.int .u8 0,.int .u8 0,.int .u8 0,.int .u8 0,.int .u8 0,.int .u8 0,.int .u8 0,.int .u8 0,.int .u8 0,.int .u8 0,.int .u8 0,.int .u8 0,.int .u8 0,.int .u8 0,.int .u8 0,.int .u8 0,.int .u8 0,.int .u8 0,.int .u32 0,.int .i64 0] 0 c590)⟩ 42 fun a616 w617 =>
 Calls Tryz.prog 10 ⟨[.int .u8 2]⟩ w617 fun e618 w619 =>
 ∃ r620:ByteArray,e618=.returned (.string r620) ∧
 Calls Tryz.prog 10 ⟨[.int .u8 1]⟩ w619 fun e621 w622 =>
 ∃ r623:ByteArray,e621=.returned (.string r623) ∧
 ((⟨[.string r620,.slice (some a550) 1 1]⟩:Array Value)).size=2 ∧
 ((⟨[.string r623,.slice (some a616) 1 1]⟩:Array Value)).size=2 ∧
 nw w622 ⟨(spl (spl [.string ({ data:=#[] }),.slice none 0 0,.string ({ data:=#[] }),.slice none 0 0] 0 (⟨[.string r620,.slice (some a550) 1 1]⟩:Array Value)) 2 (⟨[.string r623,.slice (some a616) 1 1]⟩:Array Value))⟩ 46 fun a624 w625 =>
 qhb 9 [.slice (some a624) 2 2] w625 fun r628 r629 w627 =>
 qd.j2 r628 r629 Q w627)))∧(
 ldA w39 i_1 22 fun c630 =>
 (Calls Tryz.prog 10 ⟨[.int .u8 2]⟩ w39 fun e631 w632 =>
 ∃ r633:ByteArray,e631=.returned (.string r633) ∧
 ((c402).size=22 ∧
 nw w632 ⟨(spl [.int .u8 0,.int .u8 0,.int .u8 0,.int .u8 0,.int .u8 0,.int .u8 0,.int .u8 0,.int .u8 0,.int .u8 0,.int .u8 0,.int .u8 0,.int .u8 0,.int .u8 0,.int .u8 0,.int .u8 0,.int .u8 0,.int .u8 0,.int .u8 0,.int .u8 0,.int .u8 0,.int .u32 0,.int .i64 0] 0 c402)⟩ 42 fun a634 w635 =>
 (Calls Tryz.prog 10 ⟨[.int .u8 1]⟩ w635 fun e636 w637 =>
 ∃ r638:ByteArray,e636=.returned (.string r638) ∧
 (c630).size=22 ∧
 nw w637 ⟨(spl [.int .u8 0,.int .u8 0,.int .u8 0,.int .u8 0,.int .u8 0,.int .u8 0,.int .u8 0,.int .u8 0,.int .u8 0,.int .u8 0,.int .u8 0,.int .u8 0,.int .u8 0,.int .u8 0,.int .u8 0,.int .u8 0,.int .u8 0,.int .u8 0,.int .u8 0,.int .u8 0,.int .u32 0,.int .i64 0] 0 c630)⟩ 42 fun a639 w640 =>
 ((⟨[.string r633,.slice (some a634) 1 1]⟩:Array Value)).size=2 ∧
 ((⟨[.string r638,.slice (some a639) 1 1]⟩:Array Value)).size=2 ∧
 nw w640 ⟨(spl (spl [.string ({ data:=#[] }),.slice none 0 0,.string ({ data:=#[] }),.slice none 0 0] 0 (⟨[.string r633,.slice (some a634) 1 1]⟩:Array Value)) 2 (⟨[.string r638,.slice (some a639) 1 1]⟩:Array Value))⟩ 46 fun a641 w642 =>
 qhb 9 [.slice (some a641) 2 2] w642 fun r645 r646 w644 =>
 qd.j2 r645 r646 Q w644)∧(
 (c630).size=22 ∧
 nw w635 ⟨(spl [.int .u8 0,.int .u8 0,.int .u8 0,.int .u8 0,.int .u8 0,.int .u8 0,.int .u8 0,.int .u8 0,.int .u8 0,.int .u8 0,.int .u8 0,.int .u8 0,.int .u8 0,.int .u8 0,.int .u8 0,.int .u8 0,.int .u8 0,.int .u8 0,.int .u8 0,.int .u8 0,.int .u32 0,.int .i64 0] 0 c630)⟩ 42 fun a647 w648 =>
 Calls Tryz.prog 10 ⟨[.int .u8 1]⟩ w648 fun e649 w650 =>
 ∃ r651:ByteArray,e649=.returned (.string r651) ∧
 ((⟨[.string r633,.slice (some a634) 1 1]⟩:Array Value)).size=2 ∧
 ((⟨[.string r651,.slice (some a647) 1 1]⟩:Array Value)).size=2 ∧
 nw w650 ⟨(spl (spl [.string ({ data:=#[] }),.slice none 0 0,.string ({ data:=#[] }),.slice none 0 0] 0 (⟨[.string r633,.slice (some a634) 1 1]⟩:Array Value)) 2 (⟨[.string r651,.slice (some a647) 1 1]⟩:Array Value))⟩ 46 fun a652 w653 =>
 qhb 9 [.slice (some a652) 2 2] w653 fun r656 r657 w655 =>
 qd.j2 r656 r657 Q w655))∧(
 Calls Tryz.prog 10 ⟨[.int .u8 1]⟩ w632 fun e658 w659 =>
 ∃ r660:ByteArray,e658=.returned (.string r660) ∧
 ((c402).size=22 ∧
 nw w659 ⟨(spl [.int .u8 0,.int .u8 0,.int .u8 0,.int .u8 0,.int .u8 0,.int .u8 0,.int .u8 0,.int .u8 0,.int .u8 0,.int .u8 0,.int .u8 0,.int .u8 0,.int .u8 0,.int .u8 0,.int .u8 0,.int .u8 0,.int .u8 0,.int .u8 0,.int .u8 0,.int .u8 0,.int .u32 0,.int .i64 0] 0 c402)⟩ 42 fun a661 w662 =>
 (c630).size=22 ∧
 nw w662 ⟨(spl [.int .u8 0,.int .u8 0,.int .u8 0,.int .u8 0,.int .u8 0,.int .u8 0,.int .u8 0,.int .u8 0,.int .u8 0,.int .u8 0,.int .u8 0,.int .u8 0,.int .u8 0,.int .u8 0,.int .u8 0,.int .u8 0,.int .u8 0,.int .u8 0,.int .u8 0,.int .u8 0,.int .u32 0,.int .i64 0] 0 c630)⟩ 42 fun a663 w664 =>
 ((⟨[.string r633,.slice (some a661) 1 1]⟩:Array Value)).size=2 ∧
 ((⟨[.string r660,.slice (some a663) 1 1]⟩:Array Value)).size=2 ∧
 nw w664 ⟨(spl (spl [.string ({ data:=#[] }),.slice none 0 0,.string ({ data:=#[] }),.slice none 0 0] 0 (⟨[.string r633,.slice (some a661) 1 1]⟩:Array Value)) 2 (⟨[.string r660,.slice (some a663) 1 1]⟩:Array Value))⟩ 46 fun a665 w666 =>
 qhb 9 [.slice (some a665) 2 2] w666 fun r669 r670 w668 =>
 qd.j2 r669 r670 Q w668)∧(
 (c630).size=22 ∧
 nw w659 ⟨(spl [.int .u8 0,.int .u8 0,.int .u8 0,.int .u8 0,.int .u8 0,.int .u8 0,.int .u8 0,.int .u8 0,.int .u8 0,.int .u8 0,.int .u8 0,.int .u8 0,.int .u8 0,.int .u8 0,.int .u8 0,.int .u8 0,.int .u8 0,.int .u8 0,.int .u8 0,.int .u8 0,.int .u32 0,.int .i64 0] 0 c630)⟩ 42 fun a671 w672 =>
 (c402).size=22 ∧
 nw w672 ⟨(spl [.int .u8 0,.int .u8 0,.int .u8 0,.int .u8 0,.int .u8 0,.int .u8 0,.int .u8 0,.int .u8 0,.int .u8 0,.int .u8 0,.int .u8 0,.int .u8 0,.int .u8 0,.int .u8 0,.int .u8 0,.int .u8 0,.int .u8 0,.int .u8 0,.int .u8 0,.int .u8 0,.int .u32 0,.int .i64 0] 0 c402)⟩ 42 fun a673 w674 =>
 ((⟨[.string r633,.slice (some a673) 1 1]⟩:Array Value)).size=2 ∧
 ((⟨[.string r660,.slice (some a671) 1 1]⟩:Array Value)).size=2 ∧
 nw w674 ⟨(spl (spl [.string ({ data:=#[] }),.slice none 0 0,.string ({ data:=#[] }),.slice none 0 0] 0 (⟨[.string r633,.slice (some a673) 1 1]⟩:Array Value)) 2 (⟨[.string r660,.slice (some a671) 1 1]⟩:Array Value))⟩ 46 fun a675 w676 =>
 qhb 9 [.slice (some a675) 2 2] w676 fun r679 r680 w678 =>
 qd.j2 r679 r680 Q w678))∧(
 (c630).size=22 ∧
 nw w632 ⟨(spl [.int .u8 0,.int .u8 0,.int .u8 0,.int .u8 0,.int .u8 0,.int .u8 0,.int .u8 0,.int .u8 0,.int .u8 0,.int .u8 0,.int .u8 0,.int .u8 0,.int .u8 0,.int .u8 0,.int .u8 0,.int .u8 0,.int .u8 0,.int .u8 0,.int .u8 0,.int .u8 0,.int .u32 0,.int .i64 0] 0 c630)⟩ 42 fun a681 w682 =>
 ((c402).size=22 ∧
 nw w682 ⟨(spl [.int .u8 0,.int .u8 0,.int .u8 0,.int .u8 0,.int .u8 0,.int .u8 0,.int .u8 0,.int .u8 0,.int .u8 0,.int .u8 0,.int .u8 0,.int .u8 0,.int .u8 0,.int .u8 0,.int .u8 0,.int .u8 0,.int .u8 0,.int .u8 0,.int .u8 0,.int .u8 0,.int .u32 0,.int .i64 0] 0 c402)⟩ 42 fun a683 w684 =>
 Calls Tryz.prog 10 ⟨[.int .u8 1]⟩ w684 fun e685 w686 =>
 ∃ r687:ByteArray,e685=.returned (.string r687) ∧
 ((⟨[.string r633,.slice (some a683) 1 1]⟩:Array Value)).size=2 ∧
 ((⟨[.string r687,.slice (some a681) 1 1]⟩:Array Value)).size=2 ∧
 nw w686 ⟨(spl (spl [.string ({ data:=#[] }),.slice none 0 0,.string ({ data:=#[] }),.slice none 0 0] 0 (⟨[.string r633,.slice (some a683) 1 1]⟩:Array Value)) 2 (⟨[.string r687,.slice (some a681) 1 1]⟩:Array Value))⟩ 46 fun a688 w689 =>
 qhb 9 [.slice (some a688) 2 2] w689 fun r692 r693 w691 =>
 qd.j2 r692 r693 Q w691)∧(
 Calls Tryz.prog 10 ⟨[.int .u8 1]⟩ w682 fun e694 w695 =>
 ∃ r696:ByteArray,e694=.returned (.string r696) ∧
 (c402).size=22 ∧
 nw w695 ⟨(spl [.int .u8 0,.int .u8 0,.int .u8 0,.int .u8 0,.int .u8 0,.int .u8 0,.int .u8 0,.int .u8 0,.int .u8 0,.int .u8 0,.int .u8 0,.int .u8 0,.int .u8 0,.int .u8 0,.int .u8 0,.int .u8 0,.int .u8 0,.int .u8 0,.int .u8 0,.int .u8 0,.int .u32 0,.int .i64 0] 0 c402)⟩ 42 fun a697 w698 =>
 ((⟨[.string r633,.slice (some a697) 1 1]⟩:Array Value)).size=2 ∧
 ((⟨[.string r696,.slice (some a681) 1 1]⟩:Array Value)).size=2 ∧
 nw w698 ⟨(spl (spl [.string ({ data:=#[] }),.slice none 0 0,.string ({ data:=#[] }),.slice none 0 0] 0 (⟨[.string r633,.slice (some a697) 1 1]⟩:Array Value)) 2 (⟨[.string r696,.slice (some a681) 1 1]⟩:Array Value))⟩ 46 fun a699 w700 =>
 qhb 9 [.slice (some a699) 2 2] w700 fun r703 r704 w702 =>
 qd.j2 r703 r704 Q w702)))∧(
 (c402).size=22 ∧
 nw w39 ⟨(spl [.int .u8 0,.int .u8 0,.int .u8 0,.int .u8 0,.int .u8 0,.int .u8 0,.int .u8 0,.int .u8 0,.int .u8 0,.int .u8 0,.int .u8 0,.int .u8 0,.int .u8 0,.int .u8 0,.int .u8 0,.int .u8 0,.int .u8 0,.int .u8 0,.int .u8 0,.int .u8 0,.int .u32 0,.int .i64 0] 0 c402)⟩ 42 fun a705 w706 =>
 (Calls Tryz.prog 10 ⟨[.int .u8 2]⟩ w706 fun e707 w708 =>
 ∃ r709:ByteArray,e707=.returned (.string r709) ∧
 (Calls Tryz.prog 10 ⟨[.int .u8 1]⟩ w708 fun e710 w711 =>
 ∃ r712:ByteArray,e710=.returned (.string r712) ∧
 (c630).size=22 ∧
 nw w711 ⟨(spl [.int .u8 0,.int .u8 0,.int .u8 0,.int .u8 0,.int .u8 0,.int .u8 0,.int .u8 0,.int .u8 0,.int .u8 0,.int .u8 0,.int .u8 0,.int .u8 0,.int .u8 0,.int .u8 0,.int .u8 0,.int .u8 0,.int .u8 0,.int .u8 0,.int .u8 0,.int .u8 0,.int .u32 0,.int .i64 0] 0 c630)⟩ 42 fun a713 w714 =>
 ((⟨[.string r709,.slice (some a705) 1 1]⟩:Array Value)).size=2 ∧
 ((⟨[.string r712,.slice (some a713) 1 1]⟩:Array Value)).size=2 ∧
 nw w714 ⟨(spl (spl [.string ({ data:=#[] }),.slice none 0 0,.string ({ data:=#[] }),.slice none 0 0] 0 (⟨[.string r709,.slice (some a705) 1 1]⟩:Array Value)) 2 (⟨[.string r712,.slice (some a713) 1 1]⟩:Array Value))⟩ 46 fun a715 w716 =>
 qhb 9 [.slice (some a715) 2 2] w716 fun r719 r720 w718 =>
 qd.j2 r719 r720 Q w718)∧(
 (c630).size=22 ∧
 nw w708 ⟨(spl [.int .u8 0,.int .u8 0,.int .u8 0,.int .u8 0,.int .u8 0,.int .u8 0,.int .u8 0,.int .u8 0,.int .u8 0,.int .u8 0,.int .u8 0,.int .u8 0,.int .u8 0,.int .u8 0,.int .u8 0,.int .u8 0,.int .u8 0,.int .u8 0,.int .u8 0,.int .u8 0,.int .u32 0,.int .i64 0] 0 c630)⟩ 42 fun a721 w722 =>
 Calls Tryz.prog 10 ⟨[.int .u8 1]⟩ w722 fun e723 w724 =>
 ∃ r725:ByteArray,e723=.returned (.string r725) ∧
 ((⟨[.string r709,.slice (some a705) 1 1]⟩:Array Value)).size=2 ∧
 ((⟨[.string r725,.slice (some a721) 1 1]⟩:Array Value)).size=2 ∧
 nw w724 ⟨(spl (spl [.string ({ data:=#[] }),.slice none 0 0,.string ({ data:=#[] }),.slice none 0 0] 0 (⟨[.string r709,.slice (some a705) 1 1]⟩:Array Value)) 2 (⟨[.string r725,.slice (some a721) 1 1]⟩:Array Value))⟩ 46 fun a726 w727 =>
 qhb 9 [.slice (some a726) 2 2] w727 fun r730 r731 w729 =>
 qd.j2 r730 r731 Q w729))∧(
 (c630).size=22 ∧
 nw w706 ⟨(spl [.int .u8 0,.int .u8 0,.int .u8 0,.int .u8 0,.int .u8 0,.int .u8 0,.int .u8 0,.int .u8 0,.int .u8 0,.int .u8 0,.int .u8 0,.int .u8 0,.int .u8 0,.int .u8 0,.int .u8 0,.int .u8 0,.int .u8 0,.int .u8 0,.int .u8 0,.int .u8 0,.int .u32 0,.int .i64 0] 0 c630)⟩ 42 fun a732 w733 =>
 Calls Tryz.prog 10 ⟨[.int .u8 2]⟩ w733 fun e734 w735 =>
 ∃ r736:ByteArray,e734=.returned (.string r736) ∧
 Calls Tryz.prog 10 ⟨[.int .u8 1]⟩ w735 fun e737 w738 =>
 ∃ r739:ByteArray,e737=.returned (.string r739) ∧
 ((⟨[.string r736,.slice (some a705) 1 1]⟩:Array Value)).size=2 ∧
 ((⟨[.string r739,.slice (some a732) 1 1]⟩:Array Value)).size=2 ∧
 nw w738 ⟨(spl (spl [.string ({ data:=#[] }),.slice none 0 0,.string ({ data:=#[] }),.slice none 0 0] 0 (⟨[.string r736,.slice (some a705) 1 1]⟩:Array Value)) 2 (⟨[.string r739,.slice (some a732) 1 1]⟩:Array Value))⟩ 46 fun a740 w741 =>
 qhb 9 [.slice (some a740) 2 2] w741 fun r744 r745 w743 =>
 qd.j2 r744 r745 Q w743))∧(
 (c630).size=22 ∧
 nw w39 ⟨(spl [.int .u8 0,.int .u8 0,.int .u8 0,.int .u8 0,.int .u8 0,.int .u8 0,.int .u8 0,.int .u8 0,.int .u8 0,.int .u8 0,.int .u8 0,.int .u8 0,.int .u8 0,.int .u8 0,.int .u8 0,.int .u8 0,.int .u8 0,.int .u8 0,.int .u8 0,.int .u8 0,.int .u32 0,.int .i64 0] 0 c630)⟩ 42 fun a746 w747 =>
 (Calls Tryz.prog 10 ⟨[.int .u8 2]⟩ w747 fun e748 w749 =>
 ∃ r750:ByteArray,e748=.returned (.string r750) ∧
 ((c402).size=22 ∧
 nw w749 ⟨(spl [.int .u8 0,.int .u8 0,.int .u8 0,.int .u8 0,.int .u8 0,.int .u8 0,.int .u8 0,.int .u8 0,.int .u8 0,.int .u8 0,.int .u8 0,.int .u8 0,.int .u8 0,.int .u8 0,.int .u8 0,.int .u8 0,.int .u8 0,.int .u8 0,.int .u8 0,.int .u8 0,.int .u32 0,.int .i64 0] 0 c402)⟩ 42 fun a751 w752 =>
 Calls Tryz.prog 10 ⟨[.int .u8 1]⟩ w752 fun e753 w754 =>
 ∃ r755:ByteArray,e753=.returned (.string r755) ∧
 ((⟨[.string r750,.slice (some a751) 1 1]⟩:Array Value)).size=2 ∧
 ((⟨[.string r755,.slice (some a746) 1 1]⟩:Array Value)).size=2 ∧
 nw w754 ⟨(spl (spl [.string ({ data:=#[] }),.slice none 0 0,.string ({ data:=#[] }),.slice none 0 0] 0 (⟨[.string r750,.slice (some a751) 1 1]⟩:Array Value)) 2 (⟨[.string r755,.slice (some a746) 1 1]⟩:Array Value))⟩ 46 fun a756 w757 =>
 qhb 9 [.slice (some a756) 2 2] w757 fun r760 r761 w759 =>
 qd.j2 r760 r761 Q w759)∧(
 Calls Tryz.prog 10 ⟨[.int .u8 1]⟩ w749 fun e762 w763 =>
 ∃ r764:ByteArray,e762=.returned (.string r764) ∧
 (c402).size=22 ∧
 nw w763 ⟨(spl [.int .u8 0,.int .u8 0,.int .u8 0,.int .u8 0,.int .u8 0,.int .u8 0,.int .u8 0,.int .u8 0,.int .u8 0,.int .u8 0,.int .u8 0,.int .u8 0,.int .u8 0,.int .u8 0,.int .u8 0,.int .u8 0,.int .u8 0,.int .u8 0,.int .u8 0,.int .u8 0,.int .u32 0,.int .i64 0] 0 c402)⟩ 42 fun a765 w766 =>
 ((⟨[.string r750,.slice (some a765) 1 1]⟩:Array Value)).size=2 ∧
 ((⟨[.string r764,.slice (some a746) 1 1]⟩:Array Value)).size=2 ∧
 nw w766 ⟨(spl (spl [.string ({ data:=#[] }),.slice none 0 0,.string ({ data:=#[] }),.slice none 0 0] 0 (⟨[.string r750,.slice (some a765) 1 1]⟩:Array Value)) 2 (⟨[.string r764,.slice (some a746) 1 1]⟩:Array Value))⟩ 46 fun a767 w768 =>
 qhb 9 [.slice (some a767) 2 2] w768 fun r771 r772 w770 =>
 qd.j2 r771 r772 Q w770))∧(
 (c402).size=22 ∧
 nw w747 ⟨(spl [.int .u8 0,.int .u8 0,.int .u8 0,.int .u8 0,.int .u8 0,.int .u8 0,.int .u8 0,.int .u8 0,.int .u8 0,.int .u8 0,.int .u8 0,.int .u8 0,.int .u8 0,.int .u8 0,.int .u8 0,.int .u8 0,.int .u8 0,.int .u8 0,.int .u8 0,.int .u8 0,.int .u32 0,.int .i64 0] 0 c402)⟩ 42 fun a773 w774 =>
 Calls Tryz.prog 10 ⟨[.int .u8 2]⟩ w774 fun e775 w776 =>
 ∃ r777:ByteArray,e775=.returned (.string r777) ∧
 Calls Tryz.prog 10 ⟨[.int .u8 1]⟩ w776 fun e778 w779 =>
 ∃ r780:ByteArray,e778=.returned (.string r780) ∧
 ((⟨[.string r777,.slice (some a773) 1 1]⟩:Array Value)).size=2 ∧
 ((⟨[.string r780,.slice (some a746) 1 1]⟩:Array Value)).size=2 ∧
 nw w779 ⟨(spl (spl [.string ({ data:=#[] }),.slice none 0 0,.string ({ data:=#[] }),.slice none 0 0] 0 (⟨[.string r777,.slice (some a773) 1 1]⟩:Array Value)) 2 (⟨[.string r780,.slice (some a746) 1 1]⟩:Array Value))⟩ 46 fun a781 w782 =>
 qhb 9 [.slice (some a781) 2 2] w782 fun r785 r786 w784 =>
 qd.j2 r785 r786 Q w784))))∧(
 ldA w39 i_1 22 fun c787 =>
 (Calls Tryz.prog 10 ⟨[.int .u8 2]⟩ w39 fun e788 w789 =>
 ∃ r790:ByteArray,e788=.returned (.string r790) ∧
 (ldA w789 a36 22 fun c791 =>
 ((c791).size=22 ∧
 nw w789 ⟨(spl [.int .u8 0,.int .u8 0,.int .u8 0,.int .u8 0,.int .u8 0,.int .u8 0,.int .u8 0,.int .u8 0,.int .u8 0,.int .u8 0,.int .u8 0,.int .u8 0,.int .u8 0,.int .u8 0,.int .u8 0,.int .u8 0,.int .u8 0,.int .u8 0,.int .u8 0,.int .u8 0,.int .u32 0,.int .i64 0] 0 c791)⟩ 42 fun a792 w793 =>
 (Calls Tryz.prog 10 ⟨[.int .u8 1]⟩ w793 fun e794 w795 =>
 ∃ r796:ByteArray,e794=.returned (.string r796) ∧
 (c787).size=22 ∧
 nw w795 ⟨(spl [.int .u8 0,.int .u8 0,.int .u8 0,.int .u8 0,.int .u8 0,.int .u8 0,.int .u8 0,.int .u8 0,.int .u8 0,.int .u8 0,.int .u8 0,.int .u8 0,.int .u8 0,.int .u8 0,.int .u8 0,.int .u8 0,.int .u8 0,.int .u8 0,.int .u8 0,.int .u8 0,.int .u32 0,.int .i64 0] 0 c787)⟩ 42 fun a797 w798 =>
 ((⟨[.string r790,.slice (some a792) 1 1]⟩:Array Value)).size=2 ∧
 ((⟨[.string r796,.slice (some a797) 1 1]⟩:Array Value)).size=2 ∧
 nw w798 ⟨(spl (spl [.string ({ data:=#[] }),.slice none 0 0,.string ({ data:=#[] }),.slice none 0 0] 0 (⟨[.string r790,.slice (some a792) 1 1]⟩:Array Value)) 2 (⟨[.string r796,.slice (some a797) 1 1]⟩:Array Value))⟩ 46 fun a799 w800 =>
 qhb 9 [.slice (some a799) 2 2] w800 fun r803 r804 w802 =>
 qd.j2 r803 r804 Q w802)∧(
 (c787).size=22 ∧
 nw w793 ⟨(spl [.int .u8 0,.int .u8 0,.int .u8 0,.int .u8 0,.int .u8 0,.int .u8 0,.int .u8 0,.int .u8 0,.int .u8 0,.int .u8 0,.int .u8 0,.int .u8 0,.int .u8 0,.int .u8 0,.int .u8 0,.int .u8 0,.int .u8 0,.int .u8 0,.int .u8 0,.int .u8 0,.int .u32 0,.int .i64 0] 0 c787)⟩ 42 fun a805 w806 =>
 Calls Tryz.prog 10 ⟨[.int .u8 1]⟩ w806 fun e807 w808 =>
 ∃ r809:ByteArray,e807=.returned (.string r809) ∧
 ((⟨[.string r790,.slice (some a792) 1 1]⟩:Array Value)).size=2 ∧
 ((⟨[.string r809,.slice (some a805) 1 1]⟩:Array Value)).size=2 ∧
 nw w808 ⟨(spl (spl [.string ({ data:=#[] }),.slice none 0 0,.string ({ data:=#[] }),.slice none 0 0] 0 (⟨[.string r790,.slice (some a792) 1 1]⟩:Array Value)) 2 (⟨[.string r809,.slice (some a805) 1 1]⟩:Array Value))⟩ 46 fun a810 w811 =>
 qhb 9 [.slice (some a810) 2 2] w811 fun r814 r815 w813 =>
 qd.j2 r814 r815 Q w813))∧(
 Calls Tryz.prog 10 ⟨[.int .u8 1]⟩ w789 fun e816 w817 =>
 ∃ r818:ByteArray,e816=.returned (.string r818) ∧
 ((c791).size=22 ∧
 nw w817 ⟨(spl [.int .u8 0,.int .u8 0,.int .u8 0,.int .u8 0,.int .u8 0,.int .u8 0,.int .u8 0,.int .u8 0,.int .u8 0,.int .u8 0,.int .u8 0,.int .u8 0,.int .u8 0,.int .u8 0,.int .u8 0,.int .u8 0,.int .u8 0,.int .u8 0,.int .u8 0,.int .u8 0,.int .u32 0,.int .i64 0] 0 c791)⟩ 42 fun a819 w820 =>
 (c787).size=22 ∧
 nw w820 ⟨(spl [.int .u8 0,.int .u8 0,.int .u8 0,.int .u8 0,.int .u8 0,.int .u8 0,.int .u8 0,.int .u8 0,.int .u8 0,.int .u8 0,.int .u8 0,.int .u8 0,.int .u8 0,.int .u8 0,.int .u8 0,.int .u8 0,.int .u8 0,.int .u8 0,.int .u8 0,.int .u8 0,.int .u32 0,.int .i64 0] 0 c787)⟩ 42 fun a821 w822 =>
 ((⟨[.string r790,.slice (some a819) 1 1]⟩:Array Value)).size=2 ∧
 ((⟨[.string r818,.slice (some a821) 1 1]⟩:Array Value)).size=2 ∧
 nw w822 ⟨(spl (spl [.string ({ data:=#[] }),.slice none 0 0,.string ({ data:=#[] }),.slice none 0 0] 0 (⟨[.string r790,.slice (some a819) 1 1]⟩:Array Value)) 2 (⟨[.string r818,.slice (some a821) 1 1]⟩:Array Value))⟩ 46 fun a823 w824 =>
 qhb 9 [.slice (some a823) 2 2] w824 fun r827 r828 w826 =>
 qd.j2 r827 r828 Q w826)∧(
 (c787).size=22 ∧
 nw w817 ⟨(spl [.int .u8 0,.int .u8 0,.int .u8 0,.int .u8 0,.int .u8 0,.int .u8 0,.int .u8 0,.int .u8 0,.int .u8 0,.int .u8 0,.int .u8 0,.int .u8 0,.int .u8 0,.int .u8 0,.int .u8 0,.int .u8 0,.int .u8 0,.int .u8 0,.int .u8 0,.int .u8 0,.int .u32 0,.int .i64 0] 0 c787)⟩ 42 fun a829 w830 =>
 (c791).size=22 ∧
 nw w830 ⟨(spl [.int .u8 0,.int .u8 0,.int .u8 0,.int .u8 0,.int .u8 0,.int .u8 0,.int .u8 0,.int .u8 0,.int .u8 0,.int .u8 0,.int .u8 0,.int .u8 0,.int .u8 0,.int .u8 0,.int .u8 0,.int .u8 0,.int .u8 0,.int .u8 0,.int .u8 0,.int .u8 0,.int .u32 0,.int .i64 0] 0 c791)⟩ 42 fun a831 w832 =>
 ((⟨[.string r790,.slice (some a831) 1 1]⟩:Array Value)).size=2 ∧
 ((⟨[.string r818,.slice (some a829) 1 1]⟩:Array Value)).size=2 ∧
 nw w832 ⟨(spl (spl [.string ({ data:=#[] }),.slice none 0 0,.string ({ data:=#[] }),.slice none 0 0] 0 (⟨[.string r790,.slice (some a831) 1 1]⟩:Array Value)) 2 (⟨[.string r818,.slice (some a829) 1 1]⟩:Array Value))⟩ 46 fun a833 w834 =>
 qhb 9 [.slice (some a833) 2 2] w834 fun r837 r838 w836 =>
 qd.j2 r837 r838 Q w836))∧(
 (c787).size=22 ∧
 nw w789 ⟨(spl [.int .u8 0,.int .u8 0,.int .u8 0,.int .u8 0,.int .u8 0,.int .u8 0,.int .u8 0,.int .u8 0,.int .u8 0,.int .u8 0,.int .u8 0,.int .u8 0,.int .u8 0,.int .u8 0,.int .u8 0,.int .u8 0,.int .u8 0,.int .u8 0,.int .u8 0,.int .u8 0,.int .u32 0,.int .i64 0] 0 c787)⟩ 42 fun a839 w840 =>
 ((c791).size=22 ∧
 nw w840 ⟨(spl [.int .u8 0,.int .u8 0,.int .u8 0,.int .u8 0,.int .u8 0,.int .u8 0,.int .u8 0,.int .u8 0,.int .u8 0,.int .u8 0,.int .u8 0,.int .u8 0,.int .u8 0,.int .u8 0,.int .u8 0,.int .u8 0,.int .u8 0,.int .u8 0,.int .u8 0,.int .u8 0,.int .u32 0,.int .i64 0] 0 c791)⟩ 42 fun a841 w842 =>
 Calls Tryz.prog 10 ⟨[.int .u8 1]⟩ w842 fun e843 w844 =>
 ∃ r845:ByteArray,e843=.returned (.string r845) ∧
 ((⟨[.string r790,.slice (some a841) 1 1]⟩:Array Value)).size=2 ∧
 ((⟨[.string r845,.slice (some a839) 1 1]⟩:Array Value)).size=2 ∧
 nw w844 ⟨(spl (spl [.string ({ data:=#[] }),.slice none 0 0,.string ({ data:=#[] }),.slice none 0 0] 0 (⟨[.string r790,.slice (some a841) 1 1]⟩:Array Value)) 2 (⟨[.string r845,.slice (some a839) 1 1]⟩:Array Value))⟩ 46 fun a846 w847 =>
 qhb 9 [.slice (some a846) 2 2] w847 fun r850 r851 w849 =>
 qd.j2 r850 r851 Q w849)∧(
 Calls Tryz.prog 10 ⟨[.int .u8 1]⟩ w840 fun e852 w853 =>
 ∃ r854:ByteArray,e852=.returned (.string r854) ∧
 (c791).size=22 ∧
 nw w853 ⟨(spl [.int .u8 0,.int .u8 0,.int .u8 0,.int .u8 0,.int .u8 0,.int .u8 0,.int .u8 0,.int .u8 0,.int .u8 0,.int .u8 0,.int .u8 0,.int .u8 0,.int .u8 0,.int .u8 0,.int .u8 0,.int .u8 0,.int .u8 0,.int .u8 0,.int .u8 0,.int .u8 0,.int .u32 0,.int .i64 0] 0 c791)⟩ 42 fun a855 w856 =>
 ((⟨[.string r790,.slice (some a855) 1 1]⟩:Array Value)).size=2 ∧
 ((⟨[.string r854,.slice (some a839) 1 1]⟩:Array Value)).size=2 ∧
 nw w856 ⟨(spl (spl [.string ({ data:=#[] }),.slice none 0 0,.string ({ data:=#[] }),.slice none 0 0] 0 (⟨[.string r790,.slice (some a855) 1 1]⟩:Array Value)) 2 (⟨[.string r854,.slice (some a839) 1 1]⟩:Array Value))⟩ 46 fun a857 w858 =>
 qhb 9 [.slice (some a857) 2 2] w858 fun r861 r862 w860 =>
 qd.j2 r861 r862 Q w860)))∧(
 Calls Tryz.prog 10 ⟨[.int .u8 1]⟩ w789 fun e863 w864 =>
 ∃ r865:ByteArray,e863=.returned (.string r865) ∧
 (ldA w864 a36 22 fun c866 =>
 ((c866).size=22 ∧
 nw w864 ⟨(spl [.int .u8 0,.int .u8 0,.int .u8 0,.int .u8 0,.int .u8 0,.int .u8 0,.int .u8 0,.int .u8 0,.int .u8 0,.int .u8 0,.int .u8 0,.int .u8 0,.int .u8 0,.int .u8 0,.int .u8 0,.int .u8 0,.int .u8 0,.int .u8 0,.int .u8 0,.int .u8 0,.int .u32 0,.int .i64 0] 0 c866)⟩ 42 fun a867 w868 =>
 (c787).size=22 ∧
 nw w868 ⟨(spl [.int .u8 0,.int .u8 0,.int .u8 0,.int .u8 0,.int .u8 0,.int .u8 0,.int .u8 0,.int .u8 0,.int .u8 0,.int .u8 0,.int .u8 0,.int .u8 0,.int .u8 0,.int .u8 0,.int .u8 0,.int .u8 0,.int .u8 0,.int .u8 0,.int .u8 0,.int .u8 0,.int .u32 0,.int .i64 0] 0 c787)⟩ 42 fun a869 w870 =>
 ((⟨[.string r790,.slice (some a867) 1 1]⟩:Array Value)).size=2 ∧
 ((⟨[.string r865,.slice (some a869) 1 1]⟩:Array Value)).size=2 ∧
 nw w870 ⟨(spl (spl [.string ({ data:=#[] }),.slice none 0 0,.string ({ data:=#[] }),.slice none 0 0] 0 (⟨[.string r790,.slice (some a867) 1 1]⟩:Array Value)) 2 (⟨[.string r865,.slice (some a869) 1 1]⟩:Array Value))⟩ 46 fun a871 w872 =>
 qhb 9 [.slice (some a871) 2 2] w872 fun r875 r876 w874 =>
 qd.j2 r875 r876 Q w874)∧(
 (c787).size=22 ∧
 nw w864 ⟨(spl [.int .u8 0,.int .u8 0,.int .u8 0,.int .u8 0,.int .u8 0,.int .u8 0,.int .u8 0,.int .u8 0,.int .u8 0,.int .u8 0,.int .u8 0,.int .u8 0,.int .u8 0,.int .u8 0,.int .u8 0,.int .u8 0,.int .u8 0,.int .u8 0,.int .u8 0,.int .u8 0,.int .u32 0,.int .i64 0] 0 c787)⟩ 42 fun a877 w878 =>
 (c866).size=22 ∧
 nw w878 ⟨(spl [.int .u8 0,.int .u8 0,.int .u8 0,.int .u8 0,.int .u8 0,.int .u8 0,.int .u8 0,.int .u8 0,.int .u8 0,.int .u8 0,.int .u8 0,.int .u8 0,.int .u8 0,.int .u8 0,.int .u8 0,.int .u8 0,.int .u8 0,.int .u8 0,.int .u8 0,.int .u8 0,.int .u32 0,.int .i64 0] 0 c866)⟩ 42 fun a879 w880 =>
 ((⟨[.string r790,.slice (some a879) 1 1]⟩:Array Value)).size=2 ∧
 ((⟨[.string r865,.slice (some a877) 1 1]⟩:Array Value)).size=2 ∧
 nw w880 ⟨(spl (spl [.string ({ data:=#[] }),.slice none 0 0,.string ({ data:=#[] }),.slice none 0 0] 0 (⟨[.string r790,.slice (some a879) 1 1]⟩:Array Value)) 2 (⟨[.string r865,.slice (some a877) 1 1]⟩:Array Value))⟩ 46 fun a881 w882 =>
 qhb 9 [.slice (some a881) 2 2] w882 fun r885 r886 w884 =>
 qd.j2 r885 r886 Q w884))∧(
 (c787).size=22 ∧
 nw w864 ⟨(spl [.int .u8 0,.int .u8 0,.int .u8 0,.int .u8 0,.int .u8 0,.int .u8 0,.int .u8 0,.int .u8 0,.int .u8 0,.int .u8 0,.int .u8 0,.int .u8 0,.int .u8 0,.int .u8 0,.int .u8 0,.int .u8 0,.int .u8 0,.int .u8 0,.int .u8 0,.int .u8 0,.int .u32 0,.int .i64 0] 0 c787)⟩ 42 fun a887 w888 =>
 ldA w888 a36 22 fun c889 =>
 (c889).size=22 ∧
 nw w888 ⟨(spl [.int .u8 0,.int .u8 0,.int .u8 0,.int .u8 0,.int .u8 0,.int .u8 0,.int .u8 0,.int .u8 0,.int .u8 0,.int .u8 0,.int .u8 0,.int .u8 0,.int .u8 0,.int .u8 0,.int .u8 0,.int .u8 0,.int .u8 0,.int .u8 0,.int .u8 0,.int .u8 0,.int .u32 0,.int .i64 0] 0 c889)⟩ 42 fun a890 w891 =>
 ((⟨[.string r790,.slice (some a890) 1 1]⟩:Array Value)).size=2 ∧
 ((⟨[.string r865,.slice (some a887) 1 1]⟩:Array Value)).size=2 ∧
 nw w891 ⟨(spl (spl [.string ({ data:=#[] }),.slice none 0 0,.string ({ data:=#[] }),.slice none 0 0] 0 (⟨[.string r790,.slice (some a890) 1 1]⟩:Array Value)) 2 (⟨[.string r865,.slice (some a887) 1 1]⟩:Array Value))⟩ 46 fun a892 w893 =>
 qhb 9 [.slice (some a892) 2 2] w893 fun r896 r897 w895 =>
 qd.j2 r896 r897 Q w895))∧(
 (c787).size=22 ∧
 nw w789 ⟨(spl [.int .u8 0,.int .u8 0,.int .u8 0,.int .u8 0,.int .u8 0,.int .u8 0,.int .u8 0,.int .u8 0,.int .u8 0,.int .u8 0,.int .u8 0,.int .u8 0,.int .u8 0,.int .u8 0,.int .u8 0,.int .u8 0,.int .u8 0,.int .u8 0,.int .u8 0,.int .u8 0,.int .u32 0,.int .i64 0] 0 c787)⟩ 42 fun a898 w899 =>
 (ldA w899 a36 22 fun c900 =>
 ((c900).size=22 ∧
 nw w899 ⟨(spl [.int .u8 0,.int .u8 0,.int .u8 0,.int .u8 0,.int .u8 0,.int .u8 0,.int .u8 0,.int .u8 0,.int .u8 0,.int .u8 0,.int .u8 0,.int .u8 0,.int .u8 0,.int .u8 0,.int .u8 0,.int .u8 0,.int .u8 0,.int .u8 0,.int .u8 0,.int .u8 0,.int .u32 0,.int .i64 0] 0 c900)⟩ 42 fun a901 w902 =>
 Calls Tryz.prog 10 ⟨[.int .u8 1]⟩ w902 fun e903 w904 =>
 ∃ r905:ByteArray,e903=.returned (.string r905) ∧
 ((⟨[.string r790,.slice (some a901) 1 1]⟩:Array Value)).size=2 ∧
 ((⟨[.string r905,.slice (some a898) 1 1]⟩:Array Value)).size=2 ∧
 nw w904 ⟨(spl (spl [.string ({ data:=#[] }),.slice none 0 0,.string ({ data:=#[] }),.slice none 0 0] 0 (⟨[.string r790,.slice (some a901) 1 1]⟩:Array Value)) 2 (⟨[.string r905,.slice (some a898) 1 1]⟩:Array Value))⟩ 46 fun a906 w907 =>
 qhb 9 [.slice (some a906) 2 2] w907 fun r910 r911 w909 =>
 qd.j2 r910 r911 Q w909)∧(
 Calls Tryz.prog 10 ⟨[.int .u8 1]⟩ w899 fun e912 w913 =>
 ∃ r914:ByteArray,e912=.returned (.string r914) ∧
 (c900).size=22 ∧
 nw w913 ⟨(spl [.int .u8 0,.int .u8 0,.int .u8 0,.int .u8 0,.int .u8 0,.int .u8 0,.int .u8 0,.int .u8 0,.int .u8 0,.int .u8 0,.int .u8 0,.int .u8 0,.int .u8 0,.int .u8 0,.int .u8 0,.int .u8 0,.int .u8 0,.int .u8 0,.int .u8 0,.int .u8 0,.int .u32 0,.int .i64 0] 0 c900)⟩ 42 fun a915 w916 =>
 ((⟨[.string r790,.slice (some a915) 1 1]⟩:Array Value)).size=2 ∧
 ((⟨[.string r914,.slice (some a898) 1 1]⟩:Array Value)).size=2 ∧
 nw w916 ⟨(spl (spl [.string ({ data:=#[] }),.slice none 0 0,.string ({ data:=#[] }),.slice none 0 0] 0 (⟨[.string r790,.slice (some a915) 1 1]⟩:Array Value)) 2 (⟨[.string r914,.slice (some a898) 1 1]⟩:Array Value))⟩ 46 fun a917 w918 =>
 qhb 9 [.slice (some a917) 2 2] w918 fun r921 r922 w920 =>
 qd.j2 r921 r922 Q w920))∧(
 Calls Tryz.prog 10 ⟨[.int .u8 1]⟩ w899 fun e923 w924 =>
 ∃ r925:ByteArray,e923=.returned (.string r925) ∧
 ldA w924 a36 22 fun c926 =>
 (c926).size=22 ∧
 nw w924 ⟨(spl [.int .u8 0,.int .u8 0,.int .u8 0,.int .u8 0,.int .u8 0,.int .u8 0,.int .u8 0,.int .u8 0,.int .u8 0,.int .u8 0,.int .u8 0,.int .u8 0,.int .u8 0,.int .u8 0,.int .u8 0,.int .u8 0,.int .u8 0,.int .u8 0,.int .u8 0,.int .u8 0,.int .u32 0,.int .i64 0] 0 c926)⟩ 42 fun a927 w928 =>
 ((⟨[.string r790,.slice (some a927) 1 1]⟩:Array Value)).size=2 ∧
 ((⟨[.string r925,.slice (some a898) 1 1]⟩:Array Value)).size=2 ∧
 nw w928 ⟨(spl (spl [.string ({ data:=#[] }),.slice none 0 0,.string ({ data:=#[] }),.slice none 0 0] 0 (⟨[.string r790,.slice (some a927) 1 1]⟩:Array Value)) 2 (⟨[.string r925,.slice (some a898) 1 1]⟩:Array Value))⟩ 46 fun a929 w930 =>
 qhb 9 [.slice (some a929) 2 2] w930 fun r933 r934 w932 =>
 qd.j2 r933 r934 Q w932)))∧(
 ldA w39 a36 22 fun c935 =>
 (Calls Tryz.prog 10 ⟨[.int .u8 2]⟩ w39 fun e936 w937 =>
 ∃ r938:ByteArray,e936=.returned (.string r938) ∧
 ((c935).size=22 ∧
 nw w937 ⟨(spl [.int .u8 0,.int .u8 0,.int .u8 0,.int .u8 0,.int .u8 0,.int .u8 0,.int .u8 0,.int .u8 0,.int .u8 0,.int .u8 0,.int .u8 0,.int .u8 0,.int .u8 0,.int .u8 0,.int .u8 0,.int .u8 0,.int .u8 0,.int .u8 0,.int .u8 0,.int .u8 0,.int .u32 0,.int .i64 0] 0 c935)⟩ 42 fun a939 w940 =>
 (Calls Tryz.prog 10 ⟨[.int .u8 1]⟩ w940 fun e941 w942 =>
 ∃ r943:ByteArray,e941=.returned (.string r943) ∧
 (c787).size=22 ∧
 nw w942 ⟨(spl [.int .u8 0,.int .u8 0,.int .u8 0,.int .u8 0,.int .u8 0,.int .u8 0,.int .u8 0,.int .u8 0,.int .u8 0,.int .u8 0,.int .u8 0,.int .u8 0,.int .u8 0,.int .u8 0,.int .u8 0,.int .u8 0,.int .u8 0,.int .u8 0,.int .u8 0,.int .u8 0,.int .u32 0,.int .i64 0] 0 c787)⟩ 42 fun a944 w945 =>
 ((⟨[.string r938,.slice (some a939) 1 1]⟩:Array Value)).size=2 ∧
 ((⟨[.string r943,.slice (some a944) 1 1]⟩:Array Value)).size=2 ∧
 nw w945 ⟨(spl (spl [.string ({ data:=#[] }),.slice none 0 0,.string ({ data:=#[] }),.slice none 0 0] 0 (⟨[.string r938,.slice (some a939) 1 1]⟩:Array Value)) 2 (⟨[.string r943,.slice (some a944) 1 1]⟩:Array Value))⟩ 46 fun a946 w947 =>
 qhb 9 [.slice (some a946) 2 2] w947 fun r950 r951 w949 =>
 qd.j2 r950 r951 Q w949)∧(
 (c787).size=22 ∧
 nw w940 ⟨(spl [.int .u8 0,.int .u8 0,.int .u8 0,.int .u8 0,.int .u8 0,.int .u8 0,.int .u8 0,.int .u8 0,.int .u8 0,.int .u8 0,.int .u8 0,.int .u8 0,.int .u8 0,.int .u8 0,.int .u8 0,.int .u8 0,.int .u8 0,.int .u8 0,.int .u8 0,.int .u8 0,.int .u32 0,.int .i64 0] 0 c787)⟩ 42 fun a952 w953 =>
 Calls Tryz.prog 10 ⟨[.int .u8 1]⟩ w953 fun e954 w955 =>
 ∃ r956:ByteArray,e954=.returned (.string r956) ∧
 ((⟨[.string r938,.slice (some a939) 1 1]⟩:Array Value)).size=2 ∧
 ((⟨[.string r956,.slice (some a952) 1 1]⟩:Array Value)).size=2 ∧
 nw w955 ⟨(spl (spl [.string ({ data:=#[] }),.slice none 0 0,.string ({ data:=#[] }),.slice none 0 0] 0 (⟨[.string r938,.slice (some a939) 1 1]⟩:Array Value)) 2 (⟨[.string r956,.slice (some a952) 1 1]⟩:Array Value))⟩ 46 fun a957 w958 =>
 qhb 9 [.slice (some a957) 2 2] w958 fun r961 r962 w960 =>
 qd.j2 r961 r962 Q w960))∧(
 Calls Tryz.prog 10 ⟨[.int .u8 1]⟩ w937 fun e963 w964 =>
 ∃ r965:ByteArray,e963=.returned (.string r965) ∧
 ((c935).size=22 ∧
 nw w964 ⟨(spl [.int .u8 0,.int .u8 0,.int .u8 0,.int .u8 0,.int .u8 0,.int .u8 0,.int .u8 0,.int .u8 0,.int .u8 0,.int .u8 0,.int .u8 0,.int .u8 0,.int .u8 0,.int .u8 0,.int .u8 0,.int .u8 0,.int .u8 0,.int .u8 0,.int .u8 0,.int .u8 0,.int .u32 0,.int .i64 0] 0 c935)⟩ 42 fun a966 w967 =>
 (c787).size=22 ∧
 nw w967 ⟨(spl [.int .u8 0,.int .u8 0,.int .u8 0,.int .u8 0,.int .u8 0,.int .u8 0,.int .u8 0,.int .u8 0,.int .u8 0,.int .u8 0,.int .u8 0,.int .u8 0,.int .u8 0,.int .u8 0,.int .u8 0,.int .u8 0,.int .u8 0,.int .u8 0,.int .u8 0,.int .u8 0,.int .u32 0,.int .i64 0] 0 c787)⟩ 42 fun a968 w969 =>
 ((⟨[.string r938,.slice (some a966) 1 1]⟩:Array Value)).size=2 ∧
 ((⟨[.string r965,.slice (some a968) 1 1]⟩:Array Value)).size=2 ∧
 nw w969 ⟨(spl (spl [.string ({ data:=#[] }),.slice none 0 0,.string ({ data:=#[] }),.slice none 0 0] 0 (⟨[.string r938,.slice (some a966) 1 1]⟩:Array Value)) 2 (⟨[.string r965,.slice (some a968) 1 1]⟩:Array Value))⟩ 46 fun a970 w971 =>
 qhb 9 [.slice (some a970) 2 2] w971 fun r974 r975 w973 =>
 qd.j2 r974 r975 Q w973)∧(
 (c787).size=22 ∧
 nw w964 ⟨(spl [.int .u8 0,.int .u8 0,.int .u8 0,.int .u8 0,.int .u8 0,.int .u8 0,.int .u8 0,.int .u8 0,.int .u8 0,.int .u8 0,.int .u8 0,.int .u8 0,.int .u8 0,.int .u8 0,.int .u8 0,.int .u8 0,.int .u8 0,.int .u8 0,.int .u8 0,.int .u8 0,.int .u32 0,.int .i64 0] 0 c787)⟩ 42 fun a976 w977 =>
 (c935).size=22 ∧
 nw w977 ⟨(spl [.int .u8 0,.int .u8 0,.int .u8 0,.int .u8 0,.int .u8 0,.int .u8 0,.int .u8 0,.int .u8 0,.int .u8 0,.int .u8 0,.int .u8 0,.int .u8 0,.int .u8 0,.int .u8 0,.int .u8 0,.int .u8 0,.int .u8 0,.int .u8 0,.int .u8 0,.int .u8 0,.int .u32 0,.int .i64 0] 0 c935)⟩ 42 fun a978 w979 =>
 ((⟨[.string r938,.slice (some a978) 1 1]⟩:Array Value)).size=2 ∧
 ((⟨[.string r965,.slice (some a976) 1 1]⟩:Array Value)).size=2 ∧
 nw w979 ⟨(spl (spl [.string ({ data:=#[] }),.slice none 0 0,.string ({ data:=#[] }),.slice none 0 0] 0 (⟨[.string r938,.slice (some a978) 1 1]⟩:Array Value)) 2 (⟨[.string r965,.slice (some a976) 1 1]⟩:Array Value))⟩ 46 fun a980 w981 =>
 qhb 9 [.slice (some a980) 2 2] w981 fun r984 r985 w983 =>
 qd.j2 r984 r985 Q w983))∧(
 (c787).size=22 ∧
 nw w937 ⟨(spl [.int .u8 0,.int .u8 0,.int .u8 0,.int .u8 0,.int .u8 0,.int .u8 0,.int .u8 0,.int .u8 0,.int .u8 0,.int .u8 0,.int .u8 0,.int .u8 0,.int .u8 0,.int .u8 0,.int .u8 0,.int .u8 0,.int .u8 0,.int .u8 0,.int .u8 0,.int .u8 0,.int .u32 0,.int .i64 0] 0 c787)⟩ 42 fun a986 w987 =>
 ((c935).size=22 ∧
 nw w987 ⟨(spl [.int .u8 0,.int .u8 0,.int .u8 0,.int .u8 0,.int .u8 0,.int .u8 0,.int .u8 0,.int .u8 0,.int .u8 0,.int .u8 0,.int .u8 0,.int .u8 0,.int .u8 0,.int .u8 0,.int .u8 0,.int .u8 0,.int .u8 0,.int .u8 0,.int .u8 0,.int .u8 0,.int .u32 0,.int .i64 0] 0 c935)⟩ 42 fun a988 w989 =>
 Calls Tryz.prog 10 ⟨[.int .u8 1]⟩ w989 fun e990 w991 =>
 ∃ r992:ByteArray,e990=.returned (.string r992) ∧
 ((⟨[.string r938,.slice (some a988) 1 1]⟩:Array Value)).size=2 ∧
 ((⟨[.string r992,.slice (some a986) 1 1]⟩:Array Value)).size=2 ∧
 nw w991 ⟨(spl (spl [.string ({ data:=#[] }),.slice none 0 0,.string ({ data:=#[] }),.slice none 0 0] 0 (⟨[.string r938,.slice (some a988) 1 1]⟩:Array Value)) 2 (⟨[.string r992,.slice (some a986) 1 1]⟩:Array Value))⟩ 46 fun a993 w994 =>
 qhb 9 [.slice (some a993) 2 2] w994 fun r997 r998 w996 =>
 qd.j2 r997 r998 Q w996)∧(
 Calls Tryz.prog 10 ⟨[.int .u8 1]⟩ w987 fun e999 w1000 =>
 ∃ r1001:ByteArray,e999=.returned (.string r1001) ∧
 (c935).size=22 ∧
 nw w1000 ⟨(spl [.int .u8 0,.int .u8 0,.int .u8 0,.int .u8 0,.int .u8 0,.int .u8 0,.int .u8 0,.int .u8 0,.int .u8 0,.int .u8 0,.int .u8 0,.int .u8 0,.int .u8 0,.int .u8 0,.int .u8 0,.int .u8 0,.int .u8 0,.int .u8 0,.int .u8 0,.int .u8 0,.int .u32 0,.int .i64 0] 0 c935)⟩ 42 fun a1002 w1003 =>
 ((⟨[.string r938,.slice (some a1002) 1 1]⟩:Array Value)).size=2 ∧
 ((⟨[.string r1001,.slice (some a986) 1 1]⟩:Array Value)).size=2 ∧
 nw w1003 ⟨(spl (spl [.string ({ data:=#[] }),.slice none 0 0,.string ({ data:=#[] }),.slice none 0 0] 0 (⟨[.string r938,.slice (some a1002) 1 1]⟩:Array Value)) 2 (⟨[.string r1001,.slice (some a986) 1 1]⟩:Array Value))⟩ 46 fun a1004 w1005 =>
 qhb 9 [.slice (some a1004) 2 2] w1005 fun r1008 r1009 w1007 =>
 qd.j2 r1008 r1009 Q w1007)))∧(
 (c935).size=22 ∧
 nw w39 ⟨(spl [.int .u8 0,.int .u8 0,.int .u8 0,.int .u8 0,.int .u8 0,.int .u8 0,.int .u8 0,.int .u8 0,.int .u8 0,.int .u8 0,.int .u8 0,.int .u8 0,.int .u8 0,.int .u8 0,.int .u8 0,.int .u8 0,.int .u8 0,.int .u8 0,.int .u8 0,.int .u8 0,.int .u32 0,.int .i64 0] 0 c935)⟩ 42 fun a1010 w1011 =>
 (Calls Tryz.prog 10 ⟨[.int .u8 2]⟩ w1011 fun e1012 w1013 =>
 ∃ r1014:ByteArray,e1012=.returned (.string r1014) ∧
 (Calls Tryz.prog 10 ⟨[.int .u8 1]⟩ w1013 fun e1015 w1016 =>
 ∃ r1017:ByteArray,e1015=.returned (.string r1017) ∧
 (c787).size=22 ∧
 nw w1016 ⟨(spl [.int .u8 0,.int .u8 0,.int .u8 0,.int .u8 0,.int .u8 0,.int .u8 0,.int .u8 0,.int .u8 0,.int .u8 0,.int .u8 0,.int .u8 0,.int .u8 0,.int .u8 0,.int .u8 0,.int .u8 0,.int .u8 0,.int .u8 0,.int .u8 0,.int .u8 0,.int .u8 0,.int .u32 0,.int .i64 0] 0 c787)⟩ 42 fun a1018 w1019 =>
 ((⟨[.string r1014,.slice (some a1010) 1 1]⟩:Array Value)).size=2 ∧
 ((⟨[.string r1017,.slice (some a1018) 1 1]⟩:Array Value)).size=2 ∧
 nw w1019 ⟨(spl (spl [.string ({ data:=#[] }),.slice none 0 0,.string ({ data:=#[] }),.slice none 0 0] 0 (⟨[.string r1014,.slice (some a1010) 1 1]⟩:Array Value)) 2 (⟨[.string r1017,.slice (some a1018) 1 1]⟩:Array Value))⟩ 46 fun a1020 w1021 =>
 qhb 9 [.slice (some a1020) 2 2] w1021 fun r1024 r1025 w1023 =>
 qd.j2 r1024 r1025 Q w1023)∧(
 (c787).size=22 ∧
 nw w1013 ⟨(spl [.int .u8 0,.int .u8 0,.int .u8 0,.int .u8 0,.int .u8 0,.int .u8 0,.int .u8 0,.int .u8 0,.int .u8 0,.int .u8 0,.int .u8 0,.int .u8 0,.int .u8 0,.int .u8 0,.int .u8 0,.int .u8 0,.int .u8 0,.int .u8 0,.int .u8 0,.int .u8 0,.int .u32 0,.int .i64 0] 0 c787)⟩ 42 fun a1026 w1027 =>
 Calls Tryz.prog 10 ⟨[.int .u8 1]⟩ w1027 fun e1028 w1029 =>
 ∃ r1030:ByteArray,e1028=.returned (.string r1030) ∧
 ((⟨[.string r1014,.slice (some a1010) 1 1]⟩:Array Value)).size=2 ∧
 ((⟨[.string r1030,.slice (some a1026) 1 1]⟩:Array Value)).size=2 ∧
 nw w1029 ⟨(spl (spl [.string ({ data:=#[] }),.slice none 0 0,.string ({ data:=#[] }),.slice none 0 0] 0 (⟨[.string r1014,.slice (some a1010) 1 1]⟩:Array Value)) 2 (⟨[.string r1030,.slice (some a1026) 1 1]⟩:Array Value))⟩ 46 fun a1031 w1032 =>
 qhb 9 [.slice (some a1031) 2 2] w1032 fun r1035 r1036 w1034 =>
 qd.j2 r1035 r1036 Q w1034))∧(
 (c787).size=22 ∧
 nw w1011 ⟨(spl [.int .u8 0,.int .u8 0,.int .u8 0,.int .u8 0,.int .u8 0,.int .u8 0,.int .u8 0,.int .u8 0,.int .u8 0,.int .u8 0,.int .u8 0,.int .u8 0,.int .u8 0,.int .u8 0,.int .u8 0,.int .u8 0,.int .u8 0,.int .u8 0,.int .u8 0,.int .u8 0,.int .u32 0,.int .i64 0] 0 c787)⟩ 42 fun a1037 w1038 =>
 Calls Tryz.prog 10 ⟨[.int .u8 2]⟩ w1038 fun e1039 w1040 =>
 ∃ r1041:ByteArray,e1039=.returned (.string r1041) ∧
 Calls Tryz.prog 10 ⟨[.int .u8 1]⟩ w1040 fun e1042 w1043 =>
 ∃ r1044:ByteArray,e1042=.returned (.string r1044) ∧
 ((⟨[.string r1041,.slice (some a1010) 1 1]⟩:Array Value)).size=2 ∧
 ((⟨[.string r1044,.slice (some a1037) 1 1]⟩:Array Value)).size=2 ∧
 nw w1043 ⟨(spl (spl [.string ({ data:=#[] }),.slice none 0 0,.string ({ data:=#[] }),.slice none 0 0] 0 (⟨[.string r1041,.slice (some a1010) 1 1]⟩:Array Value)) 2 (⟨[.string r1044,.slice (some a1037) 1 1]⟩:Array Value))⟩ 46 fun a1045 w1046 =>
 qhb 9 [.slice (some a1045) 2 2] w1046 fun r1049 r1050 w1048 =>
 qd.j2 r1049 r1050 Q w1048))∧(
 (c787).size=22 ∧
 nw w39 ⟨(spl [.int .u8 0,.int .u8 0,.int .u8 0,.int .u8 0,.int .u8 0,.int .u8 0,.int .u8 0,.int .u8 0,.int .u8 0,.int .u8 0,.int .u8 0,.int .u8 0,.int .u8 0,.int .u8 0,.int .u8 0,.int .u8 0,.int .u8 0,.int .u8 0,.int .u8 0,.int .u8 0,.int .u32 0,.int .i64 0] 0 c787)⟩ 42 fun a1051 w1052 =>
 (Calls Tryz.prog 10 ⟨[.int .u8 2]⟩ w1052 fun e1053 w1054 =>
 ∃ r1055:ByteArray,e1053=.returned (.string r1055) ∧
 ((c935).size=22 ∧
 nw w1054 ⟨(spl [.int .u8 0,.int .u8 0,.int .u8 0,.int .u8 0,.int .u8 0,.int .u8 0,.int .u8 0,.int .u8 0,.int .u8 0,.int .u8 0,.int .u8 0,.int .u8 0,.int .u8 0,.int .u8 0,.int .u8 0,.int .u8 0,.int .u8 0,.int .u8 0,.int .u8 0,.int .u8 0,.int .u32 0,.int .i64 0] 0 c935)⟩ 42 fun a1056 w1057 =>
 Calls Tryz.prog 10 ⟨[.int .u8 1]⟩ w1057 fun e1058 w1059 =>
 ∃ r1060:ByteArray,e1058=.returned (.string r1060) ∧
 ((⟨[.string r1055,.slice (some a1056) 1 1]⟩:Array Value)).size=2 ∧
 ((⟨[.string r1060,.slice (some a1051) 1 1]⟩:Array Value)).size=2 ∧
 nw w1059 ⟨(spl (spl [.string ({ data:=#[] }),.slice none 0 0,.string ({ data:=#[] }),.slice none 0 0] 0 (⟨[.string r1055,.slice (some a1056) 1 1]⟩:Array Value)) 2 (⟨[.string r1060,.slice (some a1051) 1 1]⟩:Array Value))⟩ 46 fun a1061 w1062 =>
 qhb 9 [.slice (some a1061) 2 2] w1062 fun r1065 r1066 w1064 =>
 qd.j2 r1065 r1066 Q w1064)∧(
 Calls Tryz.prog 10 ⟨[.int .u8 1]⟩ w1054 fun e1067 w1068 =>
 ∃ r1069:ByteArray,e1067=.returned (.string r1069) ∧
 (c935).size=22 ∧
 nw w1068 ⟨(spl [.int .u8 0,.int .u8 0,.int .u8 0,.int .u8 0,.int .u8 0,.int .u8 0,.int .u8 0,.int .u8 0,.int .u8 0,.int .u8 0,.int .u8 0,.int .u8 0,.int .u8 0,.int .u8 0,.int .u8 0,.int .u8 0,.int .u8 0,.int .u8 0,.int .u8 0,.int .u8 0,.int .u32 0,.int .i64 0] 0 c935)⟩ 42 fun a1070 w1071 =>
 ((⟨[.string r1055,.slice (some a1070) 1 1]⟩:Array Value)).size=2 ∧
 ((⟨[.string r1069,.slice (some a1051) 1 1]⟩:Array Value)).size=2 ∧
 nw w1071 ⟨(spl (spl [.string ({ data:=#[] }),.slice none 0 0,.string ({ data:=#[] }),.slice none 0 0] 0 (⟨[.string r1055,.slice (some a1070) 1 1]⟩:Array Value)) 2 (⟨[.string r1069,.slice (some a1051) 1 1]⟩:Array Value))⟩ 46 fun a1072 w1073 =>
 qhb 9 [.slice (some a1072) 2 2] w1073 fun r1076 r1077 w1075 =>
 qd.j2 r1076 r1077 Q w1075))∧(
 (c935).size=22 ∧
 nw w1052 ⟨(spl [.int .u8 0,.int .u8 0,.int .u8 0,.int .u8 0,.int .u8 0,.int .u8 0,.int .u8 0,.int .u8 0,.int .u8 0,.int .u8 0,.int .u8 0,.int .u8 0,.int .u8 0,.int .u8 0,.int .u8 0,.int .u8 0,.int .u8 0,.int .u8 0,.int .u8 0,.int .u8 0,.int .u32 0,.int .i64 0] 0 c935)⟩ 42 fun a1078 w1079 =>
 Calls Tryz.prog 10 ⟨[.int .u8 2]⟩ w1079 fun e1080 w1081 =>
 ∃ r1082:ByteArray,e1080=.returned (.string r1082) ∧
 Calls Tryz.prog 10 ⟨[.int .u8 1]⟩ w1081 fun e1083 w1084 =>
 ∃ r1085:ByteArray,e1083=.returned (.string r1085) ∧
 ((⟨[.string r1082,.slice (some a1078) 1 1]⟩:Array Value)).size=2 ∧
 ((⟨[.string r1085,.slice (some a1051) 1 1]⟩:Array Value)).size=2 ∧
 nw w1084 ⟨(spl (spl [.string ({ data:=#[] }),.slice none 0 0,.string ({ data:=#[] }),.slice none 0 0] 0 (⟨[.string r1082,.slice (some a1078) 1 1]⟩:Array Value)) 2 (⟨[.string r1085,.slice (some a1051) 1 1]⟩:Array Value))⟩ 46 fun a1086 w1087 =>
 qhb 9 [.slice (some a1086) 2 2] w1087 fun r1090 r1091 w1089 =>
 qd.j2 r1090 r1091 Q w1089)))∧(
 (c787).size=22 ∧
 nw w39 ⟨(spl [.int .u8 0,.int .u8 0,.int .u8 0,.int .u8 0,.int .u8 0,.int .u8 0,.int .u8 0,.int .u8 0,.int .u8 0,.int .u8 0,.int .u8 0,.int .u8 0,.int .u8 0,.int .u8 0,.int .u8 0,.int .u8 0,.int .u8 0,.int .u8 0,.int .u8 0,.int .u8 0,.int .u32 0,.int .i64 0] 0 c787)⟩ 42 fun a1092 w1093 =>
 (Calls Tryz.prog 10 ⟨[.int .u8 2]⟩ w1093 fun e1094 w1095 =>
 ∃ r1096:ByteArray,e1094=.returned (.string r1096) ∧
 (ldA w1095 a36 22 fun c1097 =>
 ((c1097).size=22 ∧
 nw w1095 ⟨(spl [.int .u8 0,.int .u8 0,.int .u8 0,.int .u8 0,.int .u8 0,.int .u8 0,.int .u8 0,.int .u8 0,.int .u8 0,.int .u8 0,.int .u8 0,.int .u8 0,.int .u8 0,.int .u8 0,.int .u8 0,.int .u8 0,.int .u8 0,.int .u8 0,.int .u8 0,.int .u8 0,.int .u32 0,.int .i64 0] 0 c1097)⟩ 42 fun a1098 w1099 =>
 Calls Tryz.prog 10 ⟨[.int .u8 1]⟩ w1099 fun e1100 w1101 =>
 ∃ r1102:ByteArray,e1100=.returned (.string r1102) ∧
 ((⟨[.string r1096,.slice (some a1098) 1 1]⟩:Array Value)).size=2 ∧
 ((⟨[.string r1102,.slice (some a1092) 1 1]⟩:Array Value)).size=2 ∧
 nw w1101 ⟨(spl (spl [.string ({ data:=#[] }),.slice none 0 0,.string ({ data:=#[] }),.slice none 0 0] 0 (⟨[.string r1096,.slice (some a1098) 1 1]⟩:Array Value)) 2 (⟨[.string r1102,.slice (some a1092) 1 1]⟩:Array Value))⟩ 46 fun a1103 w1104 =>
 qhb 9 [.slice (some a1103) 2 2] w1104 fun r1107 r1108 w1106 =>
 qd.j2 r1107 r1108 Q w1106)∧(
 Calls Tryz.prog 10 ⟨[.int .u8 1]⟩ w1095 fun e1109 w1110 =>
 ∃ r1111:ByteArray,e1109=.returned (.string r1111) ∧
 (c1097).size=22 ∧
 nw w1110 ⟨(spl [.int .u8 0,.int .u8 0,.int .u8 0,.int .u8 0,.int .u8 0,.int .u8 0,.int .u8 0,.int .u8 0,.int .u8 0,.int .u8 0,.int .u8 0,.int .u8 0,.int .u8 0,.int .u8 0,.int .u8 0,.int .u8 0,.int .u8 0,.int .u8 0,.int .u8 0,.int .u8 0,.int .u32 0,.int .i64 0] 0 c1097)⟩ 42 fun a1112 w1113 =>
 ((⟨[.string r1096,.slice (some a1112) 1 1]⟩:Array Value)).size=2 ∧
 ((⟨[.string r1111,.slice (some a1092) 1 1]⟩:Array Value)).size=2 ∧
 nw w1113 ⟨(spl (spl [.string ({ data:=#[] }),.slice none 0 0,.string ({ data:=#[] }),.slice none 0 0] 0 (⟨[.string r1096,.slice (some a1112) 1 1]⟩:Array Value)) 2 (⟨[.string r1111,.slice (some a1092) 1 1]⟩:Array Value))⟩ 46 fun a1114 w1115 =>
 qhb 9 [.slice (some a1114) 2 2] w1115 fun r1118 r1119 w1117 =>
 qd.j2 r1118 r1119 Q w1117))∧(
 Calls Tryz.prog 10 ⟨[.int .u8 1]⟩ w1095 fun e1120 w1121 =>
 ∃ r1122:ByteArray,e1120=.returned (.string r1122) ∧
 ldA w1121 a36 22 fun c1123 =>
 (c1123).size=22 ∧
 nw w1121 ⟨(spl [.int .u8 0,.int .u8 0,.int .u8 0,.int .u8 0,.int .u8 0,.int .u8 0,.int .u8 0,.int .u8 0,.int .u8 0,.int .u8 0,.int .u8 0,.int .u8 0,.int .u8 0,.int .u8 0,.int .u8 0,.int .u8 0,.int .u8 0,.int .u8 0,.int .u8 0,.int .u8 0,.int .u32 0,.int .i64 0] 0 c1123)⟩ 42 fun a1124 w1125 =>
 ((⟨[.string r1096,.slice (some a1124) 1 1]⟩:Array Value)).size=2 ∧
 ((⟨[.string r1122,.slice (some a1092) 1 1]⟩:Array Value)).size=2 ∧
 nw w1125 ⟨(spl (spl [.string ({ data:=#[] }),.slice none 0 0,.string ({ data:=#[] }),.slice none 0 0] 0 (⟨[.string r1096,.slice (some a1124) 1 1]⟩:Array Value)) 2 (⟨[.string r1122,.slice (some a1092) 1 1]⟩:Array Value))⟩ 46 fun a1126 w1127 =>
 qhb 9 [.slice (some a1126) 2 2] w1127 fun r1130 r1131 w1129 =>
 qd.j2 r1130 r1131 Q w1129))∧(
 ldA w1093 a36 22 fun c1132 =>
 (Calls Tryz.prog 10 ⟨[.int .u8 2]⟩ w1093 fun e1133 w1134 =>
 ∃ r1135:ByteArray,e1133=.returned (.string r1135) ∧
 ((c1132).size=22 ∧
 nw w1134 ⟨(spl [.int .u8 0,.int .u8 0,.int .u8 0,.int .u8 0,.int .u8 0,.int .u8 0,.int .u8 0,.int .u8 0,.int .u8 0,.int .u8 0,.int .u8 0,.int .u8 0,.int .u8 0,.int .u8 0,.int .u8 0,.int .u8 0,.int .u8 0,.int .u8 0,.int .u8 0,.int .u8 0,.int .u32 0,.int .i64 0] 0 c1132)⟩ 42 fun a1136 w1137 =>
 Calls Tryz.prog 10 ⟨[.int .u8 1]⟩ w1137 fun e1138 w1139 =>
 ∃ r1140:ByteArray,e1138=.returned (.string r1140) ∧
 ((⟨[.string r1135,.slice (some a1136) 1 1]⟩:Array Value)).size=2 ∧
 ((⟨[.string r1140,.slice (some a1092) 1 1]⟩:Array Value)).size=2 ∧
 nw w1139 ⟨(spl (spl [.string ({ data:=#[] }),.slice none 0 0,.string ({ data:=#[] }),.slice none 0 0] 0 (⟨[.string r1135,.slice (some a1136) 1 1]⟩:Array Value)) 2 (⟨[.string r1140,.slice (some a1092) 1 1]⟩:Array Value))⟩ 46 fun a1141 w1142 =>
 qhb 9 [.slice (some a1141) 2 2] w1142 fun r1145 r1146 w1144 =>
 qd.j2 r1145 r1146 Q w1144)∧(
 Calls Tryz.prog 10 ⟨[.int .u8 1]⟩ w1134 fun e1147 w1148 =>
 ∃ r1149:ByteArray,e1147=.returned (.string r1149) ∧
 (c1132).size=22 ∧
 nw w1148 ⟨(spl [.int .u8 0,.int .u8 0,.int .u8 0,.int .u8 0,.int .u8 0,.int .u8 0,.int .u8 0,.int .u8 0,.int .u8 0,.int .u8 0,.int .u8 0,.int .u8 0,.int .u8 0,.int .u8 0,.int .u8 0,.int .u8 0,.int .u8 0,.int .u8 0,.int .u8 0,.int .u8 0,.int .u32 0,.int .i64 0] 0 c1132)⟩ 42 fun a1150 w1151 =>
 ((⟨[.string r1135,.slice (some a1150) 1 1]⟩:Array Value)).size=2 ∧
 ((⟨[.string r1149,.slice (some a1092) 1 1]⟩:Array Value)).size=2 ∧
 nw w1151 ⟨(spl (spl [.string ({ data:=#[] }),.slice none 0 0,.string ({ data:=#[] }),.slice none 0 0] 0 (⟨[.string r1135,.slice (some a1150) 1 1]⟩:Array Value)) 2 (⟨[.string r1149,.slice (some a1092) 1 1]⟩:Array Value))⟩ 46 fun a1152 w1153 =>
 qhb 9 [.slice (some a1152) 2 2] w1153 fun r1156 r1157 w1155 =>
 qd.j2 r1156 r1157 Q w1155))∧(
 (c1132).size=22 ∧
 nw w1093 ⟨(spl [.int .u8 0,.int .u8 0,.int .u8 0,.int .u8 0,.int .u8 0,.int .u8 0,.int .u8 0,.int .u8 0,.int .u8 0,.int .u8 0,.int .u8 0,.int .u8 0,.int .u8 0,.int .u8 0,.int .u8 0,.int .u8 0,.int .u8 0,.int .u8 0,.int .u8 0,.int .u8 0,.int .u32 0,.int .i64 0] 0 c1132)⟩ 42 fun a1158 w1159 =>
 Calls Tryz.prog 10 ⟨[.int .u8 2]⟩ w1159 fun e1160 w1161 =>
 ∃ r1162:ByteArray,e1160=.returned (.string r1162) ∧
 Calls Tryz.prog 10 ⟨[.int .u8 1]⟩ w1161 fun e1163 w1164 =>
 ∃ r1165:ByteArray,e1163=.returned (.string r1165) ∧
 ((⟨[.string r1162,.slice (some a1158) 1 1]⟩:Array Value)).size=2 ∧
 ((⟨[.string r1165,.slice (some a1092) 1 1]⟩:Array Value)).size=2 ∧
 nw w1164 ⟨(spl (spl [.string ({ data:=#[] }),.slice none 0 0,.string ({ data:=#[] }),.slice none 0 0] 0 (⟨[.string r1162,.slice (some a1158) 1 1]⟩:Array Value)) 2 (⟨[.string r1165,.slice (some a1092) 1 1]⟩:Array Value))⟩ 46 fun a1166 w1167 =>
 qhb 9 [.slice (some a1166) 2 2] w1167 fun r1170 r1171 w1169 =>
 qd.j2 r1170 r1171 Q w1169))))
def qd  (Q:VWP) (w:World):Prop :=
 nw w (zc Tryz.prog 42) 42 fun a1172 w1173 =>
 ((⟨[.int .u8 0,.int .u8 0,.int .u8 0,.int .u8 0,.int .u8 0,.int .u8 0,.int .u8 0,.int .u8 0,.int .u8 0,.int .u8 0,.int .u8 0,.int .u8 0,.int .u8 0,.int .u8 0,.int .u8 0,.int .u8 0,.int .u8 0,.int .u8 0,.int .u8 0,.int .u8 0,.int .u32 0,.int .i64 12]⟩:Array Value)).size=22 ∧
 stA w1173 a1172 (⟨[.int .u8 0,.int .u8 0,.int .u8 0,.int .u8 0,.int .u8 0,.int .u8 0,.int .u8 0,.int .u8 0,.int .u8 0,.int .u8 0,.int .u8 0,.int .u8 0,.int .u8 0,.int .u8 0,.int .u8 0,.int .u8 0,.int .u8 0,.int .u8 0,.int .u8 0,.int .u8 0,.int .u32 0,.int .i64 12]⟩:Array Value) fun w1174 =>
 qd.j1 a1172 Q w1174
theorem qd.ok  (Q:VWP) (w:World) (h:qd  Q w):Calls Tryz.prog 6 ⟨[]⟩ w (Ret Q) :=
 qqb [.tmp 0] qdd Tryz.func6 rfl rfl rfl rfl (.pr 1 [sA 1] (fun a w=>qd.j1 a Q w) (.pr 1 [sL 3,sI 4] (fun a b w=>qd.j2 a b Q w) .lf)) (by kernel_rfl) h
def qv.j3  (Q:VWP) (w:World):Prop :=
 Q (.bool true) w
def qv.b1 (l_0:Sl) (n_3:Int) (i_4:Int) (Q:VWP) (nx1:Sl→Int→Int→WP) (w:World):Prop :=
 br (decide (i_4 < (l_0.len:Int))) (
 ixS l_0.a l_0.len i_4 3 fun a1 =>
 ldS w (Addr.add a1 1) fun x2 =>
 br (decide (((ByteArray.size x2:Int):Int) > 200)) (
 Q (.bool false) w) (
 ixS l_0.a l_0.len i_4 3 fun a3 =>
 ldL w (Addr.add a3 2) fun x4 =>
 lt (IntKind.i64.wrap (n_3+(x4.len:Int))) fun x5 =>
 br (decide (x5 > 80)) (
 Q (.bool false) w) (
 lt (IntKind.i64.wrap (i_4+1)) fun x6 =>
 nx1 l_0 x5 x6 w))) (
 qv.j3 Q w)
def qv.l1 (l_0:Sl) (n_3:Int) (i_4:Int) (Q:VWP) (w:World):Prop :=
 ∃ (I:Int→Int→WP) (μ:Int→Int→World→Nat),I n_3 i_4 w∧∀ n_3:Int,∀ i_4:Int,∀ w:World,I n_3 i_4 w→qv.b1 l_0 n_3 i_4 Q (fun l_0' n_3' i_4' w'=>(l_0'=l_0)∧I n_3' i_4' w'∧μ n_3' i_4' w' < μ n_3 i_4 w) w
def qv.j4 (l_0:Sl) (n_3:Int) (i_4:Int) (Q:VWP) (w:World):Prop :=
 qv.l1 l_0 n_3 i_4 Q w
def qv.j2 (l_0:Sl) (n_3:Int) (Q:VWP) (w:World):Prop :=
 qv.j4 l_0 n_3 0 Q w
def qv.j1 (l_0:Sl) (Q:VWP) (w:World):Prop :=
 qv.j2 l_0 0 Q w
def qv (l_0:Sl) (Q:VWP) (w:World):Prop :=
 br (decide ((l_0.len:Int) > 20)) (
 br (decide ((l_0.len:Int)≤64)) (
 Q (.bool false) w) (
 br (decide ((l_0.len:Int) > 66)) (
 Q (.bool false) w) (
 qv.j1 l_0 Q w))) (
 br (decide ((l_0.len:Int) > 66)) (
 Q (.bool false) w) (
 qv.j1 l_0 Q w))
theorem qv.ok (l_0:Sl) (Q:VWP) (w:World) (h:qv l_0 Q w):Calls Tryz.prog 7 ⟨[sV l_0]⟩ w (Ret Q) :=
 qqb [.tmp 2] qdd Tryz.func7 rfl rfl rfl rfl (.pr 1 [sL 0] (fun a w=>qv.j1 a Q w) (.sq [sL 0,sI 3] (fun a b w=>qv.j2 a b Q w) .lf (.sq [] (fun  w=>qv.j3 Q w) (.sq [sL 0,sI 3,sI 4] (fun a b c w=>qv.j4 a b c Q w) .lf (.bk (.lo [sL 0] [sI 3,sI 4] (fun a b c w=>qv.l1 a b c Q w) (fun nx1 a b c w=>qv.b1 a b c Q nx1 w) fun nx1=>.lf))) .lf))) (by kernel_rfl) h
def qm.j3 (a_4 b_5:Sl) (Q:VWP) (w:World):Prop :=
 Q (.tuple ⟨[sV a_4,sV b_5]⟩) w
def qm.j6 (l_0 a_4 b_5:Sl) (i_6:Int) (Q:VWP) (nx1:Sl→Sl→Sl→Int→WP) (w:World):Prop :=
 lt (IntKind.i64.wrap (i_6+1)) fun x1 =>
 nx1 l_0 a_4 b_5 x1 w
def qm.j7 (l_0 a_4 b_5:Sl) (i_6:Int) (n_7:ByteArray) (Q:VWP) (nx1:Sl→Sl→Sl→Int→WP) (w:World):Prop :=
 ixS l_0.a l_0.len i_6 3 fun a2 =>
 ldL w (Addr.add a2 2) fun x3 =>
 ((⟨[.string n_7,sV x3]⟩:Array Value)).size=2 ∧
 nw w ⟨(spl [.string ({ data:=#[] }),.slice none 0 0] 0 (⟨[.string n_7,sV x3]⟩:Array Value))⟩ 46 fun a4 w5 =>
 rdO w5 (some a4) (1 * 2) fun c6 =>
 apK Tryz.prog 46 w5 a_4.a a_4.len a_4.cap 1 c6 fun s7 w8 =>
 ixS l_0.a l_0.len i_6 3 fun a9 =>
 ldL w8 (Addr.add a9 2) fun x10 =>
 qgh 17 [sV x10] w8 fun r13 w12 =>
 ((⟨[.string n_7,sV r13]⟩:Array Value)).size=2 ∧
 nw w12 ⟨(spl [.string ({ data:=#[] }),.slice none 0 0] 0 (⟨[.string n_7,sV r13]⟩:Array Value))⟩ 66 fun a14 w15 =>
 rdO w15 (some a14) (1 * 2) fun c16 =>
 apK Tryz.prog 66 w15 b_5.a b_5.len b_5.cap 1 c16 fun s17 w18 =>
 qm.j6 l_0 s7 s17 i_6 Q nx1 w18
def qm.j5 (l_0 a_4 b_5:Sl) (i_6:Int) (Q:VWP) (nx1:Sl→Sl→Sl→Int→WP) (w:World):Prop :=
 ixS l_0.a l_0.len i_6 3 fun a19 =>
 ldI .u8 w (Addr.add a19 0) fun x20 =>
 Calls Tryz.prog 10 ⟨[.int .u8 x20]⟩ w fun e21 w22 =>
 ∃ r23:ByteArray,e21=.returned (.string r23) ∧
 ixS l_0.a l_0.len i_6 3 fun a24 =>
 ldS w22 (Addr.add a24 1) fun x25 =>
 br (!(ByteArray.toList x25 == ByteArray.toList ({ data:=#[] }))) (
 ixS l_0.a l_0.len i_6 3 fun a26 =>
 ldS w22 (Addr.add a26 1) fun x27 =>
 qm.j7 l_0 a_4 b_5 i_6 x27 Q nx1 w22) (
 qm.j7 l_0 a_4 b_5 i_6 r23 Q nx1 w22)
def qm.b1 (l_0 a_4 b_5:Sl) (i_6:Int) (Q:VWP) (nx1:Sl→Sl→Sl→Int→WP) (w:World):Prop :=
 br (decide (i_6 < (l_0.len:Int))) (
 qm.j5 l_0 a_4 b_5 i_6 Q nx1 w) (
 qm.j3 a_4 b_5 Q w)
def qm.l1 (l_0 a_4 b_5:Sl) (i_6:Int) (Q:VWP) (w:World):Prop :=
 ∃ (I:Sl→Sl→Int→WP) (μ:Sl→Sl→Int→World→Nat),I a_4 b_5 i_6 w∧∀ a_4:Sl,∀ b_5:Sl,∀ i_6:Int,∀ w:World,I a_4 b_5 i_6 w→qm.b1 l_0 a_4 b_5 i_6 Q (fun l_0' a_4' b_5' i_6' w'=>(l_0'=l_0)∧I a_4' b_5' i_6' w'∧μ a_4' b_5' i_6' w' < μ a_4 b_5 i_6 w) w
def qm.j4 (l_0 a_4 b_5:Sl) (i_6:Int) (Q:VWP) (w:World):Prop :=
 qm.l1 l_0 a_4 b_5 i_6 Q w
def qm.j2 (l_0 a_4 b_5:Sl) (Q:VWP) (w:World):Prop :=
 qm.j4 l_0 a_4 b_5 0 Q w
def qm.j1 (l_0:Sl) (Q:VWP) (w:World):Prop :=
 qm.j2 l_0 ⟨none,0,0⟩ ⟨none,0,0⟩ Q w
def qm (l_0:Sl) (Q:VWP) (w:World):Prop :=
 qm.j1 l_0 Q w
theorem qm.ok (l_0:Sl) (Q:VWP) (w:World) (h:qm l_0 Q w):Calls Tryz.prog 8 ⟨[sV l_0]⟩ w (Ret Q) :=
 qqb [.tmp 2,.tmp 3] qdd Tryz.func8 rfl rfl rfl rfl (.sq [sL 0] (fun a w=>qm.j1 a Q w) .lf (.pr 1 [sL 0,sL 4,sL 5] (fun a b c w=>qm.j2 a b c Q w) (.sq [sL 4,sL 5] (fun a b w=>qm.j3 a b Q w) (.sq [sL 0,sL 4,sL 5,sI 6] (fun a b c d w=>qm.j4 a b c d Q w) .lf (.bk (.lo [sL 0] [sL 4,sL 5,sI 6] (fun a b c d w=>qm.l1 a b c d Q w) (fun nx1 a b c d w=>qm.b1 a b c d Q nx1 w) fun nx1=>(.sq [sL 0,sL 4,sL 5,sI 6] (fun a b c d w=>qm.j5 a b c d Q nx1 w) .lf (.sq [sL 0,sL 4,sL 5,sI 6] (fun a b c d w=>qm.j6 a b c d Q nx1 w) (.bk (.pr 1 [sL 0,sL 4,sL 5,sI 6,(7,.S)] (fun a b c d e w=>qm.j7 a b c d e Q nx1 w) .lf)) .lf))))) .lf))) (by kernel_rfl) h
def qz.j2 (out_3:Sl) (Q:VWP) (w:World):Prop :=
 Q (sV out_3) w
def qz.b1 (l_0 out_3:Sl) (i_4:Int) (Q:VWP) (nx1:Sl→Sl→Int→WP) (w:World):Prop :=
 br (decide (i_4 < (l_0.len:Int))) (
 lt (World.drew w) fun w1 =>
 ixS l_0.a l_0.len i_4 22 fun a2 =>
 ldA w1 (Addr.add a2 0) 20 fun c3 =>
 ixS l_0.a l_0.len i_4 22 fun a4 =>
 ldI .u32 w1 (Addr.add a4 20) fun x5 =>
 ixS l_0.a l_0.len i_4 22 fun a6 =>
 ldI .i64 w1 (Addr.add a6 21) fun x7 =>
 (c3).size=20 ∧
 ((⟨(List.set (List.set (spl [.int .u8 0,.int .u8 0,.int .u8 0,.int .u8 0,.int .u8 0,.int .u8 0,.int .u8 0,.int .u8 0,.int .u8 0,.int .u8 0,.int .u8 0,.int .u8 0,.int .u8 0,.int .u8 0,.int .u8 0,.int .u8 0,.int .u8 0,.int .u8 0,.int .u8 0,.int .u8 0,.int .u32 0,.int .i64 0] 0 c3) 20 (.int .u32 x5)) 21 (.int .i64 x7))⟩:Array Value)).size=22 ∧
 nw w1 ⟨(spl [.int .u8 0,.int .u8 0,.int .u8 0,.int .u8 0,.int .u8 0,.int .u8 0,.int .u8 0,.int .u8 0,.int .u8 0,.int .u8 0,.int .u8 0,.int .u8 0,.int .u8 0,.int .u8 0,.int .u8 0,.int .u8 0,.int .u8 0,.int .u8 0,.int .u8 0,.int .u8 0,.int .u32 0,.int .i64 0] 0 (⟨(List.set (List.set (spl [.int .u8 0,.int .u8 0,.int .u8 0,.int .u8 0,.int .u8 0,.int .u8 0,.int .u8 0,.int .u8 0,.int .u8 0,.int .u8 0,.int .u8 0,.int .u8 0,.int .u8 0,.int .u8 0,.int .u8 0,.int .u8 0,.int .u8 0,.int .u8 0,.int .u8 0,.int .u8 0,.int .u32 0,.int .i64 0] 0 c3) 20 (.int .u32 x5)) 21 (.int .i64 x7))⟩:Array Value))⟩ 115 fun a8 w9 =>
 rdO w9 (some a8) (1 * 22) fun c10 =>
 apK Tryz.prog 115 w9 out_3.a out_3.len out_3.cap 1 c10 fun s11 w12 =>
 lt (IntKind.i64.wrap (i_4+1)) fun x13 =>
 nx1 l_0 s11 x13 w12) (
 qz.j2 out_3 Q w)
def qz.l1 (l_0 out_3:Sl) (i_4:Int) (Q:VWP) (w:World):Prop :=
 ∃ (I:Sl→Int→WP) (μ:Sl→Int→World→Nat),I out_3 i_4 w∧∀ out_3:Sl,∀ i_4:Int,∀ w:World,I out_3 i_4 w→qz.b1 l_0 out_3 i_4 Q (fun l_0' out_3' i_4' w'=>(l_0'=l_0)∧I out_3' i_4' w'∧μ out_3' i_4' w' < μ out_3 i_4 w) w
def qz.j3 (l_0 out_3:Sl) (i_4:Int) (Q:VWP) (w:World):Prop :=
 qz.l1 l_0 out_3 i_4 Q w
def qz.j1 (l_0 out_3:Sl) (Q:VWP) (w:World):Prop :=
 qz.j3 l_0 out_3 0 Q w
def qz (l_0:Sl) (Q:VWP) (w:World):Prop :=
 qz.j1 l_0 ⟨none,0,0⟩ Q w
theorem qz.ok (l_0:Sl) (Q:VWP) (w:World) (h:qz l_0 Q w):Calls Tryz.prog 17 ⟨[sV l_0]⟩ w (Ret Q) :=
 qqb [.tmp 2] qdd Tryz.func17 rfl rfl rfl rfl (.pr 1 [sL 0,sL 3] (fun a b w=>qz.j1 a b Q w) (.sq [sL 3] (fun a w=>qz.j2 a Q w) (.sq [sL 0,sL 3,sI 4] (fun a b c w=>qz.j3 a b c Q w) .lf (.bk (.lo [sL 0] [sL 3,sI 4] (fun a b c w=>qz.l1 a b c Q w) (fun nx1 a b c w=>qz.b1 a b c Q nx1 w) fun nx1=>.lf))) .lf)) (by kernel_rfl) h
def trovelaw18_MidxOrder.j3 (d_0 t5:Sl) (Q:VWP) (w:World):Prop :=
 ct_LL 8 [sV d_0] w fun r3 r4 w2 =>
 ct_LL 8 [sV t5] w2 fun r7 r8 w6 =>
 qhb 9 [sV r3] w6 fun r11 r12 w10 =>
 qhb 9 [sV r7] w10 fun r15 r16 w14 =>
 br (r12 == r16) (
 btS w14 r11.a r11.len fun x17 =>
 btS w14 r15.a r15.len fun x18 =>
 Q (.bool (ByteArray.toList x17 == ByteArray.toList x18)) w14) (
 Q (.bool false) w14)
def trovelaw18_MidxOrder.b1 (d_0:Sl) (i_1:Int) (t5:Sl) (t6:Int) (Q:VWP) (nx1:Sl→Int→Sl→Int→WP) (w:World):Prop :=
 br (decide (t6 < (d_0.len:Int))) (
 ((d_0.len:Int):Int) ≠ 0 ∧
 lt (Int.tmod i_1 (d_0.len:Int)) fun x19 =>
 lt (IntKind.i64.wrap (t6+x19)) fun x20 =>
 ((d_0.len:Int):Int) ≠ 0 ∧
 lt (Int.tmod x20 (d_0.len:Int)) fun x21 =>
 ixS d_0.a d_0.len x21 3 fun a22 =>
 ldA w a22 3 fun c23 =>
 (c23).size=3 ∧
 nw w ⟨(spl [.int .u8 0,.string ({ data:=#[] }),.slice none 0 0] 0 c23)⟩ 27 fun a24 w25 =>
 rdO w25 (some a24) (1 * 3) fun c26 =>
 apK Tryz.prog 27 w25 t5.a t5.len t5.cap 1 c26 fun s27 w28 =>
 lt (IntKind.i64.wrap (t6+1)) fun x29 =>
 nx1 d_0 i_1 s27 x29 w28) (
 trovelaw18_MidxOrder.j3 d_0 t5 Q w)
def trovelaw18_MidxOrder.l1 (d_0:Sl) (i_1:Int) (t5:Sl) (t6:Int) (Q:VWP) (w:World):Prop :=
 ∃ (I:Sl→Int→WP) (μ:Sl→Int→World→Nat),I t5 t6 w∧∀ t5:Sl,∀ t6:Int,∀ w:World,I t5 t6 w→trovelaw18_MidxOrder.b1 d_0 i_1 t5 t6 Q (fun d_0' i_1' t5' t6' w'=>(d_0'=d_0∧i_1'=i_1)∧I t5' t6' w'∧μ t5' t6' w' < μ t5 t6 w) w
def trovelaw18_MidxOrder.j4 (d_0:Sl) (i_1:Int) (t5:Sl) (t6:Int) (Q:VWP) (w:World):Prop :=
 trovelaw18_MidxOrder.l1 d_0 i_1 t5 t6 Q w
def trovelaw18_MidxOrder.j2 (d_0:Sl) (i_1:Int) (t5:Sl) (Q:VWP) (w:World):Prop :=
 trovelaw18_MidxOrder.j4 d_0 i_1 t5 0 Q w
def trovelaw18_MidxOrder.j1 (d_0:Sl) (i_1:Int) (Q:VWP) (w:World):Prop :=
 cr_B 7 [sV d_0] w fun r32 w31 =>
 br (!r32) (
 Q (.bool true) w31) (
 br ((d_0.len:Int) == 0) (
 Q (.bool true) w31) (
 br (decide (i_1 < 0)) (
 Q (.bool true) w31) (
 trovelaw18_MidxOrder.j2 d_0 i_1 ⟨none,0,0⟩ Q w31)))
def trovelaw18_MidxOrder (d_0:Sl) (i_1:Int) (Q:VWP) (w:World):Prop :=
 cr_B 6 [] w fun r35 w34 =>
 br (!r35) (
 Q (.bool false) w34) (
 trovelaw18_MidxOrder.j1 d_0 i_1 Q w34)
theorem trovelaw18_MidxOrder.ok (d_0:Sl) (i_1:Int) (Q:VWP) (w:World) (h:trovelaw18_MidxOrder d_0 i_1 Q w):Calls Tryz.prog 3 ⟨[sV d_0,.int .i64 i_1]⟩ w (Ret Q) :=
 qqb [.tmp 4] qdd Tryz.func3 rfl rfl rfl rfl (.pr 1 [sL 0,sI 1] (fun a b w=>trovelaw18_MidxOrder.j1 a b Q w) (.pr 1 [sL 0,sI 1,sL 5] (fun a b c w=>trovelaw18_MidxOrder.j2 a b c Q w) (.sq [sL 0,sL 5] (fun a b w=>trovelaw18_MidxOrder.j3 a b Q w) (.sq [sL 0,sI 1,sL 5,sI 6] (fun a b c d w=>trovelaw18_MidxOrder.j4 a b c d Q w) .lf (.bk (.lo [sL 0,sI 1] [sL 5,sI 6] (fun a b c d w=>trovelaw18_MidxOrder.l1 a b c d Q w) (fun nx1 a b c d w=>trovelaw18_MidxOrder.b1 a b c d Q nx1 w) fun nx1=>.lf))) .lf))) (by kernel_rfl) h
end Go.Proofs.YtonmgkkkiejicaaGreat
namespace Go.Proofs.YtonmgkkkiejicaaGreat
open Go Go.Proofs
set_option linter.unusedVariables false
set_option linter.unusedSimpArgs false
attribute [local irreducible] apK cpK mkK br qte mB
def hx1 (k:Nat):Int:=byteAt hxD k
def hex1 (x:Int):List Int:=[hx1 (x / 16).toNat,hx1 (x % 16).toNat]
def hexI (l:List Int):List Int:=l.flatMap hex1
def idI (i:Int):List Int:=i :: List.replicate 19 0
def nmI (i:Int):ByteArray:=(pakB ++ ⟨⟨u8 (hexI (idI i))⟩⟩) ++ idxB
theorem nmI_data (i:Int):(nmI i).data.toList=[112,97,99,107,45] ++ (u8 (hexI (idI i)) ++ [46,105,100,120]):=by
 unfold nmI
 rw [ByteArray.data_append,Array.toList_append,ByteArray.data_append,Array.toList_append,List.append_assoc]
 rfl
theorem bl_pre (p:List UInt8) {a b:List UInt8} (h:Op.bytesLess a b=true):Op.bytesLess (p ++ a) (p ++ b)=true:=by
 induction p with
 | nil=>exact h
 | cons c p ih =>
   simp only [List.cons_append,Op.bytesLess,Bool.or_eq_true,Bool.and_eq_true,decide_eq_true_eq,beq_iff_eq]
   exact Or.inr ⟨trivial,ih⟩
theorem bl_app:∀ {a b:List UInt8} (t t':List UInt8),a.length=b.length→Op.bytesLess a b=true→Op.bytesLess (a ++ t) (b ++ t')=true:=by
 intro a
 induction a with
 | nil =>
   intro b t t' hl h
   cases b with
   | nil=>simp [Op.bytesLess] at h
   | cons c b=>simp at hl
 | cons x a ih =>
   intro b t t' hl h
   cases b with
   | nil=>simp at hl
   | cons c b =>
     simp only [List.cons_append,Op.bytesLess,Bool.or_eq_true,Bool.and_eq_true,decide_eq_true_eq,beq_iff_eq] at h ⊢
     rcases h with h | ⟨h1,h2⟩
     · exact Or.inl h
     · exact Or.inr ⟨h1,ih t t' (by simpa using hl) h2⟩
theorem hex_lt1:∀ i:Fin 255,Op.bytesLess (u8 (hex1 (i.1:Nat))) (u8 (hex1 ((i.1+1:Nat):Int)))=true:=by decide +kernel
theorem u8_app (a b:List Int):u8 (a ++ b)=u8 a ++ u8 b:=by unfold u8; exact List.map_append ..
theorem nmI_lt1 (k:Nat) (h:k < 255):ltB (nmI (k:Int)) (nmI ((k+1:Nat):Int))=true:=by
 unfold ltB
 rw [ByteArray.toList_eq,ByteArray.toList_eq,nmI_data,nmI_data]
 refine bl_pre _ ?_
 have e:∀ x:Int,u8 (hexI (idI x))=u8 (hex1 x) ++ u8 (hexI (List.replicate 19 0)):=fun x=>by
  rw [← u8_app]
  rfl
 rw [e,e,List.append_assoc,List.append_assoc]
 exact bl_app _ _ rfl (hex_lt1 ⟨k,h⟩)
theorem hx1_sg:∀ k:Fin 16,isSg (hx1 k.1)=true∧0≤hx1 k.1∧hx1 k.1 < 256:=by decide +kernel
theorem qek (a b:ByteArray):biB (a ++ b)=biB a ++ biB b:=by
 unfold biB
 rw [ByteArray.data_append,Array.toList_append,List.map_append]
theorem nmd_mid (s:ByteArray):nmdB (pakB ++ s ++ idxB)=okN s:=by
 have hz:(pakB ++ s ++ idxB).size=5+s.size+4:=by rw [ByteArray.size_append,ByteArray.size_append]; rfl
 have hb:biB (pakB ++ s ++ idxB)=biB pakB ++ (biB s ++ biB idxB):=by rw [qek,qek,List.append_assoc]
 have p5:(biB pakB).length=5:=by rw [qod]; rfl
 have i4:(biB idxB).length=4:=by rw [qod]; rfl
 have e1:(pakB ++ s ++ idxB).extract 0 5=pakB:=by
  refine qqi ?_
  rw [qff,hb,List.drop_zero]
  exact List.take_left' p5
 have h1:begB (pakB ++ s ++ idxB) pakB=true:=by
  unfold begB
  have:pakB.size=5:=rfl
  rw [this,e1,hz,beq_self_eq_true,Bool.and_true]
  exact decide_eq_true (by omega)
 have e2:qkd (pakB ++ s ++ idxB)=s ++ idxB:=by
  unfold qkd
  rw [if_pos h1]
  refine qqi ?_
  have:pakB.size=5:=rfl
  rw [qff,hb,qek,this,List.drop_left' p5,hz]
  exact List.take_of_length_le (by rw [List.length_append,qod,i4]; omega)
 have hz2:(s ++ idxB).size=s.size+4:=by rw [ByteArray.size_append]; rfl
 have e3:(s ++ idxB).extract ((s ++ idxB).size - 4) (s ++ idxB).size=idxB:=by
  refine qqi ?_
  rw [qff,qek,hz2,Nat.add_sub_cancel,List.drop_left' (qod s)]
  exact List.take_of_length_le (by rw [i4]; omega)
 have h2:endB (s ++ idxB) idxB=true:=by
  unfold endB
  have:idxB.size=4:=rfl
  rw [this,e3,hz2,beq_self_eq_true,Bool.and_true]
  exact decide_eq_true (by omega)
 have e4:cutS1 (s ++ idxB)=s:=by
  unfold cutS1
  rw [if_pos h2]
  refine qqi ?_
  have:idxB.size=4:=rfl
  rw [qff,qek,this,hz2,List.drop_zero,Nat.add_sub_cancel,Nat.sub_zero]
  exact List.take_left' (qod s)
 unfold nmdB
 rw [h1,e2,h2,e4]
 rfl
theorem byteAt_biB {s:ByteArray} {j:Nat} (h:j < s.size):byteAt s j=(biB s).getD j 0:=by
 have h4:s.data[j]?=some s.data[j]:=Array.getElem?_eq_getElem h
 have h5:(biB s)[j]?=some (s.data[j].toNat:Int):=biB_get (by rw [Array.getElem?_toList]; exact h4)
 rw [List.getD_eq_getElem?_getD,h5]
 unfold byteAt
 simp [h4]
theorem qhj (l:List Int):(hexI l).length=2 * l.length:=by
 induction l with
 | nil=>rfl
 | cons x l ih =>
   show (hex1 x ++ hexI l).length=_
   rw [List.length_append,ih,List.length_cons]
   show 2+_=_
   omega
theorem qgj {l:List Int} (hl:∀ x ∈ l,0≤x∧x < 256) {c:Int} (h:c ∈ hexI l):isSg c=true∧0≤c∧c < 256:=by
 obtain ⟨x,hx,hc⟩:=List.mem_flatMap.1 h
 have:=hl x hx
 unfold hex1 at hc
 simp only [List.mem_cons,List.not_mem_nil,or_false] at hc
 rcases hc with rfl | rfl
 · exact hx1_sg ⟨(x / 16).toNat,by omega⟩
 · exact hx1_sg ⟨(x % 16).toNat,by omega⟩
theorem ok_hex {l:List Int} (hl:∀ x ∈ l,0≤x∧x < 256) (h20:l.length=20):okN ⟨⟨u8 (hexI l)⟩⟩=true:=by
 have hB:qbd (hexI l):=fun c hc=>(qgj hl hc).2
 have hs:ByteArray.size ⟨⟨u8 (hexI l)⟩⟩=40:=by
  have:=qod ⟨⟨u8 (hexI l)⟩⟩
  rw [qdk hB,qhj,h20] at this
  exact this.symm
 unfold okN sgs
 rw [hs,List.all_eq_true.2,decide_eq_true rfl,Bool.and_true]
 intro j hj
 have hj:=List.mem_range.1 hj
 rw [byteAt_biB (by omega),qdk hB]
 refine (qgj hl ?_).1
 rw [List.getD_eq_getElem?_getD,List.getElem?_eq_getElem (by rw [qhj]; omega)]
 exact List.getElem_mem _
theorem qwi {i:Int} (h:0≤i∧i < 256):(idI i).length=20∧∀ x ∈ idI i,0≤x∧x < 256:=by
 refine ⟨by unfold idI; simp,fun x hx=>?_⟩
 rcases List.mem_cons.1 hx with rfl | hx
 · exact h
 · have:=List.eq_of_mem_replicate hx
   omega
theorem qwe {i:Int} (h:0≤i∧i < 256):nmdB (nmI i)=true:=by
 unfold nmI
 rw [nmd_mid]
 exact ok_hex (qwi h).2 (qwi h).1
theorem nmI_lt {i j:Int} (h:0≤i∧i < j∧j < 256):ltB (nmI i) (nmI j)=true:=by
 obtain ⟨a,rfl⟩:∃ a:Nat,i=a:=⟨i.toNat,by omega⟩
 obtain ⟨d,rfl⟩:∃ d:Nat,j=((a+1+d:Nat):Int):=⟨(j - (a:Int)).toNat - 1,by omega⟩
 have h2:a+1+d < 256:=by omega
 clear h
 have one:∀ k:Nat,k < 255→ltB (nmI (k:Int)) (nmI ((k+1:Nat):Int))=true:=nmI_lt1
 induction d with
 | zero=>exact one a (by omega)
 | succ d ih=>exact qcf (ih (by omega)) (one (a+1+d) (by omega))
end Go.Proofs.YtonmgkkkiejicaaGreat
namespace Go.Proofs.YtonmgkkkiejicaaGreat
open Go Go.Proofs
set_option linter.unusedVariables false
set_option linter.unusedSimpArgs false
attribute [local irreducible] apK cpK mkK br qte mB
theorem hexI_snoc {l:List Int} {i:Nat} (h:i < l.length):hexI (l.take (i+1))=hexI (l.take i) ++ hex1 (l.getD i 0):=by
 unfold hexI
 rw [qnj h,List.flatMap_append]
 simp
section
variable {F0:List Nat} {w0 w:World} {ps rest:List As} {q:Nm} {K:Ending→World→Prop} {i:Int}
theorem Hex.c (h:St F0 w0 w ps) (hk:∀ w',St F0 w0 w' ps→K (.returned (.string ⟨⟨u8 (hexI q.1)⟩⟩)) w'):Calls Tryz.prog 29 ⟨[.agg ⟨nmC q⟩]⟩ w K:=by
 have hB:qbd (hexI q.1):=fun c hc=>(qgj q.2.2 hc).2
 refine qmb (qx.ok _ _ _ ?_)
 unfold qx
 refine h.new fun ib w h=>?_
 have h:St F0 w0 w (qt ib (ivs .u8 q.1) :: ps):=h
 unfold qx.j1 qx.j2 qx.j4
 refine loop2 (fun (j:Nat) (t:Sl) (j':Int) w'=>j'=(j:Int)∧j≤20∧St F0 w0 w' (qp 1 t (u8s (hexI (q.1.take j))) :: qt ib (ivs .u8 q.1) :: ps)) (fun j=>20 - j) 0 ⟨rfl,Nat.zero_le _,h.nil 1⟩ ?_
 clear h
 rintro j t _ wL I μ ⟨rfl,hj,h⟩ hin
 unfold qx.b1
 refine qwc (fun g=>?_) (fun g=>?_)
 · have hj2:j < 20:=by omega
   have hjl:j < q.1.length:=by rw [q.2.1]; exact hj2
   have hx:=q.2.2 _ (mem_getD hjl)
   have hsn:=hexI_snoc hjl
   have hl:=qhj (q.1.take j)
   rw [List.length_take] at hl
   refine h.drewK fun w h=>?_
   refine h.la j rfl q.2.1 hj2 ⟨by decide,?_⟩
   have e1:shrV .u8 (q.1.getD j 0) 4=q.1.getD j 0 / 16:=qej .u8 _ (t:=4) (by decide)
   have e2:andV .u8 (q.1.getD j 0) 15=q.1.getD j 0 % 16:=andV_mod .u8 _ (t:=4) (by decide)
   refine qy e1 ?_
   have hsz:ByteArray.size { data:=#[48,49,50,51,52,53,54,55,56,57,97,98,99,100,101,102] }=16:=rfl
   refine ⟨⟨by omega,by rw [hsz]; omega⟩,qvd ?_⟩
   refine h.la j rfl q.2.1 hj2 ?_
   refine qy e2 ?_
   refine ⟨⟨by omega,by rw [hsz]; omega⟩,qvd ?_⟩
   refine h.new fun nb w h=>?_
   have h:St F0 w0 w (qt nb (ivs .u8 (hex1 (q.1.getD j 0))) :: qp 1 t (u8s (hexI (q.1.take j))) :: qt ib (ivs .u8 q.1) :: ps):=h
   haveI:Rdb F0 w0 ⟨some ⟨nb,0,none⟩,2,2⟩ (qt nb (ivs .u8 (hex1 (q.1.getD j 0))) :: qp 1 t (u8s (hexI (q.1.take j))) :: qt ib (ivs .u8 q.1) :: ps) 1 (ivs .u8 (hex1 (q.1.getD j 0))):=qrh rfl
   refine h.appI (s:=t) (s2:=⟨some ⟨nb,0,none⟩,2,2⟩) (zs:=hexI (q.1.take j)) (ys:=hex1 (q.1.getD j 0)) (k:=.u8) (by show _+2≤_; omega) fun t' w h=>?_
   rw [← hsn] at h
   refine qy (e':=((j+1:Nat):Int)) (by rw [ql (by omega) (by omega)]; rfl) ?_
   exact ⟨⟨rfl,rfl⟩,hin (j+1) _ _ _ ⟨rfl,by omega,h.sub⟩ (by omega)⟩
 · have:j=20:=by omega
   subst this
   rw [List.take_of_length_le (by rw [q.2.1]; decide)] at h
   unfold qx.j3
   exact h.bt (s:=t) hB (hk _ h.drop.drop)
theorem name.c (h:St F0 w0 w ps) (hi:0≤i∧i < 256) (hk:∀ w',St F0 w0 w' ps→K (.returned (.string (nmI i))) w'):Calls Tryz.prog 10 ⟨[.int .u8 i]⟩ w K:=by
 refine qmb (qde.ok _ _ _ ?_)
 unfold qde
 have hz:zc Tryz.prog 38=⟨ivs .u8 z20⟩:=by kernel_rfl
 rw [hz]
 refine h.new fun ab w h=>?_
 have h:St F0 w0 w (qt ab (ivs .u8 z20) :: ps):=h
 refine h.sa (n:=20) (v:=i) 0 rfl rfl (by decide) fun w h=>?_
 have h:St F0 w0 w (qt ab (nmC ⟨idI i,qwi hi⟩) :: ps):=h
 refine h.lA (b:=ab) ((inferInstance:Rec nmC 20).len _) ?_
 refine Hex.c (q:=⟨idI i,qwi hi⟩) h fun w h=>⟨_,rfl,?_⟩
 have hB:qbd (hexI (idI i)):=fun c hc=>(qgj (qwi hi).2 hc).2
 have hs:ByteArray.size ⟨⟨u8 (hexI (idI i))⟩⟩=40:=by
  have:=qod ⟨⟨u8 (hexI (idI i))⟩⟩
  rw [qdk hB,qhj,(qwi hi).1] at this
  exact this.symm
 have h5:ByteArray.size { data:=#[112,97,99,107,45] }=5:=rfl
 have h4:ByteArray.size { data:=#[46,105,100,120] }=4:=rfl
 refine ⟨by rw [hs,h5]; decide,qvd ⟨?_,qvd ?_⟩⟩
 · rw [ByteArray.size_append,hs,h5,h4]; decide
 · exact hk w h.drop
end
end Go.Proofs.YtonmgkkkiejicaaGreat
