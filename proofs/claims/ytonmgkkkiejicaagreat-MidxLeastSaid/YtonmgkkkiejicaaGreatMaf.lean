/- Own texts as one, only what is reached (shake.py). -/
import Derived.Test.YtonmgkkkiejicaaGreatMae
set_option linter.unusedSectionVars false
namespace Go.Proofs.YtonmgkkkiejicaaGreat
open Go Go.Proofs
set_option linter.unusedVariables false
set_option linter.unusedSimpArgs false
attribute [local irreducible] apK cpK mkK br qve mB
theorem sort_of {P L:List Mk} (hp:P.Perm L) (hs:P.Pairwise fun x y=>ltB x.1 y.1=true):qpc L=P:=by
 have hs2:P.Pairwise fun x y=>ltB y.1 x.1=false:=hs.imp fun {a b} h=>by
  cases e:ltB b.1 a.1 with
  | false=>rfl
  | true =>
    have:=qye h e
    rw [quc] at this
    cases this
 refine ((qoc L).trans hp.symm).eq_of_pairwise (le:=fun x y=>ltB y.1 x.1=false) (fun a b ha hb h1 h2=>?_) (qph L) hs2
 have hn:=qng h2 h1
 have ha:=hp.mem_iff.2 ((qoc L).mem_iff.1 ha)
 obtain ⟨i,hi,rfl⟩:=List.getElem_of_mem ha
 obtain ⟨j,hj,rfl⟩:=List.getElem_of_mem hb
 rcases Nat.lt_trichotomy i j with g | g | g
 · have:=List.pairwise_iff_getElem.1 hs i j hi hj g
   rw [hn,quc] at this; cases this
 · subst g; rfl
 · have:=List.pairwise_iff_getElem.1 hs j i hj hi g
   rw [hn,quc] at this; cases this
theorem notBad_of {rw:Mk→List Rw} {P:List Mk} (hn:∀ m ∈ P,nmdB m.1=true) (hs:P.Pairwise fun x y=>ltB x.1 y.1=true) (hr:∀ m ∈ P,¬ badR (rw m)):¬ badM rw P:=by
 rintro ⟨i,hi,h⟩
 rcases h with h | ⟨h0,h⟩ | h
 · rw [hn _ (List.getElem_mem hi)] at h; cases h
 · have:=List.pairwise_iff_getElem.1 hs (i - 1) i (by omega) hi (by omega)
   rw [h,quc] at this; cases this
 · exact hr _ (List.getElem_mem hi) h
def zNm:Nm:=⟨z20,by refine ⟨rfl,?_⟩; decide⟩
def qid (n:Int):Rw:=(zNm,0,n)
theorem rowK_ok {n:Int} (h:0≤n∧n≤2147483647):¬ badR [qid n]:=by
 rintro (⟨r,hr,h2⟩ | h2)
 · have:r=qid n:=by simpa using hr
   subst this
   have h2:n < 0 ∨ 2147483647 < n:=h2
   omega
 · exact h2 (by simp)
theorem nmI_ne {i j:Int} (h:0≤i∧i < j∧j < 256):nmI i ≠ nmI j:=fun e=>by
 have:=nmI_lt h
 rw [e,quc] at this
 cases this
section
variable {F0:List Nat} {w0 w:World} {ps rest:List As} {t3:Sl} {K:Ending→World→Prop} {i1 i2 n1 n2:Nat}
def mK1 (n1:Nat):Mk:=(nmI 2,⟨some ⟨n1,0,none⟩,1,1⟩)
def mK2 (n2:Nat):Mk:=(nmI 1,⟨some ⟨n2,0,none⟩,1,1⟩)
open Classical in
noncomputable def rwK (m:Mk):List Rw:=if m.1=nmI 2 then [qid 50] else [qid 12]
theorem rwK_1:rwK (mK1 n1)=[qid 50]:=by
 unfold rwK
 exact if_pos rfl
theorem rwK_2:rwK (mK2 n2)=[qid 12]:=by
 unfold rwK
 rw [if_neg]
 exact nmI_ne (by decide)
def spK:Sp:=(zNm,0,12)
theorem known_O {O:List Sp} (h:MgO (qeh rwK [mK2 n2,mK1 n1]) O):O=[spK]:=by
 have hS:qeh rwK [mK2 n2,mK1 n1]=[(zNm,0,12),(zNm,1,50)]:=by
  unfold qeh
  simp only [List.zipIdx_cons,List.zipIdx_nil,List.flatMap_cons,List.flatMap_nil,rwK_1,rwK_2]
  rfl
 rw [hS] at h
 obtain ⟨h1,h2,h3⟩:=h
 have hid:∀ o ∈ O,o.1=zNm:=fun o ho=>by
  have:=h2 o ho
  simp only [List.mem_cons,List.not_mem_nil,or_false] at this
  rcases this with rfl | rfl <;> rfl
 obtain ⟨o,ho,e1,e2⟩:=h3 spK (by simp [spK])
 have hos:o=spK:=by
  have:=h2 o ho
  simp only [List.mem_cons,List.not_mem_nil,or_false] at this
  rcases this with rfl | rfl
  · rfl
  · have e2:(1:Int)≤0:=e2
    omega
 subst hos
 cases O with
 | nil=>cases ho
 | cons a O =>
   cases O with
   | nil=>simp only [List.mem_singleton] at ho; rw [ho]
   | cons b O =>
     exfalso
     rw [List.pairwise_cons] at h1
     have:=h1.1 b (by simp)
     rw [hid a (by simp),hid b (by simp),qgd] at this
     cases this
theorem qyh:VM [nmI 1,nmI 2] [spK] where
 nm n hn:=by
  simp only [List.mem_cons,List.not_mem_nil,or_false] at hn
  rcases hn with rfl | rfl
  · exact qte (by decide)
  · exact qte (by decide)
 so:=by
  rw [List.pairwise_cons]
  refine ⟨fun b hb=>?_,List.pairwise_singleton _ _⟩
  rw [List.mem_singleton.1 hb]
  exact nmI_lt (by decide)
 ln:=by decide
 ris:=List.pairwise_singleton _ _
 ol:=by decide
 rg o ho:=by
  rw [List.mem_singleton.1 ho]
  unfold spK
  decide
theorem nmsM_flat {NL:List ByteArray} (h:∀ n ∈ NL,nmdB n=true):(nmsB NL).length=50 * NL.length+(4 - 50 * NL.length % 4) % 4:=by
 unfold nmsB padB
 rw [List.length_append,List.length_replicate,nmsM_len h]
theorem known_len:(mB [nmI 1,nmI 2] [spK]).length=1244:=by
 rw [mB_end,qvh]
 unfold mdL
 simp only [List.flatten_cons,List.flatten_nil,List.append_nil,List.length_append,fB_len,qok,qmi,nmsM_flat qyh.nm]
 rfl
theorem known_2 {t4:Int} (h4:t4=0) (h:St F0 w0 w (rdA 1 t3 (u8s (mB [nmI 1,nmI 2] [spK])) :: ps)) (hl:t3.len=1244) (hc:t3.len≤t3.cap) (hk:∀ w',St F0 w0 w' ps→K (.returned (.bool true)) w'):qd.j2 t3 t4 (fun v w'=>K (.returned v) w') w:=by
 subst h4
 unfold qd.j2
 refine MOpen.c (b:=t3) h hc qyh.ok (fun w hz h=>?_) (fun tb sp si ss NL O w hV hb hu h=>⟨some ⟨tb,0,none⟩,0,rfl,?_⟩)
 · exfalso
   rcases hz with hz | hz
   · rw [known_len] at hz; omega
   · exact hz _ _ qyh rfl
 obtain ⟨e1,e2⟩:=hu _ _ qyh rfl
 subst e1 e2
 refine qod ?_
 refine qxi (by rfl) ?_
 refine qxi (by rfl) ?_
 have hq:zNm ∈ qmc [spK]:=by simp [qmc,spK]
 have hfd:fdM [nmI 1,nmI 2] [spK] zNm=(nmI 1,12):=by
  have:=fdM_at qyh (o:=spK) (by simp)
  exact this
 refine MFind.c (q:=zNm) (NL:=[nmI 1,nmI 2]) (O:=[spK]) h hV fun w h=>⟨_,_,rfl,?_⟩
 rw [hfd,decide_eq_true hq]
 have hz:zc Tryz.prog 52=⟨plC (⟨#[]⟩,0)⟩:=by kernel_rfl
 rw [hz]
 refine h.new fun pb w h=>?_
 have h:St F0 w0 w (qn pb (plC (⟨#[]⟩,0)) :: qn tb [sV sp,sV si,sV ss] :: qm 1 sp ([nmI 1,nmI 2].flatMap stC) :: qm 20 si ((qmc [spK]).flatMap nmC) :: qm 22 ss ([spK].flatMap spC) :: rdA 1 t3 (u8s (mB [nmI 1,nmI 2] [spK])) :: ps):=h
 have hsi:=(h.rdb si).1
 have hsi2:si.len=1:=by
  have:20=si.len * 20:=hsi
  omega
 have sto:∀ v ∈ (⟨plC (nmI 1,12)⟩:Array Value),storable v:=fun v hv=>by
  have hv:v ∈ plC (nmI 1,12):=by simpa using hv
  simp [plC] at hv
  rcases hv with rfl | rfl <;> trivial
 refine ⟨rfl,?_⟩
 refine h.sA (b:=pb) (l':=plC (nmI 1,12)) rfl rfl sto fun w h=>?_
 refine h.drewK fun w h=>?_
 refine qxh rfl ?_
 have fin:∀ w,St F0 w0 w (qn pb (plC (nmI 1,12)) :: qn tb [sV sp,sV si,sV ss] :: qm 1 sp ([nmI 1,nmI 2].flatMap stC) :: qm 20 si ((qmc [spK]).flatMap nmC) :: qm 22 ss ([spK].flatMap spC) :: rdA 1 t3 (u8s (mB [nmI 1,nmI 2] [spK])) :: ps) →
  br (ByteArray.toList (nmI 1) == ByteArray.toList (nmI 1)) (ldI .i64 w (Addr.add ⟨pb,0,none⟩ 1) fun x18=>br (x18 == 12) (qzh 12 [.pointer (some ⟨tb,0,none⟩)] w fun r21 w20=>br (r21 == 1) (qfh 16 [.pointer (some ⟨tb,0,none⟩)] w20 fun r24 w23=>br ((r24.len:Int) == 2) (K (.returned (.bool ((t3.len:Int) == 1244))) w23) (K (.returned (.bool false)) w23)) (K (.returned (.bool false)) w20)) (K (.returned (.bool false)) w)) (K (.returned (.bool false)) w):=fun w h=>by
  refine qxh (by simp) ?_
  have hld:∀ {Z:Int→Prop},Z 12→ldI .i64 w (Addr.add ⟨pb,0,none⟩ 1) Z:=fun hz=>by
   rw [qdb]
   exact h.blk.ldI rfl hz
  refine hld (qxh rfl ?_)
  refine MLen.c (tb:=tb) h ⟨_,rfl,?_⟩
  refine qxh (by rw [hsi2]; rfl) ?_
  refine MPacks.c (tb:=tb) (NL:=[nmI 1,nmI 2]) h (by decide) fun t w ht h=>⟨t,rfl,?_⟩
  refine qxh (by rw [ht]; rfl) ?_
  have:=hk w h.sub
  rw [hl]
  exact this
 have hls:∀ {w':World} {Z:ByteArray→Prop},St F0 w0 w' (qn pb (plC (nmI 1,12)) :: qn tb [sV sp,sV si,sV ss] :: qm 1 sp ([nmI 1,nmI 2].flatMap stC) :: qm 20 si ((qmc [spK]).flatMap nmC) :: qm 22 ss ([spK].flatMap spC) :: rdA 1 t3 (u8s (mB [nmI 1,nmI 2] [spK])) :: ps)→Z (nmI 1)→ldS w' (Addr.add ⟨pb,0,none⟩ 0) Z:=fun h hz=>by
  rw [qdb]
  exact h.blk.ldS (n:=nmI 1) rfl hz
 refine ⟨?_,?_⟩
 · refine hls h ?_
   exact name.c (i:=1) h (by decide) fun w h=>⟨_,rfl,fin w h⟩
 · refine name.c (i:=1) h (by decide) fun w h=>⟨_,rfl,?_⟩
   exact hls h (fin w h)
theorem known18.c (h:St F0 w0 w ps) (hk:∀ w',St F0 w0 w' ps→K (.returned (.bool true)) w'):Calls Tryz.prog 6 ⟨[]⟩ w K:=by
 refine qjb (qd.ok _ _ ?_)
 unfold qd
 rw [qik]
 refine h.new fun i1 w h=>?_
 have h:St F0 w0 w (qn i1 (rwC (qid 0)) :: ps):=h
 refine ⟨rfl,?_⟩
 refine h.setR (f:=rwC) (x:=qid 12) (qzb _) fun w h=>?_
 unfold qd.j1
 rw [qik]
 refine h.new fun i2 w h=>?_
 have h:St F0 w0 w (qn i2 (rwC (qid 0)) :: qn i1 (rwC (qid 12)) :: ps):=h
 refine ⟨rfl,?_⟩
 refine h.setR (f:=rwC) (x:=qid 50) (qzb _) fun w h=>?_
 refine h.drewK fun w h=>?_
 have h:St F0 w0 w (qn i1 (rwC (qid 12)) :: qn i2 (rwC (qid 50)) :: noA :: noA :: ps):=by
  have h2:St F0 w0 w (noA :: noA :: qn i2 (rwC (qid 50)) :: qn i1 (rwC (qid 12)) :: ps):=(h.bag0).bag0
  exact h2.sub
 have hM:∀ {i:Int} {w':World} {Z1 Z2:As} {Z:ByteArray→World→Prop},0≤i∧i < 256→St F0 w0 w' (qn i1 (rwC (qid 12)) :: qn i2 (rwC (qid 50)) :: Z1 :: Z2 :: ps)→(∀ w'',St F0 w0 w'' (qn i1 (rwC (qid 12)) :: qn i2 (rwC (qid 50)) :: Z1 :: Z2 :: ps)→Z (nmI i) w'') →
  Calls Tryz.prog 10 ⟨[.int .u8 i]⟩ w' fun e w''=>∃ r:ByteArray,e=.returned (.string r)∧Z r w'':=fun hi h hz=>name.c h hi fun w h=>⟨_,rfl,hz w h⟩
 have hM1:∀ {w':World} {Z1 Z2:As} {Z:ByteArray→World→Prop},St F0 w0 w' (qn i1 (rwC (qid 12)) :: qn i2 (rwC (qid 50)) :: Z1 :: Z2 :: ps)→(∀ w'',St F0 w0 w'' (qn i1 (rwC (qid 12)) :: qn i2 (rwC (qid 50)) :: Z1 :: Z2 :: ps)→Z (nmI 1) w'') →
  Calls Tryz.prog 10 ⟨[.int .u8 1]⟩ w' fun e w''=>∃ r:ByteArray,e=.returned (.string r)∧Z r w'':=hM (by decide)
 have hM2:∀ {w':World} {Z1 Z2:As} {Z:ByteArray→World→Prop},St F0 w0 w' (qn i1 (rwC (qid 12)) :: qn i2 (rwC (qid 50)) :: Z1 :: Z2 :: ps)→(∀ w'',St F0 w0 w'' (qn i1 (rwC (qid 12)) :: qn i2 (rwC (qid 50)) :: Z1 :: Z2 :: ps)→Z (nmI 2) w'') →
  Calls Tryz.prog 10 ⟨[.int .u8 2]⟩ w' fun e w''=>∃ r:ByteArray,e=.returned (.string r)∧Z r w'':=hM (by decide)
 have hA1:∀ {w':World} {Z1 Z2:As} {Z:Array Value→Prop},St F0 w0 w' (qn i1 (rwC (qid 12)) :: qn i2 (rwC (qid 50)) :: Z1 :: Z2 :: ps)→Z ⟨rwC (qid 12)⟩→ldA w' ⟨i1,0,none⟩ 22 Z:=fun h hz=>h.lA (b:=i1) (qzb _) hz
 have hA2:∀ {w':World} {Z1 Z2:As} {Z:Array Value→Prop},St F0 w0 w' (qn i1 (rwC (qid 12)) :: qn i2 (rwC (qid 50)) :: Z1 :: Z2 :: ps)→Z ⟨rwC (qid 50)⟩→ldA w' ⟨i2,0,none⟩ 22 Z:=fun h hz=>h.drop.lA (b:=i2) (qzb _) hz
 have hN1:∀ {w':World} {Z1 Z2:As} {Z:Addr→World→Prop},St F0 w0 w' (qn i1 (rwC (qid 12)) :: qn i2 (rwC (qid 50)) :: Z1 :: Z2 :: ps)→(∀ nb w'',St F0 w0 w'' (qn i1 (rwC (qid 12)) :: qn i2 (rwC (qid 50)) :: qn nb (rwC (qid 50)) :: Z2 :: ps)→Z ⟨nb,0,none⟩ w'') →
  (⟨rwC (qid 50)⟩:Array Value).size=22∧nw w' ⟨spl ([.int .u8 0,.int .u8 0,.int .u8 0,.int .u8 0,.int .u8 0,.int .u8 0,.int .u8 0,.int .u8 0,.int .u8 0,.int .u8 0,.int .u8 0,.int .u8 0,.int .u8 0,.int .u8 0,.int .u8 0,.int .u8 0,.int .u8 0,.int .u8 0,.int .u8 0,.int .u8 0,.int .u32 0,.int .i64 0]:List Value) 0 (⟨rwC (qid 50)⟩:Array Value)⟩ 42 Z:=fun {w' Z1 Z2 Z} h hz=>by
  refine ⟨qzb _,?_⟩
  rw [qhg (by rw [qzb]; rfl)]
  refine h.new fun nb w h=>hz nb w ?_
  have h:St F0 w0 w (qn nb (rwC (qid 50)) :: qn i1 (rwC (qid 12)) :: qn i2 (rwC (qid 50)) :: Z1 :: Z2 :: ps):=h
  exact h.sub
 have hN2:∀ {w':World} {Z1 Z2:As} {Z:Addr→World→Prop},St F0 w0 w' (qn i1 (rwC (qid 12)) :: qn i2 (rwC (qid 50)) :: Z1 :: Z2 :: ps)→(∀ nb w'',St F0 w0 w'' (qn i1 (rwC (qid 12)) :: qn i2 (rwC (qid 50)) :: Z1 :: qn nb (rwC (qid 12)) :: ps)→Z ⟨nb,0,none⟩ w'') →
  (⟨rwC (qid 12)⟩:Array Value).size=22∧nw w' ⟨spl ([.int .u8 0,.int .u8 0,.int .u8 0,.int .u8 0,.int .u8 0,.int .u8 0,.int .u8 0,.int .u8 0,.int .u8 0,.int .u8 0,.int .u8 0,.int .u8 0,.int .u8 0,.int .u8 0,.int .u8 0,.int .u8 0,.int .u8 0,.int .u8 0,.int .u8 0,.int .u8 0,.int .u32 0,.int .i64 0]:List Value) 0 (⟨rwC (qid 12)⟩:Array Value)⟩ 42 Z:=fun {w' Z1 Z2 Z} h hz=>by
  refine ⟨qzb _,?_⟩
  rw [qhg (by rw [qzb]; rfl)]
  refine h.new fun nb w h=>hz nb w ?_
  have h:St F0 w0 w (qn nb (rwC (qid 12)) :: qn i1 (rwC (qid 12)) :: qn i2 (rwC (qid 50)) :: Z1 :: Z2 :: ps):=h
  exact h.sub
 have leaf:∀ {w':World} {n1 n2:Nat},St F0 w0 w' (qn i1 (rwC (qid 12)) :: qn i2 (rwC (qid 50)) :: qn n1 (rwC (qid 50)) :: qn n2 (rwC (qid 12)) :: ps) →
  (⟨[.string (nmI 2),.slice (some ⟨n1,0,none⟩) 1 1]⟩:Array Value).size=2∧(⟨[.string (nmI 1),.slice (some ⟨n2,0,none⟩) 1 1]⟩:Array Value).size=2 ∧
  nw w' ⟨(spl (spl [.string ({ data:=#[] }),.slice none 0 0,.string ({ data:=#[] }),.slice none 0 0] 0 (⟨[.string (nmI 2),.slice (some ⟨n1,0,none⟩) 1 1]⟩:Array Value)) 2 (⟨[.string (nmI 1),.slice (some ⟨n2,0,none⟩) 1 1]⟩:Array Value))⟩ 46 fun a w=>qhb 9 [.slice (some a) 2 2] w fun r q w=>qd.j2 r q (fun v w'=>K (.returned v) w') w:=fun {w' n1 n2} h=>by
  refine ⟨rfl,rfl,?_⟩
  refine h.new fun ab w h=>?_
  have h:St F0 w0 w (qn ab (mks [mK1 n1,mK2 n2]) :: qn i1 (rwC (qid 12)) :: qn i2 (rwC (qid 50)) :: qn n1 (rwC (qid 50)) :: qn n2 (rwC (qid 12)) :: ps):=h
  have h:St F0 w0 w (qm 2 ⟨some ⟨ab,0,none⟩,2,2⟩ (mks [mK1 n1,mK2 n2]) :: qn i1 (rwC (qid 12)) :: qn i2 (rwC (qid 50)) :: qn n1 (rwC (qid 50)) :: qn n2 (rwC (qid 12)) :: ps):=h.ownBR rfl
  have h2:St F0 w0 w (qn n1 ([qid 50].flatMap rwC) :: qn n2 ([qid 12].flatMap rwC) :: qm 2 ⟨some ⟨ab,0,none⟩,2,2⟩ (mks [mK1 n1,mK2 n2]) :: ps):=by
   rw [qjg,qjg]
   exact h.sub
  have h3:St F0 w0 w (qm 22 (mK1 n1).2 ([qid 50].flatMap rwC) :: qn n2 ([qid 12].flatMap rwC) :: qm 2 ⟨some ⟨ab,0,none⟩,2,2⟩ (mks [mK1 n1,mK2 n2]) :: ps):=h2.ownBR (by rw [qjg,qzb])
  have h4:St F0 w0 w (qm 22 (mK1 n1).2 ([qid 50].flatMap rwC) :: qm 22 (mK2 n2).2 ([qid 12].flatMap rwC) :: qm 2 ⟨some ⟨ab,0,none⟩,2,2⟩ (mks [mK1 n1,mK2 n2]) :: ps):=h3.tail fun _ _ _ h=>h.ownBR (by rw [qjg,qzb])
  have hsort:qpc [mK1 n1,mK2 n2]=[mK2 n2,mK1 n1]:=sort_of (List.Perm.swap _ _ _) (by
   rw [List.pairwise_cons]
   refine ⟨fun b hb=>?_,List.pairwise_singleton _ _⟩
   rw [List.mem_singleton.1 hb]
   exact nmI_lt (by decide))
  have hst:[mK2 n2,mK1 n1].Pairwise fun x y=>ltB x.1 y.1=true:=by
   rw [List.pairwise_cons]
   refine ⟨fun b hb=>?_,List.pairwise_singleton _ _⟩
   rw [List.mem_singleton.1 hb]
   exact nmI_lt (by decide)
  have hnb:¬ badM rwK [mK2 n2,mK1 n1]:=by
   refine notBad_of (fun m hm=>?_) hst (fun m hm=>?_)
   · simp only [List.mem_cons,List.not_mem_nil,or_false] at hm
     rcases hm with rfl | rfl
     · exact qte (by decide)
     · exact qte (by decide)
   · simp only [List.mem_cons,List.not_mem_nil,or_false] at hm
     rcases hm with rfl | rfl
     · rw [rwK_2]; exact rowK_ok (by decide)
     · rw [rwK_1]; exact rowK_ok (by decide)
  refine MBuild.c (s:=⟨some ⟨ab,0,none⟩,2,2⟩) (L:=[mK1 n1,mK2 n2]) (rw:=rwK) h4 (by simp) (fun m hm=>?_) ?_ (fun m hm=>?_) (fun w hb h=>?_) (fun w hb h5 h=>?_) (fun O t w hb hl hO hO2 ht h=>⟨t,0,rfl,?_⟩)
  · simp only [List.mem_cons,List.not_mem_nil,or_false] at hm
    rcases hm with rfl | rfl
    · have:=qzf (qte (i:=2) (by decide))
      show (nmI 2).size≤_
      omega
    · have:=qzf (qte (i:=1) (by decide))
      show (nmI 1).size≤_
      omega
  · simp only [List.map_cons,List.map_nil,rwK_1,rwK_2]
    decide
  · simp only [List.mem_cons,List.not_mem_nil,or_false] at hm
    rcases hm with rfl | rfl
    · rw [rwK_1]; infer_instance
    · rw [rwK_2]; infer_instance
  · rw [hsort] at hb
    exact absurd hb hnb
  · rw [hsort] at h5
    exfalso
    rcases h5 with h5 | ⟨O,hO,h5⟩
    · simp at h5
    · rw [known_O hO] at h5
      simp at h5
  · rw [hsort] at hO ht h
    rw [known_O hO] at ht h
    have ht1:t.len=1244:=ht.1.trans known_len
    exact known_2 rfl h ht1 (by omega) fun w h=>hk w h.sub
 repeat' first
  | with_reducible exact leaf (by assumption)
  | with_reducible refine hM1 (by assumption) fun w h=>?_
  | with_reducible refine hM2 (by assumption) fun w h=>?_
  | with_reducible refine hN1 (by assumption) fun nb w h=>?_
  | with_reducible refine hN2 (by assumption) fun nb w h=>?_
  | with_reducible refine hA1 (by assumption) ?_
  | with_reducible refine hA2 (by assumption) ?_
  | with_reducible refine And.intro ?_ ?_
end
end Go.Proofs.YtonmgkkkiejicaaGreat
namespace Go.Proofs.YtonmgkkkiejicaaGreat
open Go Go.Proofs
set_option linter.unusedVariables false
set_option linter.unusedSimpArgs false
attribute [local irreducible] qve mB
theorem strict_nd {L:List Mk} (hs:L.Pairwise fun x y=>ltB y.1 x.1=false) (hn:(L.map (·.1)).Nodup):L.Pairwise fun x y=>ltB x.1 y.1=true:=by
 rw [List.pairwise_iff_getElem] at hs ⊢
 intro i j hi hj hij
 have h1:=hs i j hi hj hij
 cases e:ltB L[i].1 L[j].1 with
 | true=>rfl
 | false =>
   have e2:=qng e h1
   unfold List.Nodup at hn
   rw [List.pairwise_map,List.pairwise_iff_getElem] at hn
   exact absurd e2 (hn i j hi hj hij)
theorem bN_ok {n:Int} (h:0≤n∧n < 256):idOk (idI (n % 200)):=⟨(qri (by omega)).1,(qri (by omega)).2⟩
def oI (x:Int):List Int:=200 :: x :: List.replicate 18 0
theorem oN_ok {x:Int} (h:0≤x∧x < 256):idOk (oI x):=by
 refine ⟨by unfold oI; simp,fun y hy=>?_⟩
 unfold oI at hy
 rcases List.mem_cons.1 hy with rfl | hy
 · decide
 · rcases List.mem_cons.1 hy with rfl | hy
   · exact h
   · have:=List.eq_of_mem_replicate hy
     omega
noncomputable def bN (n:Int):Nm:=nmOf (idI (n % 200))
noncomputable def oN (x:Int):Nm:=nmOf (oI x)
noncomputable def bothR (n a:Int):Rw:=(bN n,0,a)
noncomputable def ownR (x:Int):Rw:=(oN x,0,3)
theorem bo_ne {n x:Int} (hn:0≤n∧n < 256) (hx:0≤x∧x < 256):bN n ≠ oN x:=fun e=>by
 have h1:(bN n).1=(oN x).1:=by rw [e]
 unfold bN oN at h1
 rw [qei (bN_ok hn),qei (oN_ok hx)] at h1
 unfold idI oI at h1
 have:n % 200=200:=by injection h1
 omega
theorem oN_inj {x y:Int} (hx:0≤x∧x < 256) (hy:0≤y∧y < 256) (e:oN x=oN y):x=y:=by
 have h1:(oN x).1=(oN y).1:=by rw [e]
 unfold oN at h1
 rw [qei (oN_ok hx),qei (oN_ok hy)] at h1
 unfold oI at h1
 injection h1 with _ h2
 injection h2
theorem nmI_inj {x y:Int} (hx:0≤x∧x < 256) (hy:0≤y∧y < 256) (e:nmI x=nmI y):x=y:=by
 rcases Int.lt_trichotomy x y with g | g | g
 · exact absurd e (nmI_ne ⟨hx.1,g,hy.2⟩)
 · exact g
 · exact absurd e.symm (nmI_ne ⟨hy.1,g,hx.2⟩)
structure XD (ns az:List Int) (n:Int) (X:List Mp):Prop where
 le:X.length≤ns.length
 le2:X.length≤az.length
 nm:∀ j (h:j < X.length),X[j].1.1=nmI (ns.getD j 0)∧X[j].2=[bothR n (az.getD j 0),ownR (ns.getD j 0)]
 nd:∀ j k,j < X.length→k < X.length→ns.getD j 0=ns.getD k 0→j=k
theorem bothown_ok {n a x:Int} (hn:0≤n∧n < 256) (hx:0≤x∧x < 256) (ha:0≤a∧a < 65536):¬ badR [bothR n a,ownR x]:=by
 rintro (⟨r,hr,h⟩ | h)
 · simp only [List.mem_cons,List.not_mem_nil,or_false] at hr
   rcases hr with rfl | rfl
   · have h:a < 0 ∨ 2147483647 < a:=h
     omega
   · have h:(3:Int) < 0 ∨ 2147483647 < (3:Int):=h
     omega
 · refine h ?_
   show [bN n,oN x].Nodup
   rw [List.nodup_cons]
   refine ⟨fun e=>bo_ne hn hx (List.mem_singleton.1 e),by simp⟩
section
variable {ns az:List Int} {n:Int} {X:List Mp} {rw:Mk→List Rw} {O:List Sp} {l:Nat}
theorem XD.sorted (h:XD ns az n X) (hb:∀ j,0≤ns.getD j 0∧ns.getD j 0 < 256):(qpc (X.map Prod.fst)).Pairwise fun x y=>ltB x.1 y.1=true:=by
 refine strict_nd (qph _) ?_
 have hp:=(qoc (X.map Prod.fst)).map (·.1)
 rw [hp.nodup_iff,List.map_map]
 unfold List.Nodup
 rw [List.pairwise_map,List.pairwise_iff_getElem]
 intro i j hi hj hij e
 have e:X[i].1.1=X[j].1.1:=e
 rw [(h.nm i hi).1,(h.nm j hj).1] at e
 have:=h.nd i j hi hj (nmI_inj (hb i) (hb j) e)
 omega
theorem XD.mem (h:XD ns az n X) (hrw:∀ x ∈ X,rw x.1=x.2) {k:Nat} (hk:k < (qpc (X.map Prod.fst)).length):∃ j,∃ hj:j < X.length,(qpc (X.map Prod.fst))[k]=X[j].1∧rw (qpc (X.map Prod.fst))[k]=[bothR n (az.getD j 0),ownR (ns.getD j 0)]:=by
 have hm:=(qoc (X.map Prod.fst)).mem_iff.1 (List.getElem_mem hk)
 obtain ⟨x,hx,e⟩:=List.mem_map.1 hm
 obtain ⟨j,hj,rfl⟩:=List.getElem_of_mem hx
 refine ⟨j,hj,e.symm,?_⟩
 rw [← e,hrw _ hx,(h.nm j hj).2]
theorem XD.at (h:XD ns az n X) {j:Nat} (hj:j < X.length):∃ k,∃ hk:k < (qpc (X.map Prod.fst)).length,(qpc (X.map Prod.fst))[k]=X[j].1:=by
 have hm:X[j].1 ∈ qpc (X.map Prod.fst):=(qoc (X.map Prod.fst)).mem_iff.2 (List.mem_map.2 ⟨_,List.getElem_mem hj,rfl⟩)
 obtain ⟨k,hk,e⟩:=List.getElem_of_mem hm
 exact ⟨k,hk,e⟩
theorem XD.notBad (h:XD ns az n X) (hb:∀ j,0≤ns.getD j 0∧ns.getD j 0 < 256) (ha:∀ j,0≤az.getD j 0∧az.getD j 0 < 65536) (hn:0≤n∧n < 256) (hrw:∀ x ∈ X,rw x.1=x.2):¬ badM rw (qpc (X.map Prod.fst)):=by
 refine notBad_of (fun m hm=>?_) (h.sorted hb) (fun m hm=>?_)
 · obtain ⟨k,hk,rfl⟩:=List.getElem_of_mem hm
   obtain ⟨j,hj,e,_⟩:=h.mem hrw hk
   rw [e,(h.nm j hj).1]
   exact qte (hb j)
 · obtain ⟨k,hk,rfl⟩:=List.getElem_of_mem hm
   obtain ⟨j,hj,_,e⟩:=h.mem hrw hk
   rw [e]
   exact bothown_ok hn (hb j) (ha j)
theorem XD.count (h:XD ns az n X) (hX0:0 < X.length) (hb:∀ j,0≤ns.getD j 0∧ns.getD j 0 < 256) (hn:0≤n∧n < 256) (hrw:∀ x ∈ X,rw x.1=x.2) (hO:MgO (qeh rw (qpc (X.map Prod.fst))) O):O.length=X.length+1:=by
 have hl:(qpc (X.map Prod.fst)).length=X.length:=by rw [(qoc _).length_eq,List.length_map]
 have hp:(O.map (·.1)).Perm (bN n :: (List.range X.length).map fun j=>oN (ns.getD j 0)):=by
  rw [List.perm_ext_iff_of_nodup (ris_nodup hO.1)]
  · intro q
    constructor
    · intro hq
      obtain ⟨o,ho,rfl⟩:=List.mem_map.1 hq
      obtain ⟨k,hk,r,hr,rfl⟩:=qcg.1 (hO.2.1 o ho)
      obtain ⟨j,hj,_,e⟩:=h.mem hrw hk
      rw [e] at hr
      simp only [List.mem_cons,List.not_mem_nil,or_false] at hr
      rcases hr with rfl | rfl
      · exact List.mem_cons_self
      · exact List.mem_cons_of_mem _ (List.mem_map.2 ⟨j,List.mem_range.2 hj,rfl⟩)
    · intro hq
      rcases List.mem_cons.1 hq with rfl | hq
      · have hk:0 < (qpc (X.map Prod.fst)).length:=by omega
        obtain ⟨j,hj,_,e⟩:=h.mem hrw hk
        obtain ⟨o,ho,e1,_⟩:=hO.2.2 (spR 0 (bothR n (az.getD j 0))) (qcg.2 ⟨0,hk,_,by rw [e]; simp,rfl⟩)
        exact List.mem_map.2 ⟨o,ho,e1⟩
      · obtain ⟨j,hj,rfl⟩:=List.mem_map.1 hq
        have hj:=List.mem_range.1 hj
        obtain ⟨k,hk,e⟩:=h.at hj
        have er:rw (qpc (X.map Prod.fst))[k]=[bothR n (az.getD j 0),ownR (ns.getD j 0)]:=by rw [e,hrw _ (List.getElem_mem hj),(h.nm j hj).2]
        obtain ⟨o,ho,e1,_⟩:=hO.2.2 (spR k (ownR (ns.getD j 0))) (qcg.2 ⟨k,hk,_,by rw [er]; simp,rfl⟩)
        exact List.mem_map.2 ⟨o,ho,e1⟩
  · rw [List.nodup_cons]
    refine ⟨fun e=>?_,?_⟩
    · obtain ⟨j,_,e⟩:=List.mem_map.1 e
      exact bo_ne hn (hb j) e.symm
    · unfold List.Nodup
      rw [List.pairwise_map]
      refine List.Pairwise.imp_of_mem ?_ List.nodup_range
      intro a b ha hb' hab e
      exact hab (h.nd a b (List.mem_range.1 ha) (List.mem_range.1 hb') (oN_inj (hb a) (hb b) e))
 have:=hp.length_eq
 simpa using this
theorem XD.find (h:XD ns az n X) (hl:l < X.length) (hm:∀ j,j < X.length→ns.getD l 0≤ns.getD j 0) (hb:∀ j,0≤ns.getD j 0∧ns.getD j 0 < 256) (hn:0≤n∧n < 256) (hrw:∀ x ∈ X,rw x.1=x.2)
 (hO:MgO (qeh rw (qpc (X.map Prod.fst))) O) (hV:VM ((qpc (X.map Prod.fst)).map (·.1)) O) :
 bN n ∈ qmc O∧fdM ((qpc (X.map Prod.fst)).map (·.1)) O (bN n)=(nmI (ns.getD l 0),az.getD l 0):=by
 have hpl:(qpc (X.map Prod.fst)).length=X.length:=by rw [(qoc _).length_eq,List.length_map]
 have h0:0 < (qpc (X.map Prod.fst)).length:=by omega
 have hP0:(qpc (X.map Prod.fst))[0]=X[l].1:=by
  obtain ⟨k,hk,e⟩:=h.at hl
  by_cases hk0:k=0
  · subst hk0; exact e
  · exfalso
    have hlt:=List.pairwise_iff_getElem.1 (h.sorted hb) 0 k h0 hk (by omega)
    obtain ⟨j,hj,e2,_⟩:=h.mem hrw h0
    rw [e,e2,(h.nm j hj).1,(h.nm l hl).1] at hlt
    have hle:=hm j hj
    by_cases g:ns.getD l 0=ns.getD j 0
    · rw [g,quc] at hlt; cases hlt
    · have hgt:=nmI_lt (i:=ns.getD l 0) (j:=ns.getD j 0) ⟨(hb l).1,by omega,(hb j).2⟩
      have:=qye hlt hgt
      rw [quc] at this; cases this
 have er:rw (qpc (X.map Prod.fst))[0]=[bothR n (az.getD l 0),ownR (ns.getD l 0)]:=by rw [hP0,hrw _ (List.getElem_mem hl),(h.nm l hl).2]
 obtain ⟨o,ho,e1,e2⟩:=hO.2.2 (spR 0 (bothR n (az.getD l 0))) (qcg.2 ⟨0,h0,_,by rw [er]; simp,rfl⟩)
 have e1:o.1=bN n:=e1
 have e2:o.2.1≤((0:Nat):Int):=e2
 obtain ⟨k,hk,r,hr,e3⟩:=qcg.1 (hO.2.1 o ho)
 have hk0:k=0:=by
  have:o.2.1=(k:Int):=by rw [e3]; rfl
  omega
 subst hk0
 rw [er] at hr
 simp only [List.mem_cons,List.not_mem_nil,or_false] at hr
 have hr:r=bothR n (az.getD l 0):=by
  rcases hr with hr | hr
  · exact hr
  · exfalso
    rw [e3,hr] at e1
    exact bo_ne hn (hb l) e1.symm
 refine ⟨List.mem_map.2 ⟨o,ho,e1⟩,?_⟩
 rw [← e1,fdM_at hV ho,e3,hr]
 have hgd:((qpc (X.map Prod.fst)).map (·.1)).getD (spR 0 (bothR n (az.getD l 0))).2.1.toNat ⟨#[]⟩=nmI (ns.getD l 0):=by
  show ((qpc (X.map Prod.fst)).map (·.1)).getD (Int.toNat ((0:Nat):Int)) ⟨#[]⟩=_
  rw [Int.toNat_natCast,List.getD_eq_getElem?_getD,List.getElem?_map,List.getElem?_eq_getElem h0,hP0]
  show X[l].1.1=_
  exact (h.nm l hl).1
 rw [hgd]
 rfl
theorem XD.sum (h:XD ns az n X) (hrw:∀ x ∈ X,rw x.1=x.2):((X.map Prod.fst).map fun m=>(rw m).length).sum=2 * X.length:=by
 have e:((X.map Prod.fst).map fun m=>(rw m).length)=X.map fun _=>2:=by
  rw [List.map_map]
  refine List.map_congr_left fun x hx=>?_
  obtain ⟨j,hj,rfl⟩:=List.getElem_of_mem hx
  show (rw X[j].1).length=2
  rw [hrw _ hx,(h.nm j hj).2]
  rfl
 rw [e]
 generalize X=Y
 induction Y with
 | nil=>rfl
 | cons y Y ih=>rw [List.map_cons,List.sum_cons,ih,List.length_cons]; omega
end
end Go.Proofs.YtonmgkkkiejicaaGreat
namespace Go.Proofs.YtonmgkkkiejicaaGreat
open Go Go.Proofs
set_option linter.unusedVariables false
set_option linter.unusedSimpArgs false
attribute [local irreducible] apK cpK mkK br qve mB
def rwL (l:List Int) (c a:Int):List Value:=ivs .u8 l ++ [.int .u32 c,.int .i64 a]
theorem rwL_len {l:List Int} {c a:Int} (h:l.length=20):(rwL l c a).length=22:=by
 unfold rwL
 rw [List.length_append,qo,h]
 rfl
theorem rwL_own {x:Int} (h:0≤x∧x < 256):rwL (oI x) 0 3=rwC (ownR x):=by
 unfold rwL rwC ownR oN
 rw [qei (oN_ok h)]
theorem rwL_both {n a:Int} (h:0≤n∧n < 256):rwL (idI (n % 200)) 0 a=rwC (bothR n a):=by
 unfold rwL rwC bothR bN
 rw [qei (bN_ok h)]
theorem two_rows (a b:Rw):spl (spl ([.int .u8 0,.int .u8 0,.int .u8 0,.int .u8 0,.int .u8 0,.int .u8 0,.int .u8 0,.int .u8 0,.int .u8 0,.int .u8 0,.int .u8 0,.int .u8 0,.int .u8 0,.int .u8 0,.int .u8 0,.int .u8 0,.int .u8 0,.int .u8 0,.int .u8 0,.int .u8 0,.int .u32 0,.int .i64 0,.int .u8 0,.int .u8 0,.int .u8 0,.int .u8 0,.int .u8 0,.int .u8 0,.int .u8 0,.int .u8 0,.int .u8 0,.int .u8 0,.int .u8 0,.int .u8 0,.int .u8 0,.int .u8 0,.int .u8 0,.int .u8 0,.int .u8 0,.int .u8 0,.int .u8 0,.int .u8 0,.int .u32 0,.int .i64 0]:List Value) 0 ⟨rwC a⟩) 22 ⟨rwC b⟩=[a,b].flatMap rwC:=by
 have la:=qzb a
 have lb:=qzb b
 rw [qlk _ 0 (rwC a) (by rw [la]; decide),la]
 have e1:([.int .u8 0,.int .u8 0,.int .u8 0,.int .u8 0,.int .u8 0,.int .u8 0,.int .u8 0,.int .u8 0,.int .u8 0,.int .u8 0,.int .u8 0,.int .u8 0,.int .u8 0,.int .u8 0,.int .u8 0,.int .u8 0,.int .u8 0,.int .u8 0,.int .u8 0,.int .u8 0,.int .u32 0,.int .i64 0,.int .u8 0,.int .u8 0,.int .u8 0,.int .u8 0,.int .u8 0,.int .u8 0,.int .u8 0,.int .u8 0,.int .u8 0,.int .u8 0,.int .u8 0,.int .u8 0,.int .u8 0,.int .u8 0,.int .u8 0,.int .u8 0,.int .u8 0,.int .u8 0,.int .u8 0,.int .u8 0,.int .u32 0,.int .i64 0]:List Value).take 0=[]:=rfl
 have e2:([.int .u8 0,.int .u8 0,.int .u8 0,.int .u8 0,.int .u8 0,.int .u8 0,.int .u8 0,.int .u8 0,.int .u8 0,.int .u8 0,.int .u8 0,.int .u8 0,.int .u8 0,.int .u8 0,.int .u8 0,.int .u8 0,.int .u8 0,.int .u8 0,.int .u8 0,.int .u8 0,.int .u32 0,.int .i64 0,.int .u8 0,.int .u8 0,.int .u8 0,.int .u8 0,.int .u8 0,.int .u8 0,.int .u8 0,.int .u8 0,.int .u8 0,.int .u8 0,.int .u8 0,.int .u8 0,.int .u8 0,.int .u8 0,.int .u8 0,.int .u8 0,.int .u8 0,.int .u8 0,.int .u8 0,.int .u8 0,.int .u32 0,.int .i64 0]:List Value).drop (0+22)=[.int .u8 0,.int .u8 0,.int .u8 0,.int .u8 0,.int .u8 0,.int .u8 0,.int .u8 0,.int .u8 0,.int .u8 0,.int .u8 0,.int .u8 0,.int .u8 0,.int .u8 0,.int .u8 0,.int .u8 0,.int .u8 0,.int .u8 0,.int .u8 0,.int .u8 0,.int .u8 0,.int .u32 0,.int .i64 0]:=rfl
 rw [e1,e2,List.nil_append,qlk _ 22 (rwC b) (by rw [List.length_append,la,lb]; decide),lb,List.take_left' la]
 have e3:(rwC a ++ ([.int .u8 0,.int .u8 0,.int .u8 0,.int .u8 0,.int .u8 0,.int .u8 0,.int .u8 0,.int .u8 0,.int .u8 0,.int .u8 0,.int .u8 0,.int .u8 0,.int .u8 0,.int .u8 0,.int .u8 0,.int .u8 0,.int .u8 0,.int .u8 0,.int .u8 0,.int .u8 0,.int .u32 0,.int .i64 0]:List Value)).drop (22+22)=[]:=List.drop_eq_nil_of_le (by rw [List.length_append,la]; decide)
 rw [e3,List.append_nil,List.flatMap_cons,List.flatMap_cons,List.flatMap_nil,List.append_nil]
theorem pack_cell (n:ByteArray) (a:Addr) (k:Nat):spl ([.string ({ data:=#[] }),.slice none 0 0]:List Value) 0 ⟨[.string n,.slice (some a) k k]⟩=mkC (n,⟨some a,k,k⟩):=rfl
theorem St.bagAdd {X:List Mp} {y:Mp} {F0:List Nat} {w0 w:World} {ps:List As} (h:St F0 w0 w (qsc y :: qzc (X.map qsc) :: ps)):St F0 w0 w (qzc ((X ++ [y]).map qsc) :: ps):=by
 have hp:(qsc y :: X.map qsc).Perm ((X ++ [y]).map qsc):=by
  rw [List.map_append]
  exact (List.perm_append_singleton _ _).symm
 exact h.bagIn.bagP hp
section
variable {F0:List Nat} {w0 w:World} {ps rest:List As} {d e t7:Sl} {ns az:List Int} {n:Int} {X:List Mp} {K:Ending→World→Prop} {Q:VWP} {b1 b2 l i:Nat}
 {nx1:Sl→Sl→Int→Sl→Int→Int→World→Prop}
theorem Least_10 (h:St F0 w0 w (qn b1 (rwC (ownR (ns.getD i 0))) :: qn b2 (rwL z20 0 (az.getD i 0)) :: qm 2 t7 ((X.map Prod.fst).flatMap mkC) :: qzc (X.map qsc) :: ps)) [Rdb F0 w0 d ps 1 (ivs .u8 ns)] (hi:i < ns.length) (hb:∀ j,0≤ns.getD j 0∧ns.getD j 0 < 256) (hn:0≤n∧n < 256) (hX:X.length≤100)
 (hk:∀ y t w',y.1.1=nmI (ns.getD i 0)→y.2=[bothR n (az.getD i 0),ownR (ns.getD i 0)]→St F0 w0 w' (qm 2 t (((X ++ [y]).map Prod.fst).flatMap mkC) :: qzc ((X ++ [y]).map qsc) :: ps)→trovelaw18_MidxLeast.j11 d e n t l i Q nx1 w') :
 trovelaw18_MidxLeast.j10 d e n t7 l i ⟨b1,0,none⟩ ⟨b2,0,none⟩ Q nx1 w:=by
 unfold trovelaw18_MidxLeast.j10
 refine ⟨by decide,?_⟩
 refine qw (e':=n % 200) (by rw [Int.tmod_eq_emod_of_nonneg hn.1]) ?_
 rw [qdb]
 refine qqj (by decide) (by decide) ?_
 have h:St F0 w0 w (qn b2 (rwL z20 0 (az.getD i 0)) :: qn b1 (rwC (ownR (ns.getD i 0))) :: qm 2 t7 ((X.map Prod.fst).flatMap mkC) :: qzc (X.map qsc) :: ps):=h.at1
 refine h.st (o:=0+0+Int.toNat 0 * 1) (by rw [rwL_len rfl]; decide) trivial fun w h=>?_
 have h:St F0 w0 w (qn b2 (rwC (bothR n (az.getD i 0))) :: qn b1 (rwC (ownR (ns.getD i 0))) :: qm 2 t7 ((X.map Prod.fst).flatMap mkC) :: qzc (X.map qsc) :: ps):=by
  rw [← rwL_both hn]
  exact h
 refine h.drewK fun w h=>?_
 refine h.lx (s:=d) (zs:=ns) i rfl hi ?_
 have h:St F0 w0 w (qn b1 (rwC (ownR (ns.getD i 0))) :: qn b2 (rwC (bothR n (az.getD i 0))) :: noA :: qm 2 t7 ((X.map Prod.fst).flatMap mkC) :: qzc (X.map qsc) :: ps):=by
  have h2:St F0 w0 w (noA :: qn b2 (rwC (bothR n (az.getD i 0))) :: qn b1 (rwC (ownR (ns.getD i 0))) :: qm 2 t7 ((X.map Prod.fst).flatMap mkC) :: qzc (X.map qsc) :: ps):=h.bag0
  exact h2.sub
 generalize hR1:ownR (ns.getD i 0)=o1 at h hk
 generalize hR2:bothR n (az.getD i 0)=o2 at h hk
 have hM:∀ {w':World} {Z1:As} {Z:ByteArray→World→Prop},St F0 w0 w' (qn b1 (rwC o1) :: qn b2 (rwC o2) :: Z1 :: qm 2 t7 ((X.map Prod.fst).flatMap mkC) :: qzc (X.map qsc) :: ps)→(∀ w'',St F0 w0 w'' (qn b1 (rwC o1) :: qn b2 (rwC o2) :: Z1 :: qm 2 t7 ((X.map Prod.fst).flatMap mkC) :: qzc (X.map qsc) :: ps)→Z (nmI (ns.getD i 0)) w'') →
  Calls Tryz.prog 10 ⟨[.int .u8 (ns.getD i 0)]⟩ w' fun e w''=>∃ r:ByteArray,e=.returned (.string r)∧Z r w'':=fun h hz=>name.c h (hb i) fun w h=>⟨_,rfl,hz w h⟩
 have hA1:∀ {w':World} {Z1:As} {Z:Array Value→Prop},St F0 w0 w' (qn b1 (rwC o1) :: qn b2 (rwC o2) :: Z1 :: qm 2 t7 ((X.map Prod.fst).flatMap mkC) :: qzc (X.map qsc) :: ps)→Z ⟨rwC o1⟩→ldA w' ⟨b1,0,none⟩ 22 Z:=fun h hz=>h.lA (b:=b1) (qzb _) hz
 have hA2:∀ {w':World} {Z1:As} {Z:Array Value→Prop},St F0 w0 w' (qn b1 (rwC o1) :: qn b2 (rwC o2) :: Z1 :: qm 2 t7 ((X.map Prod.fst).flatMap mkC) :: qzc (X.map qsc) :: ps)→Z ⟨rwC o2⟩→ldA w' ⟨b2,0,none⟩ 22 Z:=fun h hz=>h.drop.lA (b:=b2) (qzb _) hz
 have hN:∀ {w':World} {Z1:As} {Z:Addr→World→Prop},St F0 w0 w' (qn b1 (rwC o1) :: qn b2 (rwC o2) :: Z1 :: qm 2 t7 ((X.map Prod.fst).flatMap mkC) :: qzc (X.map qsc) :: ps)→(∀ nb w'',St F0 w0 w'' (qn b1 (rwC o1) :: qn b2 (rwC o2) :: qn nb ([o2,o1].flatMap rwC) :: qm 2 t7 ((X.map Prod.fst).flatMap mkC) :: qzc (X.map qsc) :: ps)→Z ⟨nb,0,none⟩ w'') →
  (⟨rwC o2⟩:Array Value).size=22∧(⟨rwC o1⟩:Array Value).size=22∧nw w' ⟨spl (spl ([.int .u8 0,.int .u8 0,.int .u8 0,.int .u8 0,.int .u8 0,.int .u8 0,.int .u8 0,.int .u8 0,.int .u8 0,.int .u8 0,.int .u8 0,.int .u8 0,.int .u8 0,.int .u8 0,.int .u8 0,.int .u8 0,.int .u8 0,.int .u8 0,.int .u8 0,.int .u8 0,.int .u32 0,.int .i64 0,.int .u8 0,.int .u8 0,.int .u8 0,.int .u8 0,.int .u8 0,.int .u8 0,.int .u8 0,.int .u8 0,.int .u8 0,.int .u8 0,.int .u8 0,.int .u8 0,.int .u8 0,.int .u8 0,.int .u8 0,.int .u8 0,.int .u8 0,.int .u8 0,.int .u8 0,.int .u8 0,.int .u32 0,.int .i64 0]:List Value) 0 (⟨rwC o2⟩:Array Value)) 22 (⟨rwC o1⟩:Array Value)⟩ 42 Z:=fun {w' Z1 Z} h hz=>by
  refine ⟨qzb _,qzb _,?_⟩
  rw [two_rows]
  refine h.new fun nb w h=>hz nb w ?_
  have h:St F0 w0 w (qn nb ([o2,o1].flatMap rwC) :: qn b1 (rwC o1) :: qn b2 (rwC o2) :: Z1 :: qm 2 t7 ((X.map Prod.fst).flatMap mkC) :: qzc (X.map qsc) :: ps):=h
  exact h.sub
 have leaf:∀ {w':World} {nb:Nat},St F0 w0 w' (qn b1 (rwC o1) :: qn b2 (rwC o2) :: qn nb ([o2,o1].flatMap rwC) :: qm 2 t7 ((X.map Prod.fst).flatMap mkC) :: qzc (X.map qsc) :: ps) →
  (⟨[.string (nmI (ns.getD i 0)),.slice (some ⟨nb,0,none⟩) 2 2]⟩:Array Value).size=2∧nw w' ⟨spl [.string ({ data:=#[] }),.slice none 0 0] 0 (⟨[.string (nmI (ns.getD i 0)),.slice (some ⟨nb,0,none⟩) 2 2]⟩:Array Value)⟩ 46 fun a63 w64=>rdO w64 (some a63) (1 * 2) fun c=>apK Tryz.prog 46 w64 t7.a t7.len t7.cap 1 c fun s66 w67=>trovelaw18_MidxLeast.j11 d e n s66 l i Q nx1 w67:=fun {w' nb} h=>by
  refine ⟨rfl,?_⟩
  rw [pack_cell]
  have h2:St F0 w0 w' (qn nb ([o2,o1].flatMap rwC) :: qm 2 t7 ((X.map Prod.fst).flatMap mkC) :: qzc (X.map qsc) :: ps):=h.drop.drop
  have h3:St F0 w0 w' (qm 22 ⟨some ⟨nb,0,none⟩,2,2⟩ ([o2,o1].flatMap rwC) :: qm 2 t7 ((X.map Prod.fst).flatMap mkC) :: qzc (X.map qsc) :: ps):=h2.ownBR (by rw [qfc]; rfl)
  have h4:St F0 w0 w' (qm 2 t7 ((X.map Prod.fst).flatMap mkC) :: qm 22 ⟨some ⟨nb,0,none⟩,2,2⟩ ([o2,o1].flatMap rwC) :: qzc (X.map qsc) :: ps):=h3.at1
  refine h4.pushR (s:=t7) (f:=mkC) (L:=X.map Prod.fst) (x:=(nmI (ns.getD i 0),⟨some ⟨nb,0,none⟩,2,2⟩)) (by rw [List.length_map]; omega) rfl fun t w _ h=>?_
  refine hk ((nmI (ns.getD i 0),⟨some ⟨nb,0,none⟩,2,2⟩),[o2,o1]) t w rfl rfl ?_
  rw [List.map_append]
  exact h.tail fun _ _ _ h=>St.bagAdd (y:=((nmI (ns.getD i 0),⟨some ⟨nb,0,none⟩,2,2⟩),[o2,o1])) h
 repeat' first
  | with_reducible exact leaf (by assumption)
  | with_reducible refine hM (by assumption) fun w h=>?_
  | with_reducible refine hN (by assumption) fun nb w h=>?_
  | with_reducible refine hA1 (by assumption) ?_
  | with_reducible refine hA2 (by assumption) ?_
  | with_reducible refine And.intro ?_ ?_
theorem Least_8 (h:St F0 w0 w (qm 2 t7 ((X.map Prod.fst).flatMap mkC) :: qzc (X.map qsc) :: ps)) [Rdb F0 w0 d ps 1 (ivs .u8 ns)] [Rdb F0 w0 e ps 1 (ivs .u16 az)] (hi:i < ns.length) (hi2:i < az.length) (hb:∀ j,0≤ns.getD j 0∧ns.getD j 0 < 256) (ha:∀ j,0≤az.getD j 0∧az.getD j 0 < 65536) (hn:0≤n∧n < 256) (hX:X.length≤100)
 (hk:∀ y t w',y.1.1=nmI (ns.getD i 0)→y.2=[bothR n (az.getD i 0),ownR (ns.getD i 0)]→St F0 w0 w' (qm 2 t (((X ++ [y]).map Prod.fst).flatMap mkC) :: qzc ((X ++ [y]).map qsc) :: ps)→trovelaw18_MidxLeast.j11 d e n t l i Q nx1 w') :
 trovelaw18_MidxLeast.j8 d e n t7 l i Q nx1 w:=by
 unfold trovelaw18_MidxLeast.j8
 rw [qik]
 refine h.new fun b1 w h=>?_
 have h:St F0 w0 w (qn b1 (rwC (qid 0)) :: qm 2 t7 ((X.map Prod.fst).flatMap mkC) :: qzc (X.map qsc) :: ps):=h
 refine ⟨rfl,?_⟩
 refine h.setR (f:=rwC) (x:=qid 3) (qzb _) fun w h=>?_
 have h:St F0 w0 w (qn b1 (rwL z20 0 3) :: qm 2 t7 ((X.map Prod.fst).flatMap mkC) :: qzc (X.map qsc) :: ps):=h
 rw [qdb]
 refine qqj (by decide) (by decide) ?_
 refine h.st (o:=0+0+Int.toNat 0 * 1) (by rw [rwL_len rfl]; decide) trivial fun w h=>?_
 have h:St F0 w0 w (qn b1 (rwL (z20.set 0 200) 0 3) :: qm 2 t7 ((X.map Prod.fst).flatMap mkC) :: qzc (X.map qsc) :: ps):=h
 unfold trovelaw18_MidxLeast.j9
 refine h.lx (s:=d) (zs:=ns) i rfl hi ?_
 rw [qdb]
 refine qqj (by decide) (by decide) ?_
 refine h.st (o:=0+0+Int.toNat 1 * 1) (by rw [rwL_len rfl]; decide) trivial fun w h=>?_
 have h:St F0 w0 w (qn b1 (rwC (ownR (ns.getD i 0))) :: qm 2 t7 ((X.map Prod.fst).flatMap mkC) :: qzc (X.map qsc) :: ps):=by
  rw [← rwL_own (hb i)]
  exact h
 refine h.lx (s:=e) (zs:=az) i rfl hi2 ?_
 have hai:=ha i
 refine qw (ql (by omega) (by omega)) ?_
 rw [qik]
 refine h.new fun b2 w h=>?_
 have h:St F0 w0 w (qn b2 (rwC (qid 0)) :: qn b1 (rwC (ownR (ns.getD i 0))) :: qm 2 t7 ((X.map Prod.fst).flatMap mkC) :: qzc (X.map qsc) :: ps):=h
 refine ⟨rfl,?_⟩
 refine h.setR (f:=rwC) (x:=qid (az.getD i 0)) (qzb _) fun w h=>?_
 have h:St F0 w0 w (qn b1 (rwC (ownR (ns.getD i 0))) :: qn b2 (rwL z20 0 (az.getD i 0)) :: qm 2 t7 ((X.map Prod.fst).flatMap mkC) :: qzc (X.map qsc) :: ps):=h.at1
 exact Least_10 h hi hb hn hX hk
end
end Go.Proofs.YtonmgkkkiejicaaGreat
namespace Go.Proofs.YtonmgkkkiejicaaGreat
open Go Go.Proofs
set_option linter.unusedVariables false
set_option linter.unusedSimpArgs false
attribute [local irreducible] apK cpK mkK br qve mB
theorem mem_D {l:List Int} {p:Int→Prop} (h0:p 0) (h:∀ x ∈ l,p x) (j:Nat):p (l.getD j 0):=by
 rw [List.getD_eq_getElem?_getD]
 by_cases hj:j < l.length
 · rw [List.getElem?_eq_getElem hj]
   exact h _ (List.getElem_mem hj)
 · rw [List.getElem?_eq_none (by omega)]
   exact h0
section
variable {F0:List Nat} {w0 w:World} {ps rest:List As} {d e t7:Sl} {ns az:List Int} {n:Int} {X:List Mp} {K:Ending→World→Prop} {l i:Nat}
theorem Least_4 (h:St F0 w0 w (qm 2 t7 ((X.map Prod.fst).flatMap mkC) :: qzc (X.map qsc) :: ps)) [Rdb F0 w0 d ps 1 (ivs .u8 ns)] [Rdb F0 w0 e ps 1 (ivs .u16 az)] (hX:XD ns az n X) (hXl:X.length=ns.length) (hX0:0 < X.length) (hX10:X.length≤10) (hl:l < X.length) (hm:∀ j,j < X.length→ns.getD l 0≤ns.getD j 0)
 (hb:∀ j,0≤ns.getD j 0∧ns.getD j 0 < 256) (ha:∀ j,0≤az.getD j 0∧az.getD j 0 < 65536) (hn:0≤n∧n < 256) (hk:∀ w',St F0 w0 w' ps→K (.returned (.bool true)) w') :
 trovelaw18_MidxLeast.j4 d e t7 l (fun v w'=>K (.returned v) w') w:=by
 have hdl:=(h.rdb d).1
 rw [qo,Nat.mul_one] at hdl
 have hP0:∀ x ∈ X,Rdb F0 w0 x.1.2 (qm 2 t7 ((X.map Prod.fst).flatMap mkC) :: qzc (X.map qsc) :: ps) 22 (x.2.flatMap rwC):=fun x hx=>by
  haveI:=bagM_rd (F0:=F0) (w0:=w0) (ps:=ps) hx
  exact inferInstance
 obtain ⟨rw,hrw⟩:=h.rwX hP0
 have hPm:∀ m ∈ X.map Prod.fst,Rdb F0 w0 m.2 (qm 2 t7 ((X.map Prod.fst).flatMap mkC) :: qzc (X.map qsc) :: ps) 22 ((rw m).flatMap rwC):=fun m hm=>by
  obtain ⟨x,hx,rfl⟩:=List.mem_map.1 hm
  rw [hrw x hx]
  exact hP0 x hx
 have hnm:∀ m ∈ X.map Prod.fst,m.1.size≤1000000000:=fun m hm=>by
  obtain ⟨x,hx,rfl⟩:=List.mem_map.1 hm
  obtain ⟨j,hj,rfl⟩:=List.getElem_of_mem hx
  rw [(hX.nm j hj).1,qzf (qte (hb j))]
  decide
 haveI:Rdb F0 w0 t7 (qm 2 t7 ((X.map Prod.fst).flatMap mkC) :: qzc (X.map qsc) :: ps) 2 (mks (X.map Prod.fst)):=(inferInstance:Rdb F0 w0 t7 _ 2 ((X.map Prod.fst).flatMap mkC))
 have hnb:=hX.notBad hb ha hn hrw
 have hml:(X.map Prod.fst).length=X.length:=List.length_map ..
 unfold trovelaw18_MidxLeast.j4
 refine MBuild.c (s:=t7) (L:=X.map Prod.fst) (rw:=rw) h (by omega) hnm (by rw [hX.sum hrw]; omega) hPm (fun w hb h=>absurd hb hnb) (fun w _ h5 h=>?_) (fun O t w _ hl64 hO hO2 ht h=>⟨t,0,rfl,?_⟩)
 · exfalso
   rcases h5 with h5 | ⟨O,hO,h5⟩
   · omega
   · have:=hX.count hX0 hb hn hrw hO
     omega
 have hVM:=VM_build hnb (qph _) (by rw [(qoc _).length_eq]; omega) hO hO2
 have hcnt:=hX.count hX0 hb hn hrw hO
 obtain ⟨hin,hfd⟩:=hX.find hl hm hb hn hrw hO hVM
 generalize (qpc (X.map Prod.fst)).map (fun m:Mk=>m.1)=Ns at h ht hVM hfd
 refine MOpen.c (b:=t) h (by omega) hVM.ok (fun w hz h=>?_) (fun tb sp si ss NL' O' w hV hb' hu h=>⟨some ⟨tb,0,none⟩,0,rfl,?_⟩)
 · exfalso
   rcases hz with hz | hz
   · have:=hVM.len; omega
   · exact hz _ _ hVM rfl
 obtain ⟨e1,e2⟩:=hu _ _ hVM rfl
 subst e1 e2
 refine qod ?_
 refine qxi (by rfl) ?_
 refine qxi (by rfl) ?_
 have hsi:=h.rlen (s:=si) (f:=nmC) (L:=qmc O)
 have hid:(qmc O).length=O.length:=List.length_map ..
 refine MLen.c (tb:=tb) h ⟨_,rfl,?_⟩
 refine qw (e':=((ns.length+1:Nat):Int)) (by rw [ql (by omega) (by omega)]; omega) ?_
 refine qxi (by
  have:(si.len:Int)=((ns.length+1:Nat):Int):=by omega
  simp [this]) ?_
 have hX0':0 < (X.map Prod.fst).length:=by omega
 refine h.rix (s:=t7) (f:=mkC) (L:=X.map Prod.fst) 0 rfl hX0' fun a0 ha0=>?_
 have hm0:(X.map Prod.fst)[0]=X[0].1:=List.getElem_map ..
 refine (h.rdb t7).rL (f:=mkC) (L:=X.map Prod.fst) (v:=X[0].1.2) ha0 hX0' (by decide) (by rw [hm0]; rfl) ?_
 have h:St F0 w0 w (qzc (X.map qsc) :: qn tb [sV sp,sV si,sV ss] :: qm 1 sp (Ns.flatMap stC) :: qm 20 si ((qmc O).flatMap nmC) :: qm 22 ss (O.flatMap spC) :: ps):=h.sub
 haveI i0:=bagM_rd (F0:=F0) (w0:=w0) (ps:=qn tb [sV sp,sV si,sV ss] :: qm 1 sp (Ns.flatMap stC) :: qm 20 si ((qmc O).flatMap nmC) :: qm 22 ss (O.flatMap spC) :: ps) (List.getElem_mem hX0)
 have hx02:=(hX.nm 0 hX0).2
 refine h.rix (s:=X[0].1.2) (f:=rwC) (L:=X[0].2) 0 rfl (by rw [hx02]; simp) fun a1 ha1=>?_
 have hrd:=h.rdb X[0].1.2
 rw [hx02] at hrd
 have hida:∀ {Z:Array Value→Prop},Z ⟨nmC (bN n)⟩→ldA w (Addr.add (Addr.add a1 (0 * 22)) 0) 20 Z:=fun hz=>by
  have lenC:(nmC (bN n)).length=20:=(inferInstance:Rec nmC 20).len _
  refine ⟨⟨nmC (bN n)⟩,lenC,fun o ho=>?_,hz⟩
  rw [qme,qme,show 0 * 22+(0+o)=0 * 22+o by omega,← qme,hrd.rcell (f:=rwC) (L:=[bothR n (az.getD 0 0),ownR (ns.getD 0 0)]) (j:=0) ha1 (by simp) (by omega)]
  have e0:([bothR n (az.getD 0 0),ownR (ns.getD 0 0)]:List Rw)[0]'(by simp)=bothR n (az.getD 0 0):=rfl
  rw [e0]
  unfold rwC nmC bothR
  rw [List.getElem?_append_left (by show o < (ivs .u8 (bN n).1).length; rw [qo,(bN n).2.1]; exact ho)]
  simp
 refine hida ?_
 refine MFind.c (q:=bN n) (NL:=Ns) (O:=O) h hV fun w h=>⟨_,_,rfl,?_⟩
 rw [hfd,decide_eq_true hin]
 have hz:zc Tryz.prog 52=⟨plC (⟨#[]⟩,0)⟩:=by kernel_rfl
 rw [hz]
 refine h.new fun pb w h=>?_
 have h:St F0 w0 w (qn pb (plC (⟨#[]⟩,0)) :: ps):=by
  have h:St F0 w0 w (qn pb (plC (⟨#[]⟩,0)) :: qzc (X.map qsc) :: qn tb [sV sp,sV si,sV ss] :: qm 1 sp (Ns.flatMap stC) :: qm 20 si ((qmc O).flatMap nmC) :: qm 22 ss (O.flatMap spC) :: ps):=h
  exact h.sub
 refine ⟨rfl,?_⟩
 have sto:∀ v ∈ (⟨plC (nmI (ns.getD l 0),az.getD l 0)⟩:Array Value),storable v:=fun v hv=>by
  have hv:v ∈ plC (nmI (ns.getD l 0),az.getD l 0):=by simpa using hv
  simp [plC] at hv
  rcases hv with rfl | rfl <;> trivial
 refine h.sA (b:=pb) (l':=plC (nmI (ns.getD l 0),az.getD l 0)) rfl rfl sto fun w h=>?_
 refine h.drewK fun w h=>?_
 refine qxh rfl ?_
 have hel:(az.getD l 0:Int)=az.getD l 0:=rfl
 have hazl:l < az.length:=by have:=hX.le2; omega
 refine h.lx (s:=d) (zs:=ns) l rfl (by omega) ?_
 have hls:∀ {w':World} {Z:ByteArray→Prop},St F0 w0 w' (qn pb (plC (nmI (ns.getD l 0),az.getD l 0)) :: ps)→Z (nmI (ns.getD l 0))→ldS w' (Addr.add ⟨pb,0,none⟩ 0) Z:=fun h hz=>by
  rw [qdb]
  exact h.blk.ldS (n:=nmI (ns.getD l 0)) rfl hz
 have fin:∀ w,St F0 w0 w (qn pb (plC (nmI (ns.getD l 0),az.getD l 0)) :: ps) →
  br (ByteArray.toList (nmI (ns.getD l 0)) == ByteArray.toList (nmI (ns.getD l 0))) (ldI .i64 w (Addr.add ⟨pb,0,none⟩ 1) fun x32=>ixS e.a e.len (l:Int) 1 fun a33=>ldI .u16 w a33 fun x34=>lt (IntKind.i64.wrap x34) fun x35=>K (.returned (.bool (x32 == x35))) w) (K (.returned (.bool false)) w):=fun w h=>by
  refine qxh (by simp) ?_
  have hld:∀ {Z:Int→Prop},Z (az.getD l 0)→ldI .i64 w (Addr.add ⟨pb,0,none⟩ 1) Z:=fun hz=>by
   rw [qdb]
   exact h.blk.ldI rfl hz
  refine hld ?_
  refine h.lx (s:=e) (zs:=az) l rfl hazl ?_
  have:=ha l
  refine qw (ql (by omega) (by omega)) ?_
  rw [beq_self_eq_true]
  exact hk w h.drop
 refine ⟨?_,?_⟩
 · refine hls h ?_
   exact name.c h (hb l) fun w h=>⟨_,rfl,fin w h⟩
 · refine name.c h (hb l) fun w h=>⟨_,rfl,?_⟩
   exact hls h (fin w h)
theorem Least_2 (h:St F0 w0 w ps) [Rdb F0 w0 d ps 1 (ivs .u8 ns)] [Rdb F0 w0 e ps 1 (ivs .u16 az)] (h0:0 < ns.length) (h10:ns.length≤10) (hle:ns.length≤az.length)
 (hb:∀ j,0≤ns.getD j 0∧ns.getD j 0 < 256) (ha:∀ j,0≤az.getD j 0∧az.getD j 0 < 65536) (hn:0≤n∧n < 256) (hk:∀ w',St F0 w0 w' ps→K (.returned (.bool true)) w') :
 trovelaw18_MidxLeast.j2 d e n (fun v w'=>K (.returned v) w') w:=by
 have hdl:=(h.rdb d).1
 rw [qo,Nat.mul_one] at hdl
 unfold trovelaw18_MidxLeast.j2 trovelaw18_MidxLeast.j3 trovelaw18_MidxLeast.j5
 refine loop3 (fun (a:Nat × List Mp) (t:Sl) (l' i':Int) w'=>i'=(a.2.length:Int)∧l'=(a.1:Int)∧XD ns az n a.2∧(a.1 < a.2.length ∨ a.1=0)∧(∀ j,j < a.2.length→ns.getD a.1 0≤ns.getD j 0)∧St F0 w0 w' (qm 2 t ((a.2.map Prod.fst).flatMap mkC) :: qzc (a.2.map qsc) :: ps)) (fun a=>ns.length - a.2.length) (0,[]) ⟨rfl,rfl,⟨Nat.zero_le _,Nat.zero_le _,fun j hj=>by simp at hj,fun j k hj=>by simp at hj⟩,Or.inr rfl,fun j hj=>by simp at hj,(h.bag0).nilO⟩ ?_
 clear h
 rintro ⟨l,X⟩ t _ _ wL I μ ⟨rfl,rfl,hX,hl,hm,h⟩ hin
 simp only at hX hl hm h hin ⊢
 have hXle:=hX.le
 unfold trovelaw18_MidxLeast.b1
 refine qxc (fun g=>?_) (fun g=>?_)
 · have hiX:X.length < ns.length:=by omega
   unfold trovelaw18_MidxLeast.j6 trovelaw18_MidxLeast.j12
   refine loop1 (fun (k:Nat) (k':Int) w'=>k'=(k:Int)∧k≤X.length∧(∀ j,j < k→ns.getD j 0 ≠ ns.getD X.length 0)∧St F0 w0 w' (qm 2 t ((X.map Prod.fst).flatMap mkC) :: qzc (X.map qsc) :: ps)) (fun k=>X.length - k) 0 ⟨rfl,Nat.zero_le _,fun j hj=>by omega,h⟩ ?_
   clear h
   rintro k _ wM I2 μ2 ⟨rfl,hkX,hne,h⟩ hin2
   unfold trovelaw18_MidxLeast.b2
   refine qxc (fun g2=>?_) (fun g2=>?_)
   · have hk2:k < X.length:=by omega
     refine h.drewK fun w h=>?_
     refine h.lx (s:=d) (zs:=ns) k rfl (by omega) ?_
     refine h.lx (s:=d) (zs:=ns) X.length rfl hiX ?_
     by_cases e0:ns.getD k 0=ns.getD X.length 0
     · refine qxh (by rw [e0]; simp) ?_
       exact hk w h.drop.drop
     · refine qxi (by simpa using e0) ?_
       refine qw (e':=((k+1:Nat):Int)) (by rw [ql (by omega) (by omega)]; rfl) ?_
       refine ⟨⟨rfl,rfl,rfl,rfl,rfl,rfl⟩,hin2 (k+1) _ _ ⟨rfl,by omega,fun j hj=>?_,h⟩ (by omega)⟩
       by_cases ej:j < k
       · exact hne j ej
       · have:j=k:=by omega
         subst this
         exact e0
   · have:k=X.length:=by omega
     subst this
     refine Least_8 (X:=X) (i:=X.length) h hiX (by omega) hb ha hn (by omega) fun y t' w hy1 hy2 h=>?_
     have hX':XD ns az n (X ++ [y]):=by
      refine ⟨by rw [List.length_append,List.length_singleton]; omega,by rw [List.length_append,List.length_singleton]; omega,fun j hj=>?_,fun j k hj hk0 e0=>?_⟩
      · rw [List.length_append,List.length_singleton] at hj
        by_cases ej:j < X.length
        · rw [List.getElem_append_left ej]
          exact hX.nm j ej
        · have:j=X.length:=by omega
          subst this
          rw [List.getElem_append_right (Nat.le_refl _)]
          simp only [Nat.sub_self,List.getElem_cons_zero]
          exact ⟨hy1,hy2⟩
      · rw [List.length_append,List.length_singleton] at hj hk0
        by_cases ej:j < X.length
        · by_cases ek:k < X.length
          · exact hX.nd j k ej ek e0
          · have:k=X.length:=by omega
            subst this
            exact absurd e0 (hne j ej)
        · have:j=X.length:=by omega
          subst this
          by_cases ek:k < X.length
          · exact absurd e0.symm (hne k ek)
          · omega
     have hlen':(X ++ [y]).length=X.length+1:=by rw [List.length_append]; rfl
     unfold trovelaw18_MidxLeast.j11
     have hln:l < ns.length:=by omega
     refine h.drewK fun w h=>?_
     refine h.lx (s:=d) (zs:=ns) X.length rfl hiX ?_
     refine h.lx (s:=d) (zs:=ns) l rfl hln ?_
     have next:∀ (l2:Nat) w,(l2 < X.length+1)→(∀ j,j < X.length+1→ns.getD l2 0≤ns.getD j 0)→St F0 w0 w (qm 2 t' (((X ++ [y]).map Prod.fst).flatMap mkC) :: qzc ((X ++ [y]).map qsc) :: ps)→trovelaw18_MidxLeast.j7 d e n t' (l2:Int) (X.length:Int) (fun v w'=>K (.returned v) w') (fun names_0' at_1' n_2' t7' t8' t9' w'=>(names_0'=d∧at_1'=e∧n_2'=n)∧I t7' t8' t9' w'∧μ t7' t8' t9' w' < μ t (l:Int) (X.length:Int) wL) w:=fun l2 w a b h=>by
      unfold trovelaw18_MidxLeast.j7
      refine qw (e':=((X.length+1:Nat):Int)) (by rw [ql (by omega) (by omega)]; rfl) ?_
      refine ⟨⟨rfl,rfl,rfl⟩,hin (l2,X ++ [y]) _ _ _ _ ⟨by simp only; rw [hlen'],rfl,hX',Or.inl (by simp only; omega),fun j hj=>b j (by simp only at hj; omega),h⟩ (by simp only; omega)⟩
     refine qxc (fun g3=>?_) (fun g3=>?_)
     · refine next X.length w (by omega) (fun j hj=>?_) h
       by_cases ej:j < X.length
       · have:=hm j ej; omega
       · have:j=X.length:=by omega
         rw [this]; exact Int.le_refl _
     · refine next l w (by omega) (fun j hj=>?_) h
       by_cases ej:j < X.length
       · exact hm j ej
       · have:j=X.length:=by omega
         rw [this]; omega
 · have hXl:X.length=ns.length:=by omega
   exact Least_4 h hX hXl (by omega) (by omega) (by omega) hm hb ha hn hk
end
theorem wf_u16 {n:Int} (h:(Lit.int .u16 n).wf=true):0≤n∧n < 65536:=by
 have:0≤n∧n≤65535:=by simpa [Lit.wf,IntKind.min,IntKind.max,IntKind.signed,IntKind.bits] using h
 omega
theorem trovelaw18_MidxLeast.law (s0 s1:Sl) (n:Int) (x0 x1:List Int) (W:World) (y0:Rd W 1 s0 (ivs .u8 x0)) (y1:Rd W 1 s1 (ivs .u16 x1)) (z0:∀ n ∈ x0,(Lit.int .u8 n).wf=true) (c0:s0.len≤s0.cap) (z1:∀ n ∈ x1,(Lit.int .u16 n).wf=true) (c1:s1.len≤s1.cap) (w2:(Lit.int .u8 n).wf=true) :
 Calls Tryz.prog 4 ⟨[.slice s0.a s0.len s0.cap,.slice s1.a s1.len s1.cap,.int .u8 n]⟩ W fun e w'=>e=.returned (.bool true)∧Mod [] W w':=by
 haveI:∀ ps,Rdb [] W s0 ps 1 (ivs .u8 x0):=fun ps=>Rdb.start y0
 haveI:∀ ps,Rdb [] W s1 ps 1 (ivs .u16 x1):=fun ps=>Rdb.start y1
 have h:St [] W W []:=St.start0
 have hl0:=y0.1
 rw [qo,Nat.mul_one] at hl0
 have hl1:=y1.1
 rw [qo,Nat.mul_one] at hl1
 have hn:=wf_u8 w2
 have hb:∀ j,0≤x0.getD j 0∧x0.getD j 0 < 256:=mem_D (p:=fun x=>0≤x∧x < 256) (by decide) fun x hx=>wf_u8 (z0 x hx)
 have ha:∀ j,0≤x1.getD j 0∧x1.getD j 0 < 65536:=mem_D (p:=fun x=>0≤x∧x < 65536) (by decide) fun x hx=>wf_u16 (z1 x hx)
 have fin:∀ w,St [] W w []→(Ending.returned (Value.bool true)=.returned (.bool true)∧Mod [] W w):=fun w h=>⟨rfl,h.mod⟩
 refine qjb (trovelaw18_MidxLeast.ok s0 s1 n _ _ ?_)
 unfold trovelaw18_MidxLeast trovelaw18_MidxLeast.j1
 refine known18.c h fun w h=>⟨_,rfl,?_⟩
 refine qyd (fun g=>by cases g) (fun _=>?_)
 by_cases g0:x0.length=0
 · have:s0.len=0:=by omega
   exact qxh (by rw [this]; rfl) (fin w h)
 refine qxi (by
  have:¬ (s0.len:Int)=0:=by omega
  simpa using this) ?_
 refine qxc (fun _=>fin w h) (fun g1=>?_)
 refine qxc (fun _=>fin w h) (fun g2=>?_)
 exact Least_2 (K:=fun e w'=>e=.returned (.bool true)∧Mod [] W w') (ns:=x0) (az:=x1) h (by omega) (by omega) (by omega) hb ha hn fun w h=>fin w h
end Go.Proofs.YtonmgkkkiejicaaGreat
