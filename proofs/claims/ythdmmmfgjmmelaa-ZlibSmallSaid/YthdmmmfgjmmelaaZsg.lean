/- Own texts as one, only what is reached (shake.py). -/
import Derived.Test.YthdmmmfgjmmelaaZsf
import Derived.Test.YthdmmmfgjmmelaaProg
namespace Go.Proofs.Ythdmmmfgjmmelaa
open Go Go.Proofs
set_option linter.unusedVariables false
set_option linter.unusedSimpArgs false
attribute [local irreducible] apK cpK mkK br
def qvj (n:Nat) (S:List Nat):List Int:=qek n fun i=>(S.count i:Int)
theorem qwc (n:Nat) (S:List Nat):(qvj n S).length=n:=quc _ _
theorem qvm {n i:Nat} (S:List Nat) (h:i < n):(qvj n S).getD i 0=(S.count i:Int):=qse (f:=fun i=>(S.count i:Int)) h
theorem cntL_nil (n:Nat):qvj n []=List.replicate n 0:=by
 rw [qbk]
 exact qkd fun i _=>by simp
theorem quj {n s:Nat} (S:List Nat) (hs:s < n):(qvj n S).set s ((qvj n S).getD s 0+1)=qvj n (S ++ [s]):=by
 rw [qvm S hs]
 unfold qvj
 rw [qpi]
 refine qkd fun i hi=>?_
 rw [List.count_append]
 by_cases e:i=s
 · rw [if_pos e,e]; simp
 · rw [if_neg e]
   have:[s].count i=0:=List.count_eq_zero.2 (by simpa using e)
   rw [this]; simp
theorem qbh {n:Nat} {S:List Nat} (i:Nat):0≤(qvj n S).getD i 0∧(qvj n S).getD i 0≤S.length:=by
 rcases Nat.lt_or_ge i n with h | h
 · rw [qvm S h]
   have:=List.count_le_length (a:=i) (l:=S)
   omega
 · have e:(qvj n S).getD i 0=0:=by
    rw [List.getD_eq_getElem?_getD,List.getElem?_eq_none (by rw [qwc]; exact h)]; rfl
   rw [e]; omega
theorem qlo {n:Nat} {S:List Nat} (hn:n≤288) (hS:S.length≤16777216):goodX (qvj n S):=by
 refine ⟨by rw [qwc]; exact hn,fun x hx=>?_⟩
 obtain ⟨i,hi,rfl⟩:=List.mem_iff_getElem.1 hx
 have e:(qvj n S)[i]=(qvj n S).getD i 0:=by rw [List.getD,List.getElem?_eq_getElem hi]; rfl
 rw [e]
 have:=qbh (n:=n) (S:=S) i
 unfold badN
 omega
theorem qik {n i:Nat} {S:List Nat} (h:i < n):0 < (qvj n S).getD i 0 ↔ i ∈ S:=by
 rw [qvm S h,← List.count_pos_iff (a:=i) (l:=S)]
 omega
def litS (t:Tk):Nat:=(qeh t).1.1.toNat
def disS (t:Tk):List Nat:=if (qeh t).2.2 then [(qeh t).2.1.1.toNat] else []
def litC (L:List Tk):List Int:=qvj 286 (L.map litS ++ [256])
def disC (L:List Tk):List Int:=qvj 30 (L.flatMap disS)
theorem lit_lt {t:Tk} (h:tkOk t):0≤(qeh t).1.1∧(qeh t).1.1 < 286:=by
 unfold qeh
 by_cases g:t.2.1=0
 · rw [if_pos g]
   have:=h.1
   simp only; omega
 · rw [if_neg g]
   have:=qak (qdk (h.2 g).1.1 (h.2 g).1.2)
   simp only; omega
theorem symP_dis {n s e x:Int} (h:symP n true s e x):0≤s∧s < 30:=by
 rcases h with ⟨_,h1,h2,_⟩ | ⟨h1,_⟩
 · exact ⟨h1,h2⟩
 · cases h1
theorem dis_lt {t:Tk} (h:tkOk t) (hc:(qeh t).2.2=true):0≤(qeh t).2.1.1∧(qeh t).2.1.1 < 30:=by
 unfold qeh at hc ⊢
 by_cases g:t.2.1=0
 · rw [if_pos g] at hc; cases hc
 · rw [if_neg g]
   exact symP_dis (qgi (h.2 g).2.1 (h.2 g).2.2)
theorem disS_len (L:List Tk):(L.flatMap disS).length≤L.length:=by
 induction L with
 | nil=>exact Nat.le_refl _
 | cons t L ih =>
   rw [List.flatMap_cons,List.length_append,List.length_cons]
   have:(disS t).length≤1:=by unfold disS; split <;> simp
   omega
section
variable {F0:List Nat} {w0 w:World} {ps rest rest2 rest3:List As} {L:List Tk}
theorem St.pcN {p q:Pc} {K:Addr→Addr→World→Prop} (h:St F0 w0 w ps) (hk:∀ a b w',St F0 w0 w' (qxc b (pcC q) :: qxc a (pcC p) :: ps)→K ⟨a,0,none⟩ ⟨b,0,none⟩ w') :
 lt (⟨World.heapSize w,0,none⟩:Addr) fun a=>lt (World.alloc w (.cells (zc Try.prog 172) 172)) fun w1 =>
 lt (⟨World.heapSize w1,0,none⟩:Addr) fun b=>lt (World.alloc w1 (.cells (zc Try.prog 172) 172)) fun w2 =>
 (⟨pcC p⟩:Array Value).size=3∧Go.Proofs.Ythdmmmfgjmmelaa.stA w2 a ⟨pcC p⟩ fun w3=>(⟨pcC q⟩:Array Value).size=3∧Go.Proofs.Ythdmmmfgjmmelaa.stA w3 b ⟨pcC q⟩ fun w4=>K a b w4:=by
 rw [qmh]
 refine h.new fun a w h=>?_
 refine h.new fun b w h=>⟨rfl,?_⟩
 have h:St F0 w0 w (qxc b (pcC (0,0,0)) :: qxc a (pcC (0,0,0)) :: ps):=h
 refine h.sA (b:=a) (l':=pcC p) rfl rfl (qwf _) fun w h=>⟨rfl,?_⟩
 refine h.sA (b:=b) (l':=pcC q) rfl rfl (qwf _) fun w h=>?_
 exact hk a b w h.sub
theorem qqc.go {s A B:Sl} {kb:Nat} {K:Ending→World→Prop} (h:St F0 w0 w (qxc kb [.slice s.a s.len s.cap,.slice A.a A.len A.cap,.slice B.a B.len B.cap] :: qdc 1 A (ivs .i64 (List.replicate 286 0)) :: qdc 1 B (ivs .i64 (List.replicate 30 0)) :: ps))
 [Rdb F0 w0 s ps 3 (tks L)] (hok:∀ t ∈ L,tkOk t) (hL:L.length≤1000000)
 (hk:∀ w',St F0 w0 w' (qxc kb [.slice s.a s.len s.cap,.slice A.a A.len A.cap,.slice B.a B.len B.cap] :: qdc 1 A (ivs .i64 (litC L)) :: qdc 1 B (ivs .i64 (disC L)) :: ps)→K (.returned (.pointer (some ⟨kb,0,none⟩))) w') :
 qqc.j1 s (some ⟨kb,0,none⟩) (fun v w'=>K (.returned v) w') w:=by
 have hl:=(h.rdb s).1
 rw [qgg] at hl
 rw [← cntL_nil,← cntL_nil] at h
 unfold litC disC at hk
 unfold qqc.j1 qqc.j3
 refine qsf (fun (i:Nat) (i':Int) w'=>i'=i∧i≤L.length∧St F0 w0 w' (qxc kb [.slice s.a s.len s.cap,.slice A.a A.len A.cap,.slice B.a B.len B.cap] :: qdc 1 A (ivs .i64 (qvj 286 ((L.take i).map litS))) :: qdc 1 B (ivs .i64 (qvj 30 ((L.take i).flatMap disS))) :: ps)) (fun i=>L.length - i) 0 ⟨rfl,by omega,by simpa using h⟩ ?_
 clear h
 rintro i i' wL I μ ⟨rfl,hi,h⟩ hin
 have s1:=qbh (n:=286) (S:=(L.take i).map litS)
 have s2:=qbh (n:=30) (S:=(L.take i).flatMap disS)
 have s3:=disS_len (L.take i)
 simp only [List.length_map,List.length_take] at s1 s2 s3
 unfold qqc.b1
 refine qzc (fun g=>?_) (fun g=>?_)
 · have hi2:i < L.length:=by omega
   have htk:=hok _ (List.getElem_mem hi2)
   have et:L.take (i+1)=L.take i ++ [L[i]]:=List.take_succ_eq_append_getElem hi2
   refine h.ltok (s:=s) i rfl hi2 ?_
   refine h.tokN (t:=L[i]) fun nb w h=>?_
   refine h.lA (b:=nb) rfl ?_
   refine qrg.c h htk fun w h=>⟨_,_,_,rfl,?_⟩
   refine h.pcN (p:=(qeh L[i]).1) (q:=(qeh L[i]).2.1) fun a b w h=>?_
   have h:St F0 w0 w (qxc b [.int .i64 (qeh L[i]).2.1.1,.int .i64 (qeh L[i]).2.1.2.1,.int .i64 (qeh L[i]).2.1.2.2] :: qxc a [.int .i64 (qeh L[i]).1.1,.int .i64 (qeh L[i]).1.2.1,.int .i64 (qeh L[i]).1.2.2] :: qxc nb (tkC L[i]) :: qxc kb [.slice s.a s.len s.cap,.slice A.a A.len A.cap,.slice B.a B.len B.cap] :: qdc 1 A (ivs .i64 (qvj 286 ((L.take i).map litS))) :: qdc 1 B (ivs .i64 (qvj 30 ((L.take i).flatMap disS))) :: ps):=h
   refine h.drewK fun w h=>?_
   refine qrd ?_
   simp only [qme,Nat.zero_add]
   have hs:=lit_lt htk
   have es:(qeh L[i]).1.1=((litS L[i]:Nat):Int):=by unfold litS; omega
   have hls:litS L[i] < 286:=by unfold litS; omega
   have hc1:=s1 (litS L[i])
   refine h.fL (b:=kb) ?_
   refine h.fI (b:=a) ?_
   refine h.lx (s:=A) (litS L[i]) es (by rw [qwc]; exact hls) ?_
   refine qy (qk (by omega) (by omega)) ?_
   refine h.sx (s:=A) (litS L[i]) es (by rw [qwc]; exact hls) fun w h=>?_
   rw [quj _ hls] at h
   have e1:(L.take i).map litS ++ [litS L[i]]=(L.take (i+1)).map litS:=by rw [et,List.map_append]; rfl
   rw [e1] at h
   refine qpf (fun gc=>?_) (fun gc=>?_)
   · refine h.drewK fun w h=>?_
     refine qrd ?_
     have hd:=dis_lt htk gc
     have ed:(qeh L[i]).2.1.1=(((qeh L[i]).2.1.1.toNat:Nat):Int):=by omega
     generalize hD:(qeh L[i]).2.1.1.toNat=D at ed
     have hc2:=s2 D
     refine h.fL (b:=kb) ?_
     refine h.fI (b:=b) ?_
     refine h.lx (s:=B) D ed (by rw [qwc]; omega) ?_
     refine qy (qk (by omega) (by omega)) ?_
     refine h.sx (s:=B) D ed (by rw [qwc]; omega) fun w h=>?_
     rw [quj _ (by omega)] at h
     have e2:(L.take i).flatMap disS ++ [D]=(L.take (i+1)).flatMap disS:=by
      rw [et,List.flatMap_append]
      congr 1
      simp only [List.flatMap_cons,List.flatMap_nil,List.append_nil]
      unfold disS
      rw [if_pos gc,hD]
     rw [e2] at h
     refine qy (qk (by omega) (by omega)) ?_
     exact ⟨⟨by trivial,by trivial,by trivial⟩,hin (i+1) _ _ ⟨by omega,by omega,h.sub⟩ (by omega)⟩
   · have e2:(L.take i).flatMap disS=(L.take (i+1)).flatMap disS:=by
      rw [et,List.flatMap_append]
      simp only [List.flatMap_cons,List.flatMap_nil,List.append_nil]
      unfold disS
      rw [if_neg (by rw [gc]; decide),List.append_nil]
     rw [e2] at h
     refine qy (qk (by omega) (by omega)) ?_
     exact ⟨⟨by trivial,by trivial,by trivial⟩,hin (i+1) _ _ ⟨by omega,by omega,h.sub⟩ (by omega)⟩
 · have:i=L.length:=by omega
   subst this
   rw [List.take_length] at h s1
   unfold qqc.j2
   refine qrd ?_
   simp only [qme,Nat.zero_add]
   have hc1:=s1 256
   refine h.fL (b:=kb) ?_
   refine h.lx (s:=A) 256 rfl (by rw [qwc]; decide) ?_
   refine qy (qk (by omega) (by omega)) ?_
   refine h.sx (s:=A) 256 rfl (by rw [qwc]; decide) fun w h=>?_
   rw [quj _ (by decide)] at h
   exact hk w h.sub
theorem qqc.c {s:Sl} {K:Ending→World→Prop} (h:St F0 w0 w ps) [Rdb F0 w0 s ps 3 (tks L)] (hok:∀ t ∈ L,tkOk t) (hL:L.length≤1000000)
 (hk:∀ kb A B w',A.len=286→B.len=30→St F0 w0 w' (qxc kb [.slice s.a s.len s.cap,.slice A.a A.len A.cap,.slice B.a B.len B.cap] :: rdA 1 A (ivs .i64 (litC L)) :: rdA 1 B (ivs .i64 (disC L)) :: ps)→K (.returned (.pointer (some ⟨kb,0,none⟩))) w') :
 Calls Try.prog 77 ⟨[.slice s.a s.len s.cap]⟩ w K:=by
 refine qoc (qqc.ok _ _ _ ?_)
 unfold qqc
 have fin:∀ (kb:Nat) (A B:Sl) w',St F0 w0 w' (qxc kb [.slice s.a s.len s.cap,.slice A.a A.len A.cap,.slice B.a B.len B.cap] :: qdc 1 A (ivs .i64 (litC L)) :: qdc 1 B (ivs .i64 (disC L)) :: ps)→K (.returned (.pointer (some ⟨kb,0,none⟩))) w':=by
  intro kb A B w' h
  have l1:=h.drop.len
  have l2:=h.drop.drop.len
  rw [qx,litC,qwc] at l1
  rw [qx,disC,qwc] at l2
  exact hk kb A B w' (by omega) (by omega) (h.tail fun _ _ _ h=>(h.tail fun _ _ _ h=>h.ro).ro)
 refine h.drewK fun w h=>⟨?_,?_⟩
 · refine h.makeI (k:=.i64) (n:=286) rfl rfl (by decide) fun A w _ _ h=>?_
   refine h.makeI (k:=.i64) (n:=30) rfl rfl (by decide) fun B w _ _ h=>?_
   refine h.new fun kb w h=>?_
   have h:St F0 w0 w (qxc kb [.slice s.a s.len s.cap,.slice A.a A.len A.cap,.slice B.a B.len B.cap] :: qdc 1 B (ivs .i64 (List.replicate 30 0)) :: qdc 1 A (ivs .i64 (List.replicate 286 0)) :: ps):=h
   exact qqc.go (A:=A) (B:=B) h.sub hok hL (fin kb A B)
 · refine h.makeI (k:=.i64) (n:=30) rfl rfl (by decide) fun B w _ _ h=>?_
   refine h.makeI (k:=.i64) (n:=286) rfl rfl (by decide) fun A w _ _ h=>?_
   refine h.new fun kb w h=>?_
   have h:St F0 w0 w (qxc kb [.slice s.a s.len s.cap,.slice A.a A.len A.cap,.slice B.a B.len B.cap] :: qdc 1 A (ivs .i64 (List.replicate 286 0)) :: qdc 1 B (ivs .i64 (List.replicate 30 0)) :: ps):=h
   exact qqc.go (A:=A) (B:=B) h hok hL (fin kb A B)
theorem qyn {ls:List Int} {s:Int} (h0:0≤s) (h:inC ls s.toNat):hput ls s=qhc ls s.toNat:=by
 unfold hput
 rw [if_pos ⟨h0,by have:=h.1; omega,by have:=h.2; omega⟩]
 rfl
theorem qbf {ls:List Int} (h:okL ls) (s:Nat):(qhc ls s).length≤15:=by
 rw [qug]
 rcases Nat.lt_or_ge s ls.length with e | e
 · have:=(h _ (qrf e)).2
   omega
 · rw [List.getD_eq_getElem?_getD,List.getElem?_eq_none e]
   decide
theorem ofLen_x {v:Int} (h1:3≤v) (h2:v≤258):0≤(ofLen v).2.2∧(ofLen v).2.2≤14:=symP_x (qdk h1 h2)
theorem ofDis_x {v:Int} (h1:1≤v) (h2:v≤32768):0≤(ofDis v).2.2∧(ofDis v).2.2≤14:=symP_x (qgi h1 h2)
theorem tkB_len {ll dl:List Int} (h1:okL ll) (h2:okL dl) {t:Tk} (h:tkOk t):(tkB ll dl t).length≤60:=by
 unfold tkB
 have a1:=qbf h1
 have a2:=qbf h2
 split
 · have:=a1 t.1.toNat; omega
 · rename_i g
   have b1:=a1 (ofLen t.2.1).1.toNat
   have b2:=a2 (ofDis t.2.2).1.toNat
   have b3:=ofLen_x (h.2 g).1.1 (h.2 g).1.2
   have b4:=ofDis_x (h.2 g).2.1 (h.2 g).2.2
   simp only [List.length_append,ql]
   omega
theorem qsm {ll dl:List Int} (h1:okL ll) (h2:okL dl) (h:∀ t ∈ L,tkOk t):(tksB ll dl L).length≤60 * L.length:=by
 induction L with
 | nil=>exact Nat.le_refl _
 | cons t L ih =>
   have:=tkB_len h1 h2 (h t (by simp))
   have:=ih fun t ht=>h t (by simp [ht])
   unfold tksB at this ⊢
   rw [List.flatMap_cons,List.length_append,List.length_cons]
   omega
theorem tksB_snoc (ll dl:List Int) (L:List Tk) (t:Tk):tksB ll dl (L ++ [t])=tksB ll dl L ++ tkB ll dl t:=by simp [tksB]
theorem qzb.c {kb wb lb db:Nat} {s A B:Sl} {ll dl:List Int} {l:List Bool} {K:Ending→World→Prop} (h:St F0 w0 w (wrL wb l :: ps)) [PkB kb ps [.slice s.a s.len s.cap,.slice A.a A.len A.cap,.slice B.a B.len B.cap] rest] [PkF hcA lb ps ll rest2] [PkF hcA db ps dl rest3]
 [Rdb F0 w0 s ps 3 (tks L)] (hok:∀ t ∈ L,tkOk t) (hL:L.length≤1000000) (hin:∀ t ∈ L,tkIn ll dl t) (hi:inC ll 256) (h1:okL ll) (h2:okL dl) (hl:l.length≤1000000)
 (hk:∀ w',St F0 w0 w' (wrL wb (l ++ (tksB ll dl L ++ qhc ll 256)) :: ps)→K (.returned (.tuple ⟨[]⟩)) w') :
 Calls Try.prog 127 ⟨[.pointer (some ⟨kb,0,none⟩),.pointer (some ⟨wb,0,none⟩),.pointer (some ⟨lb,0,none⟩),.pointer (some ⟨db,0,none⟩)]⟩ w K:=by
 have hls:=(h.rdb s).1
 rw [qgg] at hls
 refine qoc (qzb.ok _ _ _ _ _ _ ?_)
 unfold qzb
 refine qrd ?_
 simp only [qme,Nat.zero_add]
 refine h.fL (b:=kb) ?_
 unfold qzb.j2
 refine qsf (fun (i:Nat) (i':Int) w'=>i'=i∧i≤L.length∧St F0 w0 w' (wrL wb (l ++ tksB ll dl (L.take i)) :: ps)) (fun i=>L.length - i) 0 ⟨rfl,by omega,by simpa [tksB] using h⟩ ?_
 clear h
 rintro i i' wL I μ ⟨rfl,hi3,h⟩ hnx
 have hbl:=qsm (L:=L.take i) h1 h2 (fun t ht=>hok t (List.mem_of_mem_take ht))
 rw [List.length_take] at hbl
 unfold qzb.b1
 refine qzc (fun g=>?_) (fun g=>?_)
 · have g:(i:Int) < (s.len:Int):=g
   have hi2:i < L.length:=by omega
   have htk:=hok _ (List.getElem_mem hi2)
   have hti:=hin _ (List.getElem_mem hi2)
   have et:L.take (i+1)=L.take i ++ [L[i]]:=List.take_succ_eq_append_getElem hi2
   refine h.ltok (s:=s) i rfl hi2 ?_
   refine h.tokN (t:=L[i]) fun nb w h=>?_
   refine h.lA (b:=nb) rfl ?_
   refine qrg.c h htk fun w h=>⟨_,_,_,rfl,?_⟩
   refine h.pcN (p:=(qeh L[i]).1) (q:=(qeh L[i]).2.1) fun a b w h=>?_
   have h:St F0 w0 w (qxc b [.int .i64 (qeh L[i]).2.1.1,.int .i64 (qeh L[i]).2.1.2.1,.int .i64 (qeh L[i]).2.1.2.2] :: qxc a [.int .i64 (qeh L[i]).1.1,.int .i64 (qeh L[i]).1.2.1,.int .i64 (qeh L[i]).1.2.2] :: qxc nb (tkC L[i]) :: wrL wb (l ++ tksB ll dl (L.take i)) :: ps):=h
   have h:St F0 w0 w (wrL wb (l ++ tksB ll dl (L.take i)) :: qxc b [.int .i64 (qeh L[i]).2.1.1,.int .i64 (qeh L[i]).2.1.2.1,.int .i64 (qeh L[i]).2.1.2.2] :: qxc a [.int .i64 (qeh L[i]).1.1,.int .i64 (qeh L[i]).1.2.1,.int .i64 (qeh L[i]).1.2.2] :: ps):=h.sub
   simp only [qme,Nat.zero_add]
   refine h.fI (b:=a) ?_
   refine qfe.c (cb:=lb) (ls:=ll) h (by rw [List.length_append]; omega) fun w h=>⟨_,rfl,?_⟩
   have hsl:=lit_lt htk
   have h15:=qbf h1
   have h15d:=qbf h2
   unfold qeh at h hsl ⊢
   unfold tkIn at hti
   by_cases gz:L[i].2.1=0
   · rw [if_pos gz] at h hsl hti ⊢
     simp only at h hsl hti ⊢
     refine qkl (qy (qk (by omega) (by omega)) ?_)
     rw [qyn hsl.1 hti] at h
     refine ⟨⟨by trivial,by trivial,by trivial,by trivial⟩,hnx (i+1) _ _ ⟨by omega,by omega,?_⟩ (by omega)⟩
     rw [et,tksB_snoc,← List.append_assoc]
     unfold tkB
     rw [if_pos gz]
     exact h.sub
   · rw [if_neg gz] at h hsl hti ⊢
     simp only at h hsl hti ⊢
     have x1:=ofLen_x (htk.2 gz).1.1 (htk.2 gz).1.2
     have x2:=ofDis_x (htk.2 gz).2.1 (htk.2 gz).2.2
     have hd:=symP_dis (qgi (htk.2 gz).2.1 (htk.2 gz).2.2)
     rw [qyn hsl.1 hti.1] at h
     refine qnm ?_
     refine h.fI (b:=a) (h.fI (b:=a) ?_)
     have b1:=h15 (ofLen L[i].2.1).1.toNat
     have b2:=h15d (ofDis L[i].2.2).1.toNat
     refine qdb.cl h (by simp only [List.length_append]; omega) fun w h=>⟨rfl,?_⟩
     rw [qri x1.1 (by omega)] at h
     refine h.fI (b:=b) ?_
     refine qfe.c (cb:=db) (ls:=dl) h (by simp only [List.length_append,ql]; omega) fun w h=>⟨_,rfl,?_⟩
     rw [qyn hd.1 hti.2] at h
     refine h.fI (b:=b) (h.fI (b:=b) ?_)
     refine qdb.cl h (by simp only [List.length_append,ql]; omega) fun w h=>⟨rfl,?_⟩
     rw [qri x2.1 (by omega)] at h
     refine qy (qk (by omega) (by omega)) ?_
     refine ⟨⟨by trivial,by trivial,by trivial,by trivial⟩,hnx (i+1) _ _ ⟨by omega,by omega,?_⟩ (by omega)⟩
     rw [et,tksB_snoc]
     unfold tkB
     rw [if_neg gz]
     simp only [List.append_assoc] at h ⊢
     exact h.sub
 · have g:¬ (i:Int) < (s.len:Int):=g
   have:i=L.length:=by omega
   subst this
   rw [List.take_length] at h hbl
   unfold qzb.j1
   refine qfe.c (cb:=lb) (ls:=ll) h (by rw [List.length_append]; omega) fun w h=>⟨_,rfl,?_⟩
   rw [qyn (by decide) hi] at h
   rw [List.append_assoc] at h
   exact hk w h
end
end Go.Proofs.Ythdmmmfgjmmelaa
namespace Go.Proofs.Ythdmmmfgjmmelaa
open Go Go.Proofs
set_option linter.unusedVariables false
set_option linter.unusedSimpArgs false
attribute [local irreducible] apK cpK mkK br
instance rec_pcC:Rec pcC 3:=⟨fun _=>rfl,fun x v hv=>by
 simp [pcC] at hv
 rcases hv with rfl | rfl | rfl <;> trivial,by decide⟩
instance elt_piece:EltR Try.prog 172 3 (pcC (0,0,0)):=⟨⟨Try.t172,by kernel_rfl,rfl,by decide,by decide⟩,by kernel_rfl,rfl,by decide⟩
theorem fx_in {t:Tk} (h:tkOk t):tkIn qkg qxd t:=by
 unfold tkIn
 split
 · have:=h.1
   exact qao (by omega)
 · rename_i g
   have h1:=qak (qdk (h.2 g).1.1 (h.2 g).1.2)
   have h2:=symP_dis (qgi (h.2 g).2.1 (h.2 g).2.2)
   exact ⟨qao (by omega),fdist_in (by omega)⟩
section
variable {F0:List Nat} {w0 w:World} {ps rest rest2 rest3:List As} {s:Sl} {xs:List Int}
theorem qeb.step {i:Nat} {o:Sl} {out:List Pc} {Q:VWP} {nx1:Sl→Sl→Int→World→Prop} (h:St F0 w0 w (qdc 3 o (out.flatMap pcC) :: ps)) [Rdb F0 w0 s ps 1 (ivs .i64 xs)] (hL:xs.length≤1000000) (hi:i < xs.length) (ho:out.length≤1000000)
 (hk:∀ o' w',o'.len=o.len+1→St F0 w0 w' (qdc 3 o' ((out ++ [(runP xs i).1]).flatMap pcC) :: ps)→nx1 s o' ((i+(runP xs i).2:Nat):Int) w'):qeb.j4 s o (i:Int) Q nx1 w:=by
 have hl:=(h.rdb s).1
 rw [qx] at hl
 unfold qeb.j4 qeb.j5
 refine qsf (fun (n:Nat) (n':Int) w'=>n'=n∧1≤n∧i+n≤xs.length∧(∀ j,j < n→xs.getD (i+j) 0=xs.getD i 0)∧St F0 w0 w' (qdc 3 o (out.flatMap pcC) :: ps)) (fun n=>xs.length - n) 1 ⟨rfl,by decide,by omega,fun j hj=>by rw [show j=0 by omega]; rfl,h⟩ ?_
 clear h
 rintro n n' wL I μ ⟨rfl,hn1,hn2,hsm,h⟩ hin
 have done:∀ w,(i+n < xs.length→xs.getD (i+n) 0 ≠ xs.getD i 0)→St F0 w0 w (qdc 3 o (out.flatMap pcC) :: ps)→qeb.j6 s o (i:Int) (n:Int) Q nx1 w:=by
  intro w hstop h
  have hn:=runK_eq hi hn2 hsm hstop
  subst hn
  have fin:∀ (p:Pc) (n2:Nat) (x:Int) (c:Array Value) w,c=⟨pcC p⟩→runP xs i=(p,n2)→x=n2→n2≤1000000→St F0 w0 w (qdc 3 o (out.flatMap pcC) :: ps) →
   lt (⟨World.heapSize w,0,none⟩:Addr) fun a=>lt (World.alloc w (.cells c 172)) fun w1=>rdO w1 (some a) (1 * 3) fun c=>apK Try.prog 172 w1 o.a o.len o.cap 1 c fun s20 w21=>qeb.j7 s s20 (i:Int) x Q nx1 w21:=by
   rintro p n2 x c w hc hp rfl hn2 h
   refine h.pushR (s:=o) (x:=p) (by omega) hc fun o2 w h2 h=>?_
   unfold qeb.j7
   refine qy (show IntKind.i64.wrap ((i:Int)+(n2:Int))=((i+n2:Nat):Int) by rw [qk (by omega) (by omega)]; omega) ?_
   rw [hp] at hk
   exact hk o2 w h2 h
  have hk1:=runK_pos xs i
  unfold qeb.j6
  refine h.lx (s:=s) i rfl hi ?_
  unfold runP at fin
  have j10:∀ (b:Bool) w,(b=true ↔ ((0 < i∧xs.getD i 0=xs.getD (i - 1) 0)∧3≤qoh xs i))→¬ (xs.getD i 0=0∧11≤qoh xs i)→¬ (xs.getD i 0=0∧3≤qoh xs i)→St F0 w0 w (qdc 3 o (out.flatMap pcC) :: ps) →
   qeb.j10 s o (i:Int) (qoh xs i:Int) b Q nx1 w:=by
   intro b w hb g1 g2 h
   rw [if_neg g1,if_neg g2] at fin
   unfold qeb.j10
   refine qpf (fun g=>?_) (fun g=>?_)
   · have g3:=hb.1 g
     rw [if_pos g3] at fin
     refine qy (show (if (6:Int) < (qoh xs i:Int) then (6:Int) else (qoh xs i:Int))=((min (qoh xs i) 6:Nat):Int) by split <;> omega) ?_
     refine qy (qk (by omega) (by omega)) ⟨rfl,?_⟩
     exact fin (16,((min (qoh xs i) 6:Nat):Int) - 3,2) (min (qoh xs i) 6) _ _ w (by kernel_rfl) rfl rfl (by omega) h
   · have g3:¬ ((0 < i∧xs.getD i 0=xs.getD (i - 1) 0)∧3≤qoh xs i):=fun e=>by rw [hb.2 e] at g; cases g
     rw [if_neg g3] at fin
     refine h.lx (s:=s) i rfl hi ⟨rfl,?_⟩
     exact fin (xs.getD i 0,0,0) 1 _ _ w (by kernel_rfl) rfl rfl (by omega) h
  have j9:∀ (b:Bool) w,(b=true ↔ (xs.getD i 0=0∧3≤qoh xs i))→¬ (xs.getD i 0=0∧11≤qoh xs i)→St F0 w0 w (qdc 3 o (out.flatMap pcC) :: ps)→qeb.j9 s o (i:Int) (qoh xs i:Int) b Q nx1 w:=by
   intro b w hb g1 h
   unfold qeb.j9
   refine qpf (fun g=>?_) (fun g=>?_)
   · have g3:=hb.1 g
     rw [if_neg g1,if_pos g3] at fin
     refine qy (qk (by omega) (by omega)) ⟨rfl,?_⟩
     exact fin (17,(qoh xs i:Int) - 3,3) (qoh xs i) _ _ w (by kernel_rfl) rfl rfl (by omega) h
   · have g3:¬ (xs.getD i 0=0∧3≤qoh xs i):=fun e=>by rw [hb.2 e] at g; cases g
     refine h.drewK fun w h=>?_
     refine qzc (fun g4=>?_) (fun g4=>?_)
     · refine h.lx (s:=s) i rfl hi ?_
       refine qy (show IntKind.i64.wrap ((i:Int) - 1)=((i - 1:Nat):Int) by rw [qk (by omega) (by omega)]; omega) ?_
       refine h.lx (s:=s) (i - 1) rfl (by omega) ?_
       refine qpf (fun g5=>?_) (fun g5=>?_)
       · have g5:xs.getD i 0=xs.getD (i - 1) 0:=by simpa using g5
         exact j10 _ w ⟨fun e=>⟨⟨by omega,g5⟩,by have:=of_decide_eq_true e; omega⟩,fun e=>decide_eq_true (by have:=e.2; omega)⟩ g1 g3 h
       · have g5:¬ xs.getD i 0=xs.getD (i - 1) 0:=by simpa using g5
         exact j10 _ w ⟨fun e=>(by cases e),fun e=>absurd e.1.2 g5⟩ g1 g3 h
     · exact j10 _ w ⟨fun e=>(by cases e),fun e=>absurd e.1.1 (by omega)⟩ g1 g3 h
  have j8:∀ (b:Bool) w,(b=true ↔ (xs.getD i 0=0∧11≤qoh xs i))→St F0 w0 w (qdc 3 o (out.flatMap pcC) :: ps)→qeb.j8 s o (i:Int) (qoh xs i:Int) b Q nx1 w:=by
   intro b w hb h
   unfold qeb.j8
   refine qpf (fun g=>?_) (fun g=>?_)
   · have g3:=hb.1 g
     rw [if_pos g3] at fin
     refine qy (show (if (138:Int) < (qoh xs i:Int) then (138:Int) else (qoh xs i:Int))=((min (qoh xs i) 138:Nat):Int) by split <;> omega) ?_
     refine qy (qk (by omega) (by omega)) ⟨rfl,?_⟩
     exact fin (18,((min (qoh xs i) 138:Nat):Int) - 11,7) (min (qoh xs i) 138) _ _ w (by kernel_rfl) rfl rfl (by omega) h
   · have g3:¬ (xs.getD i 0=0∧11≤qoh xs i):=fun e=>by rw [hb.2 e] at g; cases g
     refine h.lx (s:=s) i rfl hi ?_
     refine qpf (fun g5=>?_) (fun g5=>?_)
     · have g5:xs.getD i 0=0:=by simpa using g5
       exact j9 _ w ⟨fun e=>⟨g5,by have:=of_decide_eq_true e; omega⟩,fun e=>decide_eq_true (by have:=e.2; omega)⟩ g3 h
     · have g5:¬ xs.getD i 0=0:=by simpa using g5
       exact j9 _ w ⟨fun e=>(by cases e),fun e=>absurd e.1 g5⟩ g3 h
  refine qpf (fun g5=>?_) (fun g5=>?_)
  · have g5:xs.getD i 0=0:=by simpa using g5
    exact j8 _ w ⟨fun e=>⟨g5,by have:=of_decide_eq_true e; omega⟩,fun e=>decide_eq_true (by have:=e.2; omega)⟩ h
  · have g5:¬ xs.getD i 0=0:=by simpa using g5
    exact j8 _ w ⟨fun e=>(by cases e),fun e=>absurd e.1 g5⟩ h
 unfold qeb.b2
 refine h.drewK fun w h=>?_
 have e:IntKind.i64.wrap ((i:Int)+(n:Int))=((i+n:Nat):Int):=by rw [qk (by omega) (by omega)]; omega
 refine qy e ?_
 refine qzc (fun g=>?_) (fun g=>?_)
 · refine qy e ?_
   refine h.lx (s:=s) (i+n) rfl (by omega) ?_
   refine h.lx (s:=s) i rfl hi ?_
   refine qpf (fun g2=>?_) (fun g2=>?_)
   · have g2:xs.getD (i+n) 0=xs.getD i 0:=by simpa using g2
     refine qy (qk (by omega) (by omega)) ?_
     exact ⟨⟨rfl,rfl,rfl⟩,hin (n+1) _ _ ⟨by omega,by omega,by omega,fun j hj=>by
      rcases Nat.lt_or_ge j n with hjn | hjn
      · exact hsm j hjn
      · rw [show j=n by omega]; exact g2,h⟩ (by omega)⟩
   · have g2:¬ xs.getD (i+n) 0=xs.getD i 0:=by simpa using g2
     exact done w (fun _=>g2) h
 · exact done w (fun e=>by omega) h
theorem qeb.c {K:Ending→World→Prop} (h:St F0 w0 w ps) [Rdb F0 w0 s ps 1 (ivs .i64 xs)] (hL:xs.length≤1000000)
 (hk:∀ t w',t.len=(runsL xs).length→St F0 w0 w' (qdc 3 t ((runsL xs).flatMap pcC) :: ps)→K (.returned (.slice t.a t.len t.cap)) w'):Calls Try.prog 129 ⟨[.slice s.a s.len s.cap]⟩ w K:=by
 have hl:=(h.rdb s).1
 rw [qx] at hl
 refine qoc (qeb.ok _ _ _ ?_)
 unfold qeb qeb.j1 qeb.j3
 refine loop2 (fun (a:Nat × Nat × List Pc) (o:Sl) (i':Int) w'=>i'=a.2.1∧a.2.1≤xs.length∧xs.length≤a.2.1+a.1∧a.2.2.length≤a.2.1∧a.2.2 ++ runsF xs a.1 a.2.1=runsL xs∧o.len=a.2.2.length∧St F0 w0 w' (qdc 3 o (a.2.2.flatMap pcC) :: ps)) (fun a=>xs.length - a.2.1) (xs.length,0,[])
  ⟨rfl,by simp,by simp,by simp,rfl,rfl,h.nil 3⟩ ?_
 clear h
 rintro ⟨f,i,out⟩ o i' wL I μ ⟨rfl,hi,hf,ho,hr,hol,h⟩ hin
 simp only at hi hf ho hr hol h hin ⊢
 unfold qeb.b1
 refine qzc (fun g=>?_) (fun g=>?_)
 · have hi2:i < xs.length:=by omega
   obtain ⟨f,rfl⟩:∃ k,f=k+1:=⟨f - 1,by omega⟩
   rw [runsF,if_neg (by omega)] at hr
   have hp:=runP_pos xs i
   have hle:=runP_le hi2
   refine qeb.step (o:=o) (out:=out) h hL hi2 (by omega) fun o' w' h1 h=>?_
   refine ⟨rfl,hin (f,i+(runP xs i).2,out ++ [(runP xs i).1]) _ _ _ ⟨rfl,hle,by simp only; omega,by simp only [List.length_append,List.length_singleton]; omega,by rw [List.append_assoc]; exact hr,by simp only [List.length_append,List.length_singleton]; omega,h⟩ (by simp only; omega)⟩
 · have:i=xs.length:=by omega
   subst this
   have e:out=runsL xs:=by
    rw [← hr]
    cases f with
    | zero=>simp [runsF]
    | succ f=>rw [runsF,if_pos (Nat.le_refl _)]; simp
   subst e
   unfold qeb.j2
   exact hk o wL hol h
theorem qfd.c {m:Nat} {K:Ending→World→Prop} (h:St F0 w0 w ps) [hr:Rdb F0 w0 s ps 1 (ivs .i64 xs)] (hL:xs.length≤1000000) (hc:s.len≤s.cap)
 (hk:∀ t w',Rdb F0 w0 t ps 1 (ivs .i64 (xs.take (qxf xs m xs.length)))→t.len=qxf xs m xs.length→t.len≤t.cap→St F0 w0 w' ps→K (.returned (.slice t.a t.len t.cap)) w'):Calls Try.prog 128 ⟨[.slice s.a s.len s.cap,.int .i64 (m:Int)]⟩ w K:=by
 have hl:=(h.rdb s).1
 rw [qx] at hl
 refine qoc (qfd.ok _ _ _ _ ?_)
 unfold qfd qfd.j1
 refine qsf (fun (n:Nat) (o:Sl) w'=>o.len=n∧n≤xs.length∧o.len≤o.cap∧qxf xs m n=qxf xs m xs.length∧Rdb F0 w0 o ps 1 (ivs .i64 (xs.take n))∧St F0 w0 w' ps) (fun n=>n) xs.length ⟨by omega,Nat.le_refl _,hc,rfl,by rw [List.take_length]; exact hr,h⟩ ?_
 clear h
 rintro n o wL I μ ⟨rfl,hn,hoc,ht,hrd,h⟩ hin
 have done:∀ w,qxf xs m o.len=o.len→St F0 w0 w ps→qfd.j2 o (fun v w'=>K (.returned v) w') w:=by
  intro w e h
  rw [e] at ht
  unfold qfd.j2
  rw [← ht] at hk
  exact hk o w hrd rfl hoc h
 unfold qfd.b1
 refine qzc (fun g=>?_) (fun g=>?_)
 · obtain ⟨k,hk2⟩:∃ k,o.len=k+1:=⟨o.len - 1,by omega⟩
   have e:IntKind.i64.wrap ((o.len:Int) - 1)=(k:Int):=by rw [qk (by omega) (by omega)]; omega
   refine qy e ?_
   have hx:xs.getD k 0=(xs.take o.len).getD k 0:=(qzj (by omega)).symm
   refine h.lx (s:=o) k rfl (by rw [List.length_take]; omega) ?_
   rw [← hx]
   refine qpf (fun g2=>?_) (fun g2=>?_)
   · have g2:xs.getD k 0=0:=by simpa using g2
     refine qy e ?_
     refine bd_i (n:=k) rfl (by omega) (qcj ?_)
     have hr2:Rdb F0 w0 ⟨qzf o.a o.cap 0 1,k - 0,o.cap - 0⟩ ps 1 (ivs .i64 (xs.take k)):=hrd.cutAs 0 k (o.cap - 0) (by omega) (by omega) hoc (by
      rw [List.drop_zero,List.take_take]
      congr 1; omega)
     refine ⟨rfl,hin k _ _ ⟨rfl,by omega,by show k - 0≤o.cap - 0; omega,?_,hr2,h⟩ (by omega)⟩
     rw [← ht,hk2,qxf,if_pos ⟨by omega,g2⟩]
   · have g2:¬ xs.getD k 0=0:=by simpa using g2
     refine done wL ?_ h
     rw [hk2,qxf,if_neg fun e=>g2 e.2]
 · refine done wL ?_ h
   cases hm:o.len with
   | zero=>rfl
   | succ k=>rw [qxf,if_neg (by omega)]
def maxF (xs:List Int):Nat→Int
 | 0=>xs.getD 0 0
 | n+1=>if xs.getD (n+1) 0 > maxF xs n then xs.getD (n+1) 0 else maxF xs n
theorem maxF_le (xs:List Int):∀ n j,j≤n→xs.getD j 0≤maxF xs n:=by
 intro n
 induction n with
 | zero=>intro j hj; rw [show j=0 by omega]; exact Int.le_refl _
 | succ n ih =>
   intro j hj
   rw [maxF]
   rcases Nat.lt_or_ge j (n+1) with h | h
   · have:=ih j (by omega)
     split <;> omega
   · rw [show j=n+1 by omega]
     split <;> omega
theorem maxF_in (xs:List Int):∀ n,∃ j,j≤n∧maxF xs n=xs.getD j 0:=by
 intro n
 induction n with
 | zero=>exact ⟨0,Nat.le_refl _,rfl⟩
 | succ n ih =>
   obtain ⟨j,h1,h2⟩:=ih
   rw [maxF]
   split
   · exact ⟨n+1,Nat.le_refl _,rfl⟩
   · exact ⟨j,by omega,h2⟩
theorem qsb.c {K:Ending→World→Prop} (h:St F0 w0 w ps) [Rdb F0 w0 s ps 1 (ivs .i64 xs)] (hL:xs.length≤1000000) (h0:1≤xs.length)
 (hk:∀ w',St F0 w0 w' ps→K (.returned (.int .i64 (maxF xs (xs.length - 1)))) w'):Calls Try.prog 130 ⟨[.slice s.a s.len s.cap]⟩ w K:=by
 have hl:=(h.rdb s).1
 rw [qx] at hl
 refine qoc (qsb.ok _ _ _ ?_)
 unfold qsb qsb.j1
 refine qzc (fun g=>by omega) (fun g=>?_)
 refine h.lx (s:=s) 0 rfl (by omega) ?_
 unfold qsb.j2 qsb.j4
 refine loop2 (fun (n:Nat) (m':Int) (i':Int) w'=>i'=((n+1:Nat):Int)∧n+1≤xs.length∧m'=maxF xs n∧St F0 w0 w' ps) (fun n=>xs.length - n) 0 ⟨rfl,by omega,rfl,h⟩ ?_
 clear h
 rintro n m' i' wL I μ ⟨rfl,hn,rfl,h⟩ hin
 unfold qsb.b1
 refine qzc (fun g=>?_) (fun g=>?_)
 · refine h.lx (s:=s) (n+1) rfl (by omega) ?_
   refine qcj ?_
   refine qy (qk (by omega) (by omega)) ?_
   exact ⟨rfl,hin (n+1) _ _ _ ⟨by omega,by omega,by rw [maxF],h⟩ (by omega)⟩
 · unfold qsb.j3
   rw [show xs.length - 1=n by omega] at hk
   exact hk wL h
theorem qne.c {kb:Nat} {A B:Sl} {L:List Tk} {K:Ending→World→Prop} (h:St F0 w0 w ps) [PkB kb ps [.slice s.a s.len s.cap,.slice A.a A.len A.cap,.slice B.a B.len B.cap] rest] [Rdb F0 w0 s ps 3 (tks L)] (hok:∀ t ∈ L,tkOk t) (hL:L.length≤1000000)
 (hk:∀ t w',t.len=((fxB L).length+7) / 8→t.cap=t.len→St F0 w0 w' (rdA 1 t (u8s (bytes (fxB L))) :: ps)→K (.returned (.slice t.a t.len t.cap)) w'):Calls Try.prog 80 ⟨[.pointer (some ⟨kb,0,none⟩)]⟩ w K:=by
 refine qoc (qne.ok _ _ _ ?_)
 unfold qne
 refine qie.c h fun wb w h=>⟨_,rfl,?_⟩
 refine qdb.cl h (by simp) fun w h=>⟨rfl,?_⟩
 rw [show ([] ++ pb 3 3:List Bool)=[true,true,false] by decide +kernel] at h
 refine qu.c h fun a b w h1 h2 h=>⟨a,b,rfl,?_⟩
 refine qub.c (s:=a) (ls:=qkg) h (fun lb w hn h=>⟨_,_,rfl,?_⟩) (fun w hn _=>absurd flit_new hn)
 refine qub.c (s:=b) (ls:=qxd) h (fun db w hn h=>⟨_,_,rfl,?_⟩) (fun w hn _=>absurd qgo hn)
 have h:St F0 w0 w (wrL wb [true,true,false] :: hcA db qxd :: hcA lb qkg :: ps):=h.sub
 refine qzb.c (kb:=kb) (wb:=wb) (lb:=lb) (db:=db) (s:=s) (A:=A) (B:=B) (L:=L) (ll:=qkg) (dl:=qxd) h hok hL (fun t ht=>fx_in (hok t ht)) (qao (by decide)) qyi.1 qtj.1 (by simp) fun w h=>⟨rfl,?_⟩
 have hb:=qsm qyi.1 qtj.1 hok
 have hs:=qbf qyi.1 256
 refine qsd.c h (by simp only [List.length_append,List.length_cons,List.length_nil]; omega) fun t w h1 h2 h=>⟨t,rfl,?_⟩
 exact hk t w h1 h2 (St.sub (ps:=rdA 1 t (u8s (bytes (fxB L))) :: wrL wb (fxB L) :: hcA db qxd :: hcA lb qkg :: ps) h)
end
end Go.Proofs.Ythdmmmfgjmmelaa
namespace Go.Proofs.Ythdmmmfgjmmelaa
open Go Go.Proofs
set_option linter.unusedVariables false
set_option linter.unusedSimpArgs false
def dA0 (L:List Tk):List Int:=lenP (litC L) 15
def dB0 (L:List Tk):List Int:=lenP (disC L) 15
def dA (L:List Tk):List Int:=(dA0 L).take (qxf (dA0 L) 257 (dA0 L).length)
def dB (L:List Tk):List Int:=(dB0 L).take (qxf (dB0 L) 1 (dB0 L).length)
def dPs (L:List Tk):List Pc:=runsL (dA L ++ dB L)
def dS0 (L:List Tk):List Nat:=(dPs L).map fun p=>p.1.toNat
def dK (L:List Tk):Nat:=((dS0 L).headD 0+1) % 2
def dS (L:List Tk):List Nat:=if maxF (qvj 19 (dS0 L)) 18=(dPs L).length then dS0 L ++ [dK L] else dS0 L
def dC (L:List Tk):List Int:=qvj 19 (dS L)
def dCl (L:List Tk):List Int:=lenP (dC L) 7
def dOc (L:List Tk):List Int:=qvf.map fun s=>(dCl L).getD s.toNat 0
def dN (L:List Tk):Nat:=qxf (dOc L) 4 19
def dynB (L:List Tk):List Bool:=dyB (dA L) (dB L) (dCl L) (dN L) (dPs L) L
theorem dA0_def (L:List Tk):lenP (litC L) (15:Int).toNat=dA0 L:=rfl
theorem dB0_def (L:List Tk):lenP (disC L) (15:Int).toNat=dB0 L:=rfl
theorem dA_def (L:List Tk):(dA0 L).take (qxf (dA0 L) 257 (dA0 L).length)=dA L:=rfl
theorem dB_def (L:List Tk):(dB0 L).take (qxf (dB0 L) 1 (dB0 L).length)=dB L:=rfl
theorem dPs_def (L:List Tk):runsL (dA L ++ dB L)=dPs L:=rfl
theorem dC_def (L:List Tk):qvj 19 (dS L)=dC L:=rfl
theorem dCl_def (L:List Tk):lenP (dC L) (7:Int).toNat=dCl L:=rfl
theorem dN_def (L:List Tk):qxf (dOc L) 4 19=dN L:=rfl
theorem dynB_def (L:List Tk):dyB (dA L) (dB L) (dCl L) (dN L) (dPs L) L=dynB L:=rfl
theorem dS0_at {L:List Tk} {i:Nat} (h:i < (dPs L).length):(dS0 L).take (i+1)=(dS0 L).take i ++ [(dPs L)[i].1.toNat]:=by
 have hl:i < ((dPs L).map fun p=>p.1.toNat).length:=by rw [List.length_map]; exact h
 have:=List.take_succ_eq_append_getElem hl
 rw [List.getElem_map] at this
 exact this
theorem dK_at {L:List Tk} (h:0 < (dPs L).length):dK L=((dPs L)[0].1.toNat+1) % 2:=by
 have:∀ P:List Pc,(h:0 < P.length)→((P.map fun p=>p.1.toNat).headD 0+1) % 2=(P[0].1.toNat+1) % 2:=by
  intro P h
  cases P with
  | nil=>cases h
  | cons p P=>rfl
 exact this _ h
theorem dS_yes {L:List Tk} (h:maxF (qvj 19 (dS0 L)) 18=((dPs L).length:Int)):dS L=dS0 L ++ [dK L]:=if_pos h
theorem dS_no {L:List Tk} (h:¬ maxF (qvj 19 (dS0 L)) 18=((dPs L).length:Int)):dS L=dS0 L:=if_neg h
theorem qsh {xs:List Int} {M:Nat} (h:xs.length≤2 ^ M):(qid xs).length≤2 ^ M:=Nat.le_trans (qyl xs) h
theorem lenP_in {xs:List Int} {M s:Nat} (h:xs.length≤2 ^ M) (h1:1≤M):inC (lenP xs M) s ↔ s < xs.length∧0 < xs.getD s 0:=by
 unfold inC
 rw [qsg]
 refine and_congr_right fun hs=>?_
 rw [qvn hs]
 have:=(lenF_ok (qsh h) h1 hs).2
 omega
theorem lenP_okC {xs:List Int} {M:Nat} (h:xs.length≤2 ^ M) (h1:1≤M) (hM:M≤15):okC (lenP xs M):=⟨lenP_ok (qsh h) h1 hM,(kr_lenP (qsh h) h1 hM).1⟩
section
variable {L:List Tk}
theorem qph (L:List Tk):(litC L).length=286:=qwc _ _
theorem qrh (L:List Tk):(disC L).length=30:=qwc _ _
theorem dA0_len (L:List Tk):(dA0 L).length=286:=by unfold dA0; rw [qsg,qph]
theorem dB0_len (L:List Tk):(dB0 L).length=30:=by unfold dB0; rw [qsg,qrh]
theorem dA0_okC (L:List Tk):okC (dA0 L):=lenP_okC (by rw [qph]; decide) (by decide) (by decide)
theorem dB0_okC (L:List Tk):okC (dB0 L):=lenP_okC (by rw [qrh]; decide) (by decide) (by decide)
theorem dA0_new (L:List Tk):qih (dA0 L) true=0:=lenP_new (by rw [qph]; decide) (qsh (by rw [qph]; decide)) (by decide) (by decide)
theorem dB0_new (L:List Tk):qih (dB0 L) true=0:=lenP_new (by rw [qrh]; decide) (qsh (by rw [qrh]; decide)) (by decide) (by decide)
theorem dA0_in {s:Nat} (h:s < 286) (hs:s ∈ L.map litS ++ [256]):inC (dA0 L) s:=by
 unfold dA0
 rw [lenP_in (by rw [qph]; decide) (by decide),qph]
 exact ⟨h,(qik h).2 hs⟩
theorem dB0_in {s:Nat} (h:s < 30) (hs:s ∈ L.flatMap disS):inC (dB0 L) s:=by
 unfold dB0
 rw [lenP_in (by rw [qrh]; decide) (by decide),qrh]
 exact ⟨h,(qik h).2 hs⟩
theorem d_tkIn (hok:∀ t ∈ L,tkOk t):∀ t ∈ L,tkIn (dA0 L) (dB0 L) t:=by
 intro t ht
 have h1:=lit_lt (hok t ht)
 have hl:inC (dA0 L) (litS t):=dA0_in (by unfold litS; omega) (List.mem_append_left _ (List.mem_map_of_mem ht))
 unfold litS qeh at hl
 unfold tkIn
 by_cases g:t.2.1=0
 · rw [if_pos g] at hl ⊢
   exact hl
 · rw [if_neg g] at hl ⊢
   refine ⟨hl,?_⟩
   have hc:(qeh t).2.2=true:=by unfold qeh; rw [if_neg g]
   have h2:=dis_lt (hok t ht) hc
   have hm:(qeh t).2.1.1.toNat ∈ disS t:=by unfold disS; rw [if_pos hc]; exact List.mem_singleton.2 rfl
   have:=dB0_in (L:=L) (s:=(qeh t).2.1.1.toNat) (by omega) (List.mem_flatMap.2 ⟨t,ht,hm⟩)
   unfold qeh at this
   rwa [if_neg g] at this
theorem qko (L:List Tk):okC (dA L)∧qih (dA L) true=0∧∀ s,inC (dA0 L) s→inC (dA L) s∧qhc (dA L) s=qhc (dA0 L) s:=by
 have:=trim_code (l:=dA0 L) 257 (dA0 L).length (Nat.le_refl _) (by rw [List.take_length]; exact dA0_okC L) (by rw [List.take_length]; exact dA0_new L)
 rw [List.take_length] at this
 exact this
theorem dB_trim (L:List Tk):okC (dB L)∧qih (dB L) true=0∧∀ s,inC (dB0 L) s→inC (dB L) s∧qhc (dB L) s=qhc (dB0 L) s:=by
 have:=trim_code (l:=dB0 L) 1 (dB0 L).length (Nat.le_refl _) (by rw [List.take_length]; exact dB0_okC L) (by rw [List.take_length]; exact dB0_new L)
 rw [List.take_length] at this
 exact this
theorem dA_len (L:List Tk):257≤(dA L).length∧(dA L).length≤286:=by
 have h1:=trimN_le (dA0 L) 257 (dA0 L).length
 have h2:=trimN_ge (dA0 L) 257 (dA0 L).length (by rw [dA0_len]; decide)
 unfold dA
 rw [List.length_take]
 have:=dA0_len L
 omega
theorem dB_len (L:List Tk):1≤(dB L).length∧(dB L).length≤30:=by
 have h1:=trimN_le (dB0 L) 1 (dB0 L).length
 have h2:=trimN_ge (dB0 L) 1 (dB0 L).length (by rw [dB0_len]; decide)
 unfold dB
 rw [List.length_take]
 have:=dB0_len L
 omega
theorem tk_swap {a a0 b b0:List Int} (hA:∀ s,inC a0 s→inC a s∧qhc a s=qhc a0 s) (hB:∀ s,inC b0 s→inC b s∧qhc b s=qhc b0 s) {t:Tk} (h:tkIn a0 b0 t):tkIn a b t∧tkB a b t=tkB a0 b0 t:=by
 unfold tkIn at h
 unfold tkIn tkB
 by_cases g:t.2.1=0
 · rw [if_pos g] at h
   rw [if_pos g,if_pos g,if_pos g]
   exact hA _ h
 · rw [if_neg g] at h
   rw [if_neg g,if_neg g,if_neg g]
   refine ⟨⟨(hA _ h.1).1,(hB _ h.2).1⟩,?_⟩
   rw [(hA _ h.1).2,(hB _ h.2).2]
theorem tks_swap {a a0 b b0:List Int} (hA:∀ s,inC a0 s→inC a s∧qhc a s=qhc a0 s) (hB:∀ s,inC b0 s→inC b s∧qhc b s=qhc b0 s):∀ {M:List Tk},(∀ t ∈ M,tkIn a0 b0 t)→(∀ t ∈ M,tkIn a b t)∧tksB a b M=tksB a0 b0 M:=by
 intro M
 induction M with
 | nil=>intro _; exact ⟨fun t ht=>(by cases ht),rfl⟩
 | cons t M ih =>
   intro h
   have h1:=tk_swap hA hB (h t (by simp))
   have h2:=ih fun t ht=>h t (by simp [ht])
   refine ⟨fun u hu=>?_,?_⟩
   · rcases List.mem_cons.1 hu with rfl | hu
     · exact h1.1
     · exact h2.1 u hu
   · unfold tksB at h2 ⊢
     rw [List.flatMap_cons,List.flatMap_cons,h1.2,h2.2]
theorem d_tkB (hok:∀ t ∈ L,tkOk t):(∀ t ∈ L,tkIn (dA L) (dB L) t)∧tksB (dA L) (dB L) L=tksB (dA0 L) (dB0 L) L:=tks_swap (qko L).2.2 (dB_trim L).2.2 (d_tkIn hok)
theorem d_256 (L:List Tk):inC (dA0 L) 256∧inC (dA L) 256∧qhc (dA L) 256=qhc (dA0 L) 256:=by
 have h:=dA0_in (L:=L) (s:=256) (by decide) (by simp)
 exact ⟨h,(qko L).2.2 _ h⟩
theorem qio (L:List Tk):Runs (dA L ++ dB L) 0 (dPs L):=by
 refine runsL_runs fun x hx=>?_
 rcases List.mem_append.1 hx with h | h
 · have:=(qko L).1.1 x h; omega
 · have:=(dB_trim L).1.1 x h; omega
theorem d_ps (L:List Tk):∀ s ∈ dS0 L,s < 19:=by
 intro s hs
 obtain ⟨p,hp,rfl⟩:=List.mem_map.1 hs
 have:=(qio L).ok p hp
 have:=this.1
 have:=((qio L).ok p hp).2.1
 omega
theorem d_ps_pos (L:List Tk):1≤(dPs L).length:=by
 have h:(dA L ++ dB L).length ≠ 0:=by rw [List.length_append]; have:=dA_len L; omega
 unfold dPs runsL
 obtain ⟨n,hn⟩:∃ n,(dA L ++ dB L).length=n+1:=⟨(dA L ++ dB L).length - 1,by omega⟩
 rw [hn,runsF,if_neg (by omega),List.length_cons]
 omega
theorem qum (L:List Tk):(dPs L).length≤316:=by
 have:=(qio L).le
 rw [List.length_append] at this
 have:=dA_len L
 have:=dB_len L
 omega
theorem qjo (L:List Tk):(dS0 L).length=(dPs L).length:=List.length_map ..
theorem dS_len (L:List Tk):(dS L).length≤317:=by
 have:=qum L
 have:=qjo L
 unfold dS
 split
 · rw [List.length_append,List.length_singleton]; omega
 · omega
theorem d_head (L:List Tk):(dS0 L).headD 0 ∈ dS0 L:=by
 have h1:=d_ps_pos L
 have h2:=qjo L
 cases h:dS0 L with
 | nil=>rw [h] at h2; simp at h2; omega
 | cons x l=>simp
theorem dS0_sub (L:List Tk):∀ s ∈ dS0 L,s ∈ dS L:=by
 intro s hs
 unfold dS
 split
 · exact List.mem_append_left _ hs
 · exact hs
theorem two_mem {l:List Nat} {a b:Nat} (h1:a ∈ l) (h2:b ∈ l) (h:a ≠ b):2≤l.length:=by
 cases l with
 | nil=>cases h1
 | cons x l =>
   cases l with
   | nil =>
     rw [List.mem_singleton] at h1 h2
     exact absurd (h1.trans h2.symm) h
   | cons y l=>simp
theorem dK_lt (L:List Tk):dK L < 2:=Nat.mod_lt _ (by decide)
theorem qbj (L:List Tk):(dC L).length=19:=qwc _ _
theorem d_two (L:List Tk):2≤(qid (dC L)).length:=by
 have hh:=d_head L
 have h19:=d_ps L _ hh
 have m1:(dS0 L).headD 0 ∈ qid (dC L):=qag.2 ⟨by rw [qbj]; exact h19,(qik h19).2 (dS0_sub L _ hh)⟩
 by_cases hm:maxF (qvj 19 (dS0 L)) 18=(dPs L).length
 · have hk:=dK_lt L
   have m2:dK L ∈ qid (dC L):=qag.2 ⟨by rw [qbj]; omega,(qik (by omega)).2 (by unfold dS; rw [if_pos hm]; exact List.mem_append_right _ (List.mem_singleton.2 rfl))⟩
   refine two_mem m1 m2 ?_
   unfold dK
   omega
 · by_cases ha:∀ s ∈ dS0 L,(dS0 L).headD 0=s
   · exfalso
     have hc:(dS0 L).count ((dS0 L).headD 0)=(dS0 L).length:=List.count_eq_length.2 ha
     have h1:=maxF_le (qvj 19 (dS0 L)) 18 ((dS0 L).headD 0) (by omega)
     obtain ⟨j,_,h2⟩:=maxF_in (qvj 19 (dS0 L)) 18
     have h3:=qbh (n:=19) (S:=dS0 L) j
     rw [qvm _ h19,hc] at h1
     rw [← h2] at h3
     have:=qjo L
     omega
   · obtain ⟨s,hs,hne⟩:∃ s ∈ dS0 L,(dS0 L).headD 0 ≠ s:=by
      refine Classical.byContradiction fun hno=>ha fun s hs=>Classical.byContradiction fun hne=>hno ⟨s,hs,hne⟩
     have hs19:=d_ps L s hs
     exact two_mem m1 (qag.2 ⟨by rw [qbj]; exact hs19,(qik hs19).2 (dS0_sub L s hs)⟩) hne
theorem dCl_len (L:List Tk):(dCl L).length=19:=by unfold dCl; rw [qsg,qbj]
theorem dCl_okC (L:List Tk):okC (dCl L):=lenP_okC (by rw [qbj]; decide) (by decide) (by decide)
theorem dCl_new (L:List Tk):qih (dCl L) false=0:=by
 have hl:=qbj L
 obtain ⟨h1,h2⟩:=lenP_chk (xs:=dC L) (M:=7) (by omega) (qsh (by rw [hl]; decide)) (by decide) (by decide)
 have h3:=(kr_lenP (xs:=dC L) (M:=7) (qsh (by rw [hl]; decide)) (by decide) (by decide)).2 (d_two L)
 rw [h3] at h2
 unfold qih dCl
 rw [if_neg (fun e=>e h1),if_neg (by rw [h2]; simp)]
theorem dCl_b (L:List Tk) (j:Nat):0≤(dCl L).getD j 0∧(dCl L).getD j 0 < 8:=by
 rcases Nat.lt_or_ge j 19 with h | h
 · have hj:j < (dC L).length:=by rw [qbj]; exact h
   unfold dCl
   rw [qvn hj]
   have:=(lenF_ok (xs:=dC L) (m:=7) (qsh (by rw [qbj]; decide)) (by decide) hj).1
   omega
 · rw [List.getD_eq_getElem?_getD,List.getElem?_eq_none (by rw [dCl_len]; exact h)]
   decide
theorem dCl_in (L:List Tk):∀ q ∈ dPs L,inC (dCl L) q.1.toNat:=by
 intro q hq
 have hm:q.1.toNat ∈ dS0 L:=List.mem_map.2 ⟨q,hq,rfl⟩
 have h19:=d_ps L _ hm
 unfold dCl
 rw [lenP_in (by rw [qbj]; decide) (by decide),qbj]
 exact ⟨h19,(qik h19).2 (dS0_sub L _ hm)⟩
theorem dOc_get (L:List Tk) {j:Nat} (h:j < 19):(dOc L).getD j 0=(dCl L).getD (qvf.getD j 0).toNat 0:=by
 have hz:j < qvf.length:=h
 unfold dOc
 simp [List.getD,hz]
theorem dN_b (L:List Tk):4≤dN L∧dN L≤19:=⟨trimN_ge _ _ _ (by decide),trimN_le _ _ _⟩
theorem dynB_ok {xs:List Int} (hb:∀ x ∈ xs,0≤x∧x < 256) (hL:que xs 0 L xs.length):Dfl xs (dynB L):=by
 have hok:=hL.tkOk hb
 have h1:=dA_len L
 have h2:=dB_len L
 have h3:=dN_b L
 exact Dfl.dynamic hb hL (d_tkB hok).1 h1.1 h1.2 h2.1 h2.2 (dCl_len L) (dCl_b L) h3.1 h3.2 (fun j hj hj2=>by
  rw [← dOc_get L hj2]
  exact trimN_no _ _ _ _ hj hj2) (dCl_okC L) (dCl_new L) (qio L) (dCl_in L) (qko L).1 (dB_trim L).1 (qko L).2.1 (dB_trim L).2.1 (d_256 L).2.1
end
end Go.Proofs.Ythdmmmfgjmmelaa
namespace Go.Proofs.Ythdmmmfgjmmelaa
open Go Go.Proofs
set_option linter.unusedVariables false
set_option linter.unusedSimpArgs false
attribute [local irreducible] apK cpK mkK br
theorem pcB_len {cl:List Int} (h:okL cl) {p:Pc} (hp:pcOk p):(pcB cl p).length≤22:=by
 have h1:=qbf h p.1.toNat
 have h2:=hp.2.2
 unfold pcB
 rw [List.length_append,ql]
 omega
theorem pcsB_len {cl:List Int} (h:okL cl):∀ {P:List Pc},(∀ p ∈ P,pcOk p)→(pcsB cl P).length≤22 * P.length:=by
 intro P
 induction P with
 | nil=>intro _; exact Nat.le_refl _
 | cons p P ih =>
   intro hp
   have h1:=pcB_len h (hp p (by simp))
   have h2:=ih fun q hq=>hp q (by simp [hq])
   unfold pcsB at h2 ⊢
   rw [List.flatMap_cons,List.length_append,List.length_cons]
   omega
theorem pcsB_snoc (cl:List Int) (P:List Pc) (p:Pc):pcsB cl (P ++ [p])=pcsB cl P ++ pcB cl p:=by simp [pcsB]
section
variable {F0:List Nat} {w0 w:World} {ps r1 r2 r3 r4:List As} {kb wb lb db cb:Nat} {s A B t11 t15 t19:Sl} {ll dl cl:List Int} {L:List Tk} {P:List Pc} {l:List Bool} {K:Ending→World→Prop}
structure DynOk (ll dl cl:List Int) (L:List Tk) (P:List Pc):Prop where
 tk:∀ t ∈ L,tkOk t
 len:L.length≤1000000
 tin:∀ t ∈ L,tkIn ll dl t
 i256:inC ll 256
 ll:okL ll
 dl:okL dl
 pc:∀ p ∈ P,pcOk p
 pin:∀ p ∈ P,inC cl p.1.toNat
 plen:P.length≤1000
 cl:okL cl
theorem qd.pcs (h:St F0 w0 w (wrL wb l :: ps)) [PkB kb ps [.slice s.a s.len s.cap,.slice A.a A.len A.cap,.slice B.a B.len B.cap] r1] [PkF hcA lb ps ll r2] [PkF hcA db ps dl r3] [PkF hcA cb ps cl r4]
 [Rdb F0 w0 t11 ps 3 (P.flatMap pcC)] [Rdb F0 w0 s ps 3 (tks L)] (o:DynOk ll dl cl L P) (hl:l.length≤10000)
 (hk:∀ t w',t.len=((l ++ (pcsB cl P ++ (tksB ll dl L ++ qhc ll 256))).length+7) / 8→t.cap=t.len→St F0 w0 w' (rdA 1 t (u8s (bytes (l ++ (pcsB cl P ++ (tksB ll dl L ++ qhc ll 256))))) :: ps)→K (.returned (.slice t.a t.len t.cap)) w') :
 qd.j13 (some ⟨kb,0,none⟩) (some ⟨lb,0,none⟩) (some ⟨db,0,none⟩) t11 (some ⟨cb,0,none⟩) (some ⟨wb,0,none⟩) (fun v w'=>K (.returned v) w') w:=by
 have hpl:P.length=t11.len:=h.rlen (f:=pcC)
 have h15:=o.plen
 unfold qd.j13 qd.j15
 refine qsf (fun (i:Nat) (i':Int) w'=>i'=i∧i≤P.length∧St F0 w0 w' (wrL wb (l ++ pcsB cl (P.take i)) :: ps)) (fun i=>P.length - i) 0 ⟨rfl,by omega,by simpa [pcsB] using h⟩ ?_
 clear h
 rintro i i' wL I μ ⟨rfl,hi,h⟩ hnx
 have hbl:=pcsB_len o.cl (P:=P.take i) (fun p hp=>o.pc p (List.mem_of_mem_take hp))
 rw [List.length_take] at hbl
 unfold qd.b1
 refine qzc (fun g=>?_) (fun g=>?_)
 · have hi2:i < P.length:=by omega
   have hpc:=o.pc _ (List.getElem_mem hi2)
   have hpi:=o.pin _ (List.getElem_mem hi2)
   have et:P.take (i+1)=P.take i ++ [P[i]]:=List.take_succ_eq_append_getElem hi2
   refine h.lr (s:=t11) (f:=pcC) i rfl hi2 ?_
   rw [qmh]
   refine h.new fun a w h=>⟨rfl,?_⟩
   have h:St F0 w0 w (qxc a (pcC (0,0,0)) :: wrL wb (l ++ pcsB cl (P.take i)) :: ps):=h
   refine h.sA (b:=a) (l':=pcC P[i]) rfl rfl (qwf _) fun w h=>?_
   have h:St F0 w0 w (qxc a [.int .i64 P[i].1,.int .i64 P[i].2.1,.int .i64 P[i].2.2] :: wrL wb (l ++ pcsB cl (P.take i)) :: ps):=h
   have h:=h.at1
   simp only [qme,Nat.zero_add]
   refine h.fI (b:=a) ?_
   refine qfe.c (cb:=cb) (ls:=cl) h (by rw [List.length_append]; omega) fun w h=>⟨_,rfl,?_⟩
   rw [qyn hpc.1 hpi] at h
   have hs:=qbf o.cl P[i].1.toNat
   refine h.fI (b:=a) (h.fI (b:=a) ?_)
   refine qdb.cl h (by simp only [List.length_append]; omega) fun w h=>⟨rfl,?_⟩
   rw [qri hpc.2.2.1 (by have:=hpc.2.2.2; omega)] at h
   refine qy (qk (by omega) (by omega)) ?_
   refine ⟨⟨by trivial,by trivial,by trivial,by trivial,by trivial,by trivial,by trivial⟩,hnx (i+1) _ _ ⟨by omega,by omega,?_⟩ (by omega)⟩
   rw [et,pcsB_snoc]
   unfold pcB
   simp only [List.append_assoc] at h ⊢
   exact h.sub
 · have:i=P.length:=by omega
   subst this
   rw [List.take_length] at h hbl
   unfold qd.j14
   refine qzb.c (kb:=kb) (wb:=wb) (lb:=lb) (db:=db) (s:=s) (A:=A) (B:=B) (L:=L) (ll:=ll) (dl:=dl) h o.tk o.len o.tin o.i256 o.ll o.dl (by rw [List.length_append]; omega) fun w h=>⟨rfl,?_⟩
   have hb:=qsm o.ll o.dl o.tk
   have hs:=qbf o.ll 256
   have hlen:=o.len
   rw [List.append_assoc] at h
   refine qsd.c h (by simp only [List.length_append]; omega) fun t w h1 h2 h=>⟨t,rfl,?_⟩
   exact hk t w h1 h2 h.sub
theorem qd.cls {n:Nat} (h:St F0 w0 w (wrL wb l :: ps)) [PkB kb ps [.slice s.a s.len s.cap,.slice A.a A.len A.cap,.slice B.a B.len B.cap] r1] [PkF hcA lb ps ll r2] [PkF hcA db ps dl r3] [PkF hcA cb ps cl r4]
 [Rdb F0 w0 t11 ps 3 (P.flatMap pcC)] [Rdb F0 w0 s ps 3 (tks L)] [Rdb F0 w0 t15 ps 1 (ivs .i64 cl)] [Rdb F0 w0 t19 ps 1 (ivs .i64 qvf)] (h19:t19.len≤t19.cap) (hcl:cl.length=19) (hn:n≤19) (o:DynOk ll dl cl L P) (hl:l.length≤1000)
 (hk:∀ t w',t.len=((l ++ ((qvf.take n).flatMap (fun s=>qo (cl.getD s.toNat 0) 3) ++ (pcsB cl P ++ (tksB ll dl L ++ qhc ll 256)))).length+7) / 8→t.cap=t.len→St F0 w0 w' (rdA 1 t (u8s (bytes (l ++ ((qvf.take n).flatMap (fun s=>qo (cl.getD s.toNat 0) 3) ++ (pcsB cl P ++ (tksB ll dl L ++ qhc ll 256)))))) :: ps)→K (.returned (.slice t.a t.len t.cap)) w') :
 qd.j12 (some ⟨kb,0,none⟩) (some ⟨lb,0,none⟩) (some ⟨db,0,none⟩) t11 t15 (some ⟨cb,0,none⟩) t19 (n:Int) (some ⟨wb,0,none⟩) (fun v w'=>K (.returned v) w') w:=by
 have hl19:=(h.rdb t19).1
 rw [qx,show qvf.length=19 from rfl] at hl19
 unfold qd.j12
 refine bd_i (n:=n) rfl (by omega) (qcj ?_)
 haveI:Rdb F0 w0 ⟨qzf t19.a t19.cap 0 1,n - 0,t19.cap - 0⟩ ps 1 (ivs .i64 (qvf.take n)):=St.cutR h.drop t19 0 n _ (by omega) (by omega) h19 rfl
 generalize hq:(⟨qzf t19.a t19.cap 0 1,n - 0,t19.cap - 0⟩:Sl)=q at *
 have hql:q.len=n:=by rw [← hq]; rfl
 have hll:(qvf.take n).length=n:=by rw [List.length_take]; exact Nat.min_eq_left hn
 unfold qd.j16
 refine qsf (fun (i:Nat) (i':Int) w'=>i'=i∧i≤n∧St F0 w0 w' (wrL wb (l ++ ((qvf.take n).take i).flatMap (fun s=>qo (cl.getD s.toNat 0) 3)) :: ps)) (fun i=>n - i) 0 ⟨rfl,by omega,by simpa using h⟩ ?_
 clear h
 rintro i i' wL I μ ⟨rfl,hi,h⟩ hnx
 have hbl:=qdo (S:=(qvf.take n).take i) (f:=fun s=>qo (cl.getD s.toNat 0) 3) (fun s=>ql _ _)
 rw [List.length_take,hll] at hbl
 unfold qd.b2
 refine qzc (fun g=>?_) (fun g=>?_)
 · have hi2:i < n:=by omega
   refine h.lx (s:=q) i rfl (by omega) ?_
   have hz:=zord_lt i (by omega)
   have et:(qvf.take n).take (i+1)=(qvf.take n).take i ++ [qvf.getD i 0]:=by
    rw [← qzj (l:=qvf) hi2]
    exact qmf (by omega)
   rw [qzj hi2]
   refine h.lx (s:=t15) (qvf.getD i 0).toNat (by omega) (by omega) ?_
   refine qdb.cl h (by simp only [List.length_append]; omega) fun w h=>⟨rfl,?_⟩
   rw [qri (by decide) (by decide),show (3:Int).toNat=3 from rfl] at h
   refine qy (qk (by omega) (by omega)) ?_
   refine ⟨⟨rfl,rfl,rfl,rfl,rfl,rfl,rfl,rfl,rfl⟩,hnx (i+1) _ _ ⟨by omega,by omega,?_⟩ (by omega)⟩
   rw [et,List.flatMap_append]
   rw [List.append_assoc] at h
   simpa using h
 · have:i=n:=by omega
   subst this
   rw [List.take_of_length_le (by omega)] at h hbl
   refine qd.pcs (kb:=kb) (wb:=wb) (lb:=lb) (db:=db) (cb:=cb) (s:=s) (A:=A) (B:=B) (ll:=ll) (dl:=dl) (cl:=cl) (t11:=t11) h o (by rw [List.length_append]; omega) fun t w h1 h2 h=>?_
   simp only [List.append_assoc] at h1 h
   exact hk t w h1 h2 h
theorem qd.hdr {n:Nat} {t3 t5:Sl} (h:St F0 w0 w ps) [PkB kb ps [.slice s.a s.len s.cap,.slice A.a A.len A.cap,.slice B.a B.len B.cap] r1] [PkF hcA lb ps ll r2] [PkF hcA db ps dl r3] [PkF hcA cb ps cl r4]
 [Rdb F0 w0 t11 ps 3 (P.flatMap pcC)] [Rdb F0 w0 s ps 3 (tks L)] [Rdb F0 w0 t15 ps 1 (ivs .i64 cl)] [Rdb F0 w0 t19 ps 1 (ivs .i64 qvf)] (h19:t19.len≤t19.cap) (hcl:cl.length=19) (hn:n≤19) (hn4:4≤n) (o:DynOk ll dl cl L P) {a b:List Int}
 (h3:t3.len=a.length) (h5:t5.len=b.length) (ha:a.length≤286) (hb:b.length≤30) (hab:qhc a 256=qhc ll 256) (htk:tksB a b L=tksB ll dl L)
 (hk:∀ t w',t.len=((dyB a b cl n P L).length+7) / 8→t.cap=t.len→St F0 w0 w' (rdA 1 t (u8s (bytes (dyB a b cl n P L))) :: ps)→K (.returned (.slice t.a t.len t.cap)) w') :
 qd.j9 (some ⟨kb,0,none⟩) t3 t5 (some ⟨lb,0,none⟩) (some ⟨db,0,none⟩) t11 t15 (some ⟨cb,0,none⟩) t19 (n:Int) (fun v w'=>K (.returned v) w') w:=by
 unfold qd.j9
 refine qie.c h fun wb w h=>⟨_,rfl,?_⟩
 unfold qd.j10
 refine qdb.cl h (by simp) fun w h=>⟨rfl,?_⟩
 rw [show ([] ++ pb 5 3:List Bool)=[true,false,true] by decide +kernel] at h
 refine qy (qk (by omega) (by omega)) ?_
 refine qy (show IntKind.i64.wrap ((t3.len:Int) - 256 - 1)=(a.length:Int) - 257 by rw [qk (by omega) (by omega)]; omega) ?_
 refine qdb.cl h (by simp) fun w h=>⟨rfl,?_⟩
 rw [qri (by decide) (by decide),show (5:Int).toNat=5 from rfl] at h
 unfold qd.j11
 refine qy (show IntKind.i64.wrap ((t5.len:Int) - 1)=(b.length:Int) - 1 by rw [qk (by omega) (by omega)]; omega) ?_
 refine qdb.cl h (by simp [ql]) fun w h=>⟨rfl,?_⟩
 rw [qri (by decide) (by decide),show (5:Int).toNat=5 from rfl] at h
 refine qy (qk (by omega) (by omega)) ?_
 refine qdb.cl h (by simp [ql]) fun w h=>⟨rfl,?_⟩
 rw [qri (by decide) (by decide),show (4:Int).toNat=4 from rfl] at h
 refine qd.cls (kb:=kb) (wb:=wb) (lb:=lb) (db:=db) (cb:=cb) (s:=s) (A:=A) (B:=B) (ll:=ll) (dl:=dl) (cl:=cl) (t11:=t11) (t15:=t15) (t19:=t19) (P:=P) (L:=L) h h19 hcl hn o (by simp [ql]) fun t w h1 h2 h=>?_
 have e:[true,false,true] ++ qo ((a.length:Int) - 257) 5 ++ qo ((b.length:Int) - 1) 5 ++ qo ((n:Int) - 4) 4 ++ ((qvf.take n).flatMap (fun s=>qo (cl.getD s.toNat 0) 3) ++ (pcsB cl P ++ (tksB ll dl L ++ qhc ll 256)))=dyB a b cl n P L:=by
  unfold dyB hdB
  rw [htk,hab]
  simp only [List.append_assoc]
 rw [e] at h1 h
 exact hk t w h1 h2 h
end
end Go.Proofs.Ythdmmmfgjmmelaa
namespace Go.Proofs.Ythdmmmfgjmmelaa
open Go Go.Proofs
set_option linter.unusedVariables false
set_option linter.unusedSimpArgs false
attribute [local irreducible] apK cpK mkK br dA dB dA0 dB0 dPs dS0 dK dS dC dCl dOc dN dynB lenP qxf runsL maxF
section
variable {F0:List Nat} {w0 w:World} {ps r1:List As} {kb:Nat} {s A B:Sl} {L:List Tk} {K:Ending→World→Prop}
theorem litC_least (hL:L.length≤1000000):leastE (litC L) 15=0:=by
 have hg:goodX (litC L):=qlo (by decide) (by rw [List.length_append,List.length_map,List.length_singleton]; omega)
 have hc:=qyl (litC L)
 rw [qph] at hc
 unfold leastE
 rw [if_neg (by rintro (e | e | e); exact e hg; omega; omega),if_neg (by show ¬ 32768 < _; omega)]
theorem disC_least (hL:L.length≤1000000):leastE (disC L) 15=0:=by
 have hg:goodX (disC L):=qlo (by decide) (by have:=disS_len L; omega)
 have hc:=qyl (disC L)
 rw [qrh] at hc
 unfold leastE
 rw [if_neg (by rintro (e | e | e); exact e hg; omega; omega),if_neg (by show ¬ 32768 < _; omega)]
theorem dC_least (L:List Tk):leastE (dC L) 7=0:=by
 have hg:goodX (dC L):=by
  rw [← dC_def]
  exact qlo (by decide) (by have:=dS_len L; omega)
 have hc:=qyl (dC L)
 rw [qbj] at hc
 unfold leastE
 rw [if_neg (by rintro (e | e | e); exact e hg; omega; omega),if_neg (by show ¬ 128 < _; omega)]
theorem dyn_ok (hok:∀ t ∈ L,tkOk t) (hL:L.length≤1000000):DynOk (dA0 L) (dB0 L) (dCl L) L (dPs L) :=
 ⟨hok,hL,d_tkIn hok,(d_256 L).1,(dA0_okC L).1,(dB0_okC L).1,(qio L).ok,dCl_in L,by have:=qum L; omega,(dCl_okC L).1⟩
theorem qd.j8c {qs r2 r3:List As} {lb db:Nat} {ta tb t11 t12:Sl} (hq:∀ (F0:List Nat) (w0 w:World),St F0 w0 w qs→St F0 w0 w ps) [PkB kb qs [.slice s.a s.len s.cap,.slice A.a A.len A.cap,.slice B.a B.len B.cap] r1] [PkF hcA lb qs (dA0 L) r2] [PkF hcA db qs (dB0 L) r3] [Rdb F0 w0 s qs 3 (tks L)]
 (hok:∀ t ∈ L,tkOk t) (hL:L.length≤1000000) (hta:ta.len=(dA L).length) (htb:tb.len=(dB L).length) (h11:t11.len=(dPs L).length)
 (hk:∀ t w',t.len=((dynB L).length+7) / 8→t.cap=t.len→St F0 w0 w' (rdA 1 t (u8s (bytes (dynB L))) :: ps)→K (.returned (.slice t.a t.len t.cap)) w') {cb:Nat} {t15 t19:Sl} (h19:t19.len=19∧t19.cap=19) (h15:t15.len=19)
 (h:St F0 w0 w (rdA 1 t19 (ivs .i64 qvf) :: hcA cb (dCl L) :: qdc 1 t15 (ivs .i64 (dCl L)) :: qdc 1 t12 (ivs .i64 (dC L)) :: qdc 3 t11 ((dPs L).flatMap pcC) :: qs)) :
 qd.j8 (some ⟨kb,0,none⟩) ta tb (some ⟨lb,0,none⟩) (some ⟨db,0,none⟩) t11 t15 (some ⟨cb,0,none⟩) t19 ((19:Nat):Int) (fun v w'=>K (.returned v) w') w:=by
 have la:=dA_len L
 have lb':=dB_len L
 unfold qd.j8
 refine qsf (fun (n:Nat) (n':Int) w'=>n'=n∧n≤19∧4≤n∧qxf (dOc L) 4 n=dN L∧St F0 w0 w' (rdA 1 t19 (ivs .i64 qvf) :: hcA cb (dCl L) :: qdc 1 t15 (ivs .i64 (dCl L)) :: qdc 1 t12 (ivs .i64 (dC L)) :: qdc 3 t11 ((dPs L).flatMap pcC) :: qs)) (fun n=>n) 19 ⟨rfl,Nat.le_refl _,by decide,dN_def L,h⟩ ?_
 clear h
 rintro n n' wL I μ ⟨rfl,hn,hn4,htr,h⟩ hnx
 have done:∀ w,qxf (dOc L) 4 n=n→St F0 w0 w (rdA 1 t19 (ivs .i64 qvf) :: hcA cb (dCl L) :: qdc 1 t15 (ivs .i64 (dCl L)) :: qdc 1 t12 (ivs .i64 (dC L)) :: qdc 3 t11 ((dPs L).flatMap pcC) :: qs)→qd.j9 (some ⟨kb,0,none⟩) ta tb (some ⟨lb,0,none⟩) (some ⟨db,0,none⟩) t11 t15 (some ⟨cb,0,none⟩) t19 (n:Int) (fun v w'=>K (.returned v) w') w:=by
  intro w e h
  rw [e] at htr
  have hd:=d_tkB hok
  refine qd.hdr (kb:=kb) (lb:=lb) (db:=db) (cb:=cb) (s:=s) (A:=A) (B:=B) (ll:=dA0 L) (dl:=dB0 L) (cl:=dCl L) (t11:=t11) (t15:=t15) (t19:=t19) (P:=dPs L) (L:=L) (a:=dA L) (b:=dB L) h (by omega) (dCl_len L) hn hn4 (dyn_ok hok hL) hta htb la.2 lb'.2 (d_256 L).2.2 hd.2 fun t w h1 h2 h=>?_
  rw [htr,dynB_def] at h1 h
  exact hk t w h1 h2 (h.tail fun _ _ _ h=>hq _ _ _ h.drop.drop.drop.drop.drop)
 unfold qd.b3
 refine qzc (fun g=>?_) (fun g=>?_)
 · obtain ⟨k,rfl⟩:∃ k,n=k+1:=⟨n - 1,by omega⟩
   have e:IntKind.i64.wrap (((k+1:Nat):Int) - 1)=(k:Int):=by rw [qk (by omega) (by omega)]; omega
   refine qy e ?_
   refine h.lx (s:=t19) k rfl (by show k < 19; omega) ?_
   have hz:=zord_lt k (by omega)
   refine h.lx (s:=t15) (qvf.getD k 0).toNat (by omega) (by rw [dCl_len]; omega) ?_
   rw [← dOc_get L (show k < 19 by omega)]
   refine qpf (fun g2=>?_) (fun g2=>?_)
   · have g2:(dOc L).getD k 0=0:=by simpa using g2
     refine qy e ?_
     refine ⟨⟨rfl,rfl,rfl,rfl,rfl,rfl,rfl,rfl,rfl⟩,hnx k _ _ ⟨rfl,by omega,by omega,?_,h⟩ (by omega)⟩
     rw [← htr,qxf,if_pos ⟨by omega,g2⟩]
   · have g2:¬ (dOc L).getD k 0=0:=by simpa using g2
     refine done wL ?_ h
     rw [qxf,if_neg fun e=>g2 e.2]
 · refine done wL ?_ h
   obtain ⟨k,rfl⟩:∃ k,n=k+1:=⟨n - 1,by omega⟩
   rw [qxf,if_neg (by omega)]
theorem qd.j6c {qs r2 r3:List As} {lb db:Nat} {ta tb t11 t12:Sl} (hq:∀ (F0:List Nat) (w0 w:World),St F0 w0 w qs→St F0 w0 w ps) [PkB kb qs [.slice s.a s.len s.cap,.slice A.a A.len A.cap,.slice B.a B.len B.cap] r1] [PkF hcA lb qs (dA0 L) r2] [PkF hcA db qs (dB0 L) r3] [Rdb F0 w0 s qs 3 (tks L)]
 (hok:∀ t ∈ L,tkOk t) (hL:L.length≤1000000) (hta:ta.len=(dA L).length) (htb:tb.len=(dB L).length) (h11:t11.len=(dPs L).length)
 (hk:∀ t w',t.len=((dynB L).length+7) / 8→t.cap=t.len→St F0 w0 w' (rdA 1 t (u8s (bytes (dynB L))) :: ps)→K (.returned (.slice t.a t.len t.cap)) w')
 (h:St F0 w0 w (qdc 1 t12 (ivs .i64 (dC L)) :: qdc 3 t11 ((dPs L).flatMap pcC) :: qs)):qd.j6 (some ⟨kb,0,none⟩) ta tb (some ⟨lb,0,none⟩) (some ⟨db,0,none⟩) t11 t12 (fun v w'=>K (.returned v) w') w:=by
 unfold qd.j6
 refine qm.c (s:=t12) (xs:=dC L) (m:=7) h (fun t15 w _ h15 h=>⟨t15,_,rfl,?_⟩) (fun w he _=>absurd (dC_least L) he)
 rw [dCl_def] at h
 rw [qbj] at h15
 refine qub.c (s:=t15) (ls:=dCl L) h (fun cb w hn h=>⟨_,_,rfl,?_⟩) (fun w hn _=>absurd (dCl_new L) hn)
 unfold qd.j7
 refine h.new fun ob w h=>?_
 have h:St F0 w0 w (qxc ob (ivs .i64 qvf) :: hcA cb (dCl L) :: qdc 1 t15 (ivs .i64 (dCl L)) :: qdc 1 t12 (ivs .i64 (dC L)) :: qdc 3 t11 ((dPs L).flatMap pcC) :: qs):=h
 have h:=h.blkrd (n:=19) rfl
 generalize hob:(⟨some ⟨ob,0,none⟩,19,19⟩:Sl)=t19 at h
 have h19:t19.len=19∧t19.cap=19:=by rw [← hob]; exact ⟨rfl,rfl⟩
 have go:=qd.j8c (kb:=kb) (lb:=lb) (db:=db) (s:=s) (A:=A) (B:=B) (L:=L) (ta:=ta) (tb:=tb) hq hok hL hta htb h11 hk h19 h15 h
 exact go
theorem qd.j5c {qs r2 r3:List As} {lb db:Nat} {ta tb t11 t12:Sl} (hq:∀ (F0:List Nat) (w0 w:World),St F0 w0 w qs→St F0 w0 w ps) [PkB kb qs [.slice s.a s.len s.cap,.slice A.a A.len A.cap,.slice B.a B.len B.cap] r1] [PkF hcA lb qs (dA0 L) r2] [PkF hcA db qs (dB0 L) r3] [Rdb F0 w0 s qs 3 (tks L)]
 (hok:∀ t ∈ L,tkOk t) (hL:L.length≤1000000) (hta:ta.len=(dA L).length) (htb:tb.len=(dB L).length) (h11:t11.len=(dPs L).length)
 (hk:∀ t w',t.len=((dynB L).length+7) / 8→t.cap=t.len→St F0 w0 w' (rdA 1 t (u8s (bytes (dynB L))) :: ps)→K (.returned (.slice t.a t.len t.cap)) w')
 (h:St F0 w0 w (qdc 1 t12 (ivs .i64 (qvj 19 (dS0 L))) :: qdc 3 t11 ((dPs L).flatMap pcC) :: qs)):qd.j5 (some ⟨kb,0,none⟩) ta tb (some ⟨lb,0,none⟩) (some ⟨db,0,none⟩) t11 t12 (fun v w'=>K (.returned v) w') w:=by
 have lp:=qum L
 have lp1:=d_ps_pos L
 have lS:=qjo L
 have hm0:=maxF_in (qvj 19 (dS0 L)) 18
 unfold qd.j5
 refine qsb.c (s:=t12) h (by rw [qwc]; decide) (by rw [qwc]; decide) fun w h=>⟨_,rfl,?_⟩
 rw [qwc,show 19 - 1=18 from rfl]
 refine qpf (fun g=>?_) (fun g=>?_)
 · have g:maxF (qvj 19 (dS0 L)) 18=(t11.len:Int):=by simpa using g
   have hdS:=dS_yes (L:=L) (by omega)
   have hpc:=(qio L).ok _ (List.getElem_mem lp1)
   have hk2:=dK_lt L
   have ek:(dK L:Int)=Int.tmod ((dPs L)[0].1+1) 2:=by
    have:=hpc.1
    have e0:=dK_at (L:=L) (by omega)
    rw [Int.tmod_eq_emod_of_nonneg (by omega)]
    omega
   refine h.lrI (s:=t11) (f:=pcC) (o:=0) 0 rfl lp1 (by decide) rfl ?_
   have:=hpc.1
   have:=hpc.2.1
   refine qy (qk (by omega) (by omega)) ⟨by decide,?_⟩
   have hc1:=qbh (n:=19) (S:=dS0 L) (dK L)
   refine qy ek.symm ?_
   refine h.lx (s:=t12) (dK L) rfl (by rw [qwc]; omega) ?_
   refine qy (qk (by omega) (by omega)) ?_
   refine h.sx (s:=t12) (dK L) rfl (by rw [qwc]; omega) fun w h=>?_
   rw [quj _ (by omega),← hdS,dC_def] at h
   exact qd.j6c (kb:=kb) (lb:=lb) (db:=db) (s:=s) (A:=A) (B:=B) (L:=L) (ta:=ta) (tb:=tb) hq hok hL hta htb h11 hk h
 · have g:¬ maxF (qvj 19 (dS0 L)) 18=(t11.len:Int):=by simpa using g
   have hdS:=dS_no (L:=L) (by omega)
   rw [← hdS,dC_def] at h
   exact qd.j6c (kb:=kb) (lb:=lb) (db:=db) (s:=s) (A:=A) (B:=B) (L:=L) (ta:=ta) (tb:=tb) hq hok hL hta htb h11 hk h
theorem qd.c (h:St F0 w0 w ps) [PkB kb ps [.slice s.a s.len s.cap,.slice A.a A.len A.cap,.slice B.a B.len B.cap] r1] [Rdb F0 w0 A ps 1 (ivs .i64 (litC L))] [Rdb F0 w0 B ps 1 (ivs .i64 (disC L))] [Rdb F0 w0 s ps 3 (tks L)] (hok:∀ t ∈ L,tkOk t) (hL:L.length≤1000000)
 (hk:∀ t w',t.len=((dynB L).length+7) / 8→t.cap=t.len→St F0 w0 w' (rdA 1 t (u8s (bytes (dynB L))) :: ps)→K (.returned (.slice t.a t.len t.cap)) w'):Calls Try.prog 81 ⟨[.pointer (some ⟨kb,0,none⟩)]⟩ w K:=by
 have la:=dA_len L
 have lb':=dB_len L
 have lp:=qum L
 have lp1:=d_ps_pos L
 refine qoc (qd.ok _ _ _ ?_)
 unfold qd
 refine qrd ?_
 simp only [qme,Nat.zero_add]
 refine h.fL (b:=kb) ?_
 refine qm.c (s:=A) (xs:=litC L) (m:=15) h (fun t3 w _ h3 h=>⟨t3,_,rfl,?_⟩) (fun w he _=>absurd (litC_least hL) he)
 rw [dA0_def] at h
 rw [qph] at h3
 unfold qd.j1
 refine qrd ?_
 simp only [qme,Nat.zero_add]
 refine h.fL (b:=kb) ?_
 refine qm.c (s:=B) (xs:=disC L) (m:=15) h (fun t5 w _ h5 h=>⟨t5,_,rfl,?_⟩) (fun w he _=>absurd (disC_least hL) he)
 rw [dB0_def] at h
 rw [qrh] at h5
 have c5:=h.cap (by decide)
 have c3:=h.drop.cap (by decide)
 refine qub.c (s:=t3) (ls:=dA0 L) h (fun lb w hn h=>⟨_,_,rfl,?_⟩) (fun w hn _=>absurd (dA0_new L) hn)
 unfold qd.j2
 refine qub.c (s:=t5) (ls:=dB0 L) h (fun db w hn h=>⟨_,_,rfl,?_⟩) (fun w hn _=>absurd (dB0_new L) hn)
 refine qfd.c (s:=t3) (xs:=dA0 L) (m:=257) h (by rw [dA0_len]; decide) c3 fun ta w ra hta hca h=>⟨ta,rfl,?_⟩
 refine qfd.c (s:=t5) (xs:=dB0 L) (m:=1) h (by rw [dB0_len]; decide) c5 fun tb w rb htb hcb h=>⟨tb,rfl,?_⟩
 rw [dA_def] at ra
 rw [dB_def] at rb
 have hta:ta.len=(dA L).length:=by
  have:=(h.rdb ta).1
  rw [qx] at this; omega
 have htb:tb.len=(dB L).length:=by
  have:=(h.rdb tb).1
  rw [qx] at this; omega
 generalize hps:hcA db (dB0 L) :: hcA lb (dA0 L) :: qdc 1 t5 (ivs .i64 (dB0 L)) :: qdc 1 t3 (ivs .i64 (dA0 L)) :: ps=qs at h ra rb
 have i1:∃ r,PkB kb qs [.slice s.a s.len s.cap,.slice A.a A.len A.cap,.slice B.a B.len B.cap] r:=⟨_,by rw [← hps]; infer_instance⟩
 have i2:∃ r,PkF hcA lb qs (dA0 L) r:=⟨_,by rw [← hps]; infer_instance⟩
 have i3:∃ r,PkF hcA db qs (dB0 L) r:=⟨_,by rw [← hps]; infer_instance⟩
 have i4:Rdb F0 w0 s qs 3 (tks L):=by rw [← hps]; infer_instance
 have hq:∀ (F0:List Nat) (w0 w:World),St F0 w0 w qs→St F0 w0 w ps:=fun F0 w0 w h=>by rw [← hps] at h; exact h.drop.drop.drop.drop
 clear hps
 obtain ⟨r1,i1⟩:=i1
 obtain ⟨r2,i2⟩:=i2
 obtain ⟨r3,i3⟩:=i3
 unfold qd.j3
 refine h.new fun nb w h=>?_
 have h:St F0 w0 w (qxc nb [.slice ta.a ta.len ta.cap,.slice tb.a tb.len tb.cap] :: qs):=h
 refine qv.c2 (A:=ta) (B:=tb) (xs:=dA L) (ys:=dB L) h (by omega) fun tc w htc h=>⟨tc,rfl,?_⟩
 refine qeb.c (s:=tc) (xs:=dA L ++ dB L) h (by rw [List.length_append]; omega) fun t11 w h11 h=>⟨t11,rfl,?_⟩
 rw [dPs_def] at h h11
 have h:St F0 w0 w (qdc 3 t11 ((dPs L).flatMap pcC) :: qs):=h.tail fun _ _ _ h=>h.drop.drop
 refine h.makeI (k:=.i64) (n:=19) rfl rfl (by decide) fun t12 w h12 _ h=>?_
 unfold qd.j4 qd.j17
 have hS:(dS0 L).length=(dPs L).length:=qjo L
 refine qsf (fun (i:Nat) (i':Int) w'=>i'=i∧i≤(dPs L).length∧St F0 w0 w' (qdc 1 t12 (ivs .i64 (qvj 19 ((dS0 L).take i))) :: qdc 3 t11 ((dPs L).flatMap pcC) :: qs)) (fun i=>(dPs L).length - i) 0 ⟨rfl,by omega,by rw [List.take_zero,cntL_nil]; exact h⟩ ?_
 clear h
 rintro i i' wL I μ ⟨rfl,hi,h⟩ hnx
 unfold qd.b4
 refine qzc (fun g=>?_) (fun g=>?_)
 · have hi2:i < (dPs L).length:=by omega
   have hpc:=(qio L).ok _ (List.getElem_mem hi2)
   have es:=dS0_at hi2
   refine h.lr (s:=t11) (f:=pcC) i rfl hi2 ?_
   generalize (dPs L)[i]=q at hpc es ⊢
   rw [qmh]
   refine h.new fun a w h=>⟨rfl,?_⟩
   have h:St F0 w0 w (qxc a (pcC (0,0,0)) :: qdc 1 t12 (ivs .i64 (qvj 19 ((dS0 L).take i))) :: qdc 3 t11 ((dPs L).flatMap pcC) :: qs):=h
   refine h.sA (b:=a) (l':=pcC q) rfl rfl (qwf _) fun w h=>?_
   have h:St F0 w0 w (qxc a [.int .i64 q.1,.int .i64 q.2.1,.int .i64 q.2.2] :: qdc 1 t12 (ivs .i64 (qvj 19 ((dS0 L).take i))) :: qdc 3 t11 ((dPs L).flatMap pcC) :: qs):=h
   simp only [qme,Nat.zero_add]
   have h0:=hpc.1
   have h19:=hpc.2.1
   have hc1:=qbh (n:=19) (S:=(dS0 L).take i) q.1.toNat
   rw [List.length_take] at hc1
   refine h.fI (b:=a) ?_
   refine h.lx (s:=t12) q.1.toNat (by omega) (by rw [qwc]; omega) ?_
   refine qy (qk (by omega) (by omega)) ?_
   refine h.sx (s:=t12) q.1.toNat (by omega) (by rw [qwc]; omega) fun w h=>?_
   rw [quj _ (by omega),← es] at h
   refine qy (qk (by omega) (by omega)) ?_
   exact ⟨⟨by trivial,by trivial,by trivial,by trivial,by trivial,by trivial,by trivial,by trivial,by trivial⟩,hnx (i+1) _ _ ⟨by omega,by omega,h.sub⟩ (by omega)⟩
 · have:i=(dPs L).length:=by omega
   subst this
   rw [List.take_of_length_le (by omega)] at h
   clear hnx
   exact qd.j5c (kb:=kb) (lb:=lb) (db:=db) (s:=s) (A:=A) (B:=B) (L:=L) (ta:=ta) (tb:=tb) hq hok hL hta htb h11 hk h
end
end Go.Proofs.Ythdmmmfgjmmelaa
namespace Go.Proofs.Ythdmmmfgjmmelaa
open Go Go.Proofs
set_option linter.unusedVariables false
set_option linter.unusedSimpArgs false
attribute [local irreducible] apK cpK mkK br dynB
theorem xor_sub {k:Nat} (h:k < 65536):65535 ^^^ k=65535 - k:=by
 apply Nat.eq_of_testBit_eq
 intro i
 have e1:65535 - k=2 ^ 16 - (k+1):=by omega
 rw [e1,Nat.testBit_two_pow_sub_succ (by omega),Nat.testBit_xor,show (65535:Nat)=2 ^ 16 - 1 from rfl,Nat.testBit_two_pow_sub_one]
 by_cases hi:i < 16
 · simp [hi]
 · have:k.testBit i=false:=Nat.testBit_lt_two_pow (Nat.lt_of_lt_of_le h (Nat.pow_le_pow_right (n:=2) (i:=16) (by decide) (show 16≤i by omega)))
   simp [hi,this]
theorem not_bits {k:Nat} (h:k < 65536):qo (xorV .i64 (-1) (k:Int)) 16=qo ((65535 ^^^ k:Nat):Int) 16:=by
 refine val_inj (by rw [ql,ql]) ?_
 have h1:=qai (xorV .i64 (-1) (k:Int)) 16
 have h2:=qai ((65535 ^^^ k:Nat):Int) 16
 rw [xor_sub h] at h2 ⊢
 have e:(BitVec.ofInt 64 (-1) ^^^ BitVec.ofInt 64 (k:Int)).toNat=18446744073709551615 - k:=by
  rw [show BitVec.ofInt 64 (-1)=BitVec.allOnes 64 by decide,BitVec.allOnes_xor,BitVec.toNat_not,BitVec.ofInt_natCast,BitVec.toNat_ofNat,Nat.mod_eq_of_lt (by omega)]
 have hx:xorV .i64 (-1) (k:Int)=IntKind.i64.wrap (((18446744073709551615 - k:Nat)):Int):=by
  show IntKind.i64.wrap (((BitVec.ofInt 64 (-1) ^^^ BitVec.ofInt 64 (k:Int)).toNat:Nat):Int)=_
  rw [e]
 have hw:=wrap_mod .i64 (((18446744073709551615 - k:Nat)):Int)
 rw [← hx,show (2:Int) ^ IntKind.i64.bits=18446744073709551616 by decide] at hw
 rw [show (2:Int) ^ 16=65536 by decide] at h1 h2
 omega
def byN (D:List Bool):Nat:=(D.length+7) / 8
def pickB (D E:List Bool):List Bool:=if byN E < byN D then E else D
def dfB (xs:List Int) (L:List Tk):List Bool:=pickB (pickB (sdB xs) (fxB L)) (dynB L)
theorem qun (D E:List Bool):(pickB D E=D ∨ pickB D E=E)∧byN (pickB D E)≤byN D:=by
 unfold pickB
 split
 · exact ⟨Or.inr rfl,by omega⟩
 · exact ⟨Or.inl rfl,Nat.le_refl _⟩
theorem sdB_len (xs:List Int):(sdB xs).length=40+8 * xs.length:=by
 unfold sdB
 simp only [List.length_append,List.length_cons,List.length_nil,List.length_replicate,ql,qll]
 omega
theorem dfB_len (xs:List Int) (L:List Tk):byN (dfB xs L)≤5+xs.length:=by
 have h1:=(qun (sdB xs) (fxB L)).2
 have h2:=(qun (pickB (sdB xs) (fxB L)) (dynB L)).2
 have h3:=sdB_len xs
 unfold dfB
 unfold byN at *
 omega
theorem dfB_ok {xs:List Int} {L:List Tk} (hb:∀ x ∈ xs,0≤x∧x < 256) (hl:xs.length < 65536) (hL:que xs 0 L xs.length):Dfl xs (dfB xs L):=by
 have h1:=Dfl.stored hb hl
 have h2:=Dfl.fixed hb hL (fun t ht=>fx_in (hL.tkOk hb t ht))
 have h3:=dynB_ok hb hL
 have h4:Dfl xs (pickB (sdB xs) (fxB L)):=by
  rcases (qun (sdB xs) (fxB L)).1 with e | e <;> rw [e] <;> assumption
 unfold dfB
 rcases (qun (pickB (sdB xs) (fxB L)) (dynB L)).1 with e | e <;> rw [e] <;> assumption
abbrev tkF (xs:List Int) (e:Int):List Tk:=findL xs (looksOf e) xs.length 0
theorem qbl (xs:List Int) (e:Int):que xs 0 (tkF xs e) xs.length:=findL_makes xs _ _ _ (by omega) (Nat.zero_le _)
theorem tkF_len (xs:List Int) (e:Int):(tkF xs e).length≤xs.length:=by
 have:=(qbl xs e).le (Nat.zero_le _)
 omega
def packB (xs:List Int) (e:Int):List Bool:=dfB xs (tkF xs e)
theorem packB_ok {xs:List Int} (hb:∀ x ∈ xs,0≤x∧x < 256) (hl:xs.length < 65536) (e:Int):Dfl xs (packB xs e):=dfB_ok hb hl (qbl xs e)
theorem pad_al (l:List Bool) (h:l.length % 8=0):pad l=[]:=by
 unfold pad
 rw [h]; rfl
section
variable {F0:List Nat} {w0 w:World} {ps:List As} {s:Sl} {xs:List Int} {K:Ending→World→Prop}
theorem qab.c (h:St F0 w0 w ps) [hr:Rdb F0 w0 s ps 1 (u8s xs)] (hb:∀ x ∈ xs,0≤x∧x < 256) (hl:xs.length < 65536) (hc:s.len≤s.cap)
 (hk:∀ t w',t.len=byN (sdB xs)→t.cap=t.len→St F0 w0 w' (rdA 1 t (u8s (bytes (sdB xs))) :: ps)→K (.returned (.slice t.a t.len t.cap)) w'):Calls Try.prog 79 ⟨[.slice s.a s.len s.cap]⟩ w K:=by
 have hls:=(h.rdb s).1
 rw [qx] at hls
 refine qoc (qab.ok _ _ _ ?_)
 unfold qab qab.j1
 refine qzc (fun g=>by omega) (fun g=>?_)
 refine qie.c h fun wb w h=>⟨_,rfl,?_⟩
 unfold qab.j2 qab.j4
 refine loop2 (fun (f:Bool) (b':Sl) (m':Bool) w'=>m'=f∧(f=true→b'=s∧St F0 w0 w' (wrL wb [] :: ps))∧(f=false→St F0 w0 w' (wrL wb (sdB xs) :: ps))) (fun f=>if f then 1 else 0) true ⟨rfl,fun _=>⟨rfl,h⟩,fun e=>by cases e⟩ ?_
 clear h
 rintro f b' m' wL I μ ⟨rfl,h1,h2⟩ hin
 unfold qab.b1
 cases m' with
 | false =>
   refine qkl ?_
   have h:=h2 rfl
   unfold qab.j3
   refine qsd.c h (by rw [sdB_len]; omega) fun t w h1 h2 h=>⟨t,rfl,?_⟩
   exact hk t w h1 h2 h.sub
 | true =>
   obtain ⟨rfl,h⟩:=h1 rfl
   refine qnm ?_
   unfold qab.j5
   refine qy (show (if (65535:Int) < (b'.len:Int) then (65535:Int) else (b'.len:Int))=(b'.len:Int) by rw [if_neg (by omega)]) ?_
   have ef:decide (((b'.len:Nat):Int) < (b'.len:Int))=false:=decide_eq_false (by omega)
   rw [ef]
   unfold qab.j6
   refine qkl ?_
   unfold qab.j7
   refine qdb.cl h (by simp) fun w h=>⟨rfl,?_⟩
   rw [show ([] ++ pb 1 3:List Bool)=[true,false,false] by decide +kernel] at h
   refine qwd.c h (by simp) fun w h=>⟨rfl,?_⟩
   rw [show pad [true,false,false]=List.replicate 5 false by decide +kernel] at h
   unfold qab.j8
   refine qdb.cl h (by simp) fun w h=>⟨rfl,?_⟩
   rw [qri (by decide) (by decide),show (16:Int).toNat=16 from rfl] at h
   refine qy (show xorV .i64 (if IntKind.signed .i64 then -1 else IntKind.max .i64) (b'.len:Int)=xorV .i64 (-1) (b'.len:Int) from rfl) ?_
   refine qdb.cl h (by simp [ql]) fun w h=>⟨rfl,?_⟩
   rw [qri (by decide) (by decide),show (16:Int).toNat=16 from rfl,not_bits (by omega)] at h
   have el:b'.len=xs.length:=by omega
   generalize hP:[true,false,false] ++ List.replicate 5 false ++ qo (b'.len:Int) 16 ++ qo ((65535 ^^^ b'.len:Nat):Int) 16=P at h
   have hPl:P.length=40:=by rw [← hP]; simp [ql]
   have hPs:P ++ bb xs=sdB xs:=by
    rw [← hP,el]
    unfold sdB
    simp only [List.append_assoc]
   unfold qab.j9
   refine bd_i (n:=b'.len) rfl (by omega) (qcj ?_)
   haveI:Rdb F0 w0 ⟨qzf b'.a b'.cap 0 1,b'.len - 0,b'.cap - 0⟩ ps 1 (u8s xs):=hr.cutAs 0 b'.len _ (by omega) (by omega) hc (by rw [List.drop_zero,List.take_of_length_le (by omega)])
   generalize hq:(⟨qzf b'.a b'.cap 0 1,b'.len - 0,b'.cap - 0⟩:Sl)=q at *
   have hql:q.len=xs.length:=by rw [← hq,← el]; rfl
   unfold qab.j11
   refine qsf (fun (i:Nat) (i':Int) w'=>i'=i∧i≤xs.length∧St F0 w0 w' (wrL wb (P ++ bb (xs.take i)) :: ps)) (fun i=>xs.length - i) 0 ⟨rfl,by omega,by simpa [bb] using h⟩ ?_
   clear h
   rintro i i' wL2 I2 μ2 ⟨rfl,hi,h⟩ hnx
   unfold qab.b2
   have hbl:=qll (xs.take i)
   rw [List.length_take] at hbl
   refine qzc (fun g=>?_) (fun g=>?_)
   · have hi2:i < xs.length:=by omega
     refine h.lx (s:=q) i rfl hi2 ?_
     have hx:=hb _ (qrf hi2)
     refine qpe.c h (by rw [List.length_append]; omega) hx fun w h=>⟨rfl,?_⟩
     rw [pad_al _ (by rw [List.length_append]; omega),List.append_nil,List.append_assoc,← bb_snoc,← qmf hi2] at h
     refine qy (qk (by omega) (by omega)) ?_
     exact ⟨⟨rfl,rfl,rfl,rfl,rfl,rfl⟩,hnx (i+1) _ _ ⟨by omega,by omega,h⟩ (by omega)⟩
   · have:i=xs.length:=by omega
     subst this
     rw [List.take_length,hPs] at h
     unfold qab.j10
     refine bd_i (n:=b'.len) rfl (by omega) (qcj ?_)
     exact ⟨rfl,hin false _ _ _ ⟨rfl,fun e=>(by cases e),fun _=>h⟩ (by decide)⟩
theorem plain_fixed:plainF Try.prog 80=true:=by kernel_rfl
theorem plain_dynamic:plainF Try.prog 81=true:=by kernel_rfl
attribute [local irreducible] asFn whenB plainF
def dfI (xs:List Int) (L:List Tk):Nat→List Bool
 | 0=>sdB xs
 | 1=>pickB (sdB xs) (fxB L)
 | _=>dfB xs L
abbrev dfV:List Value:=[.func (.func 80) ⟨[]⟩ ⟨[]⟩,.func (.func 81) ⟨[]⟩ ⟨[]⟩]
theorem qxb.loop {L:List Tk} {kb:Nat} {s' A B out t19:Sl} (h:St F0 w0 w (rdA 1 out (u8s (bytes (sdB xs))) :: rdA 1 t19 dfV :: qxc kb [.slice s'.a s'.len s'.cap,.slice A.a A.len A.cap,.slice B.a B.len B.cap] :: rdA 1 A (ivs .i64 (litC L)) :: rdA 1 B (ivs .i64 (disC L)) :: rdA 3 s' (tks L) :: ps))
 (h19:t19.len=2) (ho1:out.len=byN (sdB xs)) (ho2:out.cap=out.len) (hok:∀ t ∈ L,tkOk t) (hL:L.length≤1000000)
 (hk:∀ t w',t.len=byN (dfB xs L)→t.cap=t.len→St F0 w0 w' (rdA 1 t (u8s (bytes (dfB xs L))) :: ps)→K (.returned (.slice t.a t.len t.cap)) w') :
 qxb.j4 (some ⟨kb,0,none⟩) out t19 2 0 (fun v w'=>K (.returned v) w') w:=by
 unfold qxb.j4
 refine loop2 (fun (i:Nat) (o:Sl) (i':Int) w'=>i'=i∧i≤2∧o.len=byN (dfI xs L i)∧o.cap=o.len∧St F0 w0 w' (rdA 1 o (u8s (bytes (dfI xs L i))) :: rdA 1 t19 dfV :: qxc kb [.slice s'.a s'.len s'.cap,.slice A.a A.len A.cap,.slice B.a B.len B.cap] :: rdA 1 A (ivs .i64 (litC L)) :: rdA 1 B (ivs .i64 (disC L)) :: rdA 3 s' (tks L) :: ps)) (fun i=>2 - i) 0 ⟨rfl,by decide,ho1,ho2,h⟩ ?_
 clear h ho1 ho2
 rintro i o i' wL I μ ⟨rfl,hi,ho1,ho2,h⟩ hin
 unfold qxb.b1
 refine qzc (fun g=>?_) (fun g=>?_)
 · have hr:=h.rdb t19
   refine hr.ix (by decide) (by omega) (by omega) fun a ha=>?_
   have ei:((i:Int)).toNat * 1=i:=by omega
   rw [ei]
   have pick:∀ (E:List Bool) (t:Sl) w,dfI xs L (i+1)=pickB (dfI xs L i) E→t.len=byN E→t.cap=t.len→St F0 w0 w (rdA 1 t (u8s (bytes E)) :: rdA 1 o (u8s (bytes (dfI xs L i))) :: rdA 1 t19 dfV :: qxc kb [.slice s'.a s'.len s'.cap,.slice A.a A.len A.cap,.slice B.a B.len B.cap] :: rdA 1 A (ivs .i64 (litC L)) :: rdA 1 B (ivs .i64 (disC L)) :: rdA 3 s' (tks L) :: ps) →
    br (decide ((((t.len:Nat):Int):Int) < ((o.len:Nat):Int))) (lt (IntKind.i64.wrap ((i:Int)+1)) fun x9=>((some ⟨kb,0,none⟩:Option Addr)=some ⟨kb,0,none⟩∧t19=t19∧(2:Int)=2)∧I t x9 w∧μ t x9 w < μ o (i:Int) wL)
     (lt (IntKind.i64.wrap ((i:Int)+1)) fun x9=>((some ⟨kb,0,none⟩:Option Addr)=some ⟨kb,0,none⟩∧t19=t19∧(2:Int)=2)∧I o x9 w∧μ o x9 w < μ o (i:Int) wL):=by
    intro E t w he h1 h2 h
    unfold pickB at he
    refine qzc (fun g2=>?_) (fun g2=>?_)
    · rw [if_pos (by omega)] at he
      refine qy (qk (by omega) (by omega)) ?_
      exact ⟨⟨rfl,rfl,rfl⟩,hin (i+1) _ _ _ ⟨by omega,by omega,by rw [he]; exact h1,h2,by rw [he]; exact h.tail fun _ _ _ h=>h.drop⟩ (by omega)⟩
    · rw [if_neg (by omega)] at he
      refine qy (qk (by omega) (by omega)) ?_
      exact ⟨⟨rfl,rfl,rfl⟩,hin (i+1) _ _ _ ⟨by omega,by omega,by rw [he]; exact ho1,ho2,by rw [he]; exact h.drop⟩ (by omega)⟩
   rcases (show i=0 ∨ i=1 by omega) with rfl | rfl
   · refine ⟨.func (.func 80) ⟨[]⟩ ⟨[]⟩,by rw [hr.cell ha (by decide)]; rfl,?_⟩
     show asFn _ _
     refine asFn_i (f:=80) (first:=⟨[]⟩) (cap:=⟨[]⟩) ?_
     refine whenB_i plain_fixed ?_
     refine Eq.mp (congrArg (fun a=>Calls Try.prog 80 a _ _) (show (⟨[.pointer (some ⟨kb,0,none⟩)]⟩:Array Value)=⟨((⟨[]⟩:Array Value).toList ++ [.pointer (some ⟨kb,0,none⟩)]) ++ (⟨[]⟩:Array Value).toList⟩ from rfl)) ?_
     refine qne.c (kb:=kb) (s:=s') (A:=A) (B:=B) (L:=L) h hok hL fun t w h1 h2 h=>⟨t,rfl,?_⟩
     exact pick (fxB L) t w rfl h1 h2 h
   · refine ⟨.func (.func 81) ⟨[]⟩ ⟨[]⟩,by rw [hr.cell ha (by decide)]; rfl,?_⟩
     show asFn _ _
     refine asFn_i (f:=81) (first:=⟨[]⟩) (cap:=⟨[]⟩) ?_
     refine whenB_i plain_dynamic ?_
     refine Eq.mp (congrArg (fun a=>Calls Try.prog 81 a _ _) (show (⟨[.pointer (some ⟨kb,0,none⟩)]⟩:Array Value)=⟨((⟨[]⟩:Array Value).toList ++ [.pointer (some ⟨kb,0,none⟩)]) ++ (⟨[]⟩:Array Value).toList⟩ from rfl)) ?_
     refine qd.c (kb:=kb) (s:=s') (A:=A) (B:=B) (L:=L) h hok hL fun t w h1 h2 h=>⟨t,rfl,?_⟩
     exact pick (dynB L) t w rfl h1 h2 h
 · have:i=2:=by omega
   subst this
   unfold qxb.j3
   exact hk o wL ho1 ho2 (h.tail fun _ _ _ h=>h.drop.drop.drop.drop.drop)
theorem qxb.c {e:Int} (h:St F0 w0 w ps) [Rdb F0 w0 s ps 1 (u8s xs)] (hb:∀ x ∈ xs,0≤x∧x < 256) (hl:xs.length < 65536) (hc:s.len≤s.cap)
 (hk:∀ t w',t.len=byN (packB xs e)→t.cap=t.len→St F0 w0 w' (rdA 1 t (u8s (bytes (packB xs e))) :: ps)→K (.returned (.slice t.a t.len t.cap)) w'):Calls Try.prog 34 ⟨[.slice s.a s.len s.cap,.int .i64 e]⟩ w K:=by
 have hls:=(h.rdb s).1
 rw [qx] at hls
 have htl:=tkF_len xs e
 have hok:=(qbl xs e).tkOk hb
 refine qoc (qxb.ok _ _ _ _ ?_)
 unfold qxb qxb.j1
 refine qzc (fun g=>by omega) (fun g=>?_)
 refine qgc.c (s:=s) h hb hc (by omega) fun s' w h1 h2 h=>⟨s',rfl,?_⟩
 refine qqc.c (s:=s') (L:=tkF xs e) h hok (by omega) fun kb A B w hA hB h=>⟨_,rfl,?_⟩
 refine qab.c (s:=s) (xs:=xs) h hb hl hc fun out w ho1 ho2 h=>⟨out,rfl,?_⟩
 unfold qxb.j2
 refine h.new fun nb w h=>?_
 have h:St F0 w0 w (qxc nb dfV :: rdA 1 out (u8s (bytes (sdB xs))) :: qxc kb [.slice s'.a s'.len s'.cap,.slice A.a A.len A.cap,.slice B.a B.len B.cap] :: rdA 1 A (ivs .i64 (litC (tkF xs e))) :: rdA 1 B (ivs .i64 (disC (tkF xs e))) :: rdA 3 s' (tks (tkF xs e)) :: ps):=h
 have h:=h.blkrd (n:=2) rfl
 exact qxb.loop (t19:=⟨some ⟨nb,0,none⟩,2,2⟩) h.at1 rfl ho1 ho2 hok (by omega) hk
end
end Go.Proofs.Ythdmmmfgjmmelaa
namespace Go.Proofs.Ythdmmmfgjmmelaa
open Go Go.Proofs
set_option linter.unusedVariables false
set_option maxRecDepth 100000
def qye  (Q:VWP) (w:World):Prop :=
 lt (⟨World.heapSize w,0,none⟩:Addr) fun a1 =>
 lt (World.alloc w (.cells ⟨[.int .u8 104,.int .u8 101,.int .u8 108,.int .u8 108,.int .u8 111,.int .u8 32,.int .u8 104,.int .u8 101,.int .u8 108,.int .u8 108,.int .u8 111,.int .u8 32,.int .u8 104,.int .u8 101,.int .u8 108,.int .u8 108,.int .u8 111]⟩ 5)) fun w2 =>
 mkStr w2 (some a1) fun w3 =>
 Calls Try.prog 75 ⟨[.slice (some a1) 17 17,.int .i64 2]⟩ w3 fun e4 w5 =>
 ∃ r6:Sl,e4=.returned (.slice r6.a r6.len r6.cap) ∧
 Calls Try.prog 76 ⟨[.slice r6.a r6.len r6.cap,.int .i64 100]⟩ w5 fun e7 w8 =>
 ∃ r9:Sl,∃ r10:Int,∃ r11:Int,e7=.returned (.tuple ⟨[.slice r9.a r9.len r9.cap,.int .i64 r10,.int .i64 r11]⟩) ∧
 (2:Int) ≠ 0 ∧
 lt (IntKind.i64.wrap (Int.tdiv ((r6.len:Nat):Int) 2)) fun x12 =>
 bd x12 r6.cap fun n13 =>
 lt (⟨qzf r6.a r6.cap 0 1,n13 - 0,r6.cap - 0⟩:Sl) fun s14 =>
 Calls Try.prog 76 ⟨[.slice s14.a s14.len s14.cap,.int .i64 100]⟩ w8 fun e15 w16 =>
 ∃ r17:Sl,∃ r18:Int,∃ r19:Int,e15=.returned (.tuple ⟨[.slice r17.a r17.len r17.cap,.int .i64 r18,.int .i64 r19]⟩) ∧
 br (decide ((((r6.len:Nat):Int):Int) > 8)) (
 ixS r6.a r6.len 0 1 fun a20 =>
 ldI .u8 w16 a20 fun x21 =>
 br ((x21:Int) == 120) (
 br ((r11:Int) == 0) (
 br ((r10:Int) == ((r6.len:Nat):Int)) (
 btS w16 r9.a r9.len fun x22 =>
 br (ByteArray.toList x22 == ByteArray.toList ({ data:=#[104,101,108,108,111,32,104,101,108,108,111,32,104,101,108,108,111] })) (
 Q (.bool ((r19:Int) == 3)) w16) (
 Q (.bool false) w16)) (
 Q (.bool false) w16)) (
 Q (.bool false) w16)) (
 Q (.bool false) w16)) (
 Q (.bool false) w16)
theorem qye.ok  (Q:VWP) (w:World) (h:qye  Q w):Calls Try.prog 33 ⟨[]⟩ w (Ret Q):=by
 refine qn [.tmp 0] Try.func33 rfl rfl rfl rfl ?_
 exact qg qpb _ (Eq.mp (by kernel_rfl) h)
def trovelaw9_ZlibSmall.j3 (n_1 effort_2:Int) (b_7:Sl) (Q:VWP) (w:World):Prop :=
 Calls Try.prog 34 ⟨[.slice b_7.a b_7.len b_7.cap,.int .i64 effort_2]⟩ w fun e1 w2 =>
 ∃ r3:Sl,e1=.returned (.slice r3.a r3.len r3.cap) ∧
 (10:Int) ≠ 0 ∧
 lt (IntKind.i64.wrap (Int.tdiv n_1 10)) fun x4 =>
 Q (.bool (decide ((((r3.len:Nat):Int):Int)≤x4))) w2
def trovelaw9_ZlibSmall.b1 (c_0 n_1 effort_2:Int) (b_7:Sl) (i_8:Int) (Q:VWP) (nx1:Int→Int→Int→Sl→Int→World→Prop) (w:World):Prop :=
 br (decide ((i_8:Int) < n_1)) (
 ixS b_7.a b_7.len i_8 1 fun a5 =>
 st w a5 (.int .u8 c_0) fun w6 =>
 lt (IntKind.i64.wrap (i_8+1)) fun x7 =>
 nx1 c_0 n_1 effort_2 b_7 x7 w6) (
 trovelaw9_ZlibSmall.j3 n_1 effort_2 b_7 Q w)
def trovelaw9_ZlibSmall.l1 (c_0 n_1 effort_2:Int) (b_7:Sl) (i_8:Int) (Q:VWP) (w:World):Prop :=
 ∃ (I:Int→World→Prop) (μ:Int→World→Nat),I i_8 w∧∀ i_8:Int,∀ w:World,I i_8 w→trovelaw9_ZlibSmall.b1 c_0 n_1 effort_2 b_7 i_8 Q (fun c_0' n_1' effort_2' b_7' i_8' w'=>(c_0'=c_0∧n_1'=n_1∧effort_2'=effort_2∧b_7'=b_7)∧I i_8' w'∧μ i_8' w' < μ i_8 w) w
def trovelaw9_ZlibSmall.j4 (c_0 n_1 effort_2:Int) (b_7:Sl) (i_8:Int) (Q:VWP) (w:World):Prop :=
 trovelaw9_ZlibSmall.l1 c_0 n_1 effort_2 b_7 i_8 Q w
def trovelaw9_ZlibSmall.j2 (c_0 n_1 effort_2:Int) (b_7:Sl) (Q:VWP) (w:World):Prop :=
 trovelaw9_ZlibSmall.j4 c_0 n_1 effort_2 b_7 0 Q w
def trovelaw9_ZlibSmall.j1 (c_0 n_1 effort_2:Int) (Q:VWP) (w:World):Prop :=
 br (decide ((n_1:Int) < 1000)) (
 Q (.bool true) w) (
 br (decide ((n_1:Int) > 5000)) (
 Q (.bool true) w) (
 br (decide ((effort_2:Int) < 1)) (
 Q (.bool true) w) (
 mkK Try.prog 5 w n_1 n_1 fun s8 w9 =>
 trovelaw9_ZlibSmall.j2 c_0 n_1 effort_2 s8 Q w9)))
def trovelaw9_ZlibSmall (c_0 n_1 effort_2:Int) (Q:VWP) (w:World):Prop :=
 Calls Try.prog 33 ⟨[]⟩ w fun e10 w11 =>
 ∃ r12:Bool,e10=.returned (.bool r12) ∧
 br (!r12) (
 Q (.bool false) w11) (
 trovelaw9_ZlibSmall.j1 c_0 n_1 effort_2 Q w11)
theorem trovelaw9_ZlibSmall.ok (c_0:Int) (n_1:Int) (effort_2:Int) (Q:VWP) (w:World) (h:trovelaw9_ZlibSmall c_0 n_1 effort_2 Q w):Calls Try.prog 8 ⟨[.int .u8 c_0,.int .i64 n_1,.int .i64 effort_2]⟩ w (Ret Q):=by
 refine qn [.tmp 6] Try.func8 rfl rfl rfl rfl ?_
 refine qib qpb (fun ρ w=>asI .u8 (ρ 0) fun c_0=>asI .i64 (ρ 1) fun n_1=>asI .i64 (ρ 2) fun effort_2=>trovelaw9_ZlibSmall.j1 c_0 n_1 effort_2 Q w) (Eq.mp (by kernel_rfl) h) ?_
 intro ρ w h
 obtain ⟨c_0,e0,h⟩:=qe h
 obtain ⟨n_1,e1,h⟩:=qe h
 obtain ⟨effort_2,e2,h⟩:=qe h
 refine qb e0 (qb (qa e1 rfl) (qb (qa (qa e2 rfl) rfl) ?_))
 refine qib qpb (fun ρ w=>asI .u8 (ρ 0) fun c_0=>asI .i64 (ρ 1) fun n_1=>asI .i64 (ρ 2) fun effort_2=>asL (ρ 7) fun b_7=>trovelaw9_ZlibSmall.j2 c_0 n_1 effort_2 b_7 Q w) (Eq.mp (by kernel_rfl) h) ?_
 intro ρ w h
 obtain ⟨c_0,e0,h⟩:=qe h
 obtain ⟨n_1,e1,h⟩:=qe h
 obtain ⟨effort_2,e2,h⟩:=qe h
 obtain ⟨b_7,e7,h⟩:=qj h
 refine qb e0 (qb (qa e1 rfl) (qb (qa (qa e2 rfl) rfl) (qb (qa (qa (qa e7 rfl) rfl) rfl) ?_)))
 refine qr (fun ρ w=>asI .i64 (ρ 1) fun n_1=>asI .i64 (ρ 2) fun effort_2=>asL (ρ 7) fun b_7=>trovelaw9_ZlibSmall.j3 n_1 effort_2 b_7 Q w) ?_ ?_
 · skip
   refine qr (fun ρ w=>asI .u8 (ρ 0) fun c_0=>asI .i64 (ρ 1) fun n_1=>asI .i64 (ρ 2) fun effort_2=>asL (ρ 7) fun b_7=>asI .i64 (ρ 8) fun i_8=>trovelaw9_ZlibSmall.j4 c_0 n_1 effort_2 b_7 i_8 Q w) ?_ ?_
   · skip
     exact qg qpb _ (Eq.mp (by kernel_rfl) h)
   · intro ρ w h
     obtain ⟨c_0,e0,h⟩:=qe h
     obtain ⟨n_1,e1,h⟩:=qe h
     obtain ⟨effort_2,e2,h⟩:=qe h
     obtain ⟨b_7,e7,h⟩:=qj h
     obtain ⟨i_8,e8,h⟩:=qe h
     refine qb e0 (qb (qa e1 rfl) (qb (qa (qa e2 rfl) rfl) (qb (qa (qa (qa e7 rfl) rfl) rfl) (qb (qa (qa (qa (qa e8 rfl) rfl) rfl) rfl) ?_))))
     refine qcb ?_
     obtain ⟨I,μ,hI,hr⟩:=h
     refine qhb (α:=Int) (fun s ρ=>ρ 8=.int .i64 s∧ρ 0=.int .u8 c_0∧ρ 1=.int .i64 n_1∧ρ 2=.int .i64 effort_2∧ρ 7=.slice b_7.a b_7.len b_7.cap) (fun s w=>I s w) (fun s w=>μ s w) i_8 ⟨rfl,rfl,rfl,rfl,rfl⟩ hI ?_
     rintro i_8 ρ w ⟨e8,e0,e1,e2,e7⟩ hI
     have h:=hr i_8 w hI
     clear hr
     obtain ⟨nx1,hnx⟩:∃ nx:Int→Int→Int→Sl→Int→World→Prop,nx=(fun c_0' n_1' effort_2' b_7' i_8' w'=>(c_0'=c_0∧n_1'=n_1∧effort_2'=effort_2∧b_7'=b_7)∧I i_8' w'∧μ i_8' w' < μ i_8 w):=⟨_,rfl⟩
     rw [← hnx] at h
     refine qob (M:=fun ρ w=>asI .u8 (ρ 0) fun c_0=>asI .i64 (ρ 1) fun n_1=>asI .i64 (ρ 2) fun effort_2=>asL (ρ 7) fun b_7=>asI .i64 (ρ 8) fun i_8=>nx1 c_0 n_1 effort_2 b_7 i_8 w) ?_ (fun ρ w h=>?_)
     · skip
       refine qb e0 (qb (qa e1 rfl) (qb (qa (qa e2 rfl) rfl) (qb (qa (qa (qa e7 rfl) rfl) rfl) (qb (qa (qa (qa (qa e8 rfl) rfl) rfl) rfl) ?_))))
       exact qg qpb _ (Eq.mp (by kernel_rfl) h)
     · skip
       obtain ⟨c_0',e0',h⟩:=qe h
       obtain ⟨n_1',e1',h⟩:=qe h
       obtain ⟨effort_2',e2',h⟩:=qe h
       obtain ⟨b_7',e7',h⟩:=qj h
       obtain ⟨i_8',e8',h⟩:=qe h
       rw [hnx] at h
       obtain ⟨hu,hI2,hμ⟩:=h
       obtain ⟨rfl,rfl,rfl,rfl⟩:=hu
       exact ⟨i_8',⟨e8',e0',e1',e2',e7'⟩,hI2,hμ⟩
 · intro ρ w h
   obtain ⟨n_1,e1,h⟩:=qe h
   obtain ⟨effort_2,e2,h⟩:=qe h
   obtain ⟨b_7,e7,h⟩:=qj h
   refine qb e1 (qb (qa e2 rfl) (qb (qa (qa e7 rfl) rfl) ?_))
   exact qg qpb _ (Eq.mp (by kernel_rfl) h)
end Go.Proofs.Ythdmmmfgjmmelaa
namespace Go.Proofs.Ythdmmmfgjmmelaa
open Go Go.Proofs
set_option linter.unusedVariables false
set_option linter.unusedSimpArgs false
attribute [local irreducible] apK cpK mkK br
def hello:List Int:=[104,101,108,108,111,32,104,101,108,108,111,32,104,101,108,108,111]
set_option maxRecDepth 100000 in
theorem hello_frm:frm hello (packB hello 2)=[120,156,203,72,205,201,201,87,64,34,1,58,46,6,125]:=by decide +kernel
theorem packB_len (xs:List Int) (e:Int):((packB xs e).length+7) / 8≤5+xs.length:=dfB_len xs (tkF xs e)
attribute [local irreducible] packB
theorem half_err:(qdd (qo ((866674100427:Nat):Int) (8 * 5)) 100 (0,[],0)).2.2.2=3:=by decide +kernel
theorem half_unp:Unp [120,156,203,72,205,201,201] 100 ([],0,3):=by
 have hbad:¬ hdBad 120 156:=by decide +kernel
 have h:=half_err
 unfold Unp
 rw [if_neg (by decide)]
 have e0:([120,156,203,72,205,201,201]:List Int).getD 0 0=120:=rfl
 have e1:([120,156,203,72,205,201,201]:List Int).getD 1 0=156:=rfl
 have e5:([120,156,203,72,205,201,201]:List Int).length - 2=5:=rfl
 rw [e0,e1,if_neg hbad,if_neg (by decide),e5]
 refine ⟨866674100427,(qdd (qo ((866674100427:Nat):Int) (8 * 5)) 100 (0,[],0)).2,by decide +kernel,⟨0,ZAll.bad (by rw [h]; decide)⟩,?_⟩
 unfold unpR
 rw [if_pos (by rw [h]; decide),h]
section
variable {F0:List Nat} {w0 w:World} {ps:List As} {s:Sl} {xs:List Int} {K:Ending→World→Prop}
theorem qzh.c {e:Int} (h:St F0 w0 w ps) [Rdb F0 w0 s ps 1 (u8s xs)] (hb:∀ x ∈ xs,0≤x∧x < 256) (hl:xs.length < 65536) (hc:s.len≤s.cap)
 (hk:∀ t w',t.len=(frm xs (packB xs e)).length→t.cap=t.len→St F0 w0 w' (rdA 1 t (u8s (frm xs (packB xs e))) :: ps)→K (.returned (.slice t.a t.len t.cap)) w'):Calls Try.prog 75 ⟨[.slice s.a s.len s.cap,.int .i64 e]⟩ w K:=by
 have hls:=(h.rdb s).1
 rw [qx] at hls
 have hpl:(bytes (packB xs e)).length=((packB xs e).length+7) / 8:=qxj _
 have hple:=packB_len xs e
 refine qoc (qzh.ok _ _ _ _ ?_)
 unfold qzh
 refine qzc (fun g=>by omega) (fun g=>?_)
 refine h.new fun nb w h=>?_
 have h:St F0 w0 w (qxc nb (u8s [120,156]) :: ps):=h
 have h:=h.ownB (n:=2) rfl
 refine qxb.c (s:=s) (xs:=xs) h hb hl hc fun r w h1 h2 h=>⟨r,rfl,?_⟩
 refine h.appI (s:=⟨some ⟨nb,0,none⟩,2,2⟩) (s2:=r) (by rw [hpl]; show 2+_≤_; omega) fun t w h=>?_
 refine qch.c (s:=s) h hb (by omega) fun w h=>⟨_,rfl,?_⟩
 have ha:=adV_b xs
 refine qy (qk (by omega) (by omega)) ?_
 refine qki.d (s:=t) (xs:=[120,156] ++ bytes (packB xs e)) h (by rw [List.length_append,hpl]; show 2+_≤_; omega) fun u w h3 h4 h=>⟨u,rfl,?_⟩
 have ef:[120,156] ++ bytes (packB xs e) ++ beJ 4 4 (adV xs)=frm xs (packB xs e):=rfl
 rw [ef] at h
 refine hk u w ?_ h4 h.sub
 rw [h3,qkp,List.length_append,hpl]
 rfl
theorem qye.c (h:St F0 w0 w ps) (hk:∀ w',St F0 w0 w' ps→K (.returned (.bool true)) w'):Calls Try.prog 33 ⟨[]⟩ w K:=by
 have hb:∀ x ∈ hello,0≤x∧x < 256:=by decide
 refine qoc (qye.ok _ _ ?_)
 unfold qye
 refine h.new fun nb w h=>?_
 have h:St F0 w0 w (qxc nb (u8s hello) :: ps):=h
 refine h.str (b:=nb) (n:=17) rfl fun w h=>?_
 refine qzh.c (s:=⟨some ⟨nb,0,none⟩,17,17⟩) (xs:=hello) h hb (by decide) (Nat.le_refl _) fun r w hr1 hr2 h=>⟨r,rfl,?_⟩
 have hu:=unp_frm (t:=[]) (most:=100) (packB_ok hb (by decide) 2) (fun x hx=>by cases hx) (by decide) (by decide)
 rw [List.append_nil] at hu
 rw [hello_frm] at h hr1 hu
 generalize hF:([120,156,203,72,205,201,201,87,64,34,1,58,46,6,125]:List Int)=Fr at h hr1 hu
 have hFl:Fr.length=15:=by rw [← hF]; rfl
 have hFb:∀ x ∈ Fr,0≤x∧x < 256:=by rw [← hF]; decide
 rw [hFl] at hr1 hu
 refine qbg.c (s:=r) (xs:=Fr) h hFb (by omega) (by omega) hu fun t w ht htb h=>⟨t,_,_,rfl,?_⟩
 refine ⟨by decide,?_⟩
 refine qy (show IntKind.i64.wrap (Int.tdiv (r.len:Int) 2)=((7:Nat):Int) by rw [hr1]; decide +kernel) ?_
 refine bd_i (n:=7) rfl (by omega) (qcj ?_)
 have hcut:(Fr.drop 0).take (7 - 0)=[120,156,203,72,205,201,201]:=by rw [← hF]; rfl
 haveI:=h.cutR r 0 7 (r.cap - 0) (by omega) (by decide) (by omega) hcut
 refine qbg.c (s:=⟨qzf r.a r.cap 0 1,7 - 0,r.cap - 0⟩) (xs:=[120,156,203,72,205,201,201]) h (by decide) (by decide) (by show 7 - 0≤r.cap - 0; omega) half_unp fun t2 w _ _ h=>⟨t2,_,_,rfl,?_⟩
 refine qam (by simp; omega) ?_
 refine h.lx (s:=r) 0 rfl (by omega) ?_
 refine qam (by rw [← hF]; rfl) ?_
 refine qam rfl ?_
 refine qam (by rw [hr1]; rfl) ?_
 refine h.bt (s:=t) htb ?_
 refine qam (by decide +kernel) ?_
 exact hk w h.sub
end
end Go.Proofs.Ythdmmmfgjmmelaa
namespace Go.Proofs.Ythdmmmfgjmmelaa
open Go Go.Proofs
set_option linter.unusedVariables false
set_option linter.unusedSimpArgs false
attribute [local irreducible] apK cpK mkK br
theorem bestL_one {b:List Int} {at' looks:Nat} (hR:1≤at') (hl:1≤looks) (h3:at'+3≤b.length) (h:∀ j,at'+j < b.length→b.getD (at' - 1+j) 0=b.getD (at'+j) 0) :
 min 258 (b.length - at')≤(bestL b at' looks).1:=by
 have hkey:qhh b (at' - 1)=qhh b at':=by
  unfold qhh
  have h0:=h 0 (by omega)
  have h1:=h 1 (by omega)
  have h2:=h 2 (by omega)
  rw [Nat.add_zero,Nat.add_zero] at h0
  rw [h0,h1,h2]
 unfold bestL
 rw [if_neg (by omega)]
 split
 · rename_i hj
   exact absurd hkey (qgp hj (at' - 1) (by omega))
 · rename_i i hi
   obtain ⟨g1,g2,g3⟩:=qzg hi
   have hiR:at' - 1≤i:=by
    rcases Nat.lt_or_ge i (at' - 1) with h5 | h5
    · exact absurd hkey (g3 (at' - 1) h5 (by omega))
    · exact h5
   exact walkL_far hR (by decide) (by decide) h3 h looks i 0 0 hiR g1 g2 (by omega)
theorem findL_le {b:List Int} {looks:Nat}:∀ f at',b.length - at'≤f→(findL b looks f at').length≤b.length - at':=by
 intro f
 induction f with
 | zero=>intro at' _; simp [findL]
 | succ f ih =>
   intro at' h1
   rw [findL]
   split
   · have:=qdh b looks at'
     rw [List.length_cons]
     have:=ih (at'+(stepL b looks at').2) (by omega)
     omega
   · simp
theorem findL_one {b:List Int} {looks:Nat} (hl:1≤looks) (h:∀ i,1≤i→i < b.length→b.getD (i - 1) 0=b.getD i 0) :
 ∀ f at',b.length - at'≤f→1≤at'→(findL b looks f at').length≤(b.length - at') / 258+3:=by
 intro f
 induction f with
 | zero=>intro at' _ _; simp [findL]
 | succ f ih =>
   intro at' h1 hat
   rw [findL]
   split
   · rename_i hlt
     rw [List.length_cons]
     have hp:=qdh b looks at'
     have hle:=stepL_le b looks at' hlt
     rcases Nat.lt_or_ge b.length (at'+3) with h3 | h3
     · have:=findL_le (b:=b) (looks:=looks) f (at'+(stepL b looks at').2) (by omega)
       omega
     · have hbest:=bestL_one (b:=b) (at':=at') (looks:=looks) hat hl h3 (fun j hj=>by
        have:=h (at'+j) (by omega) hj
        rw [show at'+j - 1=at' - 1+j by omega] at this
        exact this)
       have hstep:(stepL b looks at').2=(bestL b at' looks).1:=by
        unfold stepL
        simp only
        rw [if_neg (by omega)]
       rw [hstep] at hle ⊢
       have:=ih (at'+(bestL b at' looks).1) (by omega) (by omega)
       by_cases hbig:b.length - at'≤258
       · have e:(bestL b at' looks).1=b.length - at':=by omega
         have:=findL_le (b:=b) (looks:=looks) f (at'+(bestL b at' looks).1) (by omega)
         omega
       · have e:258≤(bestL b at' looks).1:=by omega
         have:(b.length - (at'+(bestL b at' looks).1)) / 258+1≤(b.length - at') / 258:=by
          have:=Nat.div_le_div_right (c:=258) (show b.length - (at'+(bestL b at' looks).1)+258≤b.length - at' by omega)
          omega
         omega
   · simp
theorem rep_getD {n i:Nat} {c:Int} (h:i < n):(List.replicate n c).getD i 0=c:=by simp [List.getD,h]
theorem small_len {n:Nat} {c e:Int} (hn:1000≤n) (hn2:n≤5000) (he:1≤e) (hc:0≤c∧c < 256):byN (packB (List.replicate n c) e)≤n / 10:=by
 have hb:∀ x ∈ List.replicate n c,0≤x∧x < 256:=fun x hx=>by rw [(List.mem_replicate.1 hx).2]; exact hc
 have hlen:(List.replicate n c).length=n:=List.length_replicate ..
 have hlk:1≤looksOf e:=by unfold looksOf; split <;> omega
 have hL:(tkF (List.replicate n c) e).length≤n / 258+4:=by
  show (findL (List.replicate n c) (looksOf e) (List.replicate n c).length 0).length≤_
  rw [hlen]
  obtain ⟨m,rfl⟩:∃ m,n=m+1:=⟨n - 1,by omega⟩
  rw [findL,if_pos (by rw [hlen]; omega),List.length_cons]
  have hp:=qdh (List.replicate (m+1) c) (looksOf e) 0
  have:=findL_one (b:=List.replicate (m+1) c) (looks:=looksOf e) hlk (fun i h1 h2=>by
   rw [hlen] at h2
   rw [rep_getD (by omega),rep_getD h2]) m (0+(stepL (List.replicate (m+1) c) (looksOf e) 0).2) (by rw [hlen]; omega) (by omega)
  rw [hlen] at this
  have h2:=Nat.div_le_div_right (c:=258) (Nat.sub_le (m+1) (0+(stepL (List.replicate (m+1) c) (looksOf e) 0).2))
  omega
 have hok:=(qbl (List.replicate n c) e).tkOk hb
 have h1:=qsm qyi.1 qtj.1 hok
 have h2:=qbf qyi.1 256
 have h3:(fxB (tkF (List.replicate n c) e)).length≤18+60 * (n / 258+4):=by
  unfold fxB
  simp only [List.length_append,List.length_cons,List.length_nil]
  omega
 have p2:∀ D E,byN (pickB D E)≤byN E:=by
  intro D E
  unfold pickB
  split <;> omega
 have h4:=p2 (sdB (List.replicate n c)) (fxB (tkF (List.replicate n c) e))
 have h5:=(qun (pickB (sdB (List.replicate n c)) (fxB (tkF (List.replicate n c) e))) (dynB (tkF (List.replicate n c) e))).2
 have h6:byN (fxB (tkF (List.replicate n c) e))≤(18+60 * (n / 258+4)+7) / 8:=Nat.div_le_div_right (by omega)
 unfold packB dfB
 omega
end Go.Proofs.Ythdmmmfgjmmelaa
namespace Go.Proofs.Ythdmmmfgjmmelaa
open Go Go.Proofs
set_option linter.unusedVariables false
set_option linter.unusedSimpArgs false
attribute [local irreducible] apK cpK mkK br packB
theorem rep_set {c:Int} {i k:Nat}:(List.replicate i c ++ List.replicate (k+1) 0).set i c=List.replicate (i+1) c ++ List.replicate k 0:=by
 rw [List.set_append_right _ _ (by simp),List.length_replicate,Nat.sub_self,List.replicate_succ,List.set_cons_zero,List.replicate_succ',List.append_assoc]
 rfl
theorem trovelaw9_ZlibSmall.law (c n e:Int) (W:World) (hc:(Lit.int .u8 c).wf=true) (hn:(Lit.int .i64 n).wf=true) (he:(Lit.int .i64 e).wf=true) :
 Calls Try.prog 8 ⟨[.int .u8 c,.int .i64 n,.int .i64 e]⟩ W fun e w'=>e=.returned (.bool true)∧Mod [] W w':=by
 have hcb:=wf_u8 hc
 refine qoc (trovelaw9_ZlibSmall.ok _ _ _ _ _ ?_)
 unfold trovelaw9_ZlibSmall
 refine qye.c (St.start0 (w:=W)) fun w h=>⟨_,rfl,qkl ?_⟩
 unfold trovelaw9_ZlibSmall.j1
 refine qzc (fun _=>⟨rfl,h.mod⟩) fun g1=>?_
 refine qzc (fun _=>⟨rfl,h.mod⟩) fun g2=>?_
 refine qzc (fun _=>⟨rfl,h.mod⟩) fun g3=>?_
 obtain ⟨m,rfl⟩:∃ m:Nat,n=m:=⟨n.toNat,by omega⟩
 refine h.makeI (k:=.u8) (n:=m) rfl rfl (by omega) fun b w hb1 hb2 h=>?_
 unfold trovelaw9_ZlibSmall.j2 trovelaw9_ZlibSmall.j4
 refine qsf (fun (i:Nat) (i':Int) w'=>i'=i∧i≤m∧St [] W w' [qdc 1 b (u8s (List.replicate i c ++ List.replicate (m - i) 0))]) (fun i=>m - i) 0 ⟨rfl,by omega,by simpa using h⟩ ?_
 clear h
 rintro i i' wL I μ ⟨rfl,hi,h⟩ hin
 unfold trovelaw9_ZlibSmall.b1
 refine qzc (fun g=>?_) (fun g=>?_)
 · refine h.sx (s:=b) i rfl (by rw [List.length_append,List.length_replicate,List.length_replicate]; omega) fun w h=>?_
   rw [show m - i=(m - (i+1))+1 by omega,rep_set] at h
   refine qy (qk (by omega) (by omega)) ?_
   exact ⟨⟨rfl,rfl,rfl,rfl⟩,hin (i+1) _ _ ⟨by omega,by omega,h⟩ (by omega)⟩
 · have:i=m:=by omega
   subst this
   rw [Nat.sub_self,List.replicate_zero,List.append_nil] at h
   unfold trovelaw9_ZlibSmall.j3
   have hbb:∀ x ∈ List.replicate i c,0≤x∧x < 256:=fun x hx=>by rw [(List.mem_replicate.1 hx).2]; exact hcb
   refine qxb.c (s:=b) (xs:=List.replicate i c) (e:=e) h hbb (by rw [List.length_replicate]; omega) (by omega) fun d w hd1 hd2 h=>⟨d,rfl,by decide,?_⟩
   have hs:=small_len (n:=i) (c:=c) (e:=e) (by omega) (by omega) (by omega) hcb
   refine qy (show IntKind.i64.wrap (Int.tdiv (i:Int) 10)=((i / 10:Nat):Int) by rw [show Int.tdiv (i:Int) 10=((i / 10:Nat):Int) from rfl,qk (by omega) (by omega)]) ?_
   exact ⟨by rw [decide_eq_true (by omega)],h.mod⟩
end Go.Proofs.Ythdmmmfgjmmelaa
