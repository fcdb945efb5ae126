/- Own texts as one, only what is reached (shake.py). -/
import Derived.Test.YthdmmmfgjmmelaaGreatZdb
import Derived.ChangeSlices
import Derived.Deep.Slices
import Derived.Test.YthdmmmfgjmmelaaGreatProg
namespace Go.Proofs.YthdmmmfgjmmelaaGreat
open Go Go.Proofs
set_option linter.unusedVariables false
set_option linter.unusedSimpArgs false
attribute [local irreducible] apK cpK mkK
def nats (l:List Nat):List Int:=l.map fun n:Nat=>(n:Int)
theorem qqh (l:List Nat):(nats l).length=l.length:=by simp [nats]
theorem nats_getD (l:List Nat) (i:Nat):(nats l).getD i 0=((l.getD i 0:Nat):Int):=by
 unfold nats
 rw [List.getD_eq_getElem?_getD,List.getElem?_map,List.getD_eq_getElem?_getD]
 cases l[i]? <;> rfl
theorem hsyms_le (l:List Int):∀ n,(qhe l n).length≤n * l.length:=by
 intro n
 induction n with
 | zero=>simp [qhe]
 | succ n ih =>
   have h4:=qlf l (n+1)
   have h5:=List.count_le_length (a:=((n+1:Nat):Int)) (l:=l)
   rw [qhe,List.length_append,Nat.succ_mul]
   omega
def hcC (s1 s2 s3:Sl) (ls:List Int):List Value:=.slice s1.a s1.len s1.cap :: .slice s2.a s2.len s2.cap :: (ivs .i64 (clL ls) ++ [.slice s3.a s3.len s3.cap])
theorem qcq (s1 s2 s3:Sl) (ls:List Int):(hcC s1 s2 s3 ls)[18]?=some (.slice s3.a s3.len s3.cap):=by
 unfold hcC
 rw [List.getElem?_cons_succ,List.getElem?_cons_succ,List.getElem?_append_right (by rw [qx,qaf]; decide),qx,qaf]
 rfl
theorem hcC_n (s1 s2 s3:Sl) (ls:List Int) {n:Nat} (h:n < 16):(hcC s1 s2 s3 ls)[2+n]?=some (.int .i64 (hc ls n)):=by
 unfold hcC
 rw [show 2+n=n+1+1 by omega,List.getElem?_cons_succ,List.getElem?_cons_succ,List.getElem?_append_left (by rw [qx,qaf]; exact h),qsm (by rw [qaf]; exact h),qwo _ h]
theorem qor (s1 s2 s3:Sl) (ls:List Int):(hcC s1 s2 s3 ls).length=19:=by
 unfold hcC
 rw [List.length_cons,List.length_cons,List.length_append,qx,qaf]
 rfl
theorem hcC_set18 (s1 s2 s3 s:Sl) (ls:List Int):(hcC s1 s2 s3 ls).set 18 (.slice s.a s.len s.cap)=hcC s1 s2 s ls:=by
 unfold hcC
 rw [List.set_cons_succ,List.set_cons_succ,List.set_append_right _ _ (by rw [qx,qaf]; decide),qx,qaf]
 rfl
theorem hcC_set1 (s1 s2 s3 s:Sl) (ls:List Int):(hcC s1 s2 s3 ls).set 1 (.slice s.a s.len s.cap)=hcC s1 s s3 ls:=rfl
theorem spl_hc (s:Sl) (f:Nat→Int):spl [.slice s.a s.len s.cap,.slice none 0 0,.int .i64 0,.int .i64 0,.int .i64 0,.int .i64 0,.int .i64 0,.int .i64 0,.int .i64 0,.int .i64 0,.int .i64 0,.int .i64 0,.int .i64 0,.int .i64 0,.int .i64 0,.int .i64 0,.int .i64 0,.int .i64 0,.slice none 0 0] 2 ⟨ivs .i64 (qzk 16 f)⟩ =
 .slice s.a s.len s.cap :: .slice none 0 0 :: (ivs .i64 (qzk 16 f) ++ [.slice none 0 0]):=by kernel_rfl
section
variable {F0:List Nat} {w0 w:World} {ps rest:List As} {ls:List Int}
def hcA (cb:Nat) (ls:List Int):As:=exA fun s:Sl × Sl × Sl=>ifA (okL ls∧kr ls≤32768∧ls.length≤288) <| andA (qjd cb (hcC s.1 s.2.1 s.2.2 ls)) <| andA (qmc 1 s.1 (ivs .i64 ls)) <| andA (qmc 1 s.2.1 (ivs .i64 (hcodes ls))) (qmc 1 s.2.2 (ivs .i64 (nats (qhe ls 15))))
theorem qwn (cb:Nat) (h:St F0 w0 w ps) [PkF hcA cb ps ls rest]:okL ls∧kr ls≤32768∧ls.length≤288∧∃ s1 s2 s3:Sl,Blk w cb (hcC s1 s2 s3 ls)∧Rd w 1 s1 (ivs .i64 ls)∧Rd w 1 s2 (ivs .i64 (hcodes ls))∧Rd w 1 s3 (ivs .i64 (nats (qhe ls 15))):=by
 obtain ⟨s,h⟩:=(h.toF hcA cb).exE
 obtain ⟨⟨h1,h2,h3⟩,h⟩:=h.ifE
 have h:=h.split
 have g:=h.drop.split
 have g2:=g.drop.split
 exact ⟨h1,h2,h3,s.1,s.2.1,s.2.2,h.blk,g.ord,g2.ord,g2.drop.ord⟩
theorem hcA_i {cb:Nat} {s1 s2 s3:Sl} (h1:okL ls) (h2:kr ls≤32768) (h3:ls.length≤288) (h:St F0 w0 w (qjd cb (hcC s1 s2 s3 ls) :: qmc 1 s1 (ivs .i64 ls) :: qmc 1 s2 (ivs .i64 (hcodes ls)) :: qmc 1 s3 (ivs .i64 (nats (qhe ls 15))) :: rest)):St F0 w0 w (hcA cb ls :: rest):=by
 have h:=(h.tail fun _ _ _ h=>(h.tail fun _ _ _ h=>h.join).join).join
 exact (h.ifI (c:=okL ls∧kr ls≤32768∧ls.length≤288) ⟨h1,h2,h3⟩).exI (p:=fun s:Sl × Sl × Sl=>ifA (okL ls∧kr ls≤32768∧ls.length≤288) <| andA (qjd cb (hcC s.1 s.2.1 s.2.2 ls)) <| andA (qmc 1 s.1 (ivs .i64 ls)) <| andA (qmc 1 s.2.1 (ivs .i64 (hcodes ls))) (qmc 1 s.2.2 (ivs .i64 (nats (qhe ls 15))))) (s1,s2,s3)
theorem Blk.cnt {cb:Nat} {s1 s2 s3:Sl} {i:Int} {K:Int→Prop} (hb:Blk w cb (hcC s1 s2 s3 ls)) (n:Nat) (hi:i=n) (hn:n < 16) (hk:K (hc ls n)):ixA (Addr.add ⟨cb,0,none⟩ 2) 16 i 1 fun a=>Go.Proofs.YthdmmmfgjmmelaaGreat.ldI .i64 w a K:=by
 subst hi
 refine ixA_b' (b:=cb) (o:=2) (by omega) (by omega) ?_
 refine hb.ldI ?_ hk
 rw [show 2+((n:Int)).toNat * 1=2+n by omega]
 exact hcC_n s1 s2 s3 ls hn
theorem hpos_take_sn {i:Nat} (h:i < ls.length) (n:Nat):qgk (ls.take (i+1)) n=qgk (ls.take i) n ++ if ls.getD i 0=n then [i] else []:=by
 rw [qhi h,qnl,List.length_take,Nat.min_eq_left (by omega)]
theorem qhc.c {s:Sl} {half:Bool} {K:Ending→World→Prop} (h:St F0 w0 w ps) [Rdb F0 w0 s ps 1 (ivs .i64 ls)]
 (hk:∀ cb w',qji ls half=0→St F0 w0 w' (hcA cb ls :: ps)→K (.returned (.tuple ⟨[.pointer (some ⟨cb,0,none⟩),.int .i64 0]⟩)) w')
 (hk2:∀ w',qji ls half ≠ 0→St F0 w0 w' ps→K (.returned (.tuple ⟨[.pointer none,.int .i64 (qji ls half)]⟩)) w'):Calls Tryz.prog 208 ⟨[.slice s.a s.len s.cap,.bool half]⟩ w K:=by
 have hl:=(h.rdb s).1
 rw [qx] at hl
 refine qnc (qhc.ok _ _ _ _ ?_)
 unfold qhc
 refine qjc.c h fun w h=>⟨_,_,rfl,?_⟩
 unfold qhc.j1
 refine qqe (fun g=>?_) (fun g=>?_)
 · have g:(qvk ls).2 ≠ 0:=by simpa using g
   have e:qji ls half=(qvk ls).2:=by unfold qji; rw [if_pos g]
   rw [e] at hk2
   exact hk2 w g h
 have g:(qvk ls).2=0:=by simpa using g
 obtain ⟨hok,hkr,hlen,hfull⟩:=qbq g
 refine h.clone (k:=.i64) (s2:=s) (by omega) fun s1 w h=>?_
 refine qwc.c h hok (by omega) fun w h=>⟨_,rfl,?_⟩
 refine ⟨by show (ivs .i64 (clL ls)).length=16; rw [qx,qaf],?_⟩
 refine h.new fun cb w h=>?_
 have h:St F0 w0 w (qjd cb (hcC s1 ⟨none,0,0⟩ ⟨none,0,0⟩ ls) :: qmc 1 s1 (ivs .i64 ls) :: ps):=new_asL (spl_hc s1 fun n=>(hc ls n:Int)) h
 unfold qhc.j2 qhc.j5
 refine qpg (fun (n:Nat) (n':Int) w'=>n'=n∧1≤n∧n≤16∧∃ s3,St F0 w0 w' (qjd cb (hcC s1 ⟨none,0,0⟩ s3 ls) :: qmc 1 s3 (ivs .i64 (nats (qhe ls (n - 1)))) :: qmc 1 s1 (ivs .i64 ls) :: ps)) (fun n=>16 - n) 1 ⟨rfl,by omega,by omega,⟨none,0,0⟩,(h.nil 1).at1⟩ ?_
 clear h
 rintro n n' w I μ ⟨rfl,hn1,hn,s3,h⟩ hin
 obtain ⟨m,rfl⟩:∃ m,n=m+1:=⟨n - 1,by omega⟩
 rw [Nat.add_sub_cancel] at h
 unfold qhc.b1
 refine qxc (fun g2=>?_) (fun g2=>?_)
 · unfold qhc.j6 qhc.j8
   refine qpg (fun (i:Nat) (i':Int) w'=>i'=i∧i≤ls.length∧∃ s3,St F0 w0 w' (qjd cb (hcC s1 ⟨none,0,0⟩ s3 ls) :: qmc 1 s3 (ivs .i64 (nats (qhe ls m ++ qgk (ls.take i) (m+1)))) :: qmc 1 s1 (ivs .i64 ls) :: ps)) (fun i=>ls.length - i) 0 ⟨rfl,by omega,s3,by
    have:qgk (ls.take 0) (m+1)=[]:=rfl
    rw [this,List.append_nil]; exact h⟩ ?_
   clear h
   rintro i i' w I2 μ2 ⟨rfl,hi,s4,h⟩ hin2
   unfold qhc.b2
   refine qxc (fun g3=>?_) (fun g3=>?_)
   · have hil:i < ls.length:=by omega
     have hps:=hpos_take_sn hil (m+1)
     refine h.lx (s:=s) i rfl hil ?_
     refine qqe (fun g4=>?_) (fun g4=>?_)
     · have g4:ls.getD i 0=((m+1:Nat):Int):=by simpa using g4
       rw [if_pos g4] at hps
       refine qod ((h.toB cb).blk.ldL (o:=18) (n:=s4) (qcq _ _ _ _) ?_)
       have hln:(nats (qhe ls m ++ qgk (ls.take i) (m+1))).length≤1099511627776:=by
        have h1:=qlf (ls.take i) (m+1)
        have h2:=List.count_le_length (a:=((m+1:Nat):Int)) (l:=ls.take i)
        rw [List.length_take] at h2
        have h3:∀ n,(qhe ls n).length≤n * ls.length:=by
         intro n
         induction n with
         | zero=>simp [qhe]
         | succ n ih =>
           have h4:=qlf ls (n+1)
           have h5:=List.count_le_length (a:=((n+1:Nat):Int)) (l:=ls)
           rw [qhe,List.length_append,Nat.succ_mul]
           omega
        have h6:=h3 m
        have h7:m * ls.length≤16 * 288:=Nat.mul_le_mul (by omega) hlen
        rw [qqh,List.length_append]
        omega
       refine h.pushI (s:=s4) hln fun s5 w h=>?_
       refine qod ((h.toB cb).st (o:=18) (by rw [qor]; decide) trivial fun w h=>?_)
       rw [hcC_set18] at h
       refine qw (qi (by omega) (by omega)) ?_
       refine ⟨⟨rfl,rfl,rfl,rfl,rfl,rfl,rfl⟩,hin2 (i+1) _ _ ⟨by omega,by omega,s5,?_⟩ (by omega)⟩
       have e:nats (qhe ls m ++ qgk (ls.take i) (m+1)) ++ [(i:Int)]=nats (qhe ls m ++ qgk (ls.take (i+1)) (m+1)):=by
        rw [hps]; simp [nats]
       rw [e] at h
       exact h.sub
     · have g4:¬ ls.getD i 0=((m+1:Nat):Int):=by simpa using g4
       rw [if_neg g4,List.append_nil] at hps
       refine qw (qi (by omega) (by omega)) ?_
       refine ⟨⟨rfl,rfl,rfl,rfl,rfl,rfl,rfl⟩,hin2 (i+1) _ _ ⟨by omega,by omega,s4,?_⟩ (by omega)⟩
       rw [hps]
       exact h
   · have:i=ls.length:=by omega
     subst this
     rw [List.take_length] at h
     unfold qhc.j7
     refine qw (qi (by omega) (by omega)) ?_
     exact ⟨⟨rfl,rfl,rfl,rfl⟩,hin (m+1+1) _ _ ⟨by omega,by omega,by omega,s4,h⟩ (by omega)⟩
 have:m=15:=by omega
 subst this
 clear hin
 have hs3l:=h.at1.len
 rw [qx,qqh] at hs3l
 have fin:qji ls half=0→qhc.j4 s (some ⟨cb,0,none⟩) (fun v w'=>K (.returned v) w') w:=by
  intro hn0
  unfold qhc.j4
  refine qdc.c h (fun s2 w _ h=>⟨s2,_,rfl,?_⟩) (fun w hne _=>absurd g hne)
  refine qod ((h.toB cb).st (o:=1) (by rw [qor]; decide) trivial fun w h=>?_)
  rw [hcC_set1] at h
  exact hk cb w hn0 (hcA_i (s1:=s1) (s2:=s2) (s3:=s3) hok hkr hlen h.sub)
 have bad:qji ls half=2→K (.returned (.tuple ⟨[.pointer none,.int .i64 2]⟩)) w:=by
  intro hn2
  rw [hn2] at hk2
  exact hk2 w (by decide) h.sub
 have hnw:qji ls half=if (qvk ls).1=false∧(half && hhalf ls)=false then 2 else 0:=by unfold qji; rw [if_neg (by rw [g]; decide)]
 unfold qhc.j3
 refine qqe (fun g5=>?_) (fun g5=>?_)
 · have g5:(qvk ls).1=false:=by simpa using g5
   refine qqe (fun g6=>?_) (fun g6=>?_)
   · subst g6
     refine qod ((h.toB cb).blk.ldL (o:=18) (n:=s3) (qcq _ _ _ _) ?_)
     refine qqe (fun g7=>?_) (fun g7=>?_)
     · have g7:s3.len=0:=by simpa using g7
       refine qik (fin ?_)
       rw [hnw,if_neg]
       intro e
       have:hhalf ls=true:=by unfold hhalf; rw [decide_eq_true_eq]; omega
       rw [this] at e
       exact absurd e.2 (by decide)
     have g7:s3.len ≠ 0:=by simpa using g7
     refine qod ((h.toB cb).blk.ldL (o:=18) (n:=s3) (qcq _ _ _ _) ?_)
     refine qqe (fun g8=>?_) (fun g8=>?_)
     · have g8:s3.len=1:=by have:((s3.len:Nat):Int)=1:=by simpa using g8
                            omega
       refine qod ((h.toB cb).blk.cnt 1 rfl (by decide) ?_)
       refine qqe (fun g9=>bad ?_) (fun g9=>fin ?_)
       · have g9:¬ (hc ls 1:Int)=1:=by simpa using g9
         have hh:(true && hhalf ls)=false:=by
          unfold hhalf
          rw [Bool.true_and,decide_eq_false_iff_not]
          omega
         rw [hnw,if_pos ⟨g5,hh⟩]
       · have g9:(hc ls 1:Int)=1:=by simpa using g9
         rw [hnw,if_neg]
         intro e
         have:hhalf ls=true:=by unfold hhalf; rw [decide_eq_true_eq]; omega
         rw [this] at e
         exact absurd e.2 (by decide)
     · have g8:¬ s3.len=1:=fun e=>by rw [e] at g8; exact absurd g8 (by decide)
       refine qum (bad ?_)
       have hh:(true && hhalf ls)=false:=by
        unfold hhalf
        rw [Bool.true_and,decide_eq_false_iff_not]
        omega
       rw [hnw,if_pos ⟨g5,hh⟩]
   · subst g6
     exact qum (bad (by rw [hnw,if_pos ⟨g5,rfl⟩]))
 · have g5:(qvk ls).1=true:=by simpa using g5
   exact fin (by rw [hnw,if_neg (fun e=>by rw [g5] at e; exact absurd e.1 (by decide))])
theorem qif.c {cb:Nat} {K:Ending→World→Prop} (h:St F0 w0 w ps) [PkF hcA cb ps ls rest]
 (hk:∀ w',St F0 w0 w' ps→K (.returned (.int .i64 (qhh ls 15))) w'):Calls Tryz.prog 340 ⟨[.pointer (some ⟨cb,0,none⟩)]⟩ w K:=by
 refine qnc (qif.ok _ _ _ ?_)
 unfold qif
 obtain ⟨h1,h2,h3,s1,s2,s3,hb,r1,r2,r3⟩:=qwn cb h
 have l3:=r3.1
 rw [qx,qqh] at l3
 have hlast:=hsyms_last (l:=ls) 15
 refine qod (hb.ldL (o:=18) (n:=s3) (qcq _ _ _ _) ?_)
 refine qqe (fun g=>?_) (fun g=>?_)
 · have g:s3.len=0:=by simpa using g
   rw [if_pos (List.eq_nil_of_length_eq_zero (by omega))] at hlast
   rw [hlast] at hk
   exact hk w h
 have g:s3.len ≠ 0:=by simpa using g
 have hne:0 < (qhe ls 15).length:=by omega
 rw [if_neg (fun e=>by rw [e] at hne; exact absurd hne (by decide))] at hlast
 clear hb r1 r2 r3 l3 g
 refine h.drewK fun w h=>?_
 obtain ⟨h1,h2,h3,s1,s2,s3,hb,r1,r2,r3⟩:=qwn cb h
 have l3:=r3.1
 rw [qx,qqh] at l3
 have hsle:=hsyms_le ls 15
 have hm:(qhe ls 15).getD ((qhe ls 15).length - 1) 0 ∈ qhe ls 15:=by
  rw [List.getD_eq_getElem?_getD,List.getElem?_eq_getElem (show (qhe ls 15).length - 1 < (qhe ls 15).length by omega)]
  exact List.getElem_mem _
 obtain ⟨m1,m2⟩:=hsyms_mem 15 _ hm
 refine qod (hb.ldL (o:=0) (n:=s1) rfl ?_)
 refine qod (hb.ldL (o:=18) (n:=s3) (qcq _ _ _ _) ?_)
 refine qod (hb.ldL (o:=18) (n:=s3) (qcq _ _ _ _) ?_)
 refine qw (qi (by omega) (by omega)) ?_
 refine r3.at ((qhe ls 15).length - 1) (by omega) (by rw [qqh]; omega) ?_
 rw [nats_getD]
 refine r1.at _ rfl m1 ?_
 have e:ls.getD ((qhe ls 15).getD ((qhe ls 15).length - 1) 0) 0=(qhh ls 15:Int):=by omega
 rw [e]
 exact hk w h
def bitA (rb:Nat) (x:Nat × Nat × Nat):As:=rrA rb x.1 x.2.1 x.2.2
theorem qyb.one {rb V N p:Nat} {K:Ending→World→Prop} (h:St F0 w0 w (bitA rb (V,N,p) :: ps)) (hN:N≤137438953472) (hp:p≤8 * N)
 (hk:p < 8 * N→∀ w',St F0 w0 w' (bitA rb (V,N,p+1) :: ps)→K (.returned (.tuple ⟨[.int .i64 ((bt V p).toNat:Nat),.bool true]⟩)) w')
 (hk':¬ p < 8 * N→∀ w',St F0 w0 w' (bitA rb (V,N,p) :: ps)→K (.returned (.tuple ⟨[.int .i64 0,.bool false]⟩)) w') :
 Calls Tryz.prog 311 ⟨[.pointer (some ⟨rb,0,none⟩),.int .i64 1]⟩ w K:=by
 refine qyb.c (V:=V) (N:=N) (at':=p) h hN (by omega) (fun g w h=>?_) (fun g w h=>?_)
 · have g:p < 8 * N:=by simp [getOk] at g; omega
   have e:=qyo V p
   have e2:((V / 2 ^ p % 2 ^ (1:Int).toNat:Nat):Int)=(((bt V p).toNat:Nat):Int):=by
    rw [e,show (1:Int).toNat=1 by decide,Nat.pow_one]
    simp
   rw [e2]
   exact hk g w h
 · have g:¬ p < 8 * N:=by simp [getOk] at g; omega
   exact hk' g w h
theorem qtr {V N p:Nat}:(qm (V:Int) N)[p]?=if p < N then some (bt V p) else none:=by
 unfold qm
 rw [List.getElem?_map]
 split
 · rename_i h; rw [List.getElem?_range h]; rfl
 · rename_i h; rw [List.getElem?_eq_none (by simpa using h)]; rfl
theorem or1 {v:Nat} (x:Bool) (hv:v < 1000000000):orV .i64 (2 * (v:Int)) ((x.toNat:Nat):Int)=((2 * v+x.toNat:Nat):Int):=by
 have hx:x.toNat < 2:=by cases x <;> decide
 have e:=orV_add' .i64 (a:=x.toNat) (b:=v) (t:=1) hx (by show x.toNat+v * 2 ^ 1 < 2 ^ 63; omega)
 rw [show (2:Int) ^ 1=2 by decide] at e
 rw [Int.mul_comm,e]
 omega
theorem qfc.c {cb rb V N p:Nat} {K:Ending→World→Prop} (h:St F0 w0 w (bitA rb (V,N,p) :: ps)) [PkF hcA cb ps ls rest] (hN:N≤137438953472) (hp:p≤8 * N)
 (hk:∀ w',(hnext ls (qm V (8 * N)) p).2.2≤8 * N→St F0 w0 w' (bitA rb (V,N,(hnext ls (qm V (8 * N)) p).2.2) :: ps)→K (.returned (.tuple ⟨[.int .i64 (hnext ls (qm V (8 * N)) p).1,.int .i64 (hnext ls (qm V (8 * N)) p).2.1]⟩)) w') :
 Calls Tryz.prog 316 ⟨[.pointer (some ⟨cb,0,none⟩),.pointer (some ⟨rb,0,none⟩)]⟩ w K:=by
 refine qnc (qfc.ok _ _ _ _ ?_)
 unfold qfc qfc.j1 qfc.j2 qfc.j4
 obtain ⟨hok,hkr,hlen,_⟩:=qwn cb h
 have hlg:=hlong_le ls 15 (by decide)
 refine loop4 (fun (a:Nat × Nat × Nat) (t6 t7 t8 t10:Int) w'=>t6=a.2.1∧t7=((hf ls (a.1 - 1)+hc ls (a.1 - 1):Nat):Int)∧t8=((qhe ls (a.1 - 1)).length:Int)∧t10=a.1∧1≤a.1∧a.1≤qhh ls 15+1∧hf ls (a.1 - 1)+hc ls (a.1 - 1)≤a.2.1∧a.2.1 < 2 ^ (a.1 - 1)∧a.2.2≤8 * N ∧
  hdec ls (qm V (8 * N)) (qhh ls 15+1 - a.1) a.1 a.2.1 a.2.2=hnext ls (qm V (8 * N)) p∧St F0 w0 w' (bitA rb (V,N,a.2.2) :: ps)) (fun a=>17 - a.1) (1,0,p) ⟨rfl,by simp [hf,hc],by simp [qhe],rfl,by simp,by simp only; omega,by simp [hf,hc],by simp,hp,by simp [hnext],h⟩ ?_
 clear h
 rintro ⟨n,v,q⟩ t6 t7 t8 t10 w I μ ⟨rfl,rfl,rfl,rfl,hn1,hn,hge,hv,hq,hd,h⟩ hin
 simp only at hn1 hn hge hv hq hd h hin ⊢
 obtain ⟨m,rfl⟩:∃ m,n=m+1:=⟨n - 1,by omega⟩
 rw [Nat.add_sub_cancel] at hge hv ⊢
 unfold qfc.b1
 refine qif.c h fun w h=>⟨_,rfl,?_⟩
 refine qxc (fun g=>?_) (fun g=>?_)
 · have hm15:m+1≤15:=by omega
   have hv2:v < 32768:=Nat.lt_of_lt_of_le hv (Nat.le_trans (Nat.pow_le_pow_right (by decide) (show m≤15 by omega)) (by decide))
   obtain ⟨f,hf1⟩:∃ f,qhh ls 15+1 - (m+1)=f+1:=⟨qhh ls 15 - (m+1),by omega⟩
   rw [hf1,hdec,qtr] at hd
   refine qyb.one h hN hq (fun gk w h=>⟨_,_,rfl,?_⟩) (fun gk w h=>⟨_,_,rfl,?_⟩)
   · rw [if_pos gk] at hd
     simp only at hd
     refine qik ⟨by decide,qw (shl1 (by omega)) ?_⟩
     refine qw (or1 _ (by omega)) ?_
     have hb1:=qzi ls hok hkr (n:=m) (by omega)
     have hb2:=qzi ls hok hkr (n:=m+1) hm15
     have hx:(bt V q).toNat < 2:=by cases bt V q <;> decide
     generalize (bt V q).toNat=x at hd hx ⊢
     have hfe:hf ls (m+1)=2 * (hf ls m+hc ls m):=rfl
     refine ⟨by decide,qw (shl1 (by omega)) ?_⟩
     refine qw (qi (by omega) (by omega)) ?_
     obtain ⟨_,_,_,s1,s2,s3,hb,r1,r2,r3⟩:=qwn cb h
     have l3:=r3.1
     rw [qx,qqh] at l3
     have hsy:=hsyms_at ls 15 (m+1) (2 * v+x - hf ls (m+1)) (by omega) hm15
     rw [Nat.add_sub_cancel] at hsy
     have hcn:hc ls (m+1)=ls.count ((m+1:Nat):Int):=by unfold hc; rw [if_neg (by omega)]
     have hpl:=qlf ls (m+1)
     refine qod (hb.cnt (m+1) rfl (by omega) ?_)
     have hsl:(qhe ls m).length≤1000000:=by
      have h3:∀ n,(qhe ls n).length≤n * ls.length:=by
       intro n
       induction n with
       | zero=>simp [qhe]
       | succ n ih =>
         have h4:=qlf ls (n+1)
         have h5:=List.count_le_length (a:=((n+1:Nat):Int)) (l:=ls)
         rw [qhe,List.length_append,Nat.succ_mul]
         omega
      have h6:=h3 m
      have h7:m * ls.length≤16 * 288:=Nat.mul_le_mul (by omega) hlen
      omega
     refine qxc (fun g2=>?_) (fun g2=>?_)
     · rw [if_pos (by omega)] at hd
       refine qod (hb.ldL (o:=18) (n:=s3) (qcq _ _ _ _) ?_)
       refine qw (qi (by omega) (by omega)) ?_
       have hsy:=hsy (by omega)
       have hlt:(qhe ls m).length+(2 * v+x - hf ls (m+1)) < (qhe ls 15).length:=by
        rcases Nat.lt_or_ge ((qhe ls m).length+(2 * v+x - hf ls (m+1))) (qhe ls 15).length with h1 | h1
        · exact h1
        · rw [List.getElem?_eq_none h1,List.getElem?_eq_getElem (show 2 * v+x - hf ls (m+1) < (qgk ls (m+1)).length by omega)] at hsy
          cases hsy
       refine r3.at ((qhe ls m).length+(2 * v+x - hf ls (m+1))) (by omega) (by rw [qqh]; exact hlt) ?_
       rw [nats_getD,List.getD_eq_getElem?_getD,hsy,← List.getD_eq_getElem?_getD]
       rw [← hd] at hk
       exact hk w (by simp only; omega) h
     · rw [if_neg (by omega)] at hd
       refine qod (hb.cnt (m+1) rfl (by omega) ?_)
       have hcl:=hc_le ls (m+1)
       refine qw (qi (by omega) (by omega)) ?_
       refine qod (hb.cnt (m+1) rfl (by omega) ?_)
       refine qw (qi (by omega) (by omega)) ?_
       refine qw (qi (by omega) (by omega)) ?_
       refine ⟨⟨rfl,rfl⟩,hin (m+1+1,2 * v+x,q+1) _ _ _ _ _ ⟨rfl,?_,?_,by simp,by simp,by simp only; omega,?_,?_,by simp only; omega,?_,h⟩ (by simp only; omega)⟩
       · simp only [Nat.add_sub_cancel]; omega
       · simp only [Nat.add_sub_cancel]
         rw [qhe,List.length_append]; omega
       · simp only [Nat.add_sub_cancel]; omega
       · simp only [Nat.add_sub_cancel]
         rw [Nat.pow_succ]; omega
       · simp only
         rw [show qhh ls 15+1 - (m+1+1)=f by omega]
         exact hd
   · rw [if_neg gk] at hd
     simp only at hd
     refine qum ?_
     rw [← hd] at hk
     exact hk w hq h
 · have e:qhh ls 15+1 - (m+1)=0:=by omega
   rw [e,hdec] at hd
   unfold qfc.j3
   rw [← hd] at hk
   exact hk w hq h
theorem cbits_eq (c n:Nat):(qm (c:Int) n).reverse=cbits c n:=by
 apply List.ext_getElem
 · rw [List.length_reverse,qq,qtl]
 · intro i h1 h2
   rw [qtl] at h2
   rw [List.getElem_reverse]
   simp only [qm,cbits,List.getElem_map,List.getElem_range,List.length_map,List.length_range]
   exact bt_nat c _
def hput (ls:List Int) (sym:Int):List Bool:=if 0≤sym∧sym < ls.length∧ls.getD sym.toNat 0 ≠ 0 then cbits (qmf ls sym.toNat) (ls.getD sym.toNat 0).toNat else []
def hputs (ls:List Int) (sym:Int):Bool:=decide (0≤sym∧sym < ls.length∧ls.getD sym.toNat 0 ≠ 0)
theorem qff.c {cb wb:Nat} {l:List Bool} {sym:Int} {K:Ending→World→Prop} (h:St F0 w0 w (wrL wb l :: ps)) [PkF hcA cb ps ls rest] (hL:l.length≤549755813888)
 (hk:∀ w',St F0 w0 w' (wrL wb (l ++ hput ls sym) :: ps)→K (.returned (.bool (hputs ls sym))) w') :
 Calls Tryz.prog 215 ⟨[.pointer (some ⟨cb,0,none⟩),.pointer (some ⟨wb,0,none⟩),.int .i64 sym]⟩ w K:=by
 refine qnc (qff.ok _ _ _ _ _ ?_)
 unfold qff
 obtain ⟨hok,hkr,hlen,s1,s2,s3,hb,r1,r2,r3⟩:=qwn cb h
 have l1:=r1.1
 rw [qx] at l1
 have bad:¬ (0≤sym∧sym < ls.length∧ls.getD sym.toNat 0 ≠ 0)→K (.returned (.bool false)) w:=by
  intro hn
  unfold hput hputs at hk
  rw [if_neg hn,List.append_nil,decide_eq_false hn] at hk
  exact hk w h
 refine qxc (fun g=>bad (by omega)) (fun g=>?_)
 refine qod (hb.ldL (o:=0) (n:=s1) rfl ?_)
 refine qxc (fun g2=>bad (by omega)) (fun g2=>?_)
 have hin:sym.toNat < ls.length:=by omega
 refine qod (hb.ldL (o:=0) (n:=s1) rfl ?_)
 refine r1.at sym.toNat (by omega) hin ?_
 refine qqe (fun g3=>bad (fun e=>e.2.2 (by simpa using g3))) (fun g3=>?_)
 have g3:ls.getD sym.toNat 0 ≠ 0:=by simpa using g3
 have hx:=hok _ (qde hin)
 obtain ⟨m,hm⟩:∃ m:Nat,ls.getD sym.toNat 0=m:=⟨(ls.getD sym.toNat 0).toNat,by omega⟩
 unfold hput hputs at hk
 have hcond:0≤sym∧sym < ls.length∧ls.getD sym.toNat 0 ≠ 0:=⟨by omega,by omega,g3⟩
 rw [if_pos hcond,decide_eq_true hcond,hm] at hk
 clear hb r1 r2 r3 l1
 refine h.drewK fun w h=>?_
 obtain ⟨_,_,_,s1,s2,s3,hb,r1,r2,r3⟩:=qwn cb h
 refine qod (hb.ldL (o:=1) (n:=s2) rfl ?_)
 refine r2.at sym.toNat (by omega) (by rw [qhn]; exact hin) ?_
 rw [qaq _ hin]
 refine qod (hb.ldL (o:=0) (n:=s1) rfl ?_)
 refine r1.at sym.toNat (by omega) hin ?_
 rw [hm]
 refine qqf.c h hL fun w h=>⟨rfl,?_⟩
 have e:(pb (qmf ls sym.toNat:Int) (m:Int)).reverse=cbits (qmf ls sym.toNat) m:=by
  unfold pb
  rw [if_pos (by omega),Int.toNat_natCast,cbits_eq]
 rw [e] at h
 rw [Int.toNat_natCast] at hk
 exact hk w h
end
end Go.Proofs.YthdmmmfgjmmelaaGreat
namespace Go.Proofs.YthdmmmfgjmmelaaGreat
open Go Go.Proofs
set_option linter.unusedVariables false
set_option maxRecDepth 100000
def qac.j3 (sum_4:Int) (Q:VWP) (w:World):Prop :=
 br (decide ((sum_4:Int) > 32768)) (
 Q (.tuple ⟨[.bool false,.int .i64 2]⟩) w) (
 Q (.tuple ⟨[.bool ((sum_4:Int) == 32768),.int .i64 0]⟩) w)
def qac.b1 (lens_0:Sl) (sum_4:Int) (i_5:Int) (Q:VWP) (nx1:Sl→Int→Int→World→Prop) (w:World):Prop :=
 br (decide ((i_5:Int) < ((lens_0.len:Nat):Int))) (
 ixS lens_0.a lens_0.len i_5 1 fun a1 =>
 ldI .i64 w a1 fun x2 =>
 br (decide ((x2:Int) < 0)) (
 Q (.tuple ⟨[.bool false,.int .i64 1]⟩) w) (
 ixS lens_0.a lens_0.len i_5 1 fun a3 =>
 ldI .i64 w a3 fun x4 =>
 br (decide ((x4:Int) > 15)) (
 Q (.tuple ⟨[.bool false,.int .i64 1]⟩) w) (
 ixS lens_0.a lens_0.len i_5 1 fun a5 =>
 ldI .i64 w a5 fun x6 =>
 br (decide ((x6:Int) > 0)) (
 ixS lens_0.a lens_0.len i_5 1 fun a7 =>
 ldI .i64 w a7 fun x8 =>
 lt (IntKind.i64.wrap (15 - x8)) fun x9 =>
 lt (IntKind.u64.wrap x9) fun x10 =>
 (0:Int)≤x10 ∧
 lt (qpi .i64 1 x10) fun x11 =>
 lt (IntKind.i64.wrap (sum_4+x11)) fun x12 =>
 lt (IntKind.i64.wrap (i_5+1)) fun x13 =>
 nx1 lens_0 x12 x13 w) (
 lt (IntKind.i64.wrap (i_5+1)) fun x14 =>
 nx1 lens_0 sum_4 x14 w)))) (
 qac.j3 sum_4 Q w)
def qac.l1 (lens_0:Sl) (sum_4:Int) (i_5:Int) (Q:VWP) (w:World):Prop :=
 ∃ (I:Int→Int→World→Prop) (μ:Int→Int→World→Nat),I sum_4 i_5 w∧∀ sum_4:Int,∀ i_5:Int,∀ w:World,I sum_4 i_5 w→qac.b1 lens_0 sum_4 i_5 Q (fun lens_0' sum_4' i_5' w'=>(lens_0'=lens_0)∧I sum_4' i_5' w'∧μ sum_4' i_5' w' < μ sum_4 i_5 w) w
def qac.j4 (lens_0:Sl) (sum_4:Int) (i_5:Int) (Q:VWP) (w:World):Prop :=
 qac.l1 lens_0 sum_4 i_5 Q w
def qac.j2 (lens_0:Sl) (sum_4:Int) (Q:VWP) (w:World):Prop :=
 qac.j4 lens_0 sum_4 0 Q w
def qac.j1 (lens_0:Sl) (Q:VWP) (w:World):Prop :=
 br (decide ((((lens_0.len:Nat):Int):Int) > 288)) (
 Q (.tuple ⟨[.bool false,.int .i64 1]⟩) w) (
 qac.j2 lens_0 0 Q w)
def qac (lens_0:Sl) (Q:VWP) (w:World):Prop :=
 qac.j1 lens_0 Q w
theorem qac.ok (lens_0:Sl) (Q:VWP) (w:World) (h:qac lens_0 Q w):Calls Tryz.prog 327 ⟨[.slice lens_0.a lens_0.len lens_0.cap]⟩ w (Ret Q):=by
 refine qp [.tmp 2,.tmp 3] Tryz.func327 rfl rfl rfl rfl ?_
 refine qu (fun ρ w=>asL (ρ 0) fun lens_0=>qac.j1 lens_0 Q w) ?_ ?_
 · skip
   exact qg qpb _ (Eq.mp (by kernel_rfl) h)
 · intro ρ w h
   obtain ⟨lens_0,e0,h⟩:=ql h
   refine qb e0 ?_
   refine qfb qpb (fun ρ w=>asL (ρ 0) fun lens_0=>asI .i64 (ρ 4) fun sum_4=>qac.j2 lens_0 sum_4 Q w) (Eq.mp (by kernel_rfl) h) ?_
   intro ρ w h
   obtain ⟨lens_0,e0,h⟩:=ql h
   obtain ⟨sum_4,e4,h⟩:=qd h
   refine qb e0 (qb (qa e4 rfl) ?_)
   refine qu (fun ρ w=>asI .i64 (ρ 4) fun sum_4=>qac.j3 sum_4 Q w) ?_ ?_
   · skip
     refine qu (fun ρ w=>asL (ρ 0) fun lens_0=>asI .i64 (ρ 4) fun sum_4=>asI .i64 (ρ 5) fun i_5=>qac.j4 lens_0 sum_4 i_5 Q w) ?_ ?_
     · skip
       exact qg qpb _ (Eq.mp (by kernel_rfl) h)
     · intro ρ w h
       obtain ⟨lens_0,e0,h⟩:=ql h
       obtain ⟨sum_4,e4,h⟩:=qd h
       obtain ⟨i_5,e5,h⟩:=qd h
       refine qb e0 (qb (qa e4 rfl) (qb (qa (qa e5 rfl) rfl) ?_))
       refine qcb ?_
       obtain ⟨I,μ,hI,hr⟩:=h
       refine qlb (α:=Int × Int) (fun s ρ=>ρ 4=.int .i64 s.1∧ρ 5=.int .i64 s.2∧ρ 0=.slice lens_0.a lens_0.len lens_0.cap) (fun s w=>I s.1 s.2 w) (fun s w=>μ s.1 s.2 w) (sum_4,i_5) ⟨rfl,rfl,rfl⟩ hI ?_
       rintro ⟨sum_4,i_5⟩ ρ w ⟨e4,e5,e0⟩ hI
       have h:=hr sum_4 i_5 w hI
       clear hr
       obtain ⟨nx1,hnx⟩:∃ nx:Sl→Int→Int→World→Prop,nx=(fun lens_0' sum_4' i_5' w'=>(lens_0'=lens_0)∧I sum_4' i_5' w'∧μ sum_4' i_5' w' < μ sum_4 i_5 w):=⟨_,rfl⟩
       rw [← hnx] at h
       refine qsb (M:=fun ρ w=>asL (ρ 0) fun lens_0=>asI .i64 (ρ 4) fun sum_4=>asI .i64 (ρ 5) fun i_5=>nx1 lens_0 sum_4 i_5 w) ?_ (fun ρ w h=>?_)
       · skip
         refine qb e0 (qb (qa e4 rfl) (qb (qa (qa e5 rfl) rfl) ?_))
         exact qg qpb _ (Eq.mp (by kernel_rfl) h)
       · skip
         obtain ⟨lens_0',e0',h⟩:=ql h
         obtain ⟨sum_4',e4',h⟩:=qd h
         obtain ⟨i_5',e5',h⟩:=qd h
         rw [hnx] at h
         obtain ⟨hu,hI2,hμ⟩:=h
         obtain rfl:=hu
         exact ⟨(sum_4',i_5'),⟨e4',e5',e0'⟩,hI2,hμ⟩
   · intro ρ w h
     obtain ⟨sum_4,e4,h⟩:=qd h
     refine qb e4 ?_
     exact qg qpb _ (Eq.mp (by kernel_rfl) h)
def qab.j4 (out_6:Sl) (Q:VWP) (w:World):Prop :=
 Q (.tuple ⟨[.slice out_6.a out_6.len out_6.cap,.int .i64 0]⟩) w
def qab.j7 (lens_0 out_6:Sl) (code_7:Int) (n_8:Int) (Q:VWP) (nx1:Sl→Sl→Int→Int→World→Prop) (w:World):Prop :=
 lt (IntKind.i64.wrap (n_8+1)) fun x1 =>
 nx1 lens_0 out_6 code_7 x1 w
def qab.j8 (lens_0 out_6:Sl) (code_7:Int) (n_8:Int) (Q:VWP) (nx1:Sl→Sl→Int→Int→World→Prop) (w:World):Prop :=
 (0:Int)≤1 ∧
 lt (qpi .i64 code_7 1) fun x2 =>
 qab.j7 lens_0 out_6 x2 n_8 Q nx1 w
def qab.b2 (lens_0 out_6:Sl) (n_8:Int) (code_7 i_9:Int) (Q:VWP) (nx1:Sl→Sl→Int→Int→World→Prop) (nx2:Sl→Sl→Int→Int→Int→World→Prop) (w:World):Prop :=
 br (decide ((i_9:Int) < ((lens_0.len:Nat):Int))) (
 ixS lens_0.a lens_0.len i_9 1 fun a3 =>
 ldI .i64 w a3 fun x4 =>
 br ((x4:Int) == n_8) (
 ixS out_6.a out_6.len i_9 1 fun a5 =>
 st w a5 (.int .i64 code_7) fun w6 =>
 lt (IntKind.i64.wrap (code_7+1)) fun x7 =>
 lt (IntKind.i64.wrap (i_9+1)) fun x8 =>
 nx2 lens_0 out_6 n_8 x7 x8 w6) (
 lt (IntKind.i64.wrap (i_9+1)) fun x9 =>
 nx2 lens_0 out_6 n_8 code_7 x9 w)) (
 qab.j8 lens_0 out_6 code_7 n_8 Q nx1 w)
def qab.l2 (lens_0 out_6:Sl) (n_8:Int) (code_7 i_9:Int) (Q:VWP) (nx1:Sl→Sl→Int→Int→World→Prop) (w:World):Prop :=
 ∃ (I:Int→Int→World→Prop) (μ:Int→Int→World→Nat),I code_7 i_9 w∧∀ code_7:Int,∀ i_9:Int,∀ w:World,I code_7 i_9 w→qab.b2 lens_0 out_6 n_8 code_7 i_9 Q nx1 (fun lens_0' out_6' n_8' code_7' i_9' w'=>(lens_0'=lens_0∧out_6'=out_6∧n_8'=n_8)∧I code_7' i_9' w'∧μ code_7' i_9' w' < μ code_7 i_9 w) w
def qab.j9 (lens_0 out_6:Sl) (code_7:Int) (n_8 i_9:Int) (Q:VWP) (nx1:Sl→Sl→Int→Int→World→Prop) (w:World):Prop :=
 qab.l2 lens_0 out_6 n_8 code_7 i_9 Q nx1 w
def qab.j6 (lens_0 out_6:Sl) (code_7:Int) (n_8:Int) (Q:VWP) (nx1:Sl→Sl→Int→Int→World→Prop) (w:World):Prop :=
 qab.j9 lens_0 out_6 code_7 n_8 0 Q nx1 w
def qab.b1 (lens_0 out_6:Sl) (code_7:Int) (n_8:Int) (Q:VWP) (nx1:Sl→Sl→Int→Int→World→Prop) (w:World):Prop :=
 br (decide ((n_8:Int)≤15)) (
 qab.j6 lens_0 out_6 code_7 n_8 Q nx1 w) (
 qab.j4 out_6 Q w)
def qab.l1 (lens_0 out_6:Sl) (code_7:Int) (n_8:Int) (Q:VWP) (w:World):Prop :=
 ∃ (I:Int→Int→World→Prop) (μ:Int→Int→World→Nat),I code_7 n_8 w∧∀ code_7:Int,∀ n_8:Int,∀ w:World,I code_7 n_8 w→qab.b1 lens_0 out_6 code_7 n_8 Q (fun lens_0' out_6' code_7' n_8' w'=>(lens_0'=lens_0∧out_6'=out_6)∧I code_7' n_8' w'∧μ code_7' n_8' w' < μ code_7 n_8 w) w
def qab.j5 (lens_0 out_6:Sl) (code_7:Int) (n_8:Int) (Q:VWP) (w:World):Prop :=
 qab.l1 lens_0 out_6 code_7 n_8 Q w
def qab.j3 (lens_0 out_6:Sl) (code_7:Int) (Q:VWP) (w:World):Prop :=
 qab.j5 lens_0 out_6 code_7 1 Q w
def qab.j2 (lens_0:Sl) (Q:VWP) (w:World):Prop :=
 mkK Tryz.prog 3 w ((lens_0.len:Nat):Int) ((lens_0.len:Nat):Int) fun s10 w11 =>
 qab.j3 lens_0 s10 0 Q w11
def qab.j1 (lens_0:Sl) (Q:VWP) (w:World):Prop :=
 Calls Tryz.prog 327 ⟨[.slice lens_0.a lens_0.len lens_0.cap]⟩ w fun e12 w13 =>
 ∃ r14:Bool,∃ r15:Int,e12=.returned (.tuple ⟨[.bool r14,.int .i64 r15]⟩) ∧
 br ((r15:Int) != 0) (
 Q (.tuple ⟨[.slice none 0 0,.int .i64 r15]⟩) w13) (
 qab.j2 lens_0 Q w13)
def qab (lens_0:Sl) (Q:VWP) (w:World):Prop :=
 qab.j1 lens_0 Q w
theorem qab.ok (lens_0:Sl) (Q:VWP) (w:World) (h:qab lens_0 Q w):Calls Tryz.prog 328 ⟨[.slice lens_0.a lens_0.len lens_0.cap]⟩ w (Ret Q):=by
 refine qp [.tmp 2,.tmp 3] Tryz.func328 rfl rfl rfl rfl ?_
 refine qu (fun ρ w=>asL (ρ 0) fun lens_0=>qab.j1 lens_0 Q w) ?_ ?_
 · skip
   exact qg qpb _ (Eq.mp (by kernel_rfl) h)
 · intro ρ w h
   obtain ⟨lens_0,e0,h⟩:=ql h
   refine qb e0 ?_
   refine qfb qpb (fun ρ w=>asL (ρ 0) fun lens_0=>qab.j2 lens_0 Q w) (Eq.mp (by kernel_rfl) h) ?_
   intro ρ w h
   obtain ⟨lens_0,e0,h⟩:=ql h
   refine qb e0 ?_
   refine qfb qpb (fun ρ w=>asL (ρ 0) fun lens_0=>asL (ρ 6) fun out_6=>asI .i64 (ρ 7) fun code_7=>qab.j3 lens_0 out_6 code_7 Q w) (Eq.mp (by kernel_rfl) h) ?_
   intro ρ w h
   obtain ⟨lens_0,e0,h⟩:=ql h
   obtain ⟨out_6,e6,h⟩:=ql h
   obtain ⟨code_7,e7,h⟩:=qd h
   refine qb e0 (qb (qa e6 rfl) (qb (qa (qa e7 rfl) rfl) ?_))
   refine qu (fun ρ w=>asL (ρ 6) fun out_6=>qab.j4 out_6 Q w) ?_ ?_
   · skip
     refine qu (fun ρ w=>asL (ρ 0) fun lens_0=>asL (ρ 6) fun out_6=>asI .i64 (ρ 7) fun code_7=>asI .i64 (ρ 8) fun n_8=>qab.j5 lens_0 out_6 code_7 n_8 Q w) ?_ ?_
     · skip
       exact qg qpb _ (Eq.mp (by kernel_rfl) h)
     · intro ρ w h
       obtain ⟨lens_0,e0,h⟩:=ql h
       obtain ⟨out_6,e6,h⟩:=ql h
       obtain ⟨code_7,e7,h⟩:=qd h
       obtain ⟨n_8,e8,h⟩:=qd h
       refine qb e0 (qb (qa e6 rfl) (qb (qa (qa e7 rfl) rfl) (qb (qa (qa (qa e8 rfl) rfl) rfl) ?_)))
       refine qcb ?_
       obtain ⟨I,μ,hI,hr⟩:=h
       refine qlb (α:=Int × Int) (fun s ρ=>ρ 7=.int .i64 s.1∧ρ 8=.int .i64 s.2∧ρ 0=.slice lens_0.a lens_0.len lens_0.cap∧ρ 6=.slice out_6.a out_6.len out_6.cap) (fun s w=>I s.1 s.2 w) (fun s w=>μ s.1 s.2 w) (code_7,n_8) ⟨rfl,rfl,rfl,rfl⟩ hI ?_
       rintro ⟨code_7,n_8⟩ ρ w ⟨e7,e8,e0,e6⟩ hI
       have h:=hr code_7 n_8 w hI
       clear hr
       obtain ⟨nx1,hnx⟩:∃ nx:Sl→Sl→Int→Int→World→Prop,nx=(fun lens_0' out_6' code_7' n_8' w'=>(lens_0'=lens_0∧out_6'=out_6)∧I code_7' n_8' w'∧μ code_7' n_8' w' < μ code_7 n_8 w):=⟨_,rfl⟩
       rw [← hnx] at h
       refine qsb (M:=fun ρ w=>asL (ρ 0) fun lens_0=>asL (ρ 6) fun out_6=>asI .i64 (ρ 7) fun code_7=>asI .i64 (ρ 8) fun n_8=>nx1 lens_0 out_6 code_7 n_8 w) ?_ (fun ρ w h=>?_)
       · skip
         refine qb e0 (qb (qa e6 rfl) (qb (qa (qa e7 rfl) rfl) (qb (qa (qa (qa e8 rfl) rfl) rfl) ?_)))
         refine qu (fun ρ w=>asL (ρ 0) fun lens_0=>asL (ρ 6) fun out_6=>asI .i64 (ρ 7) fun code_7=>asI .i64 (ρ 8) fun n_8=>qab.j6 lens_0 out_6 code_7 n_8 Q nx1 w) ?_ ?_
         · skip
           exact qg qpb _ (Eq.mp (by kernel_rfl) h)
         · intro ρ w h
           obtain ⟨lens_0,e0,h⟩:=ql h
           obtain ⟨out_6,e6,h⟩:=ql h
           obtain ⟨code_7,e7,h⟩:=qd h
           obtain ⟨n_8,e8,h⟩:=qd h
           refine qb e0 (qb (qa e6 rfl) (qb (qa (qa e7 rfl) rfl) (qb (qa (qa (qa e8 rfl) rfl) rfl) ?_)))
           refine qu (fun ρ w=>asL (ρ 0) fun lens_0=>asL (ρ 6) fun out_6=>asI .i64 (ρ 7) fun code_7=>asI .i64 (ρ 8) fun n_8=>qab.j7 lens_0 out_6 code_7 n_8 Q nx1 w) ?_ ?_
           · skip
             refine qcb ?_
             refine qu (fun ρ w=>asL (ρ 0) fun lens_0=>asL (ρ 6) fun out_6=>asI .i64 (ρ 7) fun code_7=>asI .i64 (ρ 8) fun n_8=>qab.j8 lens_0 out_6 code_7 n_8 Q nx1 w) ?_ ?_
             · skip
               refine qu (fun ρ w=>asL (ρ 0) fun lens_0=>asL (ρ 6) fun out_6=>asI .i64 (ρ 7) fun code_7=>asI .i64 (ρ 8) fun n_8=>asI .i64 (ρ 9) fun i_9=>qab.j9 lens_0 out_6 code_7 n_8 i_9 Q nx1 w) ?_ ?_
               · skip
                 exact qg qpb _ (Eq.mp (by kernel_rfl) h)
               · intro ρ w h
                 obtain ⟨lens_0,e0,h⟩:=ql h
                 obtain ⟨out_6,e6,h⟩:=ql h
                 obtain ⟨code_7,e7,h⟩:=qd h
                 obtain ⟨n_8,e8,h⟩:=qd h
                 obtain ⟨i_9,e9,h⟩:=qd h
                 refine qb e0 (qb (qa e6 rfl) (qb (qa (qa e7 rfl) rfl) (qb (qa (qa (qa e8 rfl) rfl) rfl) (qb (qa (qa (qa (qa e9 rfl) rfl) rfl) rfl) ?_))))
                 refine qcb ?_
                 obtain ⟨I,μ,hI,hr⟩:=h
                 refine qlb (α:=Int × Int) (fun s ρ=>ρ 7=.int .i64 s.1∧ρ 9=.int .i64 s.2∧ρ 0=.slice lens_0.a lens_0.len lens_0.cap∧ρ 6=.slice out_6.a out_6.len out_6.cap∧ρ 8=.int .i64 n_8) (fun s w=>I s.1 s.2 w) (fun s w=>μ s.1 s.2 w) (code_7,i_9) ⟨rfl,rfl,rfl,rfl,rfl⟩ hI ?_
                 rintro ⟨code_7,i_9⟩ ρ w ⟨e7,e9,e0,e6,e8⟩ hI
                 have h:=hr code_7 i_9 w hI
                 clear hr
                 obtain ⟨nx2,hnx⟩:∃ nx:Sl→Sl→Int→Int→Int→World→Prop,nx=(fun lens_0' out_6' n_8' code_7' i_9' w'=>(lens_0'=lens_0∧out_6'=out_6∧n_8'=n_8)∧I code_7' i_9' w'∧μ code_7' i_9' w' < μ code_7 i_9 w):=⟨_,rfl⟩
                 rw [← hnx] at h
                 refine qsb (M:=fun ρ w=>asL (ρ 0) fun lens_0=>asL (ρ 6) fun out_6=>asI .i64 (ρ 8) fun n_8=>asI .i64 (ρ 7) fun code_7=>asI .i64 (ρ 9) fun i_9=>nx2 lens_0 out_6 n_8 code_7 i_9 w) ?_ (fun ρ w h=>?_)
                 · skip
                   refine qb e0 (qb (qa e6 rfl) (qb (qa (qa e7 rfl) rfl) (qb (qa (qa (qa e8 rfl) rfl) rfl) (qb (qa (qa (qa (qa e9 rfl) rfl) rfl) rfl) ?_))))
                   exact qg qpb _ (Eq.mp (by kernel_rfl) h)
                 · skip
                   obtain ⟨lens_0',e0',h⟩:=ql h
                   obtain ⟨out_6',e6',h⟩:=ql h
                   obtain ⟨n_8',e8',h⟩:=qd h
                   obtain ⟨code_7',e7',h⟩:=qd h
                   obtain ⟨i_9',e9',h⟩:=qd h
                   rw [hnx] at h
                   obtain ⟨hu,hI2,hμ⟩:=h
                   obtain ⟨rfl,rfl,rfl⟩:=hu
                   exact ⟨(code_7',i_9'),⟨e7',e9',e0',e6',e8'⟩,hI2,hμ⟩
             · intro ρ w h
               obtain ⟨lens_0,e0,h⟩:=ql h
               obtain ⟨out_6,e6,h⟩:=ql h
               obtain ⟨code_7,e7,h⟩:=qd h
               obtain ⟨n_8,e8,h⟩:=qd h
               refine qb e0 (qb (qa e6 rfl) (qb (qa (qa e7 rfl) rfl) (qb (qa (qa (qa e8 rfl) rfl) rfl) ?_)))
               exact qg qpb _ (Eq.mp (by kernel_rfl) h)
           · intro ρ w h
             obtain ⟨lens_0,e0,h⟩:=ql h
             obtain ⟨out_6,e6,h⟩:=ql h
             obtain ⟨code_7,e7,h⟩:=qd h
             obtain ⟨n_8,e8,h⟩:=qd h
             refine qb e0 (qb (qa e6 rfl) (qb (qa (qa e7 rfl) rfl) (qb (qa (qa (qa e8 rfl) rfl) rfl) ?_)))
             exact qg qpb _ (Eq.mp (by kernel_rfl) h)
       · skip
         obtain ⟨lens_0',e0',h⟩:=ql h
         obtain ⟨out_6',e6',h⟩:=ql h
         obtain ⟨code_7',e7',h⟩:=qd h
         obtain ⟨n_8',e8',h⟩:=qd h
         rw [hnx] at h
         obtain ⟨hu,hI2,hμ⟩:=h
         obtain ⟨rfl,rfl⟩:=hu
         exact ⟨(code_7',n_8'),⟨e7',e8',e0',e6'⟩,hI2,hμ⟩
   · intro ρ w h
     obtain ⟨out_6,e6,h⟩:=ql h
     refine qb e6 ?_
     exact qg qpb _ (Eq.mp (by kernel_rfl) h)
def qmb.j3 (lens_0:Sl) (Q:VWP) (w:World):Prop :=
 Calls Tryz.prog 328 ⟨[.slice lens_0.a lens_0.len lens_0.cap]⟩ w fun e1 w2 =>
 ∃ r3:Sl,∃ r4:Int,e1=.returned (.tuple ⟨[.slice r3.a r3.len r3.cap,.int .i64 r4]⟩) ∧
 lt (⟨World.heapSize w2,0,none⟩:Addr) fun a5 =>
 lt (World.alloc w2 (.cells ⟨[]⟩ 3)) fun w6 =>
 rdO w6 lens_0.a (lens_0.len * 1) fun c7 =>
 apK Tryz.prog 3 w6 (some a5) 0 0 lens_0.len c7 fun s8 w9 =>
 lt (⟨World.heapSize w9,0,none⟩:Addr) fun a10 =>
 lt (World.alloc w9 (.cells (⟨[.slice s8.a s8.len s8.cap,.slice r3.a r3.len r3.cap]⟩:Array Value) 435)) fun w11 =>
 Q (.tuple ⟨[.pointer (some a10),.int .i64 0]⟩) w11
def qmb.j6 (lens_0:Sl) (half_1:Bool) (n_8:Int) (Q:VWP) (w:World):Prop :=
 br (!half_1) (
 Q (.tuple ⟨[.pointer none,.int .i64 2]⟩) w) (
 br (decide ((n_8:Int) > 1)) (
 Q (.tuple ⟨[.pointer none,.int .i64 2]⟩) w) (
 qmb.j3 lens_0 Q w))
def qmb.b1 (lens_0:Sl) (half_1:Bool) (n_8 i_9:Int) (Q:VWP) (nx1:Sl→Bool→Int→Int→World→Prop) (w:World):Prop :=
 br (decide ((i_9:Int) < ((lens_0.len:Nat):Int))) (
 ixS lens_0.a lens_0.len i_9 1 fun a12 =>
 ldI .i64 w a12 fun x13 =>
 br (decide ((x13:Int) > 0)) (
 ixS lens_0.a lens_0.len i_9 1 fun a14 =>
 ldI .i64 w a14 fun x15 =>
 lt (IntKind.i64.wrap (n_8+x15)) fun x16 =>
 lt (IntKind.i64.wrap (i_9+1)) fun x17 =>
 nx1 lens_0 half_1 x16 x17 w) (
 lt (IntKind.i64.wrap (i_9+1)) fun x18 =>
 nx1 lens_0 half_1 n_8 x18 w)) (
 qmb.j6 lens_0 half_1 n_8 Q w)
def qmb.l1 (lens_0:Sl) (half_1:Bool) (n_8 i_9:Int) (Q:VWP) (w:World):Prop :=
 ∃ (I:Int→Int→World→Prop) (μ:Int→Int→World→Nat),I n_8 i_9 w∧∀ n_8:Int,∀ i_9:Int,∀ w:World,I n_8 i_9 w→qmb.b1 lens_0 half_1 n_8 i_9 Q (fun lens_0' half_1' n_8' i_9' w'=>(lens_0'=lens_0∧half_1'=half_1)∧I n_8' i_9' w'∧μ n_8' i_9' w' < μ n_8 i_9 w) w
def qmb.j7 (lens_0:Sl) (half_1:Bool) (n_8 i_9:Int) (Q:VWP) (w:World):Prop :=
 qmb.l1 lens_0 half_1 n_8 i_9 Q w
def qmb.j5 (lens_0:Sl) (half_1:Bool) (n_8:Int) (Q:VWP) (w:World):Prop :=
 qmb.j7 lens_0 half_1 n_8 0 Q w
def qmb.j4 (lens_0:Sl) (half_1:Bool) (t21:Bool) (Q:VWP) (w:World):Prop :=
 br t21 (
 qmb.j5 lens_0 half_1 0 Q w) (
 qmb.j3 lens_0 Q w)
def qmb.j2 (lens_0:Sl) (half_1:Bool) (full_6:Bool) (Q:VWP) (w:World):Prop :=
 qmb.j4 lens_0 half_1 (!full_6) Q w
def qmb.j1 (lens_0:Sl) (half_1:Bool) (Q:VWP) (w:World):Prop :=
 Calls Tryz.prog 327 ⟨[.slice lens_0.a lens_0.len lens_0.cap]⟩ w fun e19 w20 =>
 ∃ r21:Bool,∃ r22:Int,e19=.returned (.tuple ⟨[.bool r21,.int .i64 r22]⟩) ∧
 br ((r22:Int) != 0) (
 Q (.tuple ⟨[.pointer none,.int .i64 r22]⟩) w20) (
 qmb.j2 lens_0 half_1 r21 Q w20)
def qmb (lens_0:Sl) (half_1:Bool) (Q:VWP) (w:World):Prop :=
 qmb.j1 lens_0 half_1 Q w
theorem qmb.ok (lens_0:Sl) (half_1:Bool) (Q:VWP) (w:World) (h:qmb lens_0 half_1 Q w):Calls Tryz.prog 292 ⟨[.slice lens_0.a lens_0.len lens_0.cap,.bool half_1]⟩ w (Ret Q):=by
 refine qp [.tmp 4,.tmp 5] Tryz.func292 rfl rfl rfl rfl ?_
 refine qu (fun ρ w=>asL (ρ 0) fun lens_0=>asB (ρ 1) fun half_1=>qmb.j1 lens_0 half_1 Q w) ?_ ?_
 · skip
   exact qg qpb _ (Eq.mp (by kernel_rfl) h)
 · intro ρ w h
   obtain ⟨lens_0,e0,h⟩:=ql h
   obtain ⟨half_1,e1,h⟩:=qcd h
   refine qb e0 (qb (qa e1 rfl) ?_)
   refine qfb qpb (fun ρ w=>asL (ρ 0) fun lens_0=>asB (ρ 1) fun half_1=>asB (ρ 6) fun full_6=>qmb.j2 lens_0 half_1 full_6 Q w) (Eq.mp (by kernel_rfl) h) ?_
   intro ρ w h
   obtain ⟨lens_0,e0,h⟩:=ql h
   obtain ⟨half_1,e1,h⟩:=qcd h
   obtain ⟨full_6,e6,h⟩:=qcd h
   refine qb e0 (qb (qa e1 rfl) (qb (qa (qa e6 rfl) rfl) ?_))
   refine qu (fun ρ w=>asL (ρ 0) fun lens_0=>qmb.j3 lens_0 Q w) ?_ ?_
   · skip
     refine qu (fun ρ w=>asL (ρ 0) fun lens_0=>asB (ρ 1) fun half_1=>asB (ρ 21) fun t21=>qmb.j4 lens_0 half_1 t21 Q w) ?_ ?_
     · skip
       exact qg qpb _ (Eq.mp (by kernel_rfl) h)
     · intro ρ w h
       obtain ⟨lens_0,e0,h⟩:=ql h
       obtain ⟨half_1,e1,h⟩:=qcd h
       obtain ⟨t21,e21,h⟩:=qcd h
       refine qb e0 (qb (qa e1 rfl) (qb (qa (qa e21 rfl) rfl) ?_))
       refine qul (b:=t21) rfl (fun hb=>?_) (fun hb=>?_)
       · have h:=br_t h hb
         refine qu (fun ρ w=>asL (ρ 0) fun lens_0=>asB (ρ 1) fun half_1=>asI .i64 (ρ 8) fun n_8=>qmb.j5 lens_0 half_1 n_8 Q w) ?_ ?_
         · skip
           exact qg qpb _ (Eq.mp (by kernel_rfl) h)
         · intro ρ w h
           obtain ⟨lens_0,e0,h⟩:=ql h
           obtain ⟨half_1,e1,h⟩:=qcd h
           obtain ⟨n_8,e8,h⟩:=qd h
           refine qb e0 (qb (qa e1 rfl) (qb (qa (qa e8 rfl) rfl) ?_))
           refine qu (fun ρ w=>asL (ρ 0) fun lens_0=>asB (ρ 1) fun half_1=>asI .i64 (ρ 8) fun n_8=>qmb.j6 lens_0 half_1 n_8 Q w) ?_ ?_
           · skip
             refine qu (fun ρ w=>asL (ρ 0) fun lens_0=>asB (ρ 1) fun half_1=>asI .i64 (ρ 8) fun n_8=>asI .i64 (ρ 9) fun i_9=>qmb.j7 lens_0 half_1 n_8 i_9 Q w) ?_ ?_
             · skip
               exact qg qpb _ (Eq.mp (by kernel_rfl) h)
             · intro ρ w h
               obtain ⟨lens_0,e0,h⟩:=ql h
               obtain ⟨half_1,e1,h⟩:=qcd h
               obtain ⟨n_8,e8,h⟩:=qd h
               obtain ⟨i_9,e9,h⟩:=qd h
               refine qb e0 (qb (qa e1 rfl) (qb (qa (qa e8 rfl) rfl) (qb (qa (qa (qa e9 rfl) rfl) rfl) ?_)))
               refine qcb ?_
               obtain ⟨I,μ,hI,hr⟩:=h
               refine qlb (α:=Int × Int) (fun s ρ=>ρ 8=.int .i64 s.1∧ρ 9=.int .i64 s.2∧ρ 0=.slice lens_0.a lens_0.len lens_0.cap∧ρ 1=.bool half_1) (fun s w=>I s.1 s.2 w) (fun s w=>μ s.1 s.2 w) (n_8,i_9) ⟨rfl,rfl,rfl,rfl⟩ hI ?_
               rintro ⟨n_8,i_9⟩ ρ w ⟨e8,e9,e0,e1⟩ hI
               have h:=hr n_8 i_9 w hI
               clear hr
               obtain ⟨nx1,hnx⟩:∃ nx:Sl→Bool→Int→Int→World→Prop,nx=(fun lens_0' half_1' n_8' i_9' w'=>(lens_0'=lens_0∧half_1'=half_1)∧I n_8' i_9' w'∧μ n_8' i_9' w' < μ n_8 i_9 w):=⟨_,rfl⟩
               rw [← hnx] at h
               refine qsb (M:=fun ρ w=>asL (ρ 0) fun lens_0=>asB (ρ 1) fun half_1=>asI .i64 (ρ 8) fun n_8=>asI .i64 (ρ 9) fun i_9=>nx1 lens_0 half_1 n_8 i_9 w) ?_ (fun ρ w h=>?_)
               · skip
                 refine qb e0 (qb (qa e1 rfl) (qb (qa (qa e8 rfl) rfl) (qb (qa (qa (qa e9 rfl) rfl) rfl) ?_)))
                 exact qg qpb _ (Eq.mp (by kernel_rfl) h)
               · skip
                 obtain ⟨lens_0',e0',h⟩:=ql h
                 obtain ⟨half_1',e1',h⟩:=qcd h
                 obtain ⟨n_8',e8',h⟩:=qd h
                 obtain ⟨i_9',e9',h⟩:=qd h
                 rw [hnx] at h
                 obtain ⟨hu,hI2,hμ⟩:=h
                 obtain ⟨rfl,rfl⟩:=hu
                 exact ⟨(n_8',i_9'),⟨e8',e9',e0',e1'⟩,hI2,hμ⟩
           · intro ρ w h
             obtain ⟨lens_0,e0,h⟩:=ql h
             obtain ⟨half_1,e1,h⟩:=qcd h
             obtain ⟨n_8,e8,h⟩:=qd h
             refine qb e0 (qb (qa e1 rfl) (qb (qa (qa e8 rfl) rfl) ?_))
             exact qg qpb _ (Eq.mp (by kernel_rfl) h)
       · have h:=br_f h hb
         exact qg qpb _ (Eq.mp (by kernel_rfl) h)
   · intro ρ w h
     obtain ⟨lens_0,e0,h⟩:=ql h
     refine qb e0 ?_
     exact qg qpb _ (Eq.mp (by kernel_rfl) h)
def qo.j2  (Q:VWP) (w:World):Prop :=
 Q (.tuple ⟨[.int .i64 0,.int .i64 2]⟩) w
def qo.j5 (d_0 i_1:OAd) (t6:Int) (t7:Int) (Q:VWP) (nx1:OAd→OAd→Int→Int→World→Prop) (w:World):Prop :=
 lt (IntKind.i64.wrap (t7+1)) fun x1 =>
 nx1 d_0 i_1 t6 x1 w
def qo.j8 (d_0 i_1:OAd) (t6:Int) (t7:Int) (t10:Bool) (Q:VWP) (nx1:OAd→OAd→Int→Int→World→Prop) (w:World):Prop :=
 br (!t10) (
 Q (.tuple ⟨[.int .i64 0,.int .i64 2]⟩) w) (
 qo.j5 d_0 i_1 t6 t7 Q nx1 w)
def qo.j11 (d_0 i_1:OAd) (t6:Int) (t7:Int) (t10:Bool) (t11:Int) (Q:VWP) (nx1:OAd→OAd→Int→Int→World→Prop) (nx2:OAd→OAd→Int→Int→Bool→Int→World→Prop) (w:World):Prop :=
 lt (IntKind.i64.wrap (t11+1)) fun x2 =>
 nx2 d_0 i_1 t6 t7 t10 x2 w
def qo.j12 (d_0 i_1:OAd) (t6:Int) (t7:Int) (t10:Bool) (t11:Int) (Q:VWP) (nx1:OAd→OAd→Int→Int→World→Prop) (nx2:OAd→OAd→Int→Int→Bool→Int→World→Prop) (w:World):Prop :=
 br t10 (
 qo.j11 d_0 i_1 t6 t7 true t11 Q nx1 nx2 w) (
 nz d_0 fun a3 =>
 ldL w (Addr.add a3 0) fun x4 =>
 ixS x4.a x4.len t11 1 fun a5 =>
 ldI .i64 w a5 fun x6 =>
 qo.j11 d_0 i_1 t6 t7 (decide ((x6:Int) > t7)) t11 Q nx1 nx2 w)
def qo.j10 (d_0 i_1:OAd) (t6:Int) (t7:Int) (t10:Bool) (t11:Int) (Q:VWP) (nx1:OAd→OAd→Int→Int→World→Prop) (nx2:OAd→OAd→Int→Int→Bool→Int→World→Prop) (w:World):Prop :=
 nz d_0 fun a7 =>
 ldL w (Addr.add a7 0) fun x8 =>
 ixS x8.a x8.len t11 1 fun a9 =>
 ldI .i64 w a9 fun x10 =>
 br ((x10:Int) == t7) (
 nz d_0 fun a11 =>
 ldL w (Addr.add a11 1) fun x12 =>
 ixS x12.a x12.len t11 1 fun a13 =>
 ldI .i64 w a13 fun x14 =>
 br ((x14:Int) == t6) (
 Q (.tuple ⟨[.int .i64 t11,.int .i64 0]⟩) w) (
 qo.j12 d_0 i_1 t6 t7 t10 t11 Q nx1 nx2 w)) (
 qo.j12 d_0 i_1 t6 t7 t10 t11 Q nx1 nx2 w)
def qo.b2 (d_0 i_1:OAd) (t6:Int) (t7:Int) (t10:Bool) (t11:Int) (Q:VWP) (nx1:OAd→OAd→Int→Int→World→Prop) (nx2:OAd→OAd→Int→Int→Bool→Int→World→Prop) (w:World):Prop :=
 nz d_0 fun a15 =>
 ldL w (Addr.add a15 0) fun x16 =>
 br (decide ((t11:Int) < ((x16.len:Nat):Int))) (
 qo.j10 d_0 i_1 t6 t7 t10 t11 Q nx1 nx2 w) (
 qo.j8 d_0 i_1 t6 t7 t10 Q nx1 w)
def qo.l2 (d_0 i_1:OAd) (t6:Int) (t7:Int) (t10:Bool) (t11:Int) (Q:VWP) (nx1:OAd→OAd→Int→Int→World→Prop) (w:World):Prop :=
 ∃ (I:Bool→Int→World→Prop) (μ:Bool→Int→World→Nat),I t10 t11 w∧∀ t10:Bool,∀ t11:Int,∀ w:World,I t10 t11 w→qo.b2 d_0 i_1 t6 t7 t10 t11 Q nx1 (fun d_0' i_1' t6' t7' t10' t11' w'=>(d_0'=d_0∧i_1'=i_1∧t6'=t6∧t7'=t7)∧I t10' t11' w'∧μ t10' t11' w' < μ t10 t11 w) w
def qo.j9 (d_0 i_1:OAd) (t6:Int) (t7:Int) (t10:Bool) (t11:Int) (Q:VWP) (nx1:OAd→OAd→Int→Int→World→Prop) (w:World):Prop :=
 qo.l2 d_0 i_1 t6 t7 t10 t11 Q nx1 w
def qo.j7 (d_0 i_1:OAd) (t6:Int) (t7:Int) (t10:Bool) (Q:VWP) (nx1:OAd→OAd→Int→Int→World→Prop) (w:World):Prop :=
 qo.j9 d_0 i_1 t6 t7 t10 0 Q nx1 w
def qo.j6 (d_0 i_1:OAd) (t6:Int) (t7 t8:Int) (Q:VWP) (nx1:OAd→OAd→Int→Int→World→Prop) (w:World):Prop :=
 (0:Int)≤1 ∧
 lt (qpi .i64 t6 1) fun x17 =>
 lt (orV .i64 x17 t8) fun x18 =>
 qo.j7 d_0 i_1 x18 t7 false Q nx1 w
def qo.j4 (d_0 i_1:OAd) (t6:Int) (t7:Int) (Q:VWP) (nx1:OAd→OAd→Int→Int→World→Prop) (w:World):Prop :=
 Calls Tryz.prog 289 ⟨[.pointer i_1,.int .i64 1]⟩ w fun e19 w20 =>
 ∃ r21:Int,∃ r22:Bool,e19=.returned (.tuple ⟨[.int .i64 r21,.bool r22]⟩) ∧
 br (!r22) (
 Q (.tuple ⟨[.int .i64 0,.int .i64 3]⟩) w20) (
 qo.j6 d_0 i_1 t6 t7 r21 Q nx1 w20)
def qo.b1 (d_0 i_1:OAd) (t6:Int) (t7:Int) (Q:VWP) (nx1:OAd→OAd→Int→Int→World→Prop) (w:World):Prop :=
 br (decide ((t7:Int)≤15)) (
 qo.j4 d_0 i_1 t6 t7 Q nx1 w) (
 qo.j2 Q w)
def qo.l1 (d_0 i_1:OAd) (t6:Int) (t7:Int) (Q:VWP) (w:World):Prop :=
 ∃ (I:Int→Int→World→Prop) (μ:Int→Int→World→Nat),I t6 t7 w∧∀ t6:Int,∀ t7:Int,∀ w:World,I t6 t7 w→qo.b1 d_0 i_1 t6 t7 Q (fun d_0' i_1' t6' t7' w'=>(d_0'=d_0∧i_1'=i_1)∧I t6' t7' w'∧μ t6' t7' w' < μ t6 t7 w) w
def qo.j3 (d_0 i_1:OAd) (t6:Int) (t7:Int) (Q:VWP) (w:World):Prop :=
 qo.l1 d_0 i_1 t6 t7 Q w
def qo.j1 (d_0 i_1:OAd) (t6:Int) (Q:VWP) (w:World):Prop :=
 qo.j3 d_0 i_1 t6 1 Q w
def qo (d_0 i_1:OAd) (Q:VWP) (w:World):Prop :=
 qo.j1 d_0 i_1 0 Q w
theorem qo.ok (d_0:OAd) (i_1:OAd) (Q:VWP) (w:World) (h:qo d_0 i_1 Q w):Calls Tryz.prog 329 ⟨[.pointer d_0,.pointer i_1]⟩ w (Ret Q):=by
 refine qp [.tmp 4,.tmp 5] Tryz.func329 rfl rfl rfl rfl ?_
 refine qfb qpb (fun ρ w=>asP (ρ 0) fun d_0=>asP (ρ 1) fun i_1=>asI .i64 (ρ 6) fun t6=>qo.j1 d_0 i_1 t6 Q w) (Eq.mp (by kernel_rfl) h) ?_
 intro ρ w h
 obtain ⟨d_0,e0,h⟩:=qr h
 obtain ⟨i_1,e1,h⟩:=qr h
 obtain ⟨t6,e6,h⟩:=qd h
 refine qb e0 (qb (qa e1 rfl) (qb (qa (qa e6 rfl) rfl) ?_))
 refine qu (fun ρ w=> qo.j2  Q w) ?_ ?_
 · skip
   refine qu (fun ρ w=>asP (ρ 0) fun d_0=>asP (ρ 1) fun i_1=>asI .i64 (ρ 6) fun t6=>asI .i64 (ρ 7) fun t7=>qo.j3 d_0 i_1 t6 t7 Q w) ?_ ?_
   · skip
     exact qg qpb _ (Eq.mp (by kernel_rfl) h)
   · intro ρ w h
     obtain ⟨d_0,e0,h⟩:=qr h
     obtain ⟨i_1,e1,h⟩:=qr h
     obtain ⟨t6,e6,h⟩:=qd h
     obtain ⟨t7,e7,h⟩:=qd h
     refine qb e0 (qb (qa e1 rfl) (qb (qa (qa e6 rfl) rfl) (qb (qa (qa (qa e7 rfl) rfl) rfl) ?_)))
     refine qcb ?_
     obtain ⟨I,μ,hI,hr⟩:=h
     refine qlb (α:=Int × Int) (fun s ρ=>ρ 6=.int .i64 s.1∧ρ 7=.int .i64 s.2∧ρ 0=.pointer d_0∧ρ 1=.pointer i_1) (fun s w=>I s.1 s.2 w) (fun s w=>μ s.1 s.2 w) (t6,t7) ⟨rfl,rfl,rfl,rfl⟩ hI ?_
     rintro ⟨t6,t7⟩ ρ w ⟨e6,e7,e0,e1⟩ hI
     have h:=hr t6 t7 w hI
     clear hr
     obtain ⟨nx1,hnx⟩:∃ nx:OAd→OAd→Int→Int→World→Prop,nx=(fun d_0' i_1' t6' t7' w'=>(d_0'=d_0∧i_1'=i_1)∧I t6' t7' w'∧μ t6' t7' w' < μ t6 t7 w):=⟨_,rfl⟩
     rw [← hnx] at h
     refine qsb (M:=fun ρ w=>asP (ρ 0) fun d_0=>asP (ρ 1) fun i_1=>asI .i64 (ρ 6) fun t6=>asI .i64 (ρ 7) fun t7=>nx1 d_0 i_1 t6 t7 w) ?_ (fun ρ w h=>?_)
     · skip
       refine qb e0 (qb (qa e1 rfl) (qb (qa (qa e6 rfl) rfl) (qb (qa (qa (qa e7 rfl) rfl) rfl) ?_)))
       refine qu (fun ρ w=>asP (ρ 0) fun d_0=>asP (ρ 1) fun i_1=>asI .i64 (ρ 6) fun t6=>asI .i64 (ρ 7) fun t7=>qo.j4 d_0 i_1 t6 t7 Q nx1 w) ?_ ?_
       · skip
         exact qg qpb _ (Eq.mp (by kernel_rfl) h)
       · intro ρ w h
         obtain ⟨d_0,e0,h⟩:=qr h
         obtain ⟨i_1,e1,h⟩:=qr h
         obtain ⟨t6,e6,h⟩:=qd h
         obtain ⟨t7,e7,h⟩:=qd h
         refine qb e0 (qb (qa e1 rfl) (qb (qa (qa e6 rfl) rfl) (qb (qa (qa (qa e7 rfl) rfl) rfl) ?_)))
         refine qu (fun ρ w=>asP (ρ 0) fun d_0=>asP (ρ 1) fun i_1=>asI .i64 (ρ 6) fun t6=>asI .i64 (ρ 7) fun t7=>qo.j5 d_0 i_1 t6 t7 Q nx1 w) ?_ ?_
         · skip
           refine qcb ?_
           refine qfb qpb (fun ρ w=>asP (ρ 0) fun d_0=>asP (ρ 1) fun i_1=>asI .i64 (ρ 6) fun t6=>asI .i64 (ρ 7) fun t7=>asI .i64 (ρ 8) fun t8=>qo.j6 d_0 i_1 t6 t7 t8 Q nx1 w) (Eq.mp (by kernel_rfl) h) ?_
           intro ρ w h
           obtain ⟨d_0,e0,h⟩:=qr h
           obtain ⟨i_1,e1,h⟩:=qr h
           obtain ⟨t6,e6,h⟩:=qd h
           obtain ⟨t7,e7,h⟩:=qd h
           obtain ⟨t8,e8,h⟩:=qd h
           refine qb e0 (qb (qa e1 rfl) (qb (qa (qa e6 rfl) rfl) (qb (qa (qa (qa e7 rfl) rfl) rfl) (qb (qa (qa (qa (qa e8 rfl) rfl) rfl) rfl) ?_))))
           refine qfb qpb (fun ρ w=>asP (ρ 0) fun d_0=>asP (ρ 1) fun i_1=>asI .i64 (ρ 6) fun t6=>asI .i64 (ρ 7) fun t7=>asB (ρ 10) fun t10=>qo.j7 d_0 i_1 t6 t7 t10 Q nx1 w) (Eq.mp (by kernel_rfl) h) ?_
           intro ρ w h
           obtain ⟨d_0,e0,h⟩:=qr h
           obtain ⟨i_1,e1,h⟩:=qr h
           obtain ⟨t6,e6,h⟩:=qd h
           obtain ⟨t7,e7,h⟩:=qd h
           obtain ⟨t10,e10,h⟩:=qcd h
           refine qb e0 (qb (qa e1 rfl) (qb (qa (qa e6 rfl) rfl) (qb (qa (qa (qa e7 rfl) rfl) rfl) (qb (qa (qa (qa (qa e10 rfl) rfl) rfl) rfl) ?_))))
           refine qu (fun ρ w=>asP (ρ 0) fun d_0=>asP (ρ 1) fun i_1=>asI .i64 (ρ 6) fun t6=>asI .i64 (ρ 7) fun t7=>asB (ρ 10) fun t10=>qo.j8 d_0 i_1 t6 t7 t10 Q nx1 w) ?_ ?_
           · skip
             refine qu (fun ρ w=>asP (ρ 0) fun d_0=>asP (ρ 1) fun i_1=>asI .i64 (ρ 6) fun t6=>asI .i64 (ρ 7) fun t7=>asB (ρ 10) fun t10=>asI .i64 (ρ 11) fun t11=>qo.j9 d_0 i_1 t6 t7 t10 t11 Q nx1 w) ?_ ?_
             · skip
               exact qg qpb _ (Eq.mp (by kernel_rfl) h)
             · intro ρ w h
               obtain ⟨d_0,e0,h⟩:=qr h
               obtain ⟨i_1,e1,h⟩:=qr h
               obtain ⟨t6,e6,h⟩:=qd h
               obtain ⟨t7,e7,h⟩:=qd h
               obtain ⟨t10,e10,h⟩:=qcd h
               obtain ⟨t11,e11,h⟩:=qd h
               refine qb e0 (qb (qa e1 rfl) (qb (qa (qa e6 rfl) rfl) (qb (qa (qa (qa e7 rfl) rfl) rfl) (qb (qa (qa (qa (qa e10 rfl) rfl) rfl) rfl) (qb (qa (qa (qa (qa (qa e11 rfl) rfl) rfl) rfl) rfl) ?_)))))
               refine qcb ?_
               obtain ⟨I,μ,hI,hr⟩:=h
               refine qlb (α:=Bool × Int) (fun s ρ=>ρ 10=.bool s.1∧ρ 11=.int .i64 s.2∧ρ 0=.pointer d_0∧ρ 1=.pointer i_1∧ρ 6=.int .i64 t6∧ρ 7=.int .i64 t7) (fun s w=>I s.1 s.2 w) (fun s w=>μ s.1 s.2 w) (t10,t11) ⟨rfl,rfl,rfl,rfl,rfl,rfl⟩ hI ?_
               rintro ⟨t10,t11⟩ ρ w ⟨e10,e11,e0,e1,e6,e7⟩ hI
               have h:=hr t10 t11 w hI
               clear hr
               obtain ⟨nx2,hnx⟩:∃ nx:OAd→OAd→Int→Int→Bool→Int→World→Prop,nx=(fun d_0' i_1' t6' t7' t10' t11' w'=>(d_0'=d_0∧i_1'=i_1∧t6'=t6∧t7'=t7)∧I t10' t11' w'∧μ t10' t11' w' < μ t10 t11 w):=⟨_,rfl⟩
               rw [← hnx] at h
               refine qsb (M:=fun ρ w=>asP (ρ 0) fun d_0=>asP (ρ 1) fun i_1=>asI .i64 (ρ 6) fun t6=>asI .i64 (ρ 7) fun t7=>asB (ρ 10) fun t10=>asI .i64 (ρ 11) fun t11=>nx2 d_0 i_1 t6 t7 t10 t11 w) ?_ (fun ρ w h=>?_)
               · skip
                 refine qb e0 (qb (qa e1 rfl) (qb (qa (qa e6 rfl) rfl) (qb (qa (qa (qa e7 rfl) rfl) rfl) (qb (qa (qa (qa (qa e10 rfl) rfl) rfl) rfl) (qb (qa (qa (qa (qa (qa e11 rfl) rfl) rfl) rfl) rfl) ?_)))))
                 refine qu (fun ρ w=>asP (ρ 0) fun d_0=>asP (ρ 1) fun i_1=>asI .i64 (ρ 6) fun t6=>asI .i64 (ρ 7) fun t7=>asB (ρ 10) fun t10=>asI .i64 (ρ 11) fun t11=>qo.j10 d_0 i_1 t6 t7 t10 t11 Q nx1 nx2 w) ?_ ?_
                 · skip
                   exact qg qpb _ (Eq.mp (by kernel_rfl) h)
                 · intro ρ w h
                   obtain ⟨d_0,e0,h⟩:=qr h
                   obtain ⟨i_1,e1,h⟩:=qr h
                   obtain ⟨t6,e6,h⟩:=qd h
                   obtain ⟨t7,e7,h⟩:=qd h
                   obtain ⟨t10,e10,h⟩:=qcd h
                   obtain ⟨t11,e11,h⟩:=qd h
                   refine qb e0 (qb (qa e1 rfl) (qb (qa (qa e6 rfl) rfl) (qb (qa (qa (qa e7 rfl) rfl) rfl) (qb (qa (qa (qa (qa e10 rfl) rfl) rfl) rfl) (qb (qa (qa (qa (qa (qa e11 rfl) rfl) rfl) rfl) rfl) ?_)))))
                   refine qu (fun ρ w=>asP (ρ 0) fun d_0=>asP (ρ 1) fun i_1=>asI .i64 (ρ 6) fun t6=>asI .i64 (ρ 7) fun t7=>asB (ρ 10) fun t10=>asI .i64 (ρ 11) fun t11=>qo.j11 d_0 i_1 t6 t7 t10 t11 Q nx1 nx2 w) ?_ ?_
                   · skip
                     refine qcb ?_
                     refine qu (fun ρ w=>asP (ρ 0) fun d_0=>asP (ρ 1) fun i_1=>asI .i64 (ρ 6) fun t6=>asI .i64 (ρ 7) fun t7=>asB (ρ 10) fun t10=>asI .i64 (ρ 11) fun t11=>qo.j12 d_0 i_1 t6 t7 t10 t11 Q nx1 nx2 w) ?_ ?_
                     · skip
                       exact qg qpb _ (Eq.mp (by kernel_rfl) h)
                     · intro ρ w h
                       obtain ⟨d_0,e0,h⟩:=qr h
                       obtain ⟨i_1,e1,h⟩:=qr h
                       obtain ⟨t6,e6,h⟩:=qd h
                       obtain ⟨t7,e7,h⟩:=qd h
                       obtain ⟨t10,e10,h⟩:=qcd h
                       obtain ⟨t11,e11,h⟩:=qd h
                       refine qb e0 (qb (qa e1 rfl) (qb (qa (qa e6 rfl) rfl) (qb (qa (qa (qa e7 rfl) rfl) rfl) (qb (qa (qa (qa (qa e10 rfl) rfl) rfl) rfl) (qb (qa (qa (qa (qa (qa e11 rfl) rfl) rfl) rfl) rfl) ?_)))))
                       exact qg qpb _ (Eq.mp (by kernel_rfl) h)
                   · intro ρ w h
                     obtain ⟨d_0,e0,h⟩:=qr h
                     obtain ⟨i_1,e1,h⟩:=qr h
                     obtain ⟨t6,e6,h⟩:=qd h
                     obtain ⟨t7,e7,h⟩:=qd h
                     obtain ⟨t10,e10,h⟩:=qcd h
                     obtain ⟨t11,e11,h⟩:=qd h
                     refine qb e0 (qb (qa e1 rfl) (qb (qa (qa e6 rfl) rfl) (qb (qa (qa (qa e7 rfl) rfl) rfl) (qb (qa (qa (qa (qa e10 rfl) rfl) rfl) rfl) (qb (qa (qa (qa (qa (qa e11 rfl) rfl) rfl) rfl) rfl) ?_)))))
                     exact qg qpb _ (Eq.mp (by kernel_rfl) h)
               · skip
                 obtain ⟨d_0',e0',h⟩:=qr h
                 obtain ⟨i_1',e1',h⟩:=qr h
                 obtain ⟨t6',e6',h⟩:=qd h
                 obtain ⟨t7',e7',h⟩:=qd h
                 obtain ⟨t10',e10',h⟩:=qcd h
                 obtain ⟨t11',e11',h⟩:=qd h
                 rw [hnx] at h
                 obtain ⟨hu,hI2,hμ⟩:=h
                 obtain ⟨rfl,rfl,rfl,rfl⟩:=hu
                 exact ⟨(t10',t11'),⟨e10',e11',e0',e1',e6',e7'⟩,hI2,hμ⟩
           · intro ρ w h
             obtain ⟨d_0,e0,h⟩:=qr h
             obtain ⟨i_1,e1,h⟩:=qr h
             obtain ⟨t6,e6,h⟩:=qd h
             obtain ⟨t7,e7,h⟩:=qd h
             obtain ⟨t10,e10,h⟩:=qcd h
             refine qb e0 (qb (qa e1 rfl) (qb (qa (qa e6 rfl) rfl) (qb (qa (qa (qa e7 rfl) rfl) rfl) (qb (qa (qa (qa (qa e10 rfl) rfl) rfl) rfl) ?_))))
             exact qg qpb _ (Eq.mp (by kernel_rfl) h)
         · intro ρ w h
           obtain ⟨d_0,e0,h⟩:=qr h
           obtain ⟨i_1,e1,h⟩:=qr h
           obtain ⟨t6,e6,h⟩:=qd h
           obtain ⟨t7,e7,h⟩:=qd h
           refine qb e0 (qb (qa e1 rfl) (qb (qa (qa e6 rfl) rfl) (qb (qa (qa (qa e7 rfl) rfl) rfl) ?_)))
           exact qg qpb _ (Eq.mp (by kernel_rfl) h)
     · skip
       obtain ⟨d_0',e0',h⟩:=qr h
       obtain ⟨i_1',e1',h⟩:=qr h
       obtain ⟨t6',e6',h⟩:=qd h
       obtain ⟨t7',e7',h⟩:=qd h
       rw [hnx] at h
       obtain ⟨hu,hI2,hμ⟩:=h
       obtain ⟨rfl,rfl⟩:=hu
       exact ⟨(t6',t7'),⟨e6',e7',e0',e1'⟩,hI2,hμ⟩
 · intro ρ w h
   exact qg qpb _ (Eq.mp (by kernel_rfl) h)
end Go.Proofs.YthdmmmfgjmmelaaGreat
namespace Go.Proofs.YthdmmmfgjmmelaaGreat
open Go Go.Proofs
set_option linter.unusedVariables false
set_option linter.unusedSimpArgs false
attribute [local irreducible] apK cpK mkK
section
variable {F0:List Nat} {w0 w:World} {ps rest:List As} {ls:List Int}
theorem kr_sn {i:Nat} (h:i < ls.length):kr (ls.take (i+1))=kr (ls.take i)+if 0 < ls.getD i 0 then 2 ^ (15 - (ls.getD i 0).toNat) else 0:=by rw [qhi h,kr_snoc]
theorem qac.c {s:Sl} {K:Ending→World→Prop} (h:St F0 w0 w ps) [Rdb F0 w0 s ps 1 (ivs .i64 ls)]
 (hk:∀ w',St F0 w0 w' ps→K (.returned (.tuple ⟨[.bool (qvk ls).1,.int .i64 (qvk ls).2]⟩)) w'):Calls Tryz.prog 327 ⟨[.slice s.a s.len s.cap]⟩ w K:=by
 have hl:=(h.rdb s).1
 rw [qx] at hl
 refine qnc (qac.ok _ _ _ ?_)
 unfold qac qac.j1
 unfold qvk at hk
 refine qxc (fun g=>?_) (fun g=>?_)
 · rw [if_pos (by omega)] at hk
   exact hk w h
 rw [if_neg (by omega)] at hk
 unfold qac.j2 qac.j4
 have hkl:=kr_le ls
 refine qkh (fun (i:Nat) (r i':Int) w'=>i'=i∧i≤ls.length∧okL (ls.take i)∧r=(kr (ls.take i):Int)∧St F0 w0 w' ps) (fun i=>ls.length - i) 0 ⟨rfl,by omega,fun x hx=>by simp at hx,by simp [kr],h⟩ ?_
 clear h
 rintro i r i' w I μ ⟨rfl,hi,hok,rfl,h⟩ hin
 unfold qac.b1
 have hkt:=kr_take ls i
 refine qxc (fun g2=>?_) (fun g2=>?_)
 · have hil:i < ls.length:=by omega
   have bad:¬ (0≤ls.getD i 0∧ls.getD i 0≤15)→K (.returned (.tuple ⟨[.bool false,.int .i64 1]⟩)) w:=fun hn=>by
    rw [if_pos (fun e=>hn (e _ (qde hil)))] at hk
    exact hk w h
   have hks:=kr_sn hil
   have hkt2:=kr_take ls (i+1)
   refine h.lx i rfl hil ?_
   refine qxc (fun g3=>bad (by omega)) (fun g3=>?_)
   refine h.lx i rfl hil ?_
   refine qxc (fun g4=>bad (by omega)) (fun g4=>?_)
   have okn:okL (ls.take (i+1)):=by
    rw [qhi hil]
    intro x hx
    rcases List.mem_append.1 hx with hx | hx
    · exact hok x hx
    · rw [List.mem_singleton.1 hx]; omega
   refine h.lx i rfl hil ?_
   refine qxc (fun g5=>?_) (fun g5=>?_)
   · refine h.lx i rfl hil ?_
     rw [if_pos (by omega)] at hks
     obtain ⟨m,hm⟩:∃ m:Nat,ls.getD i 0=m:=⟨(ls.getD i 0).toNat,by omega⟩
     rw [hm] at hks g4 g5 ⊢
     rw [Int.toNat_natCast] at hks
     refine qw (qi (by omega) (by omega)) ?_
     refine qw (show IntKind.u64.wrap (15 - (m:Int))=((15 - m:Nat):Int) by rw [qno]; omega) ?_
     refine ⟨by omega,qw (shl_room (c:=1) (by decide) (show 15 - m≤15 by omega)) ?_⟩
     rw [Nat.one_mul]
     refine qw (qi (by omega) (by omega)) ?_
     refine qw (qi (by omega) (by omega)) ?_
     exact ⟨rfl,hin (i+1) _ _ _ ⟨by omega,by omega,okn,by omega,h⟩ (by omega)⟩
   · rw [if_neg (by omega)] at hks
     refine qw (qi (by omega) (by omega)) ?_
     exact ⟨rfl,hin (i+1) _ _ _ ⟨by omega,by omega,okn,by omega,h⟩ (by omega)⟩
 · have:i=ls.length:=by omega
   subst this
   rw [List.take_length] at hok
   rw [List.take_length]
   rw [if_neg (fun e=>e hok)] at hk
   unfold qac.j3
   refine qxc (fun g4=>?_) (fun g4=>?_)
   · rw [if_pos (by omega)] at hk
     exact hk w h
   · rw [if_neg (by omega)] at hk
     have e:((kr ls:Int) == 32768)=decide (kr ls=32768):=by
      apply Bool.eq_iff_iff.2
      rw [beq_iff_eq,decide_eq_true_eq]
      omega
     rw [e]
     exact hk w h
def ocL (l:List Int) (n i:Nat):List Int:=qzk l.length fun j=>if 0 < l.getD j 0∧(l.getD j 0 < n ∨ (l.getD j 0=n∧j < i)) then (qmf l j:Int) else 0
theorem qab.c {s:Sl} {K:Ending→World→Prop} (h:St F0 w0 w ps) [Rdb F0 w0 s ps 1 (ivs .i64 ls)]
 (hk:∀ s' w',(qvk ls).2=0→St F0 w0 w' (qmc 1 s' (ivs .i64 (hcodes ls)) :: ps)→K (.returned (.tuple ⟨[.slice s'.a s'.len s'.cap,.int .i64 0]⟩)) w')
 (hk2:∀ w',(qvk ls).2 ≠ 0→St F0 w0 w' ps→K (.returned (.tuple ⟨[.slice none 0 0,.int .i64 (qvk ls).2]⟩)) w'):Calls Tryz.prog 328 ⟨[.slice s.a s.len s.cap]⟩ w K:=by
 have hl:=(h.rdb s).1
 rw [qx] at hl
 refine qnc (qab.ok _ _ _ ?_)
 unfold qab qab.j1
 refine qac.c h fun w h=>⟨_,_,rfl,?_⟩
 refine qqe (fun g=>?_) (fun g=>?_)
 · exact hk2 w (by simpa using g) h
 have g:(qvk ls).2=0:=by simpa using g
 obtain ⟨hok,hkr,hlen,_⟩:=qbq g
 unfold qab.j2
 refine h.makeI (n:=ls.length) (by omega) (by omega) (by omega) fun o w ho1 ho2 h=>?_
 unfold qab.j3 qab.j5
 have oc0:List.replicate ls.length 0=ocL ls 1 0:=by
  rw [qok]
  exact qpd fun i hi=>by rw [if_neg (by omega)]
 rw [oc0] at h
 refine qkh (fun (n:Nat) (c n':Int) w'=>n'=n∧1≤n∧n≤16∧c=(hf ls n:Int)∧St F0 w0 w' (qmc 1 o (ivs .i64 (ocL ls n 0)) :: ps)) (fun n=>16 - n) 1 ⟨rfl,by omega,by omega,rfl,h⟩ ?_
 clear h
 rintro n c n' w I μ ⟨rfl,hn1,hn,rfl,h⟩ hin
 unfold qab.b1
 refine qxc (fun g3=>?_) (fun g3=>?_)
 · have hb:=qzi ls hok hkr (n:=n) (by omega)
   unfold qab.j6 qab.j9
   refine qkh (fun (i:Nat) (c i':Int) w'=>i'=i∧i≤ls.length∧c=((hf ls n+hc (ls.take i) n:Nat):Int)∧St F0 w0 w' (qmc 1 o (ivs .i64 (ocL ls n i)) :: ps)) (fun i=>ls.length - i) 0 ⟨rfl,by omega,by rw [List.take_zero]; simp [hc],h⟩ ?_
   clear h
   rintro i c i' w I2 μ2 ⟨rfl,hi,rfl,h⟩ hin2
   unfold qab.b2
   refine qxc (fun g4=>?_) (fun g4=>?_)
   · have hil:i < ls.length:=by omega
     have hcs:hc (ls.take (i+1)) n=hc (ls.take i) n+if 0 < n∧ls.getD i 0=n then 1 else 0:=by rw [qhi hil,qol]
     have hcl:=hc_le (ls.take i) n
     rw [List.length_take] at hcl
     refine h.lx (s:=s) i rfl hil ?_
     refine qqe (fun g5=>?_) (fun g5=>?_)
     · have g5:ls.getD i 0=n:=by simpa using g5
       rw [if_pos ⟨by omega,g5⟩] at hcs
       have hce:=hcode_eq g5 (by omega)
       refine h.sx (s:=o) i rfl (by unfold ocL; rw [qid]; exact hil) fun w h=>?_
       refine qw (qi (by omega) (by omega)) ?_
       refine qw (qi (by omega) (by omega)) ?_
       have e:(ocL ls n i).set i ((hf ls n+hc (ls.take i) n:Nat):Int)=ocL ls n (i+1):=by
        unfold ocL
        rw [qnj]
        refine qpd fun j hj=>?_
        by_cases h1:j=i
        · rw [if_pos h1,h1,if_pos ⟨by omega,Or.inr ⟨g5,by omega⟩⟩,hce]
        · rw [if_neg h1]
          by_cases h2:0 < ls.getD j 0∧(ls.getD j 0 < n ∨ (ls.getD j 0=n∧j < i))
          · rw [if_pos h2,if_pos (by omega)]
          · rw [if_neg h2,if_neg (by omega)]
       rw [e] at h
       exact ⟨⟨rfl,rfl,rfl⟩,hin2 (i+1) _ _ _ ⟨by omega,by omega,by omega,h⟩ (by omega)⟩
     · have g5:¬ ls.getD i 0=n:=by simpa using g5
       rw [if_neg (fun e=>g5 e.2)] at hcs
       refine qw (qi (by omega) (by omega)) ?_
       have e:ocL ls n i=ocL ls n (i+1):=by
        refine qpd fun j hj=>?_
        by_cases h1:j=i
        · rw [h1]
          by_cases h2:0 < ls.getD i 0∧ls.getD i 0 < n
          · rw [if_pos ⟨h2.1,Or.inl h2.2⟩,if_pos ⟨h2.1,Or.inl h2.2⟩]
          · rw [if_neg (by omega),if_neg (by omega)]
        · by_cases h2:0 < ls.getD j 0∧(ls.getD j 0 < n ∨ (ls.getD j 0=n∧j < i))
          · rw [if_pos h2,if_pos (by omega)]
          · rw [if_neg h2,if_neg (by omega)]
       rw [e] at h
       exact ⟨⟨rfl,rfl,rfl⟩,hin2 (i+1) _ _ _ ⟨by omega,by omega,by omega,h⟩ (by omega)⟩
   · have:i=ls.length:=by omega
     subst this
     rw [List.take_length]
     unfold qab.j8
     refine ⟨by decide,qw (shl1 (by omega)) ?_⟩
     unfold qab.j7
     refine qw (qi (by omega) (by omega)) ?_
     have e:ocL ls n ls.length=ocL ls (n+1) 0:=by
      refine qpd fun j hj=>?_
      by_cases h2:0 < ls.getD j 0∧(ls.getD j 0 < n ∨ (ls.getD j 0=n∧j < ls.length))
      · rw [if_pos h2,if_pos (by omega)]
      · rw [if_neg h2,if_neg (by omega)]
     rw [e] at h
     have e2:hf ls (n+1)=2 * (hf ls n+hc ls n):=rfl
     exact ⟨⟨rfl,rfl⟩,hin (n+1) _ _ _ ⟨by omega,by omega,by omega,by omega,h⟩ (by omega)⟩
 · have:n=16:=by omega
   subst this
   have e:ocL ls 16 0=hcodes ls:=by
    show qzk _ _=qzk _ fun i=>(qmf ls i:Int)
    refine qpd fun j hj=>?_
    have hx:=hok _ (qde hj)
    by_cases h2:0 < ls.getD j 0
    · rw [if_pos ⟨h2,Or.inl (by omega)⟩]
    · rw [if_neg (by omega),hcode_no (by omega)]; rfl
   rw [e] at h
   unfold qab.j4
   exact hk o w g h
def hrA (cb:Nat) (ls:List Int):As:=exA fun s:Sl × Sl=>ifA (okL ls∧kr ls≤32768∧ls.length≤288) <| andA (qjd cb [.slice s.1.a s.1.len s.1.cap,.slice s.2.a s.2.len s.2.cap]) <| andA (qmc 1 s.1 (ivs .i64 ls)) (qmc 1 s.2 (ivs .i64 (hcodes ls)))
theorem hrA_get (cb:Nat) (h:St F0 w0 w ps) [PkF hrA cb ps ls rest]:okL ls∧kr ls≤32768∧ls.length≤288∧∃ s1 s2:Sl,Blk w cb [.slice s1.a s1.len s1.cap,.slice s2.a s2.len s2.cap]∧Rd w 1 s1 (ivs .i64 ls)∧Rd w 1 s2 (ivs .i64 (hcodes ls)):=by
 obtain ⟨s,h⟩:=(h.toF hrA cb).exE
 obtain ⟨⟨h1,h2,h3⟩,h⟩:=h.ifE
 have h:=h.split
 have g:=h.drop.split
 exact ⟨h1,h2,h3,s.1,s.2,h.blk,g.ord,g.drop.ord⟩
theorem hrA_i {cb:Nat} {s1 s2:Sl} (h1:okL ls) (h2:kr ls≤32768) (h3:ls.length≤288) (h:St F0 w0 w (qjd cb [.slice s1.a s1.len s1.cap,.slice s2.a s2.len s2.cap] :: qmc 1 s1 (ivs .i64 ls) :: qmc 1 s2 (ivs .i64 (hcodes ls)) :: rest)):St F0 w0 w (hrA cb ls :: rest):=by
 have h:=(h.tail fun _ _ _ h=>h.join).join
 exact (h.ifI (c:=okL ls∧kr ls≤32768∧ls.length≤288) ⟨h1,h2,h3⟩).exI (p:=fun s:Sl × Sl=>ifA (okL ls∧kr ls≤32768∧ls.length≤288) <| andA (qjd cb [.slice s.1.a s.1.len s.1.cap,.slice s.2.a s.2.len s.2.cap]) <| andA (qmc 1 s.1 (ivs .i64 ls)) (qmc 1 s.2 (ivs .i64 (hcodes ls)))) (s1,s2)
theorem qir {i:Nat} (h:i < ls.length):((ls.take (i+1)).filter (0 < ·)).sum=((ls.take i).filter (0 < ·)).sum+if 0 < ls.getD i 0 then ls.getD i 0 else 0:=by
 rw [qhi h,List.filter_append,List.sum_append]
 by_cases h0:0 < ls.getD i 0
 · rw [if_pos h0]
   have:[ls.getD i 0].filter (0 < ·)=[ls.getD i 0]:=List.filter_eq_self.2 fun a ha=>by rw [List.mem_singleton.1 ha]; simpa using h0
   rw [this]; simp
 · rw [if_neg h0]
   have:[ls.getD i 0].filter (0 < ·)=[]:=List.filter_eq_nil_iff.2 fun a ha=>by rw [List.mem_singleton.1 ha]; simpa using h0
   rw [this]; simp
theorem qmb.c {s:Sl} {half:Bool} {K:Ending→World→Prop} (h:St F0 w0 w ps) [Rdb F0 w0 s ps 1 (ivs .i64 ls)]
 (hk:∀ cb w',qji ls half=0→St F0 w0 w' (hrA cb ls :: ps)→K (.returned (.tuple ⟨[.pointer (some ⟨cb,0,none⟩),.int .i64 0]⟩)) w')
 (hk2:∀ w',qji ls half ≠ 0→St F0 w0 w' ps→K (.returned (.tuple ⟨[.pointer none,.int .i64 (qji ls half)]⟩)) w'):Calls Tryz.prog 292 ⟨[.slice s.a s.len s.cap,.bool half]⟩ w K:=by
 have hl:=(h.rdb s).1
 rw [qx] at hl
 refine qnc (qmb.ok _ _ _ _ ?_)
 unfold qmb qmb.j1
 refine qac.c h fun w h=>⟨_,_,rfl,?_⟩
 refine qqe (fun g=>?_) (fun g=>?_)
 · have g:(qvk ls).2 ≠ 0:=by simpa using g
   have e:qji ls half=(qvk ls).2:=by unfold qji; rw [if_pos g]
   rw [e] at hk2
   exact hk2 w g h
 have g:(qvk ls).2=0:=by simpa using g
 obtain ⟨hok,hkr,hlen,hfull⟩:=qbq g
 have hnw:qji ls half=if (qvk ls).1=false∧(half && hhalf ls)=false then 2 else 0:=by unfold qji; rw [if_neg (by rw [g]; decide)]
 have fin:∀ {w},St F0 w0 w ps→qji ls half=0→qmb.j3 s (fun v w'=>K (.returned v) w') w:=by
  intro w h hn0
  unfold qmb.j3
  refine qab.c h (fun s2 w _ h=>⟨s2,_,rfl,?_⟩) (fun w hne _=>absurd g hne)
  refine h.clone (k:=.i64) (s2:=s) (by omega) fun s1 w h=>?_
  refine h.new fun nb w h=>?_
  exact hk nb w hn0 (hrA_i (s1:=s1) (s2:=s2) hok hkr hlen h)
 unfold qmb.j2 qmb.j4
 refine qqe (fun g5=>?_) (fun g5=>?_)
 · have g5:(qvk ls).1=false:=by simpa using g5
   unfold qmb.j5 qmb.j7
   have hsl:∀ i,i≤ls.length→0≤((ls.take i).filter (0 < ·)).sum∧((ls.take i).filter (0 < ·)).sum≤15 * i:=by
    intro i
    induction i with
    | zero=>intro _; simp
    | succ i ih =>
      intro hi
      have h1:=ih (by omega)
      have h2:=hok _ (qde (show i < ls.length by omega))
      rw [qir (by omega)]
      split <;> omega
   refine qkh (fun (i:Nat) (c i':Int) w'=>i'=i∧i≤ls.length∧c=((ls.take i).filter (0 < ·)).sum∧St F0 w0 w' ps) (fun i=>ls.length - i) 0 ⟨rfl,by omega,rfl,h⟩ ?_
   clear h
   rintro i c i' w I μ ⟨rfl,hi,rfl,h⟩ hin
   have hs1:=hsl i hi
   unfold qmb.b1
   refine qxc (fun g4=>?_) (fun g4=>?_)
   · have hil:i < ls.length:=by omega
     have h2:=hok _ (qde hil)
     have hsn:=qir hil
     refine h.lx i rfl hil ?_
     refine qxc (fun g6=>?_) (fun g6=>?_)
     · rw [if_pos (by omega)] at hsn
       refine h.lx i rfl hil ?_
       refine qw (qi (by omega) (by omega)) ?_
       refine qw (qi (by omega) (by omega)) ?_
       exact ⟨⟨rfl,rfl⟩,hin (i+1) _ _ _ ⟨by omega,by omega,hsn.symm,h⟩ (by omega)⟩
     · rw [if_neg (by omega),Int.add_zero] at hsn
       refine qw (qi (by omega) (by omega)) ?_
       exact ⟨⟨rfl,rfl⟩,hin (i+1) _ _ _ ⟨by omega,by omega,hsn.symm,h⟩ (by omega)⟩
   · have:i=ls.length:=by omega
     subst this
     rw [List.take_length]
     have hh:=qro hok
     unfold qmb.j6
     refine qqe (fun g6=>?_) (fun g6=>?_)
     · have g6:half=false:=by simpa using g6
       rw [if_pos ⟨g5,by rw [g6]; rfl⟩] at hnw
       rw [hnw] at hk2
       exact hk2 w (by decide) h
     · have g6:half=true:=by simpa using g6
       refine qxc (fun g7=>?_) (fun g7=>?_)
       · rw [decide_eq_false (by omega)] at hh
         rw [if_pos ⟨g5,by rw [hh]; simp⟩] at hnw
         rw [hnw] at hk2
         exact hk2 w (by decide) h
       · rw [decide_eq_true (by omega)] at hh
         rw [if_neg (fun e=>by rw [hh,g6] at e; exact absurd e.2 (by decide))] at hnw
         exact fin h hnw
 · have g5:(qvk ls).1=true:=by simpa using g5
   exact fin h (by rw [hnw,if_neg (fun e=>by rw [g5] at e; exact absurd e.1 (by decide))])
def bitR (rb:Nat) (x:Sl × Nat):As:=rfA rb x.1 x.2
theorem qeb.one {rb V N p:Nat} {s:Sl} {K:Ending→World→Prop} (h:St F0 w0 w (bitR rb (s,p) :: ps)) [Rdb F0 w0 s ps 1 (u8s (byt V N))] (hN:N≤137438953472) (hp:p≤8 * N)
 (hk:p < 8 * N→∀ w',St F0 w0 w' (bitR rb (s,p+1) :: ps)→K (.returned (.tuple ⟨[.int .i64 ((bt V p).toNat:Nat),.bool true]⟩)) w')
 (hk':¬ p < 8 * N→∀ w',St F0 w0 w' (bitR rb (s,p) :: ps)→K (.returned (.tuple ⟨[.int .i64 0,.bool false]⟩)) w') :
 Calls Tryz.prog 289 ⟨[.pointer (some ⟨rb,0,none⟩),.int .i64 1]⟩ w K:=by
 refine qeb.c (V:=V) (N:=N) (at':=p) (s:=s) h (fun w h=>h.rdb s) hN hp (fun g w h=>?_) (fun g w h=>?_)
 · have g:p < 8 * N:=by simp [getOk] at g; omega
   have e:=qyo V p
   have e2:((V / 2 ^ p % 2 ^ (1:Int).toNat:Nat):Int)=(((bt V p).toNat:Nat):Int):=by
    rw [e,show (1:Int).toNat=1 by decide,Nat.pow_one]
    simp
   rw [e2]
   exact hk g w h
 · have g:¬ p < 8 * N:=by simp [getOk] at g; omega
   exact hk' g w h
theorem qo.c {cb rb V N p:Nat} {s:Sl} {K:Ending→World→Prop} (h:St F0 w0 w (bitR rb (s,p) :: ps)) [PkF hrA cb ps ls rest] [Rdb F0 w0 s ps 1 (u8s (byt V N))] (hN:N≤137438953472) (hp:p≤8 * N)
 (hk:∀ w',(hnext ls (qm V (8 * N)) p).2.2≤8 * N→St F0 w0 w' (bitR rb (s,(hnext ls (qm V (8 * N)) p).2.2) :: ps)→K (.returned (.tuple ⟨[.int .i64 (hnext ls (qm V (8 * N)) p).1,.int .i64 (hnext ls (qm V (8 * N)) p).2.1]⟩)) w') :
 Calls Tryz.prog 329 ⟨[.pointer (some ⟨cb,0,none⟩),.pointer (some ⟨rb,0,none⟩)]⟩ w K:=by
 refine qnc (qo.ok _ _ _ _ ?_)
 unfold qo qo.j1 qo.j3
 obtain ⟨hok,hkr,hlen,_⟩:=hrA_get cb h
 have hlg:=hlong_le ls 15 (by decide)
 refine qkh (fun (a:Nat × Nat × Nat) (t6 t7:Int) w'=>t6=a.2.1∧t7=a.1∧1≤a.1∧a.1≤qhh ls 15∧hf ls (a.1 - 1)+hc ls (a.1 - 1)≤a.2.1∧a.2.1 < 2 ^ (a.1 - 1)∧a.2.2≤8 * N ∧
  hdec ls (qm V (8 * N)) (qhh ls 15+1 - a.1) a.1 a.2.1 a.2.2=hnext ls (qm V (8 * N)) p∧St F0 w0 w' (bitR rb (s,a.2.2) :: ps)) (fun a=>17 - a.1) (1,0,p) ⟨rfl,rfl,by simp,by simp only; omega,by simp [hf,hc],by simp,hp,by simp [hnext],h⟩ ?_
 clear h
 rintro ⟨n,v,q⟩ t6 t7 wO I μ ⟨rfl,rfl,hn1,hn,hge,hv,hq,hd,h⟩ hin
 simp only at hn1 hn hge hv hq hd h hin ⊢
 obtain ⟨m,rfl⟩:∃ m,n=m+1:=⟨n - 1,by omega⟩
 rw [Nat.add_sub_cancel] at hge hv
 unfold qo.b1
 refine qxc (fun g=>?_) (fun g=>by omega)
 have hm15:m+1≤15:=by omega
 have hv2:v < 32768:=Nat.lt_of_lt_of_le hv (Nat.le_trans (Nat.pow_le_pow_right (by decide) (show m≤15 by omega)) (by decide))
 obtain ⟨f,hf1⟩:∃ f,qhh ls 15+1 - (m+1)=f+1:=⟨qhh ls 15 - (m+1),by omega⟩
 rw [hf1,hdec,qtr] at hd
 unfold qo.j4
 refine qeb.one (s:=s) h hN hq (fun gk w h=>⟨_,_,rfl,?_⟩) (fun gk w h=>⟨_,_,rfl,?_⟩)
 · rw [if_pos gk] at hd
   simp only at hd
   refine qik ?_
   unfold qo.j6
   refine ⟨by decide,qw (shl1 (by omega)) ?_⟩
   refine qw (or1 _ (by omega)) ?_
   have hb1:=qzi ls hok hkr (n:=m) (by omega)
   have hb2:=qzi ls hok hkr (n:=m+1) hm15
   have hx:(bt V q).toNat < 2:=by cases bt V q <;> decide
   generalize (bt V q).toNat=x at hd hx ⊢
   have hfe:hf ls (m+1)=2 * (hf ls m+hc ls m):=rfl
   unfold qo.j7 qo.j9
   refine qkh (fun (i:Nat) (t10:Bool) (i':Int) w'=>i'=i∧i≤ls.length∧(∀ j,j < i→¬ (ls.getD j 0=((m+1:Nat):Int)∧qmf ls j=2 * v+x))∧(t10=true ↔ ∃ j,j < i∧((m+1:Nat):Int) < ls.getD j 0)∧St F0 w0 w' (bitR rb (s,q+1) :: ps)) (fun i=>ls.length - i) 0
    ⟨rfl,by omega,fun j hj=>by omega,⟨fun e=>by (cases e),fun ⟨j,hj,_⟩=>absurd hj (Nat.not_lt_zero _)⟩,h⟩ ?_
   clear h
   rintro i t10 i' w I2 μ2 ⟨rfl,hi,hno,hsome,h⟩ hin2
   unfold qo.b2
   obtain ⟨_,_,_,s1,s2,hb,r1,r2⟩:=hrA_get cb h
   have l1:=r1.1
   rw [qx] at l1
   refine qod (hb.ldL (o:=0) (n:=s1) rfl ?_)
   refine qxc (fun g2=>?_) (fun g2=>?_)
   · have hil:i < ls.length:=by omega
     have step:¬ (ls.getD i 0=((m+1:Nat):Int)∧qmf ls i=2 * v+x)→qo.j12 (some ⟨cb,0,none⟩) (some ⟨rb,0,none⟩) ((2 * v+x:Nat):Int) ((m+1:Nat):Int) t10 (i:Int) (fun v w'=>K (.returned v) w')
      (fun d_0' i_1' t6' t7' w'=>(d_0'=some ⟨cb,0,none⟩∧i_1'=some ⟨rb,0,none⟩)∧I t6' t7' w'∧μ t6' t7' w' < μ (v:Int) ((m+1:Nat):Int) wO)
      (fun d_0' i_1' t6' t7' t10' t11' w'=>(d_0'=some ⟨cb,0,none⟩∧i_1'=some ⟨rb,0,none⟩∧t6'=((2 * v+x:Nat):Int)∧t7'=((m+1:Nat):Int))∧I2 t10' t11' w'∧μ2 t10' t11' w' < μ2 t10 (i:Int) w) w:=by
      intro hn3
      have hno2:∀ j,j < i+1→¬ (ls.getD j 0=((m+1:Nat):Int)∧qmf ls j=2 * v+x):=fun j hj=>by
       by_cases e:j=i
       · rw [e]; exact hn3
       · exact hno j (by omega)
      unfold qo.j12
      refine qqe (fun g5=>?_) (fun g5=>?_)
      · unfold qo.j11
        refine qw (qi (by omega) (by omega)) ?_
        obtain ⟨j,hj1,hj2⟩:=hsome.1 g5
        exact ⟨⟨rfl,rfl,rfl,rfl⟩,hin2 (i+1) _ _ _ ⟨by omega,by omega,hno2,⟨fun _=>⟨j,by omega,hj2⟩,fun _=>rfl⟩,h⟩ (by omega)⟩
      · refine qod (hb.ldL (o:=0) (n:=s1) rfl ?_)
        refine r1.at i rfl hil ?_
        unfold qo.j11
        refine qw (qi (by omega) (by omega)) ?_
        refine ⟨⟨rfl,rfl,rfl,rfl⟩,hin2 (i+1) _ _ _ ⟨by omega,by omega,hno2,⟨fun e=>⟨i,by omega,by simpa using e⟩,fun ⟨j,hj1,hj2⟩=>?_⟩,h⟩ (by omega)⟩
        by_cases e:j=i
        · subst e; simpa using hj2
        · have:=hsome.2 ⟨j,by omega,hj2⟩
          rw [this] at g5; cases g5
     unfold qo.j10
     refine qod (hb.ldL (o:=0) (n:=s1) rfl ?_)
     refine r1.at i rfl hil ?_
     refine qqe (fun g3=>?_) (fun g3=>?_)
     · have g3:ls.getD i 0=((m+1:Nat):Int):=by simpa using g3
       refine qod (hb.ldL (o:=1) (n:=s2) rfl ?_)
       refine r2.at i rfl (by rw [qhn]; exact hil) ?_
       rw [qaq _ hil]
       refine qqe (fun g4=>?_) (fun g4=>?_)
       · have g4:qmf ls i=2 * v+x:=by have:(qmf ls i:Int)=((2 * v+x:Nat):Int):=by simpa using g4
                                      omega
         obtain ⟨e1,e2⟩:=hcode_lt hil g3 (by omega)
         rw [if_pos (by omega)] at hd
         have e3:2 * v+x - hf ls (m+1)=(ls.take i).count ((m+1:Nat):Int):=by
          have:=hcode_eq g3 (by omega)
          unfold hc at this
          rw [if_neg (by omega)] at this
          omega
         have e4:=hpos_at ls hil (m+1) g3
         rw [e3,List.getD_eq_getElem?_getD,e4] at hd
         rw [← hd] at hk
         exact hk w (by simp only; omega) h
       · exact step (fun e=>by rw [e.2] at g4; simp at g4)
     · exact step (fun e=>by rw [e.1] at g3; simp at g3)
   · have:i=ls.length:=by omega
     subst this
     clear hin2
     have hno3:¬ 2 * v+x < hf ls (m+1)+hc ls (m+1):=by
      intro hlt
      have hcn:hc ls (m+1)=ls.count ((m+1:Nat):Int):=by unfold hc; rw [if_neg (by omega)]
      have hpl:=qlf ls (m+1)
      have hkk:2 * v+x - hf ls (m+1) < (qgk ls (m+1)).length:=by omega
      have hg:=List.getElem?_eq_getElem hkk
      obtain ⟨p1,p2,_⟩:=qqo ls (m+1) hg
      have p3:=hpos_code (l:=ls) (by omega) hg
      exact hno _ p1 ⟨p2,by omega⟩
     rw [if_neg hno3] at hd
     have hls:(∃ y ∈ ls,((m+1:Nat):Int) < y) ↔ m+1 < qhh ls 15:=hlong_some hok (by omega)
     have hmem:(∃ j,j < ls.length∧((m+1:Nat):Int) < ls.getD j 0) ↔ ∃ y ∈ ls,((m+1:Nat):Int) < y:=by
      constructor
      · rintro ⟨j,h1,h2⟩; exact ⟨_,qde h1,h2⟩
      · rintro ⟨y,h1,h2⟩
        obtain ⟨j,hj⟩:=List.getElem?_of_mem h1
        have hj2:=(List.getElem?_eq_some_iff.1 hj).1
        refine ⟨j,hj2,?_⟩
        rw [List.getD_eq_getElem?_getD,hj]
        exact h2
     unfold qo.j8
     refine qqe (fun g5=>?_) (fun g5=>?_)
     · have g5:t10=false:=by simpa using g5
       have:¬ m+1 < qhh ls 15:=fun e=>by
        have:=hsome.2 (hmem.2 (hls.2 e))
        rw [this] at g5; cases g5
       have hf0:f=0:=by clear hls hmem hsome; omega
       rw [hf0,hdec] at hd
       rw [← hd] at hk
       exact hk w (by simp only; omega) h
     · have g5:t10=true:=by simpa using g5
       have hlt:=hls.1 (hmem.1 (hsome.1 g5))
       clear hls hmem hsome
       unfold qo.j5
       refine qw (qi (by omega) (by omega)) ?_
       refine ⟨⟨rfl,rfl⟩,hin (m+1+1,2 * v+x,q+1) _ _ _ ⟨rfl,by simp,by simp,by simp only; omega,?_,?_,by simp only; omega,?_,h⟩ (by simp only; omega)⟩
       · simp only [Nat.add_sub_cancel]; omega
       · simp only [Nat.add_sub_cancel]
         rw [Nat.pow_succ]; omega
       · simp only
         rw [show qhh ls 15+1 - (m+1+1)=f by omega]
         exact hd
 · rw [if_neg gk] at hd
   simp only at hd
   refine qum ?_
   rw [← hd] at hk
   exact hk w hq h
end
end Go.Proofs.YthdmmmfgjmmelaaGreat
namespace Go.Proofs.YthdmmmfgjmmelaaGreat
open Go Go.Proofs Go.ChangeShapes Go.WideShapes Go.Deep
set_option linter.unusedVariables false
set_option linter.unusedSimpArgs false
def tri (k0 k1 k2:IntKind) (xs:List (Int × Int × Int)):List Value:=xs.flatMap fun a=>[.int k0 a.1,.int k1 a.2.1,.int k2 a.2.2]
theorem qrh (k0 k1 k2:IntKind) (xs:List (Int × Int × Int)):(tri k0 k1 k2 xs).length=xs.length * 3:=by
 induction xs with
 | nil=>rfl
 | cons a xs ih =>
   have e:tri k0 k1 k2 (a :: xs)=[.int k0 a.1,.int k1 a.2.1,.int k2 a.2.2] ++ tri k0 k1 k2 xs:=by simp [tri]
   rw [e,List.length_append,ih,List.length_cons]
   simp; omega
theorem tri_get (k0 k1 k2:IntKind) (xs:List (Int × Int × Int)):∀ (i:Nat) (h:i < xs.length),(tri k0 k1 k2 xs)[i * 3]?=some (.int k0 xs[i].1)∧(tri k0 k1 k2 xs)[i * 3+1]?=some (.int k1 xs[i].2.1)∧(tri k0 k1 k2 xs)[i * 3+2]?=some (.int k2 xs[i].2.2):=by
 induction xs with
 | nil=>intro i h; simp at h
 | cons a xs ih =>
   intro i h
   have e:tri k0 k1 k2 (a :: xs)=.int k0 a.1 :: .int k1 a.2.1 :: .int k2 a.2.2 :: tri k0 k1 k2 xs:=by simp [tri]
   rw [e]
   cases i with
   | zero=>simp
   | succ i =>
     have:=ih i (by simpa using h)
     rw [show (i+1) * 3=i * 3+1+1+1 by omega]
     simpa using this
section
variable {H:Type} {enc:TypeId × Value→H} {P:Program} {w:World} {base:Nat} {spare:Nat→Bool} {held:Bool}
theorem open_row {t e:TypeId} {k:IntKind} {fuel:Nat} {s:Sl} {x:DataW H × List MemPlace} (ht:P.underlying t=some (.slice e)) (he:P.underlying e=some (.int k)) (hc:P.cellsOf e=1)
 (h:DataW.trod enc P w base spare held fuel t [.slice s.a s.len s.cap]=some x) :
 ∃ xs:List Int,Rd w 1 s (xs.map (Value.int k))∧(∀ n ∈ xs,(Lit.int k n).wf=true)∧xs.length=s.len∧s.len≤s.cap:=by
 obtain ⟨sa,sl,sc⟩:=s
 rcases open_ints ht he hc h with ⟨hcs,_⟩ | ⟨a,l,c,zs,hcs,_,hl,hm,hz,_,hcell,hwz⟩
 · simp at hcs
   obtain ⟨rfl,rfl,rfl⟩:=hcs
   exact ⟨[],⟨rfl,fun i hi=>by simp at hi⟩,by simp,rfl,Nat.le_refl _⟩
 · simp at hcs
   obtain ⟨rfl,rfl,rfl⟩:=hcs
   have hz:sl≤zs.length:=by rw [hz]; split <;> omega
   refine ⟨zs.take sl,⟨by simp; omega,fun i hi=>⟨a,rfl,?_⟩⟩,fun n hn=>hwz n (List.mem_of_mem_take hn),by simp; omega,hl⟩
   simp only [List.length_map,List.length_take] at hi
   rw [hcell i (by omega)]
   rw [List.getElem?_map,List.getElem?_take,if_pos (by omega),List.getElem?_eq_getElem (show i < zs.length by omega)]
   simp [List.getD,List.getElem?_eq_getElem (show i < zs.length by omega)]
instance:Inhabited Sl:=⟨⟨none,0,0⟩⟩
def sls (L:List (Sl × List Int)):List Value:=L.map fun x=>.slice x.1.a x.1.len x.1.cap
end
end Go.Proofs.YthdmmmfgjmmelaaGreat
namespace Go.Proofs.YthdmmmfgjmmelaaGreat
open Go Go.Proofs
set_option linter.unusedVariables false
set_option maxRecDepth 100000
def qbb.j3 (lit_0 dist_1:Sl) (Q:VWP) (w:World):Prop :=
 Calls Tryz.prog 149 ⟨[.slice lit_0.a lit_0.len lit_0.cap]⟩ w fun e1 w2 =>
 ∃ r3:Sl,e1=.returned (.slice r3.a r3.len r3.cap) ∧
 Calls Tryz.prog 149 ⟨[.slice dist_1.a dist_1.len dist_1.cap]⟩ w2 fun e4 w5 =>
 ∃ r6:Sl,e4=.returned (.slice r6.a r6.len r6.cap) ∧
 Q (.tuple ⟨[.slice r3.a r3.len r3.cap,.slice r6.a r6.len r6.cap]⟩) w5
def qbb.b1 (lit_0 dist_1:Sl) (t26:Int) (Q:VWP) (nx1:Sl→Sl→Int→World→Prop) (w:World):Prop :=
 br (decide ((t26:Int) < 32)) (
 lt (⟨World.heapSize w,0,none⟩:Addr) fun a7 =>
 lt (World.alloc w (.cells ⟨[.int .i64 5]⟩ 3)) fun w8 =>
 rdO w8 (some a7) (1 * 1) fun c9 =>
 apK Tryz.prog 3 w8 dist_1.a dist_1.len dist_1.cap 1 c9 fun s10 w11 =>
 lt (IntKind.i64.wrap (t26+1)) fun x12 =>
 nx1 lit_0 s10 x12 w11) (
 qbb.j3 lit_0 dist_1 Q w)
def qbb.l1 (lit_0 dist_1:Sl) (t26:Int) (Q:VWP) (w:World):Prop :=
 ∃ (I:Sl→Int→World→Prop) (μ:Sl→Int→World→Nat),I dist_1 t26 w∧∀ dist_1:Sl,∀ t26:Int,∀ w:World,I dist_1 t26 w→qbb.b1 lit_0 dist_1 t26 Q (fun lit_0' dist_1' t26' w'=>(lit_0'=lit_0)∧I dist_1' t26' w'∧μ dist_1' t26' w' < μ dist_1 t26 w) w
def qbb.j4 (lit_0 dist_1:Sl) (t26:Int) (Q:VWP) (w:World):Prop :=
 qbb.l1 lit_0 dist_1 t26 Q w
def qbb.j2 (lit_0 dist_1:Sl) (Q:VWP) (w:World):Prop :=
 qbb.j4 lit_0 dist_1 0 Q w
def qbb.j7 (lit_0 dist_1:Sl) (t4:Int) (Q:VWP) (nx2:Sl→Sl→Int→World→Prop) (w:World):Prop :=
 lt (IntKind.i64.wrap (t4+1)) fun x13 =>
 nx2 dist_1 lit_0 x13 w
def qbb.j9 (lit_0 dist_1:Sl) (n_3:Int) (t4:Int) (Q:VWP) (nx2:Sl→Sl→Int→World→Prop) (w:World):Prop :=
 lt (⟨World.heapSize w,0,none⟩:Addr) fun a14 =>
 lt (World.alloc w (.cells ⟨[.int .i64 n_3]⟩ 3)) fun w15 =>
 rdO w15 (some a14) (1 * 1) fun c16 =>
 apK Tryz.prog 3 w15 lit_0.a lit_0.len lit_0.cap 1 c16 fun s17 w18 =>
 qbb.j7 s17 dist_1 t4 Q nx2 w18
def qbb.j10 (lit_0 dist_1:Sl) (i_2:Int) (n_3 t4:Int) (t7:Bool) (Q:VWP) (nx2:Sl→Sl→Int→World→Prop) (w:World):Prop :=
 br t7 (
 qbb.j9 lit_0 dist_1 9 t4 Q nx2 w) (
 br (decide ((i_2:Int) ≥ 256)) (
 br (decide ((i_2:Int) < 280)) (
 qbb.j9 lit_0 dist_1 7 t4 Q nx2 w) (
 qbb.j9 lit_0 dist_1 n_3 t4 Q nx2 w)) (
 qbb.j9 lit_0 dist_1 n_3 t4 Q nx2 w))
def qbb.j8 (lit_0 dist_1:Sl) (i_2:Int) (n_3 t4:Int) (Q:VWP) (nx2:Sl→Sl→Int→World→Prop) (w:World):Prop :=
 br (decide ((i_2:Int) ≥ 144)) (
 qbb.j10 lit_0 dist_1 i_2 n_3 t4 (decide ((i_2:Int) < 256)) Q nx2 w) (
 qbb.j10 lit_0 dist_1 i_2 n_3 t4 false Q nx2 w)
def qbb.j6 (lit_0 dist_1:Sl) (t4:Int) (Q:VWP) (nx2:Sl→Sl→Int→World→Prop) (w:World):Prop :=
 qbb.j8 lit_0 dist_1 t4 8 t4 Q nx2 w
def qbb.b2 (dist_1 lit_0:Sl) (t4:Int) (Q:VWP) (nx2:Sl→Sl→Int→World→Prop) (w:World):Prop :=
 br (decide ((t4:Int) < 288)) (
 qbb.j6 lit_0 dist_1 t4 Q nx2 w) (
 qbb.j2 lit_0 dist_1 Q w)
def qbb.l2 (dist_1 lit_0:Sl) (t4:Int) (Q:VWP) (w:World):Prop :=
 ∃ (I:Sl→Int→World→Prop) (μ:Sl→Int→World→Nat),I lit_0 t4 w∧∀ lit_0:Sl,∀ t4:Int,∀ w:World,I lit_0 t4 w→qbb.b2 dist_1 lit_0 t4 Q (fun dist_1' lit_0' t4' w'=>(dist_1'=dist_1)∧I lit_0' t4' w'∧μ lit_0' t4' w' < μ lit_0 t4 w) w
def qbb.j5 (lit_0 dist_1:Sl) (t4:Int) (Q:VWP) (w:World):Prop :=
 qbb.l2 dist_1 lit_0 t4 Q w
def qbb.j1 (lit_0 dist_1:Sl) (Q:VWP) (w:World):Prop :=
 qbb.j5 lit_0 dist_1 0 Q w
def qbb  (Q:VWP) (w:World):Prop :=
 qbb.j1 ⟨none,0,0⟩ ⟨none,0,0⟩ Q w
theorem qbb.ok  (Q:VWP) (w:World) (h:qbb  Q w):Calls Tryz.prog 207 ⟨[]⟩ w (Ret Q):=by
 refine qp [.tmp 0,.tmp 1] Tryz.func207 rfl rfl rfl rfl ?_
 refine qu (fun ρ w=>asL (ρ 0) fun lit_0=>asL (ρ 1) fun dist_1=>qbb.j1 lit_0 dist_1 Q w) ?_ ?_
 · skip
   exact qg qpb _ (Eq.mp (by kernel_rfl) h)
 · intro ρ w h
   obtain ⟨lit_0,e0,h⟩:=ql h
   obtain ⟨dist_1,e1,h⟩:=ql h
   refine qb e0 (qb (qa e1 rfl) ?_)
   refine qu (fun ρ w=>asL (ρ 0) fun lit_0=>asL (ρ 1) fun dist_1=>qbb.j2 lit_0 dist_1 Q w) ?_ ?_
   · skip
     refine qu (fun ρ w=>asL (ρ 0) fun lit_0=>asL (ρ 1) fun dist_1=>asI .i64 (ρ 4) fun t4=>qbb.j5 lit_0 dist_1 t4 Q w) ?_ ?_
     · skip
       exact qg qpb _ (Eq.mp (by kernel_rfl) h)
     · intro ρ w h
       obtain ⟨lit_0,e0,h⟩:=ql h
       obtain ⟨dist_1,e1,h⟩:=ql h
       obtain ⟨t4,e4,h⟩:=qd h
       refine qb e0 (qb (qa e1 rfl) (qb (qa (qa e4 rfl) rfl) ?_))
       refine qcb ?_
       obtain ⟨I,μ,hI,hr⟩:=h
       refine qlb (α:=Sl × Int) (fun s ρ=>ρ 0=.slice s.1.a s.1.len s.1.cap∧ρ 4=.int .i64 s.2∧ρ 1=.slice dist_1.a dist_1.len dist_1.cap) (fun s w=>I s.1 s.2 w) (fun s w=>μ s.1 s.2 w) (lit_0,t4) ⟨rfl,rfl,rfl⟩ hI ?_
       rintro ⟨lit_0,t4⟩ ρ w ⟨e0,e4,e1⟩ hI
       have h:=hr lit_0 t4 w hI
       clear hr
       obtain ⟨nx2,hnx⟩:∃ nx:Sl→Sl→Int→World→Prop,nx=(fun dist_1' lit_0' t4' w'=>(dist_1'=dist_1)∧I lit_0' t4' w'∧μ lit_0' t4' w' < μ lit_0 t4 w):=⟨_,rfl⟩
       rw [← hnx] at h
       refine qsb (M:=fun ρ w=>asL (ρ 1) fun dist_1=>asL (ρ 0) fun lit_0=>asI .i64 (ρ 4) fun t4=>nx2 dist_1 lit_0 t4 w) ?_ (fun ρ w h=>?_)
       · skip
         refine qb e0 (qb (qa e1 rfl) (qb (qa (qa e4 rfl) rfl) ?_))
         refine qfb qpb (fun ρ w=>asL (ρ 0) fun lit_0=>asL (ρ 1) fun dist_1=>asI .i64 (ρ 4) fun t4=>qbb.j6 lit_0 dist_1 t4 Q nx2 w) (Eq.mp (by kernel_rfl) h) ?_
         intro ρ w h
         obtain ⟨lit_0,e0,h⟩:=ql h
         obtain ⟨dist_1,e1,h⟩:=ql h
         obtain ⟨t4,e4,h⟩:=qd h
         refine qb e0 (qb (qa e1 rfl) (qb (qa (qa e4 rfl) rfl) ?_))
         refine qu (fun ρ w=>asL (ρ 0) fun lit_0=>asL (ρ 1) fun dist_1=>asI .i64 (ρ 4) fun t4=>qbb.j7 lit_0 dist_1 t4 Q nx2 w) ?_ ?_
         · skip
           refine qcb ?_
           refine qfb qpb (fun ρ w=>asL (ρ 0) fun lit_0=>asL (ρ 1) fun dist_1=>asI .i64 (ρ 2) fun i_2=>asI .i64 (ρ 3) fun n_3=>asI .i64 (ρ 4) fun t4=>qbb.j8 lit_0 dist_1 i_2 n_3 t4 Q nx2 w) (Eq.mp (by kernel_rfl) h) ?_
           intro ρ w h
           obtain ⟨lit_0,e0,h⟩:=ql h
           obtain ⟨dist_1,e1,h⟩:=ql h
           obtain ⟨i_2,e2,h⟩:=qd h
           obtain ⟨n_3,e3,h⟩:=qd h
           obtain ⟨t4,e4,h⟩:=qd h
           refine qb e0 (qb (qa e1 rfl) (qb (qa (qa e2 rfl) rfl) (qb (qa (qa (qa e3 rfl) rfl) rfl) (qb (qa (qa (qa (qa e4 rfl) rfl) rfl) rfl) ?_))))
           refine qu (fun ρ w=>asL (ρ 0) fun lit_0=>asL (ρ 1) fun dist_1=>asI .i64 (ρ 3) fun n_3=>asI .i64 (ρ 4) fun t4=>qbb.j9 lit_0 dist_1 n_3 t4 Q nx2 w) ?_ ?_
           · skip
             refine qcb ?_
             refine qu (fun ρ w=>asL (ρ 0) fun lit_0=>asL (ρ 1) fun dist_1=>asI .i64 (ρ 2) fun i_2=>asI .i64 (ρ 3) fun n_3=>asI .i64 (ρ 4) fun t4=>asB (ρ 7) fun t7=>qbb.j10 lit_0 dist_1 i_2 n_3 t4 t7 Q nx2 w) ?_ ?_
             · skip
               exact qg qpb _ (Eq.mp (by kernel_rfl) h)
             · intro ρ w h
               obtain ⟨lit_0,e0,h⟩:=ql h
               obtain ⟨dist_1,e1,h⟩:=ql h
               obtain ⟨i_2,e2,h⟩:=qd h
               obtain ⟨n_3,e3,h⟩:=qd h
               obtain ⟨t4,e4,h⟩:=qd h
               obtain ⟨t7,e7,h⟩:=qcd h
               refine qb e0 (qb (qa e1 rfl) (qb (qa (qa e2 rfl) rfl) (qb (qa (qa (qa e3 rfl) rfl) rfl) (qb (qa (qa (qa (qa e4 rfl) rfl) rfl) rfl) (qb (qa (qa (qa (qa (qa e7 rfl) rfl) rfl) rfl) rfl) ?_)))))
               exact qg qpb _ (Eq.mp (by kernel_rfl) h)
           · intro ρ w h
             obtain ⟨lit_0,e0,h⟩:=ql h
             obtain ⟨dist_1,e1,h⟩:=ql h
             obtain ⟨n_3,e3,h⟩:=qd h
             obtain ⟨t4,e4,h⟩:=qd h
             refine qb e0 (qb (qa e1 rfl) (qb (qa (qa e3 rfl) rfl) (qb (qa (qa (qa e4 rfl) rfl) rfl) ?_)))
             exact qg qpb _ (Eq.mp (by kernel_rfl) h)
         · intro ρ w h
           obtain ⟨lit_0,e0,h⟩:=ql h
           obtain ⟨dist_1,e1,h⟩:=ql h
           obtain ⟨t4,e4,h⟩:=qd h
           refine qb e0 (qb (qa e1 rfl) (qb (qa (qa e4 rfl) rfl) ?_))
           exact qg qpb _ (Eq.mp (by kernel_rfl) h)
       · skip
         obtain ⟨dist_1',e1',h⟩:=ql h
         obtain ⟨lit_0',e0',h⟩:=ql h
         obtain ⟨t4',e4',h⟩:=qd h
         rw [hnx] at h
         obtain ⟨hu,hI2,hμ⟩:=h
         obtain rfl:=hu
         exact ⟨(lit_0',t4'),⟨e0',e4',e1'⟩,hI2,hμ⟩
   · intro ρ w h
     obtain ⟨lit_0,e0,h⟩:=ql h
     obtain ⟨dist_1,e1,h⟩:=ql h
     refine qb e0 (qb (qa e1 rfl) ?_)
     refine qu (fun ρ w=>asL (ρ 0) fun lit_0=>asL (ρ 1) fun dist_1=>qbb.j3 lit_0 dist_1 Q w) ?_ ?_
     · skip
       refine qu (fun ρ w=>asL (ρ 0) fun lit_0=>asL (ρ 1) fun dist_1=>asI .i64 (ρ 26) fun t26=>qbb.j4 lit_0 dist_1 t26 Q w) ?_ ?_
       · skip
         exact qg qpb _ (Eq.mp (by kernel_rfl) h)
       · intro ρ w h
         obtain ⟨lit_0,e0,h⟩:=ql h
         obtain ⟨dist_1,e1,h⟩:=ql h
         obtain ⟨t26,e26,h⟩:=qd h
         refine qb e0 (qb (qa e1 rfl) (qb (qa (qa e26 rfl) rfl) ?_))
         refine qcb ?_
         obtain ⟨I,μ,hI,hr⟩:=h
         refine qlb (α:=Sl × Int) (fun s ρ=>ρ 1=.slice s.1.a s.1.len s.1.cap∧ρ 26=.int .i64 s.2∧ρ 0=.slice lit_0.a lit_0.len lit_0.cap) (fun s w=>I s.1 s.2 w) (fun s w=>μ s.1 s.2 w) (dist_1,t26) ⟨rfl,rfl,rfl⟩ hI ?_
         rintro ⟨dist_1,t26⟩ ρ w ⟨e1,e26,e0⟩ hI
         have h:=hr dist_1 t26 w hI
         clear hr
         obtain ⟨nx1,hnx⟩:∃ nx:Sl→Sl→Int→World→Prop,nx=(fun lit_0' dist_1' t26' w'=>(lit_0'=lit_0)∧I dist_1' t26' w'∧μ dist_1' t26' w' < μ dist_1 t26 w):=⟨_,rfl⟩
         rw [← hnx] at h
         refine qsb (M:=fun ρ w=>asL (ρ 0) fun lit_0=>asL (ρ 1) fun dist_1=>asI .i64 (ρ 26) fun t26=>nx1 lit_0 dist_1 t26 w) ?_ (fun ρ w h=>?_)
         · skip
           refine qb e0 (qb (qa e1 rfl) (qb (qa (qa e26 rfl) rfl) ?_))
           exact qg qpb _ (Eq.mp (by kernel_rfl) h)
         · skip
           obtain ⟨lit_0',e0',h⟩:=ql h
           obtain ⟨dist_1',e1',h⟩:=ql h
           obtain ⟨t26',e26',h⟩:=qd h
           rw [hnx] at h
           obtain ⟨hu,hI2,hμ⟩:=h
           obtain rfl:=hu
           exact ⟨(dist_1',t26'),⟨e1',e26',e0'⟩,hI2,hμ⟩
     · intro ρ w h
       obtain ⟨lit_0,e0,h⟩:=ql h
       obtain ⟨dist_1,e1,h⟩:=ql h
       refine qb e0 (qb (qa e1 rfl) ?_)
       exact qg qpb _ (Eq.mp (by kernel_rfl) h)
def qpc.j2 (k_5:Int) (Q:VWP) (w:World):Prop :=
 (4:Int) ≠ 0 ∧
 lt (IntKind.i64.wrap (Int.tdiv k_5 4)) fun x1 =>
 lt (IntKind.i64.wrap (x1 - 1)) fun x2 =>
 (4:Int) ≠ 0 ∧
 lt (Int.tmod k_5 4) fun x3 =>
 lt (IntKind.i64.wrap (4+x3)) fun x4 =>
 (0:Int)≤x2 ∧
 lt (qpi .i64 x4 x2) fun x5 =>
 lt (IntKind.i64.wrap (3+x5)) fun x6 =>
 Q (.tuple ⟨[.int .i64 x6,.int .i64 x2,.bool true]⟩) w
def qpc.j3 (sym_0 k_5:Int) (t8:Bool) (Q:VWP) (w:World):Prop :=
 br t8 (
 Q (.tuple ⟨[.int .i64 0,.int .i64 0,.bool false]⟩) w) (
 br ((sym_0:Int) == 285) (
 Q (.tuple ⟨[.int .i64 258,.int .i64 0,.bool true]⟩) w) (
 br (decide ((k_5:Int) < 8)) (
 lt (IntKind.i64.wrap (3+k_5)) fun x7 =>
 Q (.tuple ⟨[.int .i64 x7,.int .i64 0,.bool true]⟩) w) (
 qpc.j2 k_5 Q w)))
def qpc.j1 (sym_0 k_5:Int) (Q:VWP) (w:World):Prop :=
 br (decide ((sym_0:Int) < 257)) (
 qpc.j3 sym_0 k_5 true Q w) (
 qpc.j3 sym_0 k_5 (decide ((sym_0:Int) > 285)) Q w)
def qpc (sym_0:Int) (Q:VWP) (w:World):Prop :=
 lt (IntKind.i64.wrap (sym_0 - 257)) fun x8 =>
 qpc.j1 sym_0 x8 Q w
theorem qpc.ok (sym_0:Int) (Q:VWP) (w:World) (h:qpc sym_0 Q w):Calls Tryz.prog 273 ⟨[.int .i64 sym_0]⟩ w (Ret Q):=by
 refine qp [.tmp 2,.tmp 3,.tmp 4] Tryz.func273 rfl rfl rfl rfl ?_
 refine qfb qpb (fun ρ w=>asI .i64 (ρ 0) fun sym_0=>asI .i64 (ρ 5) fun k_5=>qpc.j1 sym_0 k_5 Q w) (Eq.mp (by kernel_rfl) h) ?_
 intro ρ w h
 obtain ⟨sym_0,e0,h⟩:=qd h
 obtain ⟨k_5,e5,h⟩:=qd h
 refine qb e0 (qb (qa e5 rfl) ?_)
 refine qu (fun ρ w=>asI .i64 (ρ 5) fun k_5=>qpc.j2 k_5 Q w) ?_ ?_
 · skip
   refine qcb ?_
   refine qu (fun ρ w=>asI .i64 (ρ 0) fun sym_0=>asI .i64 (ρ 5) fun k_5=>asB (ρ 8) fun t8=>qpc.j3 sym_0 k_5 t8 Q w) ?_ ?_
   · skip
     exact qg qpb _ (Eq.mp (by kernel_rfl) h)
   · intro ρ w h
     obtain ⟨sym_0,e0,h⟩:=qd h
     obtain ⟨k_5,e5,h⟩:=qd h
     obtain ⟨t8,e8,h⟩:=qcd h
     refine qb e0 (qb (qa e5 rfl) (qb (qa (qa e8 rfl) rfl) ?_))
     exact qg qpb _ (Eq.mp (by kernel_rfl) h)
 · intro ρ w h
   obtain ⟨k_5,e5,h⟩:=qd h
   refine qb e5 ?_
   exact qg qpb _ (Eq.mp (by kernel_rfl) h)
def qkc.j2 (sym_0:Int) (Q:VWP) (w:World):Prop :=
 (2:Int) ≠ 0 ∧
 lt (IntKind.i64.wrap (Int.tdiv sym_0 2)) fun x1 =>
 lt (IntKind.i64.wrap (x1 - 1)) fun x2 =>
 (2:Int) ≠ 0 ∧
 lt (Int.tmod sym_0 2) fun x3 =>
 lt (IntKind.i64.wrap (2+x3)) fun x4 =>
 (0:Int)≤x2 ∧
 lt (qpi .i64 x4 x2) fun x5 =>
 lt (IntKind.i64.wrap (1+x5)) fun x6 =>
 Q (.tuple ⟨[.int .i64 x6,.int .i64 x2,.bool true]⟩) w
def qkc.j3 (sym_0:Int) (t5:Bool) (Q:VWP) (w:World):Prop :=
 br t5 (
 Q (.tuple ⟨[.int .i64 0,.int .i64 0,.bool false]⟩) w) (
 br (decide ((sym_0:Int) < 4)) (
 lt (IntKind.i64.wrap (1+sym_0)) fun x7 =>
 Q (.tuple ⟨[.int .i64 x7,.int .i64 0,.bool true]⟩) w) (
 qkc.j2 sym_0 Q w))
def qkc.j1 (sym_0:Int) (Q:VWP) (w:World):Prop :=
 br (decide ((sym_0:Int) < 0)) (
 qkc.j3 sym_0 true Q w) (
 qkc.j3 sym_0 (decide ((sym_0:Int) ≥ 30)) Q w)
def qkc (sym_0:Int) (Q:VWP) (w:World):Prop :=
 qkc.j1 sym_0 Q w
theorem qkc.ok (sym_0:Int) (Q:VWP) (w:World) (h:qkc sym_0 Q w):Calls Tryz.prog 274 ⟨[.int .i64 sym_0]⟩ w (Ret Q):=by
 refine qp [.tmp 2,.tmp 3,.tmp 4] Tryz.func274 rfl rfl rfl rfl ?_
 refine qu (fun ρ w=>asI .i64 (ρ 0) fun sym_0=>qkc.j1 sym_0 Q w) ?_ ?_
 · skip
   exact qg qpb _ (Eq.mp (by kernel_rfl) h)
 · intro ρ w h
   obtain ⟨sym_0,e0,h⟩:=qd h
   refine qb e0 ?_
   refine qu (fun ρ w=>asI .i64 (ρ 0) fun sym_0=>qkc.j2 sym_0 Q w) ?_ ?_
   · skip
     refine qcb ?_
     refine qu (fun ρ w=>asI .i64 (ρ 0) fun sym_0=>asB (ρ 5) fun t5=>qkc.j3 sym_0 t5 Q w) ?_ ?_
     · skip
       exact qg qpb _ (Eq.mp (by kernel_rfl) h)
     · intro ρ w h
       obtain ⟨sym_0,e0,h⟩:=qd h
       obtain ⟨t5,e5,h⟩:=qcd h
       refine qb e0 (qb (qa e5 rfl) ?_)
       exact qg qpb _ (Eq.mp (by kernel_rfl) h)
   · intro ρ w h
     obtain ⟨sym_0,e0,h⟩:=qd h
     refine qb e0 ?_
     exact qg qpb _ (Eq.mp (by kernel_rfl) h)
def qcc (s_0:OAd) (err_1:Int) (Q:VWP) (w:World):Prop :=
 nz s_0 fun a1 =>
 ldI .i64 w (Addr.add a1 3) fun x2 =>
 br ((x2:Int) == 0) (
 nz s_0 fun a3 =>
 st w (Addr.add a3 3) (.int .i64 err_1) fun w4 =>
 Q (.tuple ⟨[]⟩) w4) (
 Q (.tuple ⟨[]⟩) w)
theorem qcc.ok (s_0:OAd) (err_1:Int) (Q:VWP) (w:World) (h:qcc s_0 err_1 Q w):Calls Tryz.prog 271 ⟨[.pointer s_0,.int .i64 err_1]⟩ w (Ret Q):=by
 refine qp [] Tryz.func271 rfl rfl rfl rfl ?_
 exact qg qpb _ (Eq.mp (by kernel_rfl) h)
def qic (s_0:OAd) (n_1:Int) (Q:VWP) (w:World):Prop :=
 nz s_0 fun a1 =>
 ldI .i64 w (Addr.add a1 3) fun x2 =>
 br ((x2:Int) != 0) (
 Q (.int .i64 0) w) (
 nz s_0 fun a3 =>
 ldP w (Addr.add a3 0) fun x4 =>
 Calls Tryz.prog 311 ⟨[.pointer x4,.int .i64 n_1]⟩ w fun e5 w6 =>
 ∃ r7:Int,∃ r8:Bool,e5=.returned (.tuple ⟨[.int .i64 r7,.bool r8]⟩) ∧
 br (!r8) (
 Calls Tryz.prog 271 ⟨[.pointer s_0,.int .i64 3]⟩ w6 fun e9 w10 =>
 e9=.returned (.tuple ⟨[]⟩) ∧
 Q (.int .i64 r7) w10) (
 Q (.int .i64 r7) w6))
theorem qic.ok (s_0:OAd) (n_1:Int) (Q:VWP) (w:World) (h:qic s_0 n_1 Q w):Calls Tryz.prog 267 ⟨[.pointer s_0,.int .i64 n_1]⟩ w (Ret Q):=by
 refine qp [.tmp 4] Tryz.func267 rfl rfl rfl rfl ?_
 exact qg qpb _ (Eq.mp (by kernel_rfl) h)
def qge (s_0:OAd) (b_1:Int) (Q:VWP) (w:World):Prop :=
 nz s_0 fun a1 =>
 ldI .i64 w (Addr.add a1 3) fun x2 =>
 br ((x2:Int) != 0) (
 Q (.tuple ⟨[]⟩) w) (
 lt (World.drew w) fun w3 =>
 nz s_0 fun a4 =>
 ldL w3 (Addr.add a4 1) fun x5 =>
 nz s_0 fun a6 =>
 ldI .i64 w3 (Addr.add a6 2) fun x7 =>
 br (decide ((((x5.len:Nat):Int):Int) ≥ x7)) (
 Calls Tryz.prog 271 ⟨[.pointer s_0,.int .i64 5]⟩ w3 fun e8 w9 =>
 e8=.returned (.tuple ⟨[]⟩) ∧
 Q (.tuple ⟨[]⟩) w9) (
 nz s_0 fun a10 =>
 ldL w3 (Addr.add a10 1) fun x11 =>
 lt (⟨World.heapSize w3,0,none⟩:Addr) fun a12 =>
 lt (World.alloc w3 (.cells ⟨[.int .u8 b_1]⟩ 5)) fun w13 =>
 rdO w13 (some a12) (1 * 1) fun c14 =>
 apK Tryz.prog 5 w13 x11.a x11.len x11.cap 1 c14 fun s15 w16 =>
 nz s_0 fun a17 =>
 st w16 (Addr.add a17 1) (.slice s15.a s15.len s15.cap) fun w18 =>
 Q (.tuple ⟨[]⟩) w18))
theorem qge.ok (s_0:OAd) (b_1:Int) (Q:VWP) (w:World) (h:qge s_0 b_1 Q w):Calls Tryz.prog 313 ⟨[.pointer s_0,.int .u8 b_1]⟩ w (Ret Q):=by
 refine qp [] Tryz.func313 rfl rfl rfl rfl ?_
 exact qg qpb _ (Eq.mp (by kernel_rfl) h)
def qbc.b1 (s_0:OAd) (t41:Int) (t42:Int) (Q:VWP) (nx1:OAd→Int→Int→World→Prop) (w:World):Prop :=
 br (decide ((t42:Int) < t41)) (
 Calls Tryz.prog 267 ⟨[.pointer s_0,.int .i64 8]⟩ w fun e1 w2 =>
 ∃ r3:Int,e1=.returned (.int .i64 r3) ∧
 lt (IntKind.u8.wrap r3) fun x4 =>
 Calls Tryz.prog 313 ⟨[.pointer s_0,.int .u8 x4]⟩ w2 fun e5 w6 =>
 e5=.returned (.tuple ⟨[]⟩) ∧
 lt (IntKind.i64.wrap (t42+1)) fun x7 =>
 nx1 s_0 t41 x7 w6) (
 Q (.tuple ⟨[]⟩) w)
def qbc.l1 (s_0:OAd) (t41:Int) (t42:Int) (Q:VWP) (w:World):Prop :=
 ∃ (I:Int→World→Prop) (μ:Int→World→Nat),I t42 w∧∀ t42:Int,∀ w:World,I t42 w→qbc.b1 s_0 t41 t42 Q (fun s_0' t41' t42' w'=>(s_0'=s_0∧t41'=t41)∧I t42' w'∧μ t42' w' < μ t42 w) w
def qbc.j2 (s_0:OAd) (t41:Int) (t42:Int) (Q:VWP) (w:World):Prop :=
 qbc.l1 s_0 t41 t42 Q w
def qbc.j1 (s_0:OAd) (n_2:Int) (m_3:Int) (Q:VWP) (w:World):Prop :=
 nz s_0 fun a8 =>
 ldI .i64 w (Addr.add a8 3) fun x9 =>
 br ((x9:Int) != 0) (
 Q (.tuple ⟨[]⟩) w) (
 lt (xorV .i64 n_2 m_3) fun x10 =>
 br ((x10:Int) != 65535) (
 Calls Tryz.prog 271 ⟨[.pointer s_0,.int .i64 2]⟩ w fun e11 w12 =>
 e11=.returned (.tuple ⟨[]⟩) ∧
 Q (.tuple ⟨[]⟩) w12) (
 lt (World.drew w) fun w13 =>
 nz s_0 fun a14 =>
 ldI .i64 w13 (Addr.add a14 2) fun x15 =>
 nz s_0 fun a16 =>
 ldL w13 (Addr.add a16 1) fun x17 =>
 lt (IntKind.i64.wrap (x15 - ((x17.len:Nat):Int))) fun x18 =>
 br (decide ((n_2:Int) > x18)) (
 Calls Tryz.prog 271 ⟨[.pointer s_0,.int .i64 5]⟩ w13 fun e19 w20 =>
 e19=.returned (.tuple ⟨[]⟩) ∧
 Q (.tuple ⟨[]⟩) w20) (
 qbc.j2 s_0 n_2 0 Q w13)))
def qbc (s_0:OAd) (Q:VWP) (w:World):Prop :=
 nz s_0 fun a21 =>
 ldP w (Addr.add a21 0) fun x22 =>
 Calls Tryz.prog 312 ⟨[.pointer x22]⟩ w fun e23 w24 =>
 e23=.returned (.tuple ⟨[]⟩) ∧
 Calls Tryz.prog 267 ⟨[.pointer s_0,.int .i64 16]⟩ w24 fun e25 w26 =>
 ∃ r27:Int,e25=.returned (.int .i64 r27) ∧
 Calls Tryz.prog 267 ⟨[.pointer s_0,.int .i64 16]⟩ w26 fun e28 w29 =>
 ∃ r30:Int,e28=.returned (.int .i64 r30) ∧
 qbc.j1 s_0 r27 r30 Q w29
theorem qbc.ok (s_0:OAd) (Q:VWP) (w:World) (h:qbc s_0 Q w):Calls Tryz.prog 268 ⟨[.pointer s_0]⟩ w (Ret Q):=by
 refine qp [] Tryz.func268 rfl rfl rfl rfl ?_
 refine qfb qpb (fun ρ w=>asP (ρ 0) fun s_0=>asI .i64 (ρ 2) fun n_2=>asI .i64 (ρ 3) fun m_3=>qbc.j1 s_0 n_2 m_3 Q w) (Eq.mp (by kernel_rfl) h) ?_
 intro ρ w h
 obtain ⟨s_0,e0,h⟩:=qr h
 obtain ⟨n_2,e2,h⟩:=qd h
 obtain ⟨m_3,e3,h⟩:=qd h
 refine qb e0 (qb (qa e2 rfl) (qb (qa (qa e3 rfl) rfl) ?_))
 refine qfb qpb (fun ρ w=>asP (ρ 0) fun s_0=>asI .i64 (ρ 41) fun t41=>asI .i64 (ρ 42) fun t42=>qbc.j2 s_0 t41 t42 Q w) (Eq.mp (by kernel_rfl) h) ?_
 intro ρ w h
 obtain ⟨s_0,e0,h⟩:=qr h
 obtain ⟨t41,e41,h⟩:=qd h
 obtain ⟨t42,e42,h⟩:=qd h
 refine qb e0 (qb (qa e41 rfl) (qb (qa (qa e42 rfl) rfl) ?_))
 refine qcb ?_
 obtain ⟨I,μ,hI,hr⟩:=h
 refine qlb (α:=Int) (fun s ρ=>ρ 42=.int .i64 s∧ρ 0=.pointer s_0∧ρ 41=.int .i64 t41) (fun s w=>I s w) (fun s w=>μ s w) t42 ⟨rfl,rfl,rfl⟩ hI ?_
 rintro t42 ρ w ⟨e42,e0,e41⟩ hI
 have h:=hr t42 w hI
 clear hr
 obtain ⟨nx1,hnx⟩:∃ nx:OAd→Int→Int→World→Prop,nx=(fun s_0' t41' t42' w'=>(s_0'=s_0∧t41'=t41)∧I t42' w'∧μ t42' w' < μ t42 w):=⟨_,rfl⟩
 rw [← hnx] at h
 refine qsb (M:=fun ρ w=>asP (ρ 0) fun s_0=>asI .i64 (ρ 41) fun t41=>asI .i64 (ρ 42) fun t42=>nx1 s_0 t41 t42 w) ?_ (fun ρ w h=>?_)
 · skip
   refine qb e0 (qb (qa e41 rfl) (qb (qa (qa e42 rfl) rfl) ?_))
   exact qg qpb _ (Eq.mp (by kernel_rfl) h)
 · skip
   obtain ⟨s_0',e0',h⟩:=qr h
   obtain ⟨t41',e41',h⟩:=qd h
   obtain ⟨t42',e42',h⟩:=qd h
   rw [hnx] at h
   obtain ⟨hu,hI2,hμ⟩:=h
   obtain ⟨rfl,rfl⟩:=hu
   exact ⟨t42',⟨e42',e0',e41'⟩,hI2,hμ⟩
def qbd (s_0:OAd) (lens_1:Sl) (half_2:Bool) (Q:VWP) (w:World):Prop :=
 nz s_0 fun a1 =>
 ldI .i64 w (Addr.add a1 3) fun x2 =>
 br ((x2:Int) != 0) (
 Q (.pointer none) w) (
 Calls Tryz.prog 208 ⟨[.slice lens_1.a lens_1.len lens_1.cap,.bool half_2]⟩ w fun e3 w4 =>
 ∃ r5:OAd,∃ r6:Int,e3=.returned (.tuple ⟨[.pointer r5,.int .i64 r6]⟩) ∧
 br ((r6:Int) != 0) (
 Calls Tryz.prog 271 ⟨[.pointer s_0,.int .i64 2]⟩ w4 fun e7 w8 =>
 e7=.returned (.tuple ⟨[]⟩) ∧
 Q (.pointer r5) w8) (
 Q (.pointer r5) w4))
theorem qbd.ok (s_0:OAd) (lens_1:Sl) (half_2:Bool) (Q:VWP) (w:World) (h:qbd s_0 lens_1 half_2 Q w):Calls Tryz.prog 314 ⟨[.pointer s_0,.slice lens_1.a lens_1.len lens_1.cap,.bool half_2]⟩ w (Ret Q):=by
 refine qp [.tmp 6] Tryz.func314 rfl rfl rfl rfl ?_
 exact qg qpb _ (Eq.mp (by kernel_rfl) h)
def qfe (s_0 cap1:OAd) (Q:VWP) (w:World):Prop :=
 nz s_0 fun a1 =>
 ldI .i64 w (Addr.add a1 3) fun x2 =>
 br ((x2:Int) != 0) (
 Q (.int .i64 0) w) (
 nz s_0 fun a3 =>
 ldP w (Addr.add a3 0) fun x4 =>
 Calls Tryz.prog 316 ⟨[.pointer cap1,.pointer x4]⟩ w fun e5 w6 =>
 ∃ r7:Int,∃ r8:Int,e5=.returned (.tuple ⟨[.int .i64 r7,.int .i64 r8]⟩) ∧
 Calls Tryz.prog 271 ⟨[.pointer s_0,.int .i64 r8]⟩ w6 fun e9 w10 =>
 e9=.returned (.tuple ⟨[]⟩) ∧
 Q (.int .i64 r7) w10)
theorem qfe.ok (s_0:OAd) (cap1:OAd) (Q:VWP) (w:World) (h:qfe s_0 cap1 Q w):Calls Tryz.prog 315 ⟨[.pointer s_0,.func (.func 316) ⟨[.pointer cap1]⟩ ⟨[]⟩]⟩ w (Ret Q):=by
 refine qp [.tmp 4] Tryz.func315 rfl rfl rfl rfl ?_
 exact qg qpb _ (Eq.mp (by kernel_rfl) h)
def qy.b1 (d_0:OAd) (t6:Int) (t9 t11:Int) (Q:VWP) (nx1:OAd→Int→Int→Int→World→Prop) (w:World):Prop :=
 br (decide ((t11:Int) < t6)) (
 nz d_0 fun a1 =>
 ldI .i64 w (Addr.add a1 3) fun x2 =>
 br ((x2:Int) == 0) (
 lt (World.drew w) fun w3 =>
 nz d_0 fun a4 =>
 ldL w3 (Addr.add a4 1) fun x5 =>
 nz d_0 fun a6 =>
 ldL w3 (Addr.add a6 1) fun x7 =>
 lt (IntKind.i64.wrap (((x7.len:Nat):Int) - t9)) fun x8 =>
 ixS x5.a x5.len x8 1 fun a9 =>
 ldI .u8 w3 a9 fun x10 =>
 Calls Tryz.prog 313 ⟨[.pointer d_0,.int .u8 x10]⟩ w3 fun e11 w12 =>
 e11=.returned (.tuple ⟨[]⟩) ∧
 lt (IntKind.i64.wrap (t11+1)) fun x13 =>
 nx1 d_0 t6 t9 x13 w12) (
 Q (.tuple ⟨[]⟩) w)) (
 Q (.tuple ⟨[]⟩) w)
def qy.l1 (d_0:OAd) (t6:Int) (t9 t11:Int) (Q:VWP) (w:World):Prop :=
 ∃ (I:Int→World→Prop) (μ:Int→World→Nat),I t11 w∧∀ t11:Int,∀ w:World,I t11 w→qy.b1 d_0 t6 t9 t11 Q (fun d_0' t6' t9' t11' w'=>(d_0'=d_0∧t6'=t6∧t9'=t9)∧I t11' w'∧μ t11' w' < μ t11 w) w
def qy.j5 (d_0:OAd) (t6:Int) (t9 t11:Int) (Q:VWP) (w:World):Prop :=
 qy.l1 d_0 t6 t9 t11 Q w
def qy.j4 (d_0:OAd) (t6:Int) (t9:Int) (Q:VWP) (w:World):Prop :=
 qy.j5 d_0 t6 t9 0 Q w
def qy.j3 (d_0:OAd) (t6:Int) (t9 t10:Int) (Q:VWP) (w:World):Prop :=
 Calls Tryz.prog 267 ⟨[.pointer d_0,.int .i64 t10]⟩ w fun e14 w15 =>
 ∃ r16:Int,e14=.returned (.int .i64 r16) ∧
 lt (IntKind.i64.wrap (t9+r16)) fun x17 =>
 nz d_0 fun a18 =>
 ldL w15 (Addr.add a18 1) fun x19 =>
 br (decide ((x17:Int) > ((x19.len:Nat):Int))) (
 Calls Tryz.prog 271 ⟨[.pointer d_0,.int .i64 2]⟩ w15 fun e20 w21 =>
 e20=.returned (.tuple ⟨[]⟩) ∧
 qy.j4 d_0 t6 x17 Q w21) (
 qy.j4 d_0 t6 x17 Q w15)
def qy.j2 (d_0 t2:OAd) (t6:Int) (Q:VWP) (w:World):Prop :=
 Calls Tryz.prog 315 ⟨[.pointer d_0,.func (.func 316) ⟨[.pointer t2]⟩ ⟨[]⟩]⟩ w fun e22 w23 =>
 ∃ r24:Int,e22=.returned (.int .i64 r24) ∧
 Calls Tryz.prog 274 ⟨[.int .i64 r24]⟩ w23 fun e25 w26 =>
 ∃ r27:Int,∃ r28:Int,∃ r29:Bool,e25=.returned (.tuple ⟨[.int .i64 r27,.int .i64 r28,.bool r29]⟩) ∧
 br (!r29) (
 Calls Tryz.prog 271 ⟨[.pointer d_0,.int .i64 2]⟩ w26 fun e30 w31 =>
 e30=.returned (.tuple ⟨[]⟩) ∧
 qy.j3 d_0 t6 r27 r28 Q w31) (
 qy.j3 d_0 t6 r27 r28 Q w26)
def qy.j1 (d_0 t2:OAd) (t6:Int) (t7:Int) (Q:VWP) (w:World):Prop :=
 Calls Tryz.prog 267 ⟨[.pointer d_0,.int .i64 t7]⟩ w fun e32 w33 =>
 ∃ r34:Int,e32=.returned (.int .i64 r34) ∧
 lt (IntKind.i64.wrap (t6+r34)) fun x35 =>
 qy.j2 d_0 t2 x35 Q w33
def qy (d_0:OAd) (i_1:Int) (cap2:OAd) (Q:VWP) (w:World):Prop :=
 Calls Tryz.prog 273 ⟨[.int .i64 i_1]⟩ w fun e36 w37 =>
 ∃ r38:Int,∃ r39:Int,∃ r40:Bool,e36=.returned (.tuple ⟨[.int .i64 r38,.int .i64 r39,.bool r40]⟩) ∧
 br (!r40) (
 Calls Tryz.prog 271 ⟨[.pointer d_0,.int .i64 2]⟩ w37 fun e41 w42 =>
 e41=.returned (.tuple ⟨[]⟩) ∧
 qy.j1 d_0 cap2 r38 r39 Q w42) (
 qy.j1 d_0 cap2 r38 r39 Q w37)
theorem qy.ok (d_0:OAd) (i_1:Int) (cap2:OAd) (Q:VWP) (w:World) (h:qy d_0 i_1 cap2 Q w):Calls Tryz.prog 317 ⟨[.pointer d_0,.int .i64 i_1,.func (.func 316) ⟨[.pointer cap2]⟩ ⟨[]⟩]⟩ w (Ret Q):=by
 refine qp [] Tryz.func317 rfl rfl rfl rfl ?_
 refine qfb qpb (fun ρ w=>asP (ρ 0) fun d_0=>asC1 316 (ρ 2) fun t2=>asI .i64 (ρ 6) fun t6=>asI .i64 (ρ 7) fun t7=>qy.j1 d_0 t2 t6 t7 Q w) (Eq.mp (by kernel_rfl) h) ?_
 intro ρ w h
 obtain ⟨d_0,e0,h⟩:=qr h
 obtain ⟨t2,e2,h⟩:=qtq h
 obtain ⟨t6,e6,h⟩:=qd h
 obtain ⟨t7,e7,h⟩:=qd h
 refine qb e0 (qb (qa e2 rfl) (qb (qa (qa e6 rfl) rfl) (qb (qa (qa (qa e7 rfl) rfl) rfl) ?_)))
 refine qu (fun ρ w=>asP (ρ 0) fun d_0=>asC1 316 (ρ 2) fun t2=>asI .i64 (ρ 6) fun t6=>qy.j2 d_0 t2 t6 Q w) ?_ ?_
 · skip
   exact qg qpb _ (Eq.mp (by kernel_rfl) h)
 · intro ρ w h
   obtain ⟨d_0,e0,h⟩:=qr h
   obtain ⟨t2,e2,h⟩:=qtq h
   obtain ⟨t6,e6,h⟩:=qd h
   refine qb e0 (qb (qa e2 rfl) (qb (qa (qa e6 rfl) rfl) ?_))
   refine qfb qpb (fun ρ w=>asP (ρ 0) fun d_0=>asI .i64 (ρ 6) fun t6=>asI .i64 (ρ 9) fun t9=>asI .i64 (ρ 10) fun t10=>qy.j3 d_0 t6 t9 t10 Q w) (Eq.mp (by kernel_rfl) h) ?_
   intro ρ w h
   obtain ⟨d_0,e0,h⟩:=qr h
   obtain ⟨t6,e6,h⟩:=qd h
   obtain ⟨t9,e9,h⟩:=qd h
   obtain ⟨t10,e10,h⟩:=qd h
   refine qb e0 (qb (qa e6 rfl) (qb (qa (qa e9 rfl) rfl) (qb (qa (qa (qa e10 rfl) rfl) rfl) ?_)))
   refine qfb qpb (fun ρ w=>asP (ρ 0) fun d_0=>asI .i64 (ρ 6) fun t6=>asI .i64 (ρ 9) fun t9=>qy.j4 d_0 t6 t9 Q w) (Eq.mp (by kernel_rfl) h) ?_
   intro ρ w h
   obtain ⟨d_0,e0,h⟩:=qr h
   obtain ⟨t6,e6,h⟩:=qd h
   obtain ⟨t9,e9,h⟩:=qd h
   refine qb e0 (qb (qa e6 rfl) (qb (qa (qa e9 rfl) rfl) ?_))
   refine qu (fun ρ w=>asP (ρ 0) fun d_0=>asI .i64 (ρ 6) fun t6=>asI .i64 (ρ 9) fun t9=>asI .i64 (ρ 11) fun t11=>qy.j5 d_0 t6 t9 t11 Q w) ?_ ?_
   · skip
     exact qg qpb _ (Eq.mp (by kernel_rfl) h)
   · intro ρ w h
     obtain ⟨d_0,e0,h⟩:=qr h
     obtain ⟨t6,e6,h⟩:=qd h
     obtain ⟨t9,e9,h⟩:=qd h
     obtain ⟨t11,e11,h⟩:=qd h
     refine qb e0 (qb (qa e6 rfl) (qb (qa (qa e9 rfl) rfl) (qb (qa (qa (qa e11 rfl) rfl) rfl) ?_)))
     refine qcb ?_
     obtain ⟨I,μ,hI,hr⟩:=h
     refine qlb (α:=Int) (fun s ρ=>ρ 11=.int .i64 s∧ρ 0=.pointer d_0∧ρ 6=.int .i64 t6∧ρ 9=.int .i64 t9) (fun s w=>I s w) (fun s w=>μ s w) t11 ⟨rfl,rfl,rfl,rfl⟩ hI ?_
     rintro t11 ρ w ⟨e11,e0,e6,e9⟩ hI
     have h:=hr t11 w hI
     clear hr
     obtain ⟨nx1,hnx⟩:∃ nx:OAd→Int→Int→Int→World→Prop,nx=(fun d_0' t6' t9' t11' w'=>(d_0'=d_0∧t6'=t6∧t9'=t9)∧I t11' w'∧μ t11' w' < μ t11 w):=⟨_,rfl⟩
     rw [← hnx] at h
     refine qsb (M:=fun ρ w=>asP (ρ 0) fun d_0=>asI .i64 (ρ 6) fun t6=>asI .i64 (ρ 9) fun t9=>asI .i64 (ρ 11) fun t11=>nx1 d_0 t6 t9 t11 w) ?_ (fun ρ w h=>?_)
     · skip
       refine qb e0 (qb (qa e6 rfl) (qb (qa (qa e9 rfl) rfl) (qb (qa (qa (qa e11 rfl) rfl) rfl) ?_)))
       exact qg qpb _ (Eq.mp (by kernel_rfl) h)
     · skip
       obtain ⟨d_0',e0',h⟩:=qr h
       obtain ⟨t6',e6',h⟩:=qd h
       obtain ⟨t9',e9',h⟩:=qd h
       obtain ⟨t11',e11',h⟩:=qd h
       rw [hnx] at h
       obtain ⟨hu,hI2,hμ⟩:=h
       obtain ⟨rfl,rfl,rfl⟩:=hu
       exact ⟨t11',⟨e11',e0',e6',e9'⟩,hI2,hμ⟩
def qv.j5 (s_0 a_6 b_7:OAd) (v_8:Int) (t47:Bool) (Q:VWP) (nx1:OAd→OAd→OAd→World→Prop) (w:World):Prop :=
 br t47 (
 Q (.tuple ⟨[]⟩) w) (
 br (decide ((v_8:Int) < 256)) (
 lt (IntKind.u8.wrap v_8) fun x1 =>
 Calls Tryz.prog 313 ⟨[.pointer s_0,.int .u8 x1]⟩ w fun e2 w3 =>
 e2=.returned (.tuple ⟨[]⟩) ∧
 nx1 s_0 a_6 b_7 w3) (
 Calls Tryz.prog 317 ⟨[.pointer s_0,.int .i64 v_8,.func (.func 316) ⟨[.pointer b_7]⟩ ⟨[]⟩]⟩ w fun e4 w5 =>
 e4=.returned (.tuple ⟨[]⟩) ∧
 nx1 s_0 a_6 b_7 w5))
def qv.j4 (s_0 a_6 b_7:OAd) (v_8:Int) (Q:VWP) (nx1:OAd→OAd→OAd→World→Prop) (w:World):Prop :=
 nz s_0 fun a6 =>
 ldI .i64 w (Addr.add a6 3) fun x7 =>
 br ((x7:Int) != 0) (
 qv.j5 s_0 a_6 b_7 v_8 true Q nx1 w) (
 qv.j5 s_0 a_6 b_7 v_8 ((v_8:Int) == 256) Q nx1 w)
def qv.j3 (s_0 a_6 b_7:OAd) (Q:VWP) (nx1:OAd→OAd→OAd→World→Prop) (w:World):Prop :=
 Calls Tryz.prog 315 ⟨[.pointer s_0,.func (.func 316) ⟨[.pointer a_6]⟩ ⟨[]⟩]⟩ w fun e8 w9 =>
 ∃ r10:Int,e8=.returned (.int .i64 r10) ∧
 qv.j4 s_0 a_6 b_7 r10 Q nx1 w9
def qv.b1 (s_0 a_6 b_7:OAd) (Q:VWP) (nx1:OAd→OAd→OAd→World→Prop) (w:World):Prop :=
 nz s_0 fun a11 =>
 ldI .i64 w (Addr.add a11 3) fun x12 =>
 br ((x12:Int) == 0) (
 qv.j3 s_0 a_6 b_7 Q nx1 w) (
 Q (.tuple ⟨[]⟩) w)
def qv.l1 (s_0 a_6 b_7:OAd) (Q:VWP) (w:World):Prop :=
 ∃ (I:World→Prop) (μ:World→Nat),I  w∧∀ w:World,I  w→qv.b1 s_0 a_6 b_7 Q (fun s_0' a_6' b_7' w'=>(s_0'=s_0∧a_6'=a_6∧b_7'=b_7)∧I  w'∧μ  w' < μ  w) w
def qv.j2 (s_0 a_6 b_7:OAd) (Q:VWP) (w:World):Prop :=
 qv.l1 s_0 a_6 b_7 Q w
def qv.j1 (s_0:OAd) (lit_1:Sl) (dist_2:Sl) (Q:VWP) (w:World):Prop :=
 Calls Tryz.prog 314 ⟨[.pointer s_0,.slice lit_1.a lit_1.len lit_1.cap,.bool true]⟩ w fun e13 w14 =>
 ∃ r15:OAd,e13=.returned (.pointer r15) ∧
 Calls Tryz.prog 314 ⟨[.pointer s_0,.slice dist_2.a dist_2.len dist_2.cap,.bool true]⟩ w14 fun e16 w17 =>
 ∃ r18:OAd,e16=.returned (.pointer r18) ∧
 nz s_0 fun a19 =>
 ldI .i64 w17 (Addr.add a19 3) fun x20 =>
 br ((x20:Int) != 0) (
 Q (.tuple ⟨[]⟩) w17) (
 qv.j2 s_0 r15 r18 Q w17)
def qv (s_0:OAd) (lit_1:Sl) (dist_2:Sl) (Q:VWP) (w:World):Prop :=
 nz s_0 fun a21 =>
 ldI .i64 w (Addr.add a21 3) fun x22 =>
 br ((x22:Int) == 0) (
 ixS lit_1.a lit_1.len 256 1 fun a23 =>
 ldI .i64 w a23 fun x24 =>
 br ((x24:Int) == 0) (
 Calls Tryz.prog 271 ⟨[.pointer s_0,.int .i64 2]⟩ w fun e25 w26 =>
 e25=.returned (.tuple ⟨[]⟩) ∧
 qv.j1 s_0 lit_1 dist_2 Q w26) (
 qv.j1 s_0 lit_1 dist_2 Q w)) (
 qv.j1 s_0 lit_1 dist_2 Q w)
theorem qv.ok (s_0:OAd) (lit_1:Sl) (dist_2:Sl) (Q:VWP) (w:World) (h:qv s_0 lit_1 dist_2 Q w):Calls Tryz.prog 269 ⟨[.pointer s_0,.slice lit_1.a lit_1.len lit_1.cap,.slice dist_2.a dist_2.len dist_2.cap]⟩ w (Ret Q):=by
 refine qp [] Tryz.func269 rfl rfl rfl rfl ?_
 refine qu (fun ρ w=>asP (ρ 0) fun s_0=>asL (ρ 1) fun lit_1=>asL (ρ 2) fun dist_2=>qv.j1 s_0 lit_1 dist_2 Q w) ?_ ?_
 · skip
   exact qg qpb _ (Eq.mp (by kernel_rfl) h)
 · intro ρ w h
   obtain ⟨s_0,e0,h⟩:=qr h
   obtain ⟨lit_1,e1,h⟩:=ql h
   obtain ⟨dist_2,e2,h⟩:=ql h
   refine qb e0 (qb (qa e1 rfl) (qb (qa (qa e2 rfl) rfl) ?_))
   refine qfb qpb (fun ρ w=>asP (ρ 0) fun s_0=>asP (ρ 6) fun a_6=>asP (ρ 7) fun b_7=>qv.j2 s_0 a_6 b_7 Q w) (Eq.mp (by kernel_rfl) h) ?_
   intro ρ w h
   obtain ⟨s_0,e0,h⟩:=qr h
   obtain ⟨a_6,e6,h⟩:=qr h
   obtain ⟨b_7,e7,h⟩:=qr h
   refine qb e0 (qb (qa e6 rfl) (qb (qa (qa e7 rfl) rfl) ?_))
   refine qcb ?_
   obtain ⟨I,μ,hI,hr⟩:=h
   refine qlb (α:=Unit) (fun s ρ=>ρ 0=.pointer s_0∧ρ 6=.pointer a_6∧ρ 7=.pointer b_7) (fun s w=>I  w) (fun s w=>μ  w) () ⟨rfl,rfl,rfl⟩ hI ?_
   rintro ⟨⟩ ρ w ⟨e0,e6,e7⟩ hI
   have h:=hr  w hI
   clear hr
   obtain ⟨nx1,hnx⟩:∃ nx:OAd→OAd→OAd→World→Prop,nx=(fun s_0' a_6' b_7' w'=>(s_0'=s_0∧a_6'=a_6∧b_7'=b_7)∧I  w'∧μ  w' < μ  w):=⟨_,rfl⟩
   rw [← hnx] at h
   refine qsb (M:=fun ρ w=>asP (ρ 0) fun s_0=>asP (ρ 6) fun a_6=>asP (ρ 7) fun b_7=>nx1 s_0 a_6 b_7 w) ?_ (fun ρ w h=>?_)
   · skip
     refine qb e0 (qb (qa e6 rfl) (qb (qa (qa e7 rfl) rfl) ?_))
     refine qu (fun ρ w=>asP (ρ 0) fun s_0=>asP (ρ 6) fun a_6=>asP (ρ 7) fun b_7=>qv.j3 s_0 a_6 b_7 Q nx1 w) ?_ ?_
     · skip
       exact qg qpb _ (Eq.mp (by kernel_rfl) h)
     · intro ρ w h
       obtain ⟨s_0,e0,h⟩:=qr h
       obtain ⟨a_6,e6,h⟩:=qr h
       obtain ⟨b_7,e7,h⟩:=qr h
       refine qb e0 (qb (qa e6 rfl) (qb (qa (qa e7 rfl) rfl) ?_))
       refine qcb ?_
       refine qu (fun ρ w=>asP (ρ 0) fun s_0=>asP (ρ 6) fun a_6=>asP (ρ 7) fun b_7=>asI .i64 (ρ 8) fun v_8=>qv.j4 s_0 a_6 b_7 v_8 Q nx1 w) ?_ ?_
       · skip
         exact qg qpb _ (Eq.mp (by kernel_rfl) h)
       · intro ρ w h
         obtain ⟨s_0,e0,h⟩:=qr h
         obtain ⟨a_6,e6,h⟩:=qr h
         obtain ⟨b_7,e7,h⟩:=qr h
         obtain ⟨v_8,e8,h⟩:=qd h
         refine qb e0 (qb (qa e6 rfl) (qb (qa (qa e7 rfl) rfl) (qb (qa (qa (qa e8 rfl) rfl) rfl) ?_)))
         refine qcb ?_
         refine qu (fun ρ w=>asP (ρ 0) fun s_0=>asP (ρ 6) fun a_6=>asP (ρ 7) fun b_7=>asI .i64 (ρ 8) fun v_8=>asB (ρ 47) fun t47=>qv.j5 s_0 a_6 b_7 v_8 t47 Q nx1 w) ?_ ?_
         · skip
           exact qg qpb _ (Eq.mp (by kernel_rfl) h)
         · intro ρ w h
           obtain ⟨s_0,e0,h⟩:=qr h
           obtain ⟨a_6,e6,h⟩:=qr h
           obtain ⟨b_7,e7,h⟩:=qr h
           obtain ⟨v_8,e8,h⟩:=qd h
           obtain ⟨t47,e47,h⟩:=qcd h
           refine qb e0 (qb (qa e6 rfl) (qb (qa (qa e7 rfl) rfl) (qb (qa (qa (qa e8 rfl) rfl) rfl) (qb (qa (qa (qa (qa e47 rfl) rfl) rfl) rfl) ?_))))
           exact qg qpb _ (Eq.mp (by kernel_rfl) h)
   · skip
     obtain ⟨s_0',e0',h⟩:=qr h
     obtain ⟨a_6',e6',h⟩:=qr h
     obtain ⟨b_7',e7',h⟩:=qr h
     rw [hnx] at h
     obtain ⟨hu,hI2,hμ⟩:=h
     obtain ⟨rfl,rfl,rfl⟩:=hu
     exact ⟨(),⟨e0',e6',e7'⟩,hI2,hμ⟩
def qse (s_0:OAd) (Q:VWP) (w:World):Prop :=
 Calls Tryz.prog 267 ⟨[.pointer s_0,.int .i64 1]⟩ w fun e1 w2 =>
 ∃ r3:Int,e1=.returned (.int .i64 r3) ∧
 Calls Tryz.prog 267 ⟨[.pointer s_0,.int .i64 2]⟩ w2 fun e4 w5 =>
 ∃ r6:Int,e4=.returned (.int .i64 r6) ∧
 nz s_0 fun a7 =>
 ldI .i64 w5 (Addr.add a7 3) fun x8 =>
 br ((x8:Int) != 0) (
 Q (.bool false) w5) (
 br ((r6:Int) == 0) (
 Calls Tryz.prog 268 ⟨[.pointer s_0]⟩ w5 fun e9 w10 =>
 e9=.returned (.tuple ⟨[]⟩) ∧
 Q (.bool ((r3:Int) == 1)) w10) (
 br ((r6:Int) == 1) (
 Calls Tryz.prog 207 ⟨[]⟩ w5 fun e11 w12 =>
 ∃ r13:Sl,∃ r14:Sl,e11=.returned (.tuple ⟨[.slice r13.a r13.len r13.cap,.slice r14.a r14.len r14.cap]⟩) ∧
 Calls Tryz.prog 269 ⟨[.pointer s_0,.slice r13.a r13.len r13.cap,.slice r14.a r14.len r14.cap]⟩ w12 fun e15 w16 =>
 e15=.returned (.tuple ⟨[]⟩) ∧
 Q (.bool ((r3:Int) == 1)) w16) (
 br ((r6:Int) == 2) (
 Calls Tryz.prog 270 ⟨[.pointer s_0]⟩ w5 fun e17 w18 =>
 ∃ r19:Sl,∃ r20:Sl,e17=.returned (.tuple ⟨[.slice r19.a r19.len r19.cap,.slice r20.a r20.len r20.cap]⟩) ∧
 Calls Tryz.prog 269 ⟨[.pointer s_0,.slice r19.a r19.len r19.cap,.slice r20.a r20.len r20.cap]⟩ w18 fun e21 w22 =>
 e21=.returned (.tuple ⟨[]⟩) ∧
 Q (.bool ((r3:Int) == 1)) w22) (
 Calls Tryz.prog 271 ⟨[.pointer s_0,.int .i64 2]⟩ w5 fun e23 w24 =>
 e23=.returned (.tuple ⟨[]⟩) ∧
 Q (.bool ((r3:Int) == 1)) w24))))
theorem qse.ok (s_0:OAd) (Q:VWP) (w:World) (h:qse s_0 Q w):Calls Tryz.prog 193 ⟨[.pointer s_0]⟩ w (Ret Q):=by
 refine qp [.tmp 2] Tryz.func193 rfl rfl rfl rfl ?_
 exact qg qpb _ (Eq.mp (by kernel_rfl) h)
def qzb.j3 (s_7:OAd) (Q:VWP) (w:World):Prop :=
 lt (World.drew w) fun w1 =>
 nz s_7 fun a2 =>
 ldL w1 (Addr.add a2 1) fun x3 =>
 nz s_7 fun a4 =>
 (Calls Tryz.prog 79 ⟨[.slice x3.a x3.len x3.cap]⟩ w1 fun e5 w6 =>
 ∃ r7:Sl,e5=.returned (.slice r7.a r7.len r7.cap) ∧
 ldP w6 (Addr.add a4 0) fun x8 =>
 Calls Tryz.prog 194 ⟨[.pointer x8]⟩ w6 fun e9 w10 =>
 ∃ r11:Int,e9=.returned (.int .i64 r11) ∧
 Q (.tuple ⟨[.slice r7.a r7.len r7.cap,.int .i64 r11,.int .i64 0]⟩) w10)∧(
 ldP w1 (Addr.add a4 0) fun x12 =>
 Calls Tryz.prog 79 ⟨[.slice x3.a x3.len x3.cap]⟩ w1 fun e13 w14 =>
 ∃ r15:Sl,e13=.returned (.slice r15.a r15.len r15.cap) ∧
 Calls Tryz.prog 194 ⟨[.pointer x12]⟩ w14 fun e16 w17 =>
 ∃ r18:Int,e16=.returned (.int .i64 r18) ∧
 Q (.tuple ⟨[.slice r15.a r15.len r15.cap,.int .i64 r18,.int .i64 0]⟩) w17)
def qzb.b1 (s_7:OAd) (last_8:Bool) (Q:VWP) (nx1:OAd→Bool→World→Prop) (w:World):Prop :=
 br (!last_8) (
 Calls Tryz.prog 193 ⟨[.pointer s_7]⟩ w fun e19 w20 =>
 ∃ r21:Bool,e19=.returned (.bool r21) ∧
 nz s_7 fun a22 =>
 ldI .i64 w20 (Addr.add a22 3) fun x23 =>
 br ((x23:Int) != 0) (
 lt (World.drew w20) fun w24 =>
 nz s_7 fun a25 =>
 ldI .i64 w24 (Addr.add a25 3) fun x26 =>
 Q (.tuple ⟨[.slice none 0 0,.int .i64 0,.int .i64 x26]⟩) w24) (
 nx1 s_7 r21 w20)) (
 qzb.j3 s_7 Q w)
def qzb.l1 (s_7:OAd) (last_8:Bool) (Q:VWP) (w:World):Prop :=
 ∃ (I:Bool→World→Prop) (μ:Bool→World→Nat),I last_8 w∧∀ last_8:Bool,∀ w:World,I last_8 w→qzb.b1 s_7 last_8 Q (fun s_7' last_8' w'=>(s_7'=s_7)∧I last_8' w'∧μ last_8' w' < μ last_8 w) w
def qzb.j4 (s_7:OAd) (last_8:Bool) (Q:VWP) (w:World):Prop :=
 qzb.l1 s_7 last_8 Q w
def qzb.j2 (s_7:OAd) (Q:VWP) (w:World):Prop :=
 qzb.j4 s_7 false Q w
def qzb.j1 (b_0:Sl) (most_1:Int) (Q:VWP) (w:World):Prop :=
 br (decide ((most_1:Int) < 0)) (
 Q (.tuple ⟨[.slice none 0 0,.int .i64 0,.int .i64 1]⟩) w) (
 br (decide ((most_1:Int) > 262144)) (
 Q (.tuple ⟨[.slice none 0 0,.int .i64 0,.int .i64 1]⟩) w) (
 Calls Tryz.prog 192 ⟨[.slice b_0.a b_0.len b_0.cap]⟩ w fun e27 w28 =>
 ∃ r29:OAd,e27=.returned (.pointer r29) ∧
 lt (⟨World.heapSize w28,0,none⟩:Addr) fun a30 =>
 lt (World.alloc w28 (.cells (⟨[.pointer r29,.slice none 0 0,.int .i64 most_1,.int .i64 0]⟩:Array Value) 298)) fun w31 =>
 qzb.j2 (some a30) Q w31))
def qzb (b_0:Sl) (most_1:Int) (Q:VWP) (w:World):Prop :=
 qzb.j1 b_0 most_1 Q w
theorem qzb.ok (b_0:Sl) (most_1:Int) (Q:VWP) (w:World) (h:qzb b_0 most_1 Q w):Calls Tryz.prog 123 ⟨[.slice b_0.a b_0.len b_0.cap,.int .i64 most_1]⟩ w (Ret Q):=by
 refine qp [.tmp 4,.tmp 5,.tmp 6] Tryz.func123 rfl rfl rfl rfl ?_
 refine qu (fun ρ w=>asL (ρ 0) fun b_0=>asI .i64 (ρ 1) fun most_1=>qzb.j1 b_0 most_1 Q w) ?_ ?_
 · skip
   exact qg qpb _ (Eq.mp (by kernel_rfl) h)
 · intro ρ w h
   obtain ⟨b_0,e0,h⟩:=ql h
   obtain ⟨most_1,e1,h⟩:=qd h
   refine qb e0 (qb (qa e1 rfl) ?_)
   refine qfb qpb (fun ρ w=>asP (ρ 7) fun s_7=>qzb.j2 s_7 Q w) (Eq.mp (by kernel_rfl) h) ?_
   intro ρ w h
   obtain ⟨s_7,e7,h⟩:=qr h
   refine qb e7 ?_
   refine qu (fun ρ w=>asP (ρ 7) fun s_7=>qzb.j3 s_7 Q w) ?_ ?_
   · skip
     refine qu (fun ρ w=>asP (ρ 7) fun s_7=>asB (ρ 8) fun last_8=>qzb.j4 s_7 last_8 Q w) ?_ ?_
     · skip
       exact qg qpb _ (Eq.mp (by kernel_rfl) h)
     · intro ρ w h
       obtain ⟨s_7,e7,h⟩:=qr h
       obtain ⟨last_8,e8,h⟩:=qcd h
       refine qb e7 (qb (qa e8 rfl) ?_)
       refine qcb ?_
       obtain ⟨I,μ,hI,hr⟩:=h
       refine qlb (α:=Bool) (fun s ρ=>ρ 8=.bool s∧ρ 7=.pointer s_7) (fun s w=>I s w) (fun s w=>μ s w) last_8 ⟨rfl,rfl⟩ hI ?_
       rintro last_8 ρ w ⟨e8,e7⟩ hI
       have h:=hr last_8 w hI
       clear hr
       obtain ⟨nx1,hnx⟩:∃ nx:OAd→Bool→World→Prop,nx=(fun s_7' last_8' w'=>(s_7'=s_7)∧I last_8' w'∧μ last_8' w' < μ last_8 w):=⟨_,rfl⟩
       rw [← hnx] at h
       refine qsb (M:=fun ρ w=>asP (ρ 7) fun s_7=>asB (ρ 8) fun last_8=>nx1 s_7 last_8 w) ?_ (fun ρ w h=>?_)
       · skip
         refine qb e7 (qb (qa e8 rfl) ?_)
         exact qg qpb _ (Eq.mp (by kernel_rfl) h)
       · skip
         obtain ⟨s_7',e7',h⟩:=qr h
         obtain ⟨last_8',e8',h⟩:=qcd h
         rw [hnx] at h
         obtain ⟨hu,hI2,hμ⟩:=h
         obtain rfl:=hu
         exact ⟨last_8',⟨e8',e7'⟩,hI2,hμ⟩
   · intro ρ w h
     obtain ⟨s_7,e7,h⟩:=qr h
     refine qb e7 ?_
     exact qg qpb _ (Eq.mp (by kernel_rfl) h)
end Go.Proofs.YthdmmmfgjmmelaaGreat
namespace Go.Proofs.YthdmmmfgjmmelaaGreat
open Go Go.Proofs
set_option linter.unusedVariables false
set_option linter.unusedSimpArgs false
attribute [local irreducible] apK cpK mkK br
def ztA (sb rb V N:Nat) (most:Int) (z:Z):As:=exA fun o:Sl=>andA (qjd sb [.pointer (some ⟨rb,0,none⟩),.slice o.a o.len o.cap,.int .i64 most,.int .i64 z.2.2]) (andA (bitA rb (V,N,z.1)) (qmc 1 o (u8s z.2.1)))
section
variable {F0:List Nat} {w0 w:World} {ps rest:List As} {sb rb V N:Nat} {most:Int} {z:Z}
theorem qzq (h:St F0 w0 w (ztA sb rb V N most z :: ps)):∃ o:Sl,St F0 w0 w (qjd sb [.pointer (some ⟨rb,0,none⟩),.slice o.a o.len o.cap,.int .i64 most,.int .i64 z.2.2] :: bitA rb (V,N,z.1) :: qmc 1 o (u8s z.2.1) :: ps):=by
 unfold ztA at h
 obtain ⟨o,h⟩:=h.exE
 exact ⟨o,h.split.tail fun _ _ _ h=>h.split⟩
theorem zt_c {o:Sl} {p:Nat} {out:List Int} {err:Int} (h:St F0 w0 w (qjd sb [.pointer (some ⟨rb,0,none⟩),.slice o.a o.len o.cap,.int .i64 most,.int .i64 err] :: bitA rb (V,N,p) :: qmc 1 o (u8s out) :: ps)):St F0 w0 w (ztA sb rb V N most (p,out,err) :: ps):=by
 unfold ztA
 exact St.exI o (St.join (h.tail fun _ _ _ h=>h.join))
theorem qpc.c {v:Int} {K:Ending→World→Prop} (h:St F0 w0 w ps) (hk:K (.returned (.tuple ⟨[.int .i64 (qri v).1,.int .i64 (qri v).2.1,.bool (qri v).2.2]⟩)) w) :
 Calls Tryz.prog 273 ⟨[.int .i64 v]⟩ w K:=by
 refine qnc (qpc.ok _ _ _ ?_)
 unfold qpc qpc.j1 qri at *
 refine qwh ?_
 refine qxc (fun g=>?_) (fun g=>?_)
 · rw [if_pos (Or.inl g)] at hk
   unfold qpc.j3
   exact qum hk
 unfold qpc.j3
 refine qxc (fun g2=>?_) (fun g2=>?_)
 · rw [if_pos (Or.inr g2)] at hk
   exact hk
 rw [if_neg (by omega)] at hk
 rw [qi (by omega) (by omega)]
 refine qqe (fun g3=>?_) (fun g3=>?_)
 · rw [if_pos (by simpa using g3)] at hk
   exact hk
 rw [if_neg (by simpa using g3)] at hk
 refine qxc (fun g4=>?_) (fun g4=>?_)
 · rw [if_pos g4] at hk
   exact qw (qi (by omega) (by omega)) hk
 rw [if_neg g4] at hk
 unfold qpc.j2
 obtain ⟨k,rfl⟩:∃ k:Nat,v=257+k:=⟨(v - 257).toNat,by omega⟩
 have e0:(257+(k:Int)) - 257=k:=by omega
 rw [e0] at g4 hk ⊢
 have hk27:k≤28:=by omega
 refine ⟨by decide,?_⟩
 refine qw (show IntKind.i64.wrap (Int.tdiv (k:Int) 4)=((k / 4:Nat):Int) by rw [show Int.tdiv (k:Int) 4=((k / 4:Nat):Int) from rfl,qi (by omega) (by omega)]) ?_
 refine qw (show IntKind.i64.wrap (((k / 4:Nat):Int) - 1)=((k / 4 - 1:Nat):Int) by rw [qi (by omega) (by omega)]; omega) ?_
 refine ⟨by decide,?_⟩
 refine qw (show Int.tmod (k:Int) 4=((k % 4:Nat):Int) from rfl) ?_
 refine qw (show IntKind.i64.wrap (4+((k % 4:Nat):Int))=((4+k % 4:Nat):Int) by rw [qi (by omega) (by omega)]; omega) ?_
 refine ⟨by omega,?_⟩
 have hp:(4+k % 4) * 2 ^ (k / 4 - 1)≤7 * 2 ^ 6:=Nat.mul_le_mul (by omega) (Nat.pow_le_pow_right (by decide) (by omega))
 have hp2:(4+k % 4) * 2 ^ (k / 4 - 1)≤448:=hp
 refine qw (show qpi .i64 ((4+k % 4:Nat):Int) ((k / 4 - 1:Nat):Int)=(((4+k % 4) * 2 ^ (k / 4 - 1):Nat):Int) by
  unfold qpi
  rw [Int.toNat_natCast,show min (k / 4 - 1) IntKind.i64.bits=k / 4 - 1 by show min (k / 4 - 1) 64=_; omega]
  rw [show ((4+k % 4:Nat):Int) * 2 ^ (k / 4 - 1)=(((4+k % 4) * 2 ^ (k / 4 - 1):Nat):Int) by push_cast; rfl]
  exact qi (by omega) (by omega)) ?_
 refine qw (qi (by omega) (by omega)) ?_
 have e5:(3:Int)+(4+(k:Int) % 4) * 2 ^ ((k:Int) / 4 - 1).toNat=3+(((4+k % 4) * 2 ^ (k / 4 - 1):Nat):Int):=by
  rw [show ((k:Int) / 4 - 1).toNat=k / 4 - 1 by omega]
  push_cast
  rfl
 have e6:(k:Int) / 4 - 1=((k / 4 - 1:Nat):Int):=by omega
 simp only [e5,e6] at hk
 exact hk
theorem qkc.c {v:Int} {K:Ending→World→Prop} (h:St F0 w0 w ps) (hk:K (.returned (.tuple ⟨[.int .i64 (qei v).1,.int .i64 (qei v).2.1,.bool (qei v).2.2]⟩)) w) :
 Calls Tryz.prog 274 ⟨[.int .i64 v]⟩ w K:=by
 refine qnc (qkc.ok _ _ _ ?_)
 unfold qkc qkc.j1 qei at *
 refine qxc (fun g=>?_) (fun g=>?_)
 · rw [if_pos (Or.inl g)] at hk
   unfold qkc.j3
   exact qum hk
 unfold qkc.j3
 refine qxc (fun g2=>?_) (fun g2=>?_)
 · rw [if_pos (Or.inr g2)] at hk
   exact hk
 rw [if_neg (by omega)] at hk
 refine qxc (fun g4=>?_) (fun g4=>?_)
 · rw [if_pos g4] at hk
   exact qw (qi (by omega) (by omega)) hk
 rw [if_neg g4] at hk
 unfold qkc.j2
 obtain ⟨k,rfl⟩:∃ k:Nat,v=k:=⟨v.toNat,by omega⟩
 refine ⟨by decide,?_⟩
 refine qw (show IntKind.i64.wrap (Int.tdiv (k:Int) 2)=((k / 2:Nat):Int) by rw [show Int.tdiv (k:Int) 2=((k / 2:Nat):Int) from rfl,qi (by omega) (by omega)]) ?_
 refine qw (show IntKind.i64.wrap (((k / 2:Nat):Int) - 1)=((k / 2 - 1:Nat):Int) by rw [qi (by omega) (by omega)]; omega) ?_
 refine ⟨by decide,?_⟩
 refine qw (show Int.tmod (k:Int) 2=((k % 2:Nat):Int) from rfl) ?_
 refine qw (show IntKind.i64.wrap (2+((k % 2:Nat):Int))=((2+k % 2:Nat):Int) by rw [qi (by omega) (by omega)]; omega) ?_
 refine ⟨by omega,?_⟩
 have hp:(2+k % 2) * 2 ^ (k / 2 - 1)≤3 * 2 ^ 14:=Nat.mul_le_mul (by omega) (Nat.pow_le_pow_right (by decide) (by omega))
 have hp2:(2+k % 2) * 2 ^ (k / 2 - 1)≤49152:=hp
 refine qw (show qpi .i64 ((2+k % 2:Nat):Int) ((k / 2 - 1:Nat):Int)=(((2+k % 2) * 2 ^ (k / 2 - 1):Nat):Int) by
  unfold qpi
  rw [Int.toNat_natCast,show min (k / 2 - 1) IntKind.i64.bits=k / 2 - 1 by show min (k / 2 - 1) 64=_; omega]
  rw [show ((2+k % 2:Nat):Int) * 2 ^ (k / 2 - 1)=(((2+k % 2) * 2 ^ (k / 2 - 1):Nat):Int) by push_cast; rfl]
  exact qi (by omega) (by omega)) ?_
 refine qw (qi (by omega) (by omega)) ?_
 have e5:(1:Int)+(2+(k:Int) % 2) * 2 ^ ((k:Int) / 2 - 1).toNat=1+(((2+k % 2) * 2 ^ (k / 2 - 1):Nat):Int):=by
  rw [show ((k:Int) / 2 - 1).toNat=k / 2 - 1 by omega]
  push_cast
  rfl
 have e6:(k:Int) / 2 - 1=((k / 2 - 1:Nat):Int):=by omega
 simp only [e5,e6] at hk
 exact hk
theorem qcc.c {e:Int} {K:Ending→World→Prop} (h:St F0 w0 w (ztA sb rb V N most z :: ps))
 (hk:∀ w',St F0 w0 w' (ztA sb rb V N most (qdd e z) :: ps)→K (.returned (.tuple ⟨[]⟩)) w'):Calls Tryz.prog 271 ⟨[.pointer (some ⟨sb,0,none⟩),.int .i64 e]⟩ w K:=by
 obtain ⟨p,out,err⟩:=z
 refine qnc (qcc.ok _ _ _ _ ?_)
 unfold qcc
 unfold qdd at hk
 obtain ⟨o,h⟩:=qzq h
 simp only at h hk
 refine qod (h.fI ?_)
 refine qqe (fun g=>?_) (fun g=>?_)
 · rw [if_pos (by simpa using g)] at hk
   refine qod (h.fst trivial fun w h=>?_)
   exact hk w (zt_c h)
 · rw [if_neg (by simpa using g)] at hk
   exact hk w (zt_c h)
theorem qic.c {n:Int} {K:Ending→World→Prop} (h:St F0 w0 w (ztA sb rb V N most z :: ps)) (hN:N≤137438953472) (hp:z.1≤8 * N)
 (hk:∀ w',(qie (qm V (8 * N)) n z).2.1≤8 * N→St F0 w0 w' (ztA sb rb V N most (qie (qm V (8 * N)) n z).2 :: ps)→K (.returned (.int .i64 (qie (qm V (8 * N)) n z).1)) w'):Calls Tryz.prog 267 ⟨[.pointer (some ⟨sb,0,none⟩),.int .i64 n]⟩ w K:=by
 have hf:=(qym (B:=qm V (8 * N)) n (z:=z) (by rw [qq]; exact hp)).2
 rw [qq] at hf
 have hk:=fun w'=>hk w' hf
 clear hf
 obtain ⟨p,out,err⟩:=z
 simp only at hp
 refine qnc (qic.ok _ _ _ _ ?_)
 unfold qic
 unfold qie at hk
 have h0:=h
 obtain ⟨o,h⟩:=qzq h
 simp only at h hk
 refine qod (h.fI ?_)
 refine qqe (fun g=>?_) (fun g=>?_)
 · rw [if_pos (by simpa using g)] at hk
   exact hk w h0
 · have g:err=0:=by simpa using g
   subst g
   rw [if_neg (by simp),qq] at hk
   refine qod (h.fP ?_)
   refine qyb.c (rb:=rb) (V:=V) (N:=N) (at':=p) h.at1 hN (by omega) (fun g w h=>⟨_,_,rfl,?_⟩) (fun g w h=>⟨_,_,rfl,?_⟩)
   · have g:=of_decide_eq_true g
     rw [if_pos ⟨g.1,g.2.1,by omega⟩] at hk
     simp only at hk
     rw [zget_val (by omega)] at hk
     refine qik ?_
     exact hk w (zt_c h.at1)
   · have g:=of_decide_eq_false g
     rw [if_neg (fun e=>g ⟨e.1,e.2.1,by have:=e.2.2; omega⟩)] at hk
     refine qum ?_
     have h:=zt_c (p:=p) (out:=out) (err:=0) h.at1
     refine qcc.c h fun w h=>⟨rfl,?_⟩
     exact hk w h
theorem qge.c {b:Int} {K:Ending→World→Prop} (h:St F0 w0 w (ztA sb rb V N most z :: ps)) (hL:z.2.1.length≤1000000000)
 (hk:∀ w',St F0 w0 w' (ztA sb rb V N most (qlm most b z) :: ps)→K (.returned (.tuple ⟨[]⟩)) w'):Calls Tryz.prog 313 ⟨[.pointer (some ⟨sb,0,none⟩),.int .u8 b]⟩ w K:=by
 obtain ⟨p,out,err⟩:=z
 simp only at hL
 refine qnc (qge.ok _ _ _ _ ?_)
 unfold qge
 unfold qlm at hk
 have h0:=h
 obtain ⟨o,h⟩:=qzq h
 simp only at h hk
 have hol:=h.at2.len
 rw [qx] at hol
 refine qod (h.fI ?_)
 refine qqe (fun g=>?_) (fun g=>?_)
 · rw [if_pos (by simpa using g)] at hk
   exact hk w h0
 have g:err=0:=by simpa using g
 subst g
 rw [if_neg (by simp)] at hk
 refine h.drewK fun w h=>?_
 refine qod (h.fL (qod (h.fI ?_)))
 refine qxc (fun g2=>?_) (fun g2=>?_)
 · have g2:((o.len:Nat):Int) ≥ most:=g2
   rw [if_pos (by omega)] at hk
   exact qcc.c (zt_c h) fun w h=>⟨rfl,hk w h⟩
 · have g2:¬ ((o.len:Nat):Int) ≥ most:=g2
   rw [if_neg (by omega)] at hk
   refine qod (h.fL ?_)
   refine h.pushI (s:=o) (by omega) fun o2 w h=>?_
   refine qod (h.fst trivial fun w h=>?_)
   exact hk w (zt_c (o:=o2) h.sub)
theorem qbd.c {s:Sl} {ls:List Int} {half:Bool} {K:Ending→World→Prop} (h:St F0 w0 w (ztA sb rb V N most z :: ps)) [Rdb F0 w0 s ps 1 (ivs .i64 ls)]
 (hk0:∀ cb w',z.2.2=0→qji ls half=0→St F0 w0 w' (ztA sb rb V N most z :: hcA cb ls :: ps)→K (.returned (.pointer (some ⟨cb,0,none⟩))) w')
 (hk1:∀ w',z.2.2=0→qji ls half ≠ 0→St F0 w0 w' (ztA sb rb V N most (qdd 2 z) :: ps)→K (.returned (.pointer none)) w')
 (hk2:z.2.2 ≠ 0→K (.returned (.pointer none)) w):Calls Tryz.prog 314 ⟨[.pointer (some ⟨sb,0,none⟩),.slice s.a s.len s.cap,.bool half]⟩ w K:=by
 obtain ⟨p,out,err⟩:=z
 refine qnc (qbd.ok _ _ _ _ _ ?_)
 unfold qbd
 obtain ⟨o,h⟩:=qzq h
 simp only at h hk0 hk1 hk2
 refine qod (h.fI ?_)
 refine qqe (fun g=>hk2 (by simpa using g)) (fun g=>?_)
 have g:err=0:=by simpa using g
 subst g
 refine qhc.c (s:=s) (half:=half) h (fun cb w g h=>⟨_,_,rfl,qik ?_⟩) (fun w g h=>⟨_,_,rfl,qci (by simpa using g) ?_⟩)
 · exact hk0 cb w rfl g (zt_c (o:=o) h.sub)
 · exact qcc.c (zt_c h) fun w h=>⟨rfl,hk1 w rfl g h⟩
theorem qfe.c {cb:Nat} {ls:List Int} {K:Ending→World→Prop} (h:St F0 w0 w (ztA sb rb V N most z :: ps)) [PkF hcA cb ps ls rest] (hN:N≤137438953472) (hp:z.1≤8 * N)
 (hk:∀ w',(qxi ls (qm V (8 * N)) z).2.1≤8 * N→St F0 w0 w' (ztA sb rb V N most (qxi ls (qm V (8 * N)) z).2 :: ps)→K (.returned (.int .i64 (qxi ls (qm V (8 * N)) z).1)) w') :
 Calls Tryz.prog 315 ⟨[.pointer (some ⟨sb,0,none⟩),.func (.func 316) ⟨[.pointer (some ⟨cb,0,none⟩)]⟩ ⟨[]⟩]⟩ w K:=by
 obtain ⟨p,out,err⟩:=z
 simp only at hp
 refine qnc (qfe.ok _ _ _ _ ?_)
 unfold qfe
 unfold qxi at hk
 have h0:=h
 obtain ⟨o,h⟩:=qzq h
 simp only at h hk
 refine qod (h.fI ?_)
 refine qqe (fun g=>?_) (fun g=>?_)
 · rw [if_pos (by simpa using g)] at hk
   exact hk w hp h0
 have g:err=0:=by simpa using g
 subst g
 rw [if_neg (by simp)] at hk
 refine qod (h.fP ?_)
 refine qfc.c (ls:=ls) (cb:=cb) (rb:=rb) (V:=V) (N:=N) (p:=p) h.at1 hN hp fun w hle h=>⟨_,_,rfl,?_⟩
 refine qcc.c (zt_c h.at1) fun w h=>⟨rfl,?_⟩
 refine hk w hle ?_
 exact h
end
end Go.Proofs.YthdmmmfgjmmelaaGreat
namespace Go.Proofs.YthdmmmfgjmmelaaGreat
open Go Go.Proofs
set_option linter.unusedVariables false
set_option linter.unusedSimpArgs false
attribute [local irreducible] apK cpK mkK br
theorem pow_le {a b:Nat} (h:a≤b):(2:Nat) ^ a≤2 ^ b:=Nat.pow_le_pow_right (by decide) h
theorem qvp {a b c:Nat} (h:a≤b) (e:2 ^ b=c):(2:Int) ^ a≤(c:Int):=by
 rw [show (2:Int) ^ a=((2 ^ a:Nat):Int) by simp,← e]
 exact Int.ofNat_le.2 (pow_le h)
theorem zlen_b (v:Int):0≤(qri v).1∧(qri v).1≤1000∧(qri v).2.1.toNat≤6:=by
 unfold qri
 split
 · decide
 · split
   · decide
   · split
     · simp only; omega
     · simp only
       have h1:((v - 257) / 4 - 1).toNat≤6:=by omega
       have h2:=pow_le h1
       have h3:(4+(v - 257) % 4).toNat * 2 ^ ((v - 257) / 4 - 1).toNat≤7 * 2 ^ 6:=Nat.mul_le_mul (by omega) h2
       have h4:(4+(v - 257) % 4) * 2 ^ ((v - 257) / 4 - 1).toNat=(((4+(v - 257) % 4).toNat * 2 ^ ((v - 257) / 4 - 1).toNat:Nat):Int):=by
        rw [Int.natCast_mul,Int.toNat_of_nonneg (by omega)]; simp
       rw [h4]
       have h5:(7:Nat) * 2 ^ 6=448:=by decide
       refine ⟨?_,?_,h1⟩ <;> omega
theorem zdis_b (v:Int):0≤(qei v).1∧(qei v).1≤100000∧(qei v).2.1.toNat≤14∧((qei v).2.2=true→1≤(qei v).1):=by
 unfold qei
 split
 · decide
 · split
   · simp only; refine ⟨?_,?_,?_,fun _=>?_⟩ <;> omega
   · simp only
     have h1:(v / 2 - 1).toNat≤14:=by omega
     have h2:=pow_le h1
     have h3:(2+v % 2).toNat * 2 ^ (v / 2 - 1).toNat≤3 * 2 ^ 14:=Nat.mul_le_mul (by omega) h2
     have h4:(2+v % 2) * 2 ^ (v / 2 - 1).toNat=(((2+v % 2).toNat * 2 ^ (v / 2 - 1).toNat:Nat):Int):=by
      rw [Int.natCast_mul,Int.toNat_of_nonneg (by omega)]; simp
     rw [h4]
     have h5:(3:Nat) * 2 ^ 14=49152:=by decide
     refine ⟨?_,?_,h1,fun _=>?_⟩ <;> omega
section pure
variable {B:List Bool} {most:Int} {z:Z}
theorem zget_err {n:Int} (h:(qie B n z).2.2.2=0):z.2.2=0:=by
 unfold qie at h
 split at h
 · exact h
 · rename_i h1; exact Decidable.not_not.1 h1
theorem qgd (n:Int):(qie B n z).2.2.1=z.2.1:=by
 unfold qie
 split
 · rfl
 · split <;> rfl
theorem zok_err {ok:Bool} (h:(zok ok z).2.2=0):ok=true∧z.2.2=0:=by
 unfold zok at h
 split at h
 · rename_i h1; exact ⟨h1,h⟩
 · exfalso
   unfold qdd at h
   simp only at h
   split at h
   · cases h
   · contradiction
theorem qjk (ok:Bool):(zok ok z).2.1=z.2.1:=by unfold zok; split <;> rfl
theorem qeh (ls:List Int):(qxi ls B z).2.2.1=z.2.1:=by unfold qxi; split <;> rfl
theorem qti (b:Int) (hm:most≤1000000) (h:z.2.1.length≤1000000):(qlm most b z).2.1.length≤1000000:=by
 unfold qlm
 split
 · exact h
 · split
   · exact h
   · simp only [List.length_append,List.length_singleton]; omega
theorem zcp_len (d:Int) (hm:most≤1000000):∀ n (z:Z),z.2.1.length≤1000000→(zcp most d n z).2.1.length≤1000000:=by
 intro n
 induction n with
 | zero=>intro z h; exact h
 | succ n ih =>
   intro z h
   rw [zcp]
   split
   · exact h
   · exact ih _ (qti _ hm h)
theorem qom (dl:List Int) (v:Int) (hm:most≤1000000) (h:z.2.1.length≤1000000):(zbehind dl B most v z).2.1.length≤1000000:=by
 unfold zbehind
 simp only
 refine zcp_len _ hm _ _ ?_
 split
 · show (qie B _ _).2.2.1.length≤_
   rw [qgd,qjk,qeh,qgd,qjk]; exact h
 · rw [qgd,qjk,qeh,qgd,qjk]; exact h
theorem qig {e:Int} (h:e ≠ 0):(qdd e z).2.2 ≠ 0:=by
 unfold qdd
 simp only
 split <;> assumption
end pure
section
variable {F0:List Nat} {w0 w:World} {ps rest rest2:List As} {sb rb V N:Nat} {most:Int} {z:Z}
theorem qy.c {v:Int} {cb:Nat} {dl:List Int} {K:Ending→World→Prop} (h:St F0 w0 w (ztA sb rb V N most z :: ps)) [PkF hcA cb ps dl rest] (hN:N≤137438953472) (hp:z.1≤8 * N) (hm:most≤1000000) (hL:z.2.1.length≤1000000)
 (hk:∀ w',St F0 w0 w' (ztA sb rb V N most (zbehind dl (qm V (8 * N)) most v z) :: ps)→K (.returned (.tuple ⟨[]⟩)) w') :
 Calls Tryz.prog 317 ⟨[.pointer (some ⟨sb,0,none⟩),.int .i64 v,.func (.func 316) ⟨[.pointer (some ⟨cb,0,none⟩)]⟩ ⟨[]⟩]⟩ w K:=by
 refine qnc (qy.ok _ _ _ _ _ ?_)
 unfold qy
 unfold zbehind at hk
 simp only at hk
 have b1:=zlen_b v
 refine qpc.c h ⟨_,_,_,rfl,?_⟩
 have j1:∀ w,St F0 w0 w (ztA sb rb V N most (zok (qri v).2.2 z) :: ps)→qy.j1 (some ⟨sb,0,none⟩) (some ⟨cb,0,none⟩) (qri v).1 (qri v).2.1 (fun v w'=>K (.returned v) w') w:=by
  intro w h
  unfold qy.j1
  have hzp:(zok (qri v).2.2 z).1≤8 * N:=by rw [zok_p]; exact hp
  have hzo:(zok (qri v).2.2 z).2.1.length≤1000000:=by rw [qjk]; exact hL
  generalize zok (qri v).2.2 z=z1 at h hk hzp hzo
  generalize (qri v).1=l1 at hk b1 ⊢
  generalize (qri v).2.1=l2 at hk b1 ⊢
  refine qic.c h hN hzp fun w hg h=>⟨_,rfl,?_⟩
  have gl:=qqi (B:=qm V (8 * N)) (z:=z1) l2
  have go:=qgd (B:=qm V (8 * N)) (z:=z1) l2
  have ge:=zget_err (B:=qm V (8 * N)) (z:=z1) (n:=l2)
  generalize qie (qm V (8 * N)) l2 z1=g at h hk hg gl go ge ⊢
  have pl:(2:Int) ^ l2.toNat≤64:=qvp (c:=64) b1.2.2 rfl
  refine qw (qi (by omega) (by omega)) ?_
  unfold qy.j2
  refine qfe.c (ls:=dl) (cb:=cb) h hN hg fun w hs h=>⟨_,rfl,?_⟩
  have so:=qeh (B:=qm V (8 * N)) (z:=g.2) dl
  generalize qxi dl (qm V (8 * N)) g.2=s at h hk hs so ⊢
  have b2:=zdis_b s.1
  refine qkc.c h ⟨_,_,_,rfl,?_⟩
  have j3:∀ w,St F0 w0 w (ztA sb rb V N most (zok (qei s.1).2.2 s.2) :: ps)→qy.j3 (some ⟨sb,0,none⟩) (l1+g.1) (qei s.1).1 (qei s.1).2.1 (fun v w'=>K (.returned v) w') w:=by
   intro w h
   unfold qy.j3
   have hzp2:(zok (qei s.1).2.2 s.2).1≤8 * N:=by rw [zok_p]; exact hs
   have ho2:(zok (qei s.1).2.2 s.2).2.1=z1.2.1:=by rw [qjk,so,go]
   have he2:=zok_err (ok:=(qei s.1).2.2) (z:=s.2)
   generalize zok (qei s.1).2.2 s.2=z4 at h hk hzp2 ho2 he2
   have b2':z4.2.2=0→1≤(qei s.1).1:=fun e=>b2.2.2.2 (he2 e).1
   generalize (qei s.1).1=d1 at hk b2 b2' ⊢
   generalize (qei s.1).2.1=d2 at hk b2 ⊢
   refine qic.c h hN hzp2 fun w hg2 h=>⟨_,rfl,?_⟩
   have gl2:=qqi (B:=qm V (8 * N)) (z:=z4) d2
   have go2:=qgd (B:=qm V (8 * N)) (z:=z4) d2
   have ge2:=zget_err (B:=qm V (8 * N)) (z:=z4) (n:=d2)
   generalize qie (qm V (8 * N)) d2 z4=g2 at h hk hg2 gl2 go2 ge2 ⊢
   have pl2:(2:Int) ^ d2.toNat≤16384:=qvp (c:=16384) b2.2.2.1 rfl
   refine qw (qi (by omega) (by omega)) ?_
   have j4:∀ (z5:Z) w,zcp most (d1+g2.1) (l1+g.1).toNat z5=zcp most (d1+g2.1) (l1+g.1).toNat (if (g2.2.2.1.length:Int) < d1+g2.1 then qdd 2 g2.2 else g2.2)→z5.2.1.length≤1000000→(z5.2.2=0→1≤d1+g2.1∧d1+g2.1≤(z5.2.1.length:Int)) →
    St F0 w0 w (ztA sb rb V N most z5 :: ps)→qy.j4 (some ⟨sb,0,none⟩) (l1+g.1) (d1+g2.1) (fun v w'=>K (.returned v) w') w:=by
    intro z5 w he hl5 hd5 h
    rw [← he] at hk
    clear he
    unfold qy.j4 qy.j5
    have hn0:0≤l1+g.1:=by omega
    generalize hnn:l1+g.1=n at hk hn0 ⊢
    have hn1:n≤2000:=by omega
    obtain ⟨n,rfl⟩:∃ k:Nat,n=k:=⟨n.toNat,by omega⟩
    rw [Int.toNat_natCast] at hk
    generalize hdd:d1+g2.1=d at hk hd5 ⊢
    have hdb:d≤200000∧0≤d:=by omega
    refine qpg (fun (a:Nat × Z) (i':Int) w'=>i'=a.1∧a.1≤n∧zcp most d (n - a.1) a.2=zcp most d n z5∧a.2.2.1.length≤1000000∧(a.2.2.2=0→1≤d∧d≤(a.2.2.1.length:Int))∧St F0 w0 w' (ztA sb rb V N most a.2 :: ps)) (fun a=>n - a.1) (0,z5) ⟨rfl,by simp,rfl,hl5,hd5,h⟩ ?_
    clear h hl5 hd5
    rintro ⟨i,p,out,err⟩ i' wL I μ ⟨rfl,hi,hz,hl5,hd5,h⟩ hin
    simp only at hi hz hl5 hd5 h hin ⊢
    unfold qy.b1
    have h0:=h
    obtain ⟨o,h⟩:=qzq h
    simp only at h
    have hol:=h.at2.len
    rw [qx] at hol
    refine qxc (fun g1=>?_) (fun g1=>?_)
    · obtain ⟨f,hf⟩:∃ f,n - i=f+1:=⟨n - i - 1,by omega⟩
      rw [hf,zcp] at hz
      refine qod (h.fI ?_)
      refine qqe (fun g3=>?_) (fun g3=>?_)
      · have g3:err=0:=by simpa using g3
        subst g3
        have hd5:=hd5 rfl
        rw [if_neg (by simp)] at hz
        simp only at hz
        refine h.drewK fun w h=>?_
        refine qod (h.fL (qod (h.fL ?_)))
        refine qw (show IntKind.i64.wrap (((o.len:Nat):Int) - d)=((out.length - d.toNat:Nat):Int) by rw [qi (by omega) (by omega)]; omega) ?_
        refine h.lx (s:=o) (out.length - d.toNat) rfl (by omega) ?_
        refine qge.c (zt_c h) (by simp only; omega) fun w h=>⟨rfl,?_⟩
        refine qw (qi (by omega) (by omega)) ?_
        refine ⟨⟨rfl,rfl,rfl⟩,hin (i+1,qlm most (out.getD (out.length - d.toNat) 0) (p,out,0)) _ _ ⟨by simp,by simp only; omega,?_,qti _ hm hl5,?_,h⟩ (by simp only; omega)⟩
        · simp only
          rw [show n - (i+1)=f by omega]
          exact hz
        · intro e
          refine ⟨hd5.1,?_⟩
          unfold qlm
          simp only
          rw [if_neg (by simp)]
          split
          · exact hd5.2
          · simp only [List.length_append,List.length_singleton]; omega
      · have g3:err ≠ 0:=by simpa using g3
        rw [if_pos g3] at hz
        rw [← hz] at hk
        exact hk wL h0
    · have:i=n:=by omega
      subst this
      rw [Nat.sub_self,zcp] at hz
      rw [← hz] at hk
      exact hk wL h0
   have h0:=h
   obtain ⟨o,h⟩:=qzq h
   have hol:=h.at2.len
   rw [qx] at hol
   have hgo:g2.2.2.1.length≤1000000:=by rw [go2,ho2]; exact hzo
   refine qod (h.fL ?_)
   refine qxc (fun g5=>?_) (fun g5=>?_)
   · have g5:d1+g2.1 > ((o.len:Nat):Int):=g5
     refine qcc.c h0 fun w h=>⟨rfl,?_⟩
     exact j4 (qdd 2 g2.2) w (by rw [if_pos (by omega)]) hgo (fun e=>absurd e (qig (by decide))) h
   · have g5:¬ d1+g2.1 > ((o.len:Nat):Int):=g5
     exact j4 g2.2 w (by rw [if_neg (by omega)]) hgo (fun e=>⟨by have:=b2' (ge2 e); omega,by omega⟩) h0
  refine qqe (fun g5=>?_) (fun g5=>?_)
  · have g5:(qei s.1).2.2=false:=by simpa using g5
    refine qcc.c h fun w h=>⟨rfl,?_⟩
    refine j3 w ?_
    rw [g5]; exact h
  · have g5:(qei s.1).2.2=true:=by simpa using g5
    refine j3 w ?_
    rw [g5]; exact h
 refine qqe (fun g5=>?_) (fun g5=>?_)
 · have g5:(qri v).2.2=false:=by simpa using g5
   refine qcc.c h fun w h=>⟨rfl,?_⟩
   refine j1 w ?_
   rw [g5]; exact h
 · have g5:(qri v).2.2=true:=by simpa using g5
   refine j1 w ?_
   rw [g5]; exact h
end
end Go.Proofs.YthdmmmfgjmmelaaGreat
namespace Go.Proofs.YthdmmmfgjmmelaaGreat
open Go Go.Proofs
set_option linter.unusedVariables false
set_option linter.unusedSimpArgs false
attribute [local irreducible] apK cpK mkK br
section
variable {F0:List Nat} {w0 w:World} {ps rest rest2:List As} {sb rb V N:Nat} {most:Int} {z:Z}
theorem hdec_nn (l:List Int) (b:List Bool):∀ f n v p,0≤(hdec l b f n v p).1:=by
 intro f
 induction f with
 | zero=>intro n v p; exact Int.le_refl _
 | succ f ih =>
   intro n v p
   rw [hdec]
   split
   · exact Int.le_refl _
   · split
     · exact Int.natCast_nonneg _
     · exact ih _ _ _
theorem zsym_nn {B:List Bool} (ls:List Int):0≤(qxi ls B z).1:=by
 unfold qxi
 split
 · exact Int.le_refl _
 · exact hdec_nn _ _ _ _ _ _
theorem qv.loop {ca cb:Nat} {ll dl:List Int} {K:Ending→World→Prop} (h:St F0 w0 w (ztA sb rb V N most z :: ps)) [PkF hcA ca ps ll rest] [PkF hcA cb ps dl rest2] (hN:N≤137438953472) (hp:z.1≤8 * N) (hm:most≤1000000) (hL:z.2.1.length≤1000000)
 (hk:∀ w',St F0 w0 w' (ztA sb rb V N most (qzd ll dl (qm V (8 * N)) most (8 * N+1) z) :: ps)→K (.returned (.tuple ⟨[]⟩)) w') :
 qv.j2 (some ⟨sb,0,none⟩) (some ⟨ca,0,none⟩) (some ⟨cb,0,none⟩) (fun v w'=>K (.returned v) w') w:=by
 unfold qv.j2
 have hBl:(qm (V:Int) (8 * N)).length=8 * N:=qq _ _
 refine loop0 (fun (a:Nat × Z) w'=>8 * N - a.2.1 < a.1∧a.2.1≤8 * N∧a.2.2.1.length≤1000000∧qzd ll dl (qm V (8 * N)) most a.1 a.2=qzd ll dl (qm V (8 * N)) most (8 * N+1) z∧St F0 w0 w' (ztA sb rb V N most a.2 :: ps)) (fun a=>a.1) (8 * N+1,z) ⟨by simp only; omega,hp,hL,rfl,h⟩ ?_
 clear h hp hL
 rintro ⟨f,z1⟩ wL I μ ⟨hf,hp,hL,hz,h⟩ hin
 simp only at hf hp hL hz h hin ⊢
 unfold qv.b1
 obtain ⟨f,rfl⟩:∃ g,f=g+1:=⟨f - 1,by omega⟩
 rw [qzd] at hz
 have h0:=h
 obtain ⟨o,h⟩:=qzq h
 refine qod (h.fI ?_)
 refine qqe (fun g1=>?_) (fun g1=>?_)
 · have g1:z1.2.2=0:=by simpa using g1
   rw [if_neg (by simpa using g1)] at hz
   simp only at hz
   unfold qv.j3
   refine qfe.c (ls:=ll) (cb:=ca) h0 hN hp fun w hs h=>⟨_,rfl,?_⟩
   have so:=qeh (B:=qm V (8 * N)) (z:=z1) ll
   have sp:(qxi ll (qm V (8 * N)) z1).2.2.2=0→z1.1 < (qxi ll (qm V (8 * N)) z1).2.1:=by
    unfold qxi
    rw [if_neg (by simpa using g1)]
    exact (hdec_le ll (qm V (8 * N)) (qhh ll 15) 1 0 z1.1 (by rw [hBl]; exact hp)).2.2
   have sn:=zsym_nn (B:=qm V (8 * N)) (z:=z1) ll
   generalize qxi ll (qm V (8 * N)) z1=s at h hz hs so sp sn ⊢
   obtain ⟨v,z2⟩:=s
   simp only at h hz hs so sp sn ⊢
   unfold qv.j4
   have h1:=h
   obtain ⟨o,h⟩:=qzq h
   refine qod (h.fI ?_)
   refine qqe (fun g2=>?_) (fun g2=>?_)
   · have g2:z2.2.2 ≠ 0:=by simpa using g2
     rw [if_pos (Or.inl g2)] at hz
     rw [← hz] at hk
     unfold qv.j5
     exact qum (hk w h1)
   have g2:z2.2.2=0:=by simpa using g2
   have sp:=sp g2
   unfold qv.j5
   refine qqe (fun g3=>?_) (fun g3=>?_)
   · rw [if_pos (Or.inr (by simpa using g3))] at hz
     rw [← hz] at hk
     exact hk w h1
   have g3:v ≠ 256:=by simpa using g3
   rw [if_neg (by rintro (e | e); exact e g2; exact g3 e)] at hz
   refine qxc (fun g4=>?_) (fun g4=>?_)
   · rw [if_pos g4] at hz
     refine qwh ?_
     rw [qkk,show v % 256=v by omega]
     refine qge.c h1 (by rw [so]; omega) fun w h=>⟨rfl,?_⟩
     refine ⟨⟨rfl,rfl,rfl⟩,hin (f,qlm most v z2) _ ⟨?_,?_,qti _ hm (by rw [so]; exact hL),?_,h⟩ (by simp only; omega)⟩
     · simp only; rw [qdl]; omega
     · simp only; rw [qdl]; exact hs
     · exact hz
   · rw [if_neg g4] at hz
     have hfw:=qpm (most:=most) (B:=qm V (8 * N)) dl v (z:=z2) (by rw [hBl]; exact hs)
     rw [zfwd,hBl] at hfw
     refine qy.c (cb:=cb) (dl:=dl) h1 hN hs hm (by rw [so]; exact hL) fun w h=>⟨rfl,?_⟩
     refine ⟨⟨rfl,rfl,rfl⟩,hin (f,zbehind dl (qm V (8 * N)) most v z2) _ ⟨?_,hfw.2,qom dl v hm (by rw [so]; exact hL),?_,h⟩ (by simp only; omega)⟩
     · simp only; omega
     · exact hz
 · have g1:z1.2.2 ≠ 0:=by simpa using g1
   rw [if_pos g1] at hz
   rw [← hz] at hk
   exact hk wL h0
theorem zcode_p (ls:List Int):(qjg ls z).1=z.1:=by unfold qjg; split <;> rfl
theorem qan (ls:List Int):(qjg ls z).2.1=z.2.1:=by unfold qjg; split <;> rfl
theorem qij (ls:List Int) (h:z.2.2 ≠ 0):qjg ls z=z:=by unfold qjg; rw [if_neg (fun e=>h e.1)]
theorem qv.c {s t:Sl} {ll dl:List Int} {K:Ending→World→Prop} (h:St F0 w0 w (ztA sb rb V N most z :: ps)) [Rdb F0 w0 s ps 1 (ivs .i64 ll)] [Rdb F0 w0 t ps 1 (ivs .i64 dl)] (hll:256 < ll.length) (hN:N≤137438953472) (hp:z.1≤8 * N) (hm:most≤1000000) (hL:z.2.1.length≤1000000)
 (hk:∀ w',St F0 w0 w' (ztA sb rb V N most (zblk ll dl (qm V (8 * N)) most z) :: ps)→K (.returned (.tuple ⟨[]⟩)) w') :
 Calls Tryz.prog 269 ⟨[.pointer (some ⟨sb,0,none⟩),.slice s.a s.len s.cap,.slice t.a t.len t.cap]⟩ w K:=by
 refine qnc (qv.ok _ _ _ _ _ ?_)
 unfold qv
 unfold zblk at hk
 simp only [qq] at hk
 have j1:∀ (z1:Z) w,z1=(if z.2.2=0∧ll.getD 256 0=0 then qdd 2 z else z)→St F0 w0 w (ztA sb rb V N most z1 :: ps)→qv.j1 (some ⟨sb,0,none⟩) s t (fun v w'=>K (.returned v) w') w:=by
  intro z1 w e h
  have hp1:z1.1≤8 * N:=by rw [e]; split; exact hp; exact hp
  have hL1:z1.2.1.length≤1000000:=by rw [e]; split; exact hL; exact hL
  rw [← e] at hk
  clear e
  unfold qv.j1
  have bad:∀ (z2:Z) w,qjg dl (qjg ll z1)=z2→z2.2.2 ≠ 0→St F0 w0 w (ztA sb rb V N most z2 :: ps)→∀ pa pb,nz (some (⟨sb,0,none⟩:Addr)) fun a19=>ldI .i64 w (Addr.add a19 3) fun x20=>br ((x20:Int) != 0) (K (.returned (.tuple ⟨[]⟩)) w) (qv.j2 (some ⟨sb,0,none⟩) pa pb (fun v w'=>K (.returned v) w') w):=by
   intro z2 w e h2 h pa pb
   rw [e,if_pos h2] at hk
   have h0:=h
   obtain ⟨o,h⟩:=qzq h
   exact qod (h.fI (qci (by simpa using h2) (hk w h0)))
  refine qbd.c (s:=s) (ls:=ll) (half:=true) h (fun ca w e1 e2 h=>⟨_,rfl,?_⟩) (fun w e1 e2 h=>⟨_,rfl,?_⟩) (fun e1=>⟨_,rfl,?_⟩)
  · have ec:qjg ll z1=z1:=by unfold qjg; rw [if_neg (fun e=>e.2 e2)]
    refine qbd.c (s:=t) (ls:=dl) (half:=true) h (fun cb w e1 e3 h=>⟨_,rfl,?_⟩) (fun w e1 e3 h=>⟨_,rfl,?_⟩) (fun e3=>absurd e1 e3)
    · have ec2:qjg dl z1=z1:=by unfold qjg; rw [if_neg (fun e=>e.2 e3)]
      rw [ec,ec2,if_neg (by simpa using e1)] at hk
      have h0:=h
      obtain ⟨o,h⟩:=qzq h
      refine qod (h.fI (qbi (by simpa using e1) ?_))
      exact qv.loop (ca:=ca) (cb:=cb) (ll:=ll) (dl:=dl) h0 hN hp1 hm hL1 fun w h=>hk w (h.tail fun _ _ _ h=>h.drop.drop)
    · refine bad (qdd 2 z1) w ?_ (qig (by decide)) (h.tail fun _ _ _ h=>h.drop) _ _
      rw [ec]; unfold qjg; rw [if_pos ⟨e1,e3⟩]
  · have ec:qjg ll z1=qdd 2 z1:=by unfold qjg; rw [if_pos ⟨e1,e2⟩]
    have hne:(qdd 2 z1).2.2 ≠ 0:=qig (by decide)
    refine qbd.c (s:=t) (ls:=dl) (half:=true) h (fun cb w e1 e3 h=>absurd e1 hne) (fun w e1 e3 h=>absurd e1 hne) (fun e3=>⟨_,rfl,?_⟩)
    exact bad _ w (by rw [ec,qij _ hne]) hne h _ _
  · refine qbd.c (s:=t) (ls:=dl) (half:=true) h (fun cb w e2 e3 h=>absurd e2 e1) (fun w e2 e3 h=>absurd e2 e1) (fun e3=>⟨_,rfl,?_⟩)
    exact bad _ w (by rw [qij ll e1,qij _ e1]) e1 h _ _
 have h0:=h
 obtain ⟨o,h⟩:=qzq h
 refine qod (h.fI ?_)
 refine qqe (fun g=>?_) (fun g=>?_)
 · have g:z.2.2=0:=by simpa using g
   refine h.lx (s:=s) 256 rfl hll ?_
   refine qqe (fun g2=>?_) (fun g2=>?_)
   · refine qcc.c h0 fun w h=>⟨rfl,?_⟩
     exact j1 _ w (by rw [if_pos ⟨g,by simpa using g2⟩]) h
   · have g3:ll.getD 256 0 ≠ 0:=by intro e; rw [e] at g2; simp at g2
     exact j1 _ w (by rw [if_neg (fun e=>g3 e.2)]) h0
 · exact j1 _ w (by rw [if_neg (fun e=>by simp [e.1] at g)]) h0
theorem zst_len (hm:most≤1000000) {B:List Bool}:∀ n (z:Z),z.2.1.length≤1000000→(zst B most n z).2.1.length≤1000000:=by
 intro n
 induction n with
 | zero=>intro z h; exact h
 | succ n ih=>intro z h; rw [zst]; exact ih _ (qti _ hm (by rw [qgd]; exact h))
theorem qbc.c {K:Ending→World→Prop} (h:St F0 w0 w (ztA sb rb V N most z :: ps)) (hN:N≤137438953472) (hp:z.1≤8 * N) (hm:most≤1000000) (hm0:0≤most) (hL:z.2.1.length≤1000000)
 (hk:∀ w',(zstored (qm V (8 * N)) most z).1≤8 * N→St F0 w0 w' (ztA sb rb V N most (zstored (qm V (8 * N)) most z) :: ps)→K (.returned (.tuple ⟨[]⟩)) w') :
 Calls Tryz.prog 268 ⟨[.pointer (some ⟨sb,0,none⟩)]⟩ w K:=by
 refine qnc (qbc.ok _ _ _ ?_)
 unfold qbc
 unfold zstored at hk
 simp only at hk
 obtain ⟨o,h⟩:=qzq h
 refine qod (h.fP ?_)
 have h:St F0 w0 w (rrA rb V N z.1 :: qjd sb [.pointer (some ⟨rb,0,none⟩),.slice o.a o.len o.cap,.int .i64 most,.int .i64 z.2.2] :: qmc 1 o (u8s z.2.1) :: ps):=h.at1
 refine qjf.c h (by omega) fun w h=>⟨rfl,?_⟩
 have h:St F0 w0 w (bitA rb (V,N,8 * ((z.1+7) / 8)) :: qjd sb [.pointer (some ⟨rb,0,none⟩),.slice o.a o.len o.cap,.int .i64 most,.int .i64 z.2.2] :: qmc 1 o (u8s z.2.1) :: ps):=h
 have h:=zt_c (p:=8 * ((z.1+7) / 8)) (out:=z.2.1) h.at1
 have hz0:(8 * ((z.1+7) / 8),z.2.1,z.2.2).1≤8 * N:=by simp only; omega
 have hz0L:((8 * ((z.1+7) / 8),z.2.1,z.2.2):Z).2.1.length≤1000000:=hL
 generalize ((8 * ((z.1+7) / 8),z.2.1,z.2.2):Z)=z0 at h hk hz0 hz0L
 refine qic.c h hN hz0 fun w hg h=>⟨_,rfl,?_⟩
 have gl:=qqi (B:=qm V (8 * N)) (z:=z0) 16
 have go:=qgd (B:=qm V (8 * N)) (z:=z0) 16
 generalize qie (qm V (8 * N)) 16 z0=g at h hk hg gl go ⊢
 refine qic.c h hN hg fun w hg2 h=>⟨_,rfl,?_⟩
 have go2:=qgd (B:=qm V (8 * N)) (z:=g.2) 16
 generalize qie (qm V (8 * N)) 16 g.2=g2 at h hk hg2 go2 ⊢
 have hgL:g2.2.2.1.length≤1000000:=by rw [go2,go]; exact hz0L
 unfold qbc.j1
 have h0:=h
 obtain ⟨o,h⟩:=qzq h
 refine qod (h.fI ?_)
 refine qqe (fun g3=>?_) (fun g3=>?_)
 · have g3:g2.2.2.2 ≠ 0:=by simpa using g3
   rw [if_pos g3] at hk
   exact hk w hg2 h0
 have g3:g2.2.2.2=0:=by simpa using g3
 rw [if_neg (by simpa using g3)] at hk
 refine qwh ?_
 refine qqe (fun g4=>?_) (fun g4=>?_)
 · rw [if_pos (by simpa using g4)] at hk
   exact qcc.c h0 fun w h=>⟨rfl,hk w hg2 h⟩
 rw [if_neg (by simpa using g4)] at hk
 have hol:=h.at2.len
 rw [qx] at hol
 have pl:(2:Int) ^ (16:Int).toNat=65536:=by decide
 rw [pl] at gl
 have h00:=h0.drew
 refine h.drewK fun w h=>?_
 have h0:=zt_c (p:=g2.2.1) h
 refine qod (h.fI (qod (h.fL ?_)))
 refine qw (qi (by simp only; omega) (by simp only; omega)) ?_
 refine qxc (fun g5=>?_) (fun g5=>?_)
 · have g5:g.1 > most - ((o.len:Nat):Int):=g5
   rw [if_pos (by omega)] at hk
   exact qcc.c h0 fun w h=>⟨rfl,hk w hg2 h⟩
 have g5:¬ g.1 > most - ((o.len:Nat):Int):=g5
 rw [if_neg (by omega)] at hk
 have h0:St F0 w0 w (ztA sb rb V N most g2.2 :: ps):=h0
 clear h hol g4 g5
 obtain ⟨n,hn⟩:∃ k:Nat,g.1=k:=⟨g.1.toNat,by omega⟩
 rw [hn] at hk gl ⊢
 rw [Int.toNat_natCast] at hk
 generalize g2.2=z2 at hk h0 hg2 hgL
 unfold qbc.j2
 refine qpg (fun (a:Nat × Z) (i':Int) w'=>i'=a.1∧a.1≤n∧a.2.1≤8 * N∧a.2.2.1.length≤1000000∧zst (qm V (8 * N)) most (n - a.1) a.2=zst (qm V (8 * N)) most n z2∧St F0 w0 w' (ztA sb rb V N most a.2 :: ps)) (fun a=>n - a.1) (0,z2) ⟨rfl,by simp,hg2,hgL,rfl,h0⟩ ?_
 clear h0 hg2 hgL
 rintro ⟨i,z3⟩ i' wL I μ ⟨rfl,hi,hp3,hL3,hz,h⟩ hin
 simp only at hi hp3 hL3 hz h hin ⊢
 unfold qbc.b1
 refine qxc (fun g1=>?_) (fun g1=>?_)
 · obtain ⟨f,hf⟩:∃ f,n - i=f+1:=⟨n - i - 1,by omega⟩
   rw [hf,zst] at hz
   refine qic.c h hN hp3 fun w hg h=>⟨_,rfl,?_⟩
   have gl:=qqi (B:=qm V (8 * N)) (z:=z3) 8
   have go:=qgd (B:=qm V (8 * N)) (z:=z3) 8
   generalize qie (qm V (8 * N)) 8 z3=g at h hz hg gl go ⊢
   have pl:(2:Int) ^ (8:Int).toNat=256:=by decide
   rw [pl] at gl
   refine qwh ?_
   rw [qkk,show g.1 % 256=g.1 by omega]
   refine qge.c h (by rw [go]; omega) fun w h=>⟨rfl,?_⟩
   refine qw (qi (by omega) (by omega)) ?_
   refine ⟨⟨rfl,rfl⟩,hin (i+1,qlm most g.1 g.2) _ _ ⟨by simp,by simp only; omega,by simp only; rw [qdl]; exact hg,qti _ hm (by rw [go]; exact hL3),?_,h⟩ (by simp only; omega)⟩
   simp only
   rw [show n - (i+1)=f by omega]
   exact hz
 · have:i=n:=by omega
   subst this
   rw [Nat.sub_self,zst] at hz
   rw [← hz] at hk
   exact hk wL hp3 h
end
end Go.Proofs.YthdmmmfgjmmelaaGreat
namespace Go.Proofs.YthdmmmfgjmmelaaGreat
set_option linter.unusedVariables false
set_option linter.unusedSimpArgs false
abbrev Tk:=Int × Int × Int
def tkN (t:Tk):Nat:=if t.2.1=0 then 1 else t.2.1.toNat
def tkBad (n:Nat) (t:Tk):Prop:=(t.2.1=0∧t.2.2 ≠ 0) ∨ (t.2.1 ≠ 0∧(t.1 ≠ 0 ∨ t.2.1 < 3 ∨ 258 < t.2.1 ∨ t.2.2 < 1 ∨ 32768 < t.2.2 ∨ (n:Int) < t.2.2))
instance (n:Nat) (t:Tk):Decidable (tkBad n t):=by unfold tkBad; infer_instance
def tkCopy (d:Int):Nat→List Int→List Int
 | 0,out=>out
 | k+1,out=>tkCopy d k (out ++ [out.getD (out.length - d.toNat) 0])
def tkExp (out:List Int) (t:Tk):List Int:=if t.2.1=0 then out ++ [t.1] else tkCopy t.2.2 t.2.1.toNat out
def tkAll (most:Int):List Int→List Tk→List Int × Int
 | out,[]=>(out,0)
 | out,t :: r=>if most - out.length < (tkN t:Int) then ([],5) else tkAll most (tkExp out t) r
def tkK (t:Tk):Nat:=if t.2.1=0 then 1 else if t.2.1 < 0 ∨ 258 < t.2.1 then 0 else t.2.1.toNat
theorem qui (d:Int):∀ (k:Nat) (out:List Int),(tkCopy d k out).length=out.length+k:=by
 intro k
 induction k with
 | zero=>intro out; rfl
 | succ k ih=>intro out; rw [tkCopy,ih]; simp; omega
inductive qxf (b:List Int):Nat→List Tk→Nat→Prop
 | nil (n:Nat):qxf b n [] n
 | lit {n m:Nat} {r:List Tk} (h:n < b.length):qxf b (n+1) r m→qxf b n ((b.getD n 0,0,0) :: r) m
 | copy {n m k d:Nat} {r:List Tk} (h3:3≤k) (h258:k≤258) (hd:1≤d) (hdn:d≤n) (hdf:d≤32768) (hk:n+k≤b.length) (hs:∀ j,j < k→b.getD (n - d+j) 0=b.getD (n+j) 0) :
    qxf b (n+k) r m→qxf b n ((0,(k:Int),(d:Int)) :: r) m
theorem qxf.le {b:List Int} {n m:Nat} {l:List Tk} (h:qxf b n l m) (hn:n≤b.length):n≤m∧m≤b.length∧l.length≤m - n:=by
 induction h with
 | nil n=>exact ⟨Nat.le_refl _,hn,by simp⟩
 | lit h _ ih=>have:=ih (by omega); simp only [List.length_cons]; omega
 | copy h3 _ _ _ _ hk _ _ ih=>have:=ih hk; simp only [List.length_cons]; omega
theorem qmp {b:List Int} {n i:Nat} (h:i < n):(b.take n).getD i 0=b.getD i 0:=by simp [List.getD,List.getElem?_take,h]
theorem qrg {b:List Int} {n:Nat} (h:n < b.length):b.take (n+1)=b.take n ++ [b.getD n 0]:=by
 rw [List.take_succ_eq_append_getElem h]
 simp [List.getD,h]
theorem qqr {b:List Int} {d:Nat} (hd:1≤d):∀ (k n:Nat),d≤n→n+k≤b.length→(∀ j,j < k→b.getD (n - d+j) 0=b.getD (n+j) 0)→tkCopy d k (b.take n)=b.take (n+k):=by
 intro k
 induction k with
 | zero=>intro n _ _ _; rfl
 | succ k ih =>
   intro n hn hk hs
   have hl:(b.take n).length=n:=by rw [List.length_take]; omega
   rw [tkCopy,hl,Int.toNat_natCast,qmp (by omega)]
   have h0:=hs 0 (by omega)
   rw [Nat.add_zero,Nat.add_zero] at h0
   rw [h0,← qrg (by omega),ih (n+1) (by omega) (by omega) (fun j hj=>?_)]
   · rw [show n+1+k=n+(k+1) by omega]
   · have:=hs (j+1) (by omega)
     rw [show n+1 - d+j=n - d+(j+1) by omega,show n+1+j=n+(j+1) by omega]
     exact this
theorem qxf.all {b:List Int} {n m:Nat} {l:List Tk} (h:qxf b n l m) {most:Int} (hm:(b.length:Int)≤most):n≤b.length→∀ r,tkAll most (b.take n) (l ++ r)=tkAll most (b.take m) r:=by
 induction h with
 | nil n=>intro _ r; rfl
 | @lit n m r0 h _ ih =>
   intro hn r
   have e:tkN (b.getD n 0,0,0)=1:=rfl
   rw [List.cons_append,tkAll,e,if_neg (by rw [List.length_take]; omega)]
   have:tkExp (b.take n) (b.getD n 0,0,0)=b.take (n+1):=by unfold tkExp; rw [if_pos rfl,qrg h]
   rw [this]
   exact ih (by omega) r
 | @copy n m k d r0 h3 h258 hd hdn hdf hk hs _ ih =>
   intro hn r
   have e:tkN (0,(k:Int),(d:Int))=k:=by unfold tkN; simp; omega
   rw [List.cons_append,tkAll,e,if_neg (by rw [List.length_take]; omega)]
   have:tkExp (b.take n) (0,(k:Int),(d:Int))=b.take (n+k):=by
    unfold tkExp
    rw [if_neg (by simp; omega)]
    exact qqr hd k n hdn hk hs
   rw [this]
   exact ih hk r
theorem qxf.size {b:List Int} {n m:Nat} {l:List Tk} (h:qxf b n l m):n+(l.map tkK).sum=m:=by
 induction h with
 | nil n=>rfl
 | @lit n m r0 h _ ih =>
   have e:tkK (b.getD n 0,0,0)=1:=rfl
   rw [List.map_cons,List.sum_cons,e]; omega
 | @copy n m k d r0 h3 h258 hd hdn hdf hk hs _ ih =>
   have e:tkK (0,(k:Int),(d:Int))=k:=by
    unfold tkK
    rw [if_neg (by simp; omega),if_neg (by simp; omega)]
    simp
   rw [List.map_cons,List.sum_cons,e]; omega
theorem qxf.append {b:List Int} {n m k:Nat} {l r:List Tk} (h:qxf b n l m) (h2:qxf b m r k):qxf b n (l ++ r) k:=by
 induction h with
 | nil n=>exact h2
 | lit h _ ih=>exact qxf.lit h (ih h2)
 | copy h3 h258 hd hdn hdf hk hs _ ih=>exact qxf.copy h3 h258 hd hdn hdf hk hs (ih h2)
theorem qxf.cut {b:List Int} {n m:Nat} {l:List Tk} (h:qxf b n l m):∀ c,∃ k,qxf b n (l.take c) k∧qxf b k (l.drop c) m:=by
 induction h with
 | nil n=>intro c; exact ⟨n,by simpa using qxf.nil n,by simpa using qxf.nil n⟩
 | lit h hr ih =>
   intro c
   cases c with
   | zero=>exact ⟨_,qxf.nil _,qxf.lit h hr⟩
   | succ c =>
     obtain ⟨k,h1,h2⟩:=ih c
     exact ⟨k,qxf.lit h h1,h2⟩
 | copy h3 h258 hd hdn hdf hk hs hr ih =>
   intro c
   cases c with
   | zero=>exact ⟨_,qxf.nil _,qxf.copy h3 h258 hd hdn hdf hk hs hr⟩
   | succ c =>
     obtain ⟨k,h1,h2⟩:=ih c
     exact ⟨k,qxf.copy h3 h258 hd hdn hdf hk hs h1,h2⟩
end Go.Proofs.YthdmmmfgjmmelaaGreat
namespace Go.Proofs.YthdmmmfgjmmelaaGreat
open Go Go.Proofs
set_option linter.unusedVariables false
set_option linter.unusedSimpArgs false
attribute [local irreducible] apK cpK mkK br
theorem qqg:qih.length=288:=by unfold qih; simp only [List.length_append,List.length_replicate]
theorem qso {i:Nat} (h:i < 288):qih.getD i 0=if i < 144 then 8 else if i < 256 then 9 else if i < 280 then 7 else 8:=by
 unfold qih
 rw [List.getD,List.getElem?_append,List.length_replicate]
 by_cases h1:i < 144
 · rw [if_pos h1,if_pos h1,List.getElem?_replicate,if_pos h1]; rfl
 rw [if_neg h1,if_neg h1,List.getElem?_append,List.length_replicate]
 by_cases h2:i < 256
 · rw [if_pos (by omega),if_pos h2,List.getElem?_replicate,if_pos (by omega)]; rfl
 rw [if_neg (by omega),if_neg h2,List.getElem?_append,List.length_replicate]
 by_cases h3:i < 280
 · rw [if_pos (by omega),if_pos h3,List.getElem?_replicate,if_pos (by omega)]; rfl
 rw [if_neg (by omega),if_neg h3,List.getElem?_replicate,if_pos (by omega)]; rfl
theorem qch:qme.length=32:=by unfold qme; simp only [List.length_replicate]
theorem qkq {i:Nat} (h:i < 32):qme.getD i 0=5:=by
 unfold qme
 rw [List.getD,List.getElem?_replicate,if_pos h]; rfl
section
variable {F0:List Nat} {w0 w:World} {ps rest rest2:List As} {sb rb V N:Nat} {most:Int} {z:Z}
theorem qxk.c {s:Sl} {cs:List Value} {K:Ending→World→Prop} (h:St F0 w0 w (rdA 1 s cs :: ps)) (hc:s.len≤s.cap)
 (hk:∀ s':Sl,s'.len=s.len→s'.cap=s.len→St F0 w0 w (rdA 1 s' cs :: ps)→K (.returned (.slice s'.a s'.len s'.cap)) w):Calls Tryz.prog 149 ⟨[.slice s.a s.len s.cap]⟩ w K:=by
 refine qnc (qyh.ok _ _ _ ?_)
 unfold qyh
 refine ⟨⟨by omega,by omega⟩,⟨by omega,by omega⟩,qwh ?_⟩
 refine hk ⟨_,_,_⟩ (by simp) (by simp) (h.recap ?_ (by simp))
 show qwf s.a _ 0 1=s.a
 unfold qwf
 split
 · rfl
 · cases s.a with
   | none=>rfl
   | some a=>simp [Addr.add]
theorem qbb.c {K:Ending→World→Prop} (h:St F0 w0 w ps)
 (hk:∀ s t w',s.len=288→t.len=32→St F0 w0 w' (rdA 1 s (ivs .i64 qih) :: rdA 1 t (ivs .i64 qme) :: ps)→K (.returned (.tuple ⟨[.slice s.a s.len s.cap,.slice t.a t.len t.cap]⟩)) w'):Calls Tryz.prog 207 ⟨[]⟩ w K:=by
 refine qnc (qbb.ok _ _ ?_)
 unfold qbb qbb.j1 qbb.j5
 have e0:qmc 1 ⟨none,0,0⟩ []=qmc 1 ⟨none,0,0⟩ (ivs .i64 (qih.take 0)):=rfl
 refine qkh (fun (i:Nat) (o:Sl) (i':Int) w'=>i'=i∧i≤288∧St F0 w0 w' (qmc 1 o (ivs .i64 (qih.take i)) :: ps)) (fun i=>288 - i) 0 ⟨rfl,by omega,h.nil 1⟩ ?_
 clear h
 rintro i o i' wL I μ ⟨rfl,hi,h⟩ hin
 unfold qbb.b2
 refine qxc (fun g=>?_) (fun g=>?_)
 · have hi2:i < 288:=by omega
   have j9:∀ n:Int,n=qih.getD i 0→qbb.j9 o ⟨none,0,0⟩ n (i:Int) (fun v w'=>K (.returned v) w') (fun d' o' i' w'=>d'=⟨none,0,0⟩∧I o' i' w'∧μ o' i' w' < μ o (i:Int) wL) wL:=by
    intro n hn
    unfold qbb.j9
    refine h.pushI (s:=o) (by rw [List.length_take]; omega) fun o2 w h=>?_
    unfold qbb.j7
    refine qw (qi (by omega) (by omega)) ?_
    rw [hn,← qrg (by rw [qqg]; exact hi2)] at h
    exact ⟨rfl,hin (i+1) _ _ _ ⟨by omega,by omega,h⟩ (by omega)⟩
   have hg:=qso hi2
   unfold qbb.j6 qbb.j8 qbb.j10
   refine qxc (fun g1=>?_) (fun g1=>?_)
   · rw [if_neg (by omega)] at hg
     refine qxc (fun g2=>?_) (fun g2=>?_)
     · exact j9 9 (by rw [hg,if_pos (by omega)])
     · rw [if_neg (by omega)] at hg
       refine qxc (fun g3=>?_) (fun g3=>by omega)
       refine qxc (fun g4=>?_) (fun g4=>?_)
       · exact j9 7 (by rw [hg,if_pos (by omega)])
       · exact j9 8 (by rw [hg,if_neg (by omega)])
   · rw [if_pos (by omega)] at hg
     refine qik ?_
     refine qxc (fun g3=>by omega) (fun g3=>?_)
     exact j9 8 hg.symm
 · have:i=288:=by omega
   subst this
   rw [List.take_of_length_le (by rw [qqg]; omega)] at h
   unfold qbb.j2 qbb.j4
   refine qkh (fun (i:Nat) (d:Sl) (i':Int) w'=>i'=i∧i≤32∧St F0 w0 w' (qmc 1 d (ivs .i64 (qme.take i)) :: qmc 1 o (ivs .i64 qih) :: ps)) (fun i=>32 - i) 0 ⟨rfl,by omega,h.nil 1⟩ ?_
   clear h hin
   rintro i d i' wL2 I2 μ2 ⟨rfl,hi,h⟩ hin
   unfold qbb.b1
   refine qxc (fun g=>?_) (fun g=>?_)
   · have hi2:i < 32:=by omega
     refine h.pushI (s:=d) (by rw [List.length_take]; omega) fun d2 w h=>?_
     refine qw (qi (by omega) (by omega)) ?_
     rw [show (5:Int)=qme.getD i 0 by rw [qkq hi2],← qrg (by rw [qch]; exact hi2)] at h
     exact ⟨rfl,hin (i+1) _ _ _ ⟨by omega,by omega,h⟩ (by omega)⟩
   · have:i=32:=by omega
     subst this
     rw [List.take_of_length_le (by rw [qch]; omega)] at h
     unfold qbb.j3
     have c1:=h.cap (by decide)
     have c2:=h.at1.cap (by decide)
     have l1:=h.len
     have l2:=h.at1.len
     rw [qx,qch] at l1
     rw [qx,qqg] at l2
     refine qxk.c h.at1.ro c2 fun s h1 h2 h=>⟨s,rfl,?_⟩
     refine qxk.c h.at1.ro c1 fun t h3 h4 h=>⟨t,rfl,?_⟩
     exact hk s t wL2 (by omega) (by omega) h.at1
theorem zcoded_len {ll dl:List Int} {B:List Bool} (hm:most≤1000000):∀ f (z:Z),z.2.1.length≤1000000→(qzd ll dl B most f z).2.1.length≤1000000:=by
 intro f
 induction f with
 | zero=>intro z h; exact h
 | succ f ih =>
   intro z h
   rw [qzd]
   split
   · exact h
   · simp only
     split
     · rw [qeh]; exact h
     · split
       · exact ih _ (qti _ hm (by rw [qeh]; exact h))
       · exact ih _ (qom dl _ hm (by rw [qeh]; exact h))
end
end Go.Proofs.YthdmmmfgjmmelaaGreat
namespace Go.Proofs.YthdmmmfgjmmelaaGreat
open Go Go.Proofs
set_option linter.unusedVariables false
set_option maxRecDepth 100000
def qkb.j4 (lit_2 dist_4:Sl) (Q:VWP) (w:World):Prop :=
 Q (.tuple ⟨[.slice lit_2.a lit_2.len lit_2.cap,.slice dist_4.a dist_4.len dist_4.cap]⟩) w
def qkb.b1 (lit_2 dist_4:Sl) (i_5:Int) (Q:VWP) (nx1:Sl→Sl→Int→World→Prop) (w:World):Prop :=
 br (decide ((i_5:Int) < 32)) (
 ixS dist_4.a dist_4.len i_5 1 fun a1 =>
 st w a1 (.int .i64 5) fun w2 =>
 lt (IntKind.i64.wrap (i_5+1)) fun x3 =>
 nx1 lit_2 dist_4 x3 w2) (
 qkb.j4 lit_2 dist_4 Q w)
def qkb.l1 (lit_2 dist_4:Sl) (i_5:Int) (Q:VWP) (w:World):Prop :=
 ∃ (I:Int→World→Prop) (μ:Int→World→Nat),I i_5 w∧∀ i_5:Int,∀ w:World,I i_5 w→qkb.b1 lit_2 dist_4 i_5 Q (fun lit_2' dist_4' i_5' w'=>(lit_2'=lit_2∧dist_4'=dist_4)∧I i_5' w'∧μ i_5' w' < μ i_5 w) w
def qkb.j5 (lit_2 dist_4:Sl) (i_5:Int) (Q:VWP) (w:World):Prop :=
 qkb.l1 lit_2 dist_4 i_5 Q w
def qkb.j3 (lit_2 dist_4:Sl) (Q:VWP) (w:World):Prop :=
 qkb.j5 lit_2 dist_4 0 Q w
def qkb.j2 (lit_2:Sl) (Q:VWP) (w:World):Prop :=
 mkK Tryz.prog 3 w 32 32 fun s4 w5 =>
 qkb.j3 lit_2 s4 Q w5
def qkb.b2 (lit_2:Sl) (i_3:Int) (Q:VWP) (nx2:Sl→Int→World→Prop) (w:World):Prop :=
 br (decide ((i_3:Int) < 288)) (
 br (decide ((i_3:Int) < 144)) (
 ixS lit_2.a lit_2.len i_3 1 fun a6 =>
 st w a6 (.int .i64 8) fun w7 =>
 lt (IntKind.i64.wrap (i_3+1)) fun x8 =>
 nx2 lit_2 x8 w7) (
 br (decide ((i_3:Int) < 256)) (
 ixS lit_2.a lit_2.len i_3 1 fun a9 =>
 st w a9 (.int .i64 9) fun w10 =>
 lt (IntKind.i64.wrap (i_3+1)) fun x11 =>
 nx2 lit_2 x11 w10) (
 br (decide ((i_3:Int) < 280)) (
 ixS lit_2.a lit_2.len i_3 1 fun a12 =>
 st w a12 (.int .i64 7) fun w13 =>
 lt (IntKind.i64.wrap (i_3+1)) fun x14 =>
 nx2 lit_2 x14 w13) (
 ixS lit_2.a lit_2.len i_3 1 fun a15 =>
 st w a15 (.int .i64 8) fun w16 =>
 lt (IntKind.i64.wrap (i_3+1)) fun x17 =>
 nx2 lit_2 x17 w16)))) (
 qkb.j2 lit_2 Q w)
def qkb.l2 (lit_2:Sl) (i_3:Int) (Q:VWP) (w:World):Prop :=
 ∃ (I:Int→World→Prop) (μ:Int→World→Nat),I i_3 w∧∀ i_3:Int,∀ w:World,I i_3 w→qkb.b2 lit_2 i_3 Q (fun lit_2' i_3' w'=>(lit_2'=lit_2)∧I i_3' w'∧μ i_3' w' < μ i_3 w) w
def qkb.j6 (lit_2:Sl) (i_3:Int) (Q:VWP) (w:World):Prop :=
 qkb.l2 lit_2 i_3 Q w
def qkb.j1 (lit_2:Sl) (Q:VWP) (w:World):Prop :=
 qkb.j6 lit_2 0 Q w
def qkb  (Q:VWP) (w:World):Prop :=
 mkK Tryz.prog 3 w 288 288 fun s18 w19 =>
 qkb.j1 s18 Q w19
theorem qkb.ok  (Q:VWP) (w:World) (h:qkb  Q w):Calls Tryz.prog 218 ⟨[]⟩ w (Ret Q):=by
 refine qp [.tmp 0,.tmp 1] Tryz.func218 rfl rfl rfl rfl ?_
 refine qfb qpb (fun ρ w=>asL (ρ 2) fun lit_2=>qkb.j1 lit_2 Q w) (Eq.mp (by kernel_rfl) h) ?_
 intro ρ w h
 obtain ⟨lit_2,e2,h⟩:=ql h
 refine qb e2 ?_
 refine qu (fun ρ w=>asL (ρ 2) fun lit_2=>qkb.j2 lit_2 Q w) ?_ ?_
 · skip
   refine qu (fun ρ w=>asL (ρ 2) fun lit_2=>asI .i64 (ρ 3) fun i_3=>qkb.j6 lit_2 i_3 Q w) ?_ ?_
   · skip
     exact qg qpb _ (Eq.mp (by kernel_rfl) h)
   · intro ρ w h
     obtain ⟨lit_2,e2,h⟩:=ql h
     obtain ⟨i_3,e3,h⟩:=qd h
     refine qb e2 (qb (qa e3 rfl) ?_)
     refine qcb ?_
     obtain ⟨I,μ,hI,hr⟩:=h
     refine qlb (α:=Int) (fun s ρ=>ρ 3=.int .i64 s∧ρ 2=.slice lit_2.a lit_2.len lit_2.cap) (fun s w=>I s w) (fun s w=>μ s w) i_3 ⟨rfl,rfl⟩ hI ?_
     rintro i_3 ρ w ⟨e3,e2⟩ hI
     have h:=hr i_3 w hI
     clear hr
     obtain ⟨nx2,hnx⟩:∃ nx:Sl→Int→World→Prop,nx=(fun lit_2' i_3' w'=>(lit_2'=lit_2)∧I i_3' w'∧μ i_3' w' < μ i_3 w):=⟨_,rfl⟩
     rw [← hnx] at h
     refine qsb (M:=fun ρ w=>asL (ρ 2) fun lit_2=>asI .i64 (ρ 3) fun i_3=>nx2 lit_2 i_3 w) ?_ (fun ρ w h=>?_)
     · skip
       refine qb e2 (qb (qa e3 rfl) ?_)
       exact qg qpb _ (Eq.mp (by kernel_rfl) h)
     · skip
       obtain ⟨lit_2',e2',h⟩:=ql h
       obtain ⟨i_3',e3',h⟩:=qd h
       rw [hnx] at h
       obtain ⟨hu,hI2,hμ⟩:=h
       obtain rfl:=hu
       exact ⟨i_3',⟨e3',e2'⟩,hI2,hμ⟩
 · intro ρ w h
   obtain ⟨lit_2,e2,h⟩:=ql h
   refine qb e2 ?_
   refine qu (fun ρ w=>asL (ρ 2) fun lit_2=>asL (ρ 4) fun dist_4=>qkb.j3 lit_2 dist_4 Q w) ?_ ?_
   · skip
     exact qg qpb _ (Eq.mp (by kernel_rfl) h)
   · intro ρ w h
     obtain ⟨lit_2,e2,h⟩:=ql h
     obtain ⟨dist_4,e4,h⟩:=ql h
     refine qb e2 (qb (qa e4 rfl) ?_)
     refine qu (fun ρ w=>asL (ρ 2) fun lit_2=>asL (ρ 4) fun dist_4=>qkb.j4 lit_2 dist_4 Q w) ?_ ?_
     · skip
       refine qu (fun ρ w=>asL (ρ 2) fun lit_2=>asL (ρ 4) fun dist_4=>asI .i64 (ρ 5) fun i_5=>qkb.j5 lit_2 dist_4 i_5 Q w) ?_ ?_
       · skip
         exact qg qpb _ (Eq.mp (by kernel_rfl) h)
       · intro ρ w h
         obtain ⟨lit_2,e2,h⟩:=ql h
         obtain ⟨dist_4,e4,h⟩:=ql h
         obtain ⟨i_5,e5,h⟩:=qd h
         refine qb e2 (qb (qa e4 rfl) (qb (qa (qa e5 rfl) rfl) ?_))
         refine qcb ?_
         obtain ⟨I,μ,hI,hr⟩:=h
         refine qlb (α:=Int) (fun s ρ=>ρ 5=.int .i64 s∧ρ 2=.slice lit_2.a lit_2.len lit_2.cap∧ρ 4=.slice dist_4.a dist_4.len dist_4.cap) (fun s w=>I s w) (fun s w=>μ s w) i_5 ⟨rfl,rfl,rfl⟩ hI ?_
         rintro i_5 ρ w ⟨e5,e2,e4⟩ hI
         have h:=hr i_5 w hI
         clear hr
         obtain ⟨nx1,hnx⟩:∃ nx:Sl→Sl→Int→World→Prop,nx=(fun lit_2' dist_4' i_5' w'=>(lit_2'=lit_2∧dist_4'=dist_4)∧I i_5' w'∧μ i_5' w' < μ i_5 w):=⟨_,rfl⟩
         rw [← hnx] at h
         refine qsb (M:=fun ρ w=>asL (ρ 2) fun lit_2=>asL (ρ 4) fun dist_4=>asI .i64 (ρ 5) fun i_5=>nx1 lit_2 dist_4 i_5 w) ?_ (fun ρ w h=>?_)
         · skip
           refine qb e2 (qb (qa e4 rfl) (qb (qa (qa e5 rfl) rfl) ?_))
           exact qg qpb _ (Eq.mp (by kernel_rfl) h)
         · skip
           obtain ⟨lit_2',e2',h⟩:=ql h
           obtain ⟨dist_4',e4',h⟩:=ql h
           obtain ⟨i_5',e5',h⟩:=qd h
           rw [hnx] at h
           obtain ⟨hu,hI2,hμ⟩:=h
           obtain ⟨rfl,rfl⟩:=hu
           exact ⟨i_5',⟨e5',e2',e4'⟩,hI2,hμ⟩
     · intro ρ w h
       obtain ⟨lit_2,e2,h⟩:=ql h
       obtain ⟨dist_4,e4,h⟩:=ql h
       refine qb e2 (qb (qa e4 rfl) ?_)
       exact qg qpb _ (Eq.mp (by kernel_rfl) h)
def qpf (sym_0:Int) (Q:VWP) (w:World):Prop :=
 lt (⟨World.heapSize w,0,none⟩:Addr) fun a1 =>
 lt (World.alloc w (.cells ⟨[.int .i64 3,.int .i64 4,.int .i64 5,.int .i64 6,.int .i64 7,.int .i64 8,.int .i64 9,.int .i64 10,.int .i64 11,.int .i64 13,.int .i64 15,.int .i64 17,.int .i64 19,.int .i64 23,.int .i64 27,.int .i64 31,.int .i64 35,.int .i64 43,.int .i64 51,.int .i64 59,.int .i64 67,.int .i64 83,.int .i64 99,.int .i64 115,.int .i64 131,.int .i64 163,.int .i64 195,.int .i64 227,.int .i64 258]⟩ 3)) fun w2 =>
 lt (⟨World.heapSize w2,0,none⟩:Addr) fun a3 =>
 lt (World.alloc w2 (.cells ⟨[.int .i64 0,.int .i64 0,.int .i64 0,.int .i64 0,.int .i64 0,.int .i64 0,.int .i64 0,.int .i64 0,.int .i64 1,.int .i64 1,.int .i64 1,.int .i64 1,.int .i64 2,.int .i64 2,.int .i64 2,.int .i64 2,.int .i64 3,.int .i64 3,.int .i64 3,.int .i64 3,.int .i64 4,.int .i64 4,.int .i64 4,.int .i64 4,.int .i64 5,.int .i64 5,.int .i64 5,.int .i64 5,.int .i64 0]⟩ 3)) fun w4 =>
 br (decide ((sym_0:Int) < 257)) (
 Q (.tuple ⟨[.int .i64 0,.int .i64 0,.bool false]⟩) w4) (
 br (decide ((sym_0:Int) > 285)) (
 Q (.tuple ⟨[.int .i64 0,.int .i64 0,.bool false]⟩) w4) (
 lt (World.drew w4) fun w5 =>
 lt (IntKind.i64.wrap (sym_0 - 257)) fun x6 =>
 ixS (some a1) 29 x6 1 fun a7 =>
 ldI .i64 w5 a7 fun x8 =>
 lt (IntKind.i64.wrap (sym_0 - 257)) fun x9 =>
 ixS (some a3) 29 x9 1 fun a10 =>
 ldI .i64 w5 a10 fun x11 =>
 Q (.tuple ⟨[.int .i64 x8,.int .i64 x11,.bool true]⟩) w5))
theorem qpf.ok (sym_0:Int) (Q:VWP) (w:World) (h:qpf sym_0 Q w):Calls Tryz.prog 294 ⟨[.int .i64 sym_0]⟩ w (Ret Q):=by
 refine qp [.tmp 2,.tmp 3,.tmp 4] Tryz.func294 rfl rfl rfl rfl ?_
 exact qg qpb _ (Eq.mp (by kernel_rfl) h)
def qze (sym_0:Int) (Q:VWP) (w:World):Prop :=
 lt (⟨World.heapSize w,0,none⟩:Addr) fun a1 =>
 lt (World.alloc w (.cells ⟨[.int .i64 1,.int .i64 2,.int .i64 3,.int .i64 4,.int .i64 5,.int .i64 7,.int .i64 9,.int .i64 13,.int .i64 17,.int .i64 25,.int .i64 33,.int .i64 49,.int .i64 65,.int .i64 97,.int .i64 129,.int .i64 193,.int .i64 257,.int .i64 385,.int .i64 513,.int .i64 769,.int .i64 1025,.int .i64 1537,.int .i64 2049,.int .i64 3073,.int .i64 4097,.int .i64 6145,.int .i64 8193,.int .i64 12289,.int .i64 16385,.int .i64 24577]⟩ 3)) fun w2 =>
 lt (⟨World.heapSize w2,0,none⟩:Addr) fun a3 =>
 lt (World.alloc w2 (.cells ⟨[.int .i64 0,.int .i64 0,.int .i64 0,.int .i64 0,.int .i64 1,.int .i64 1,.int .i64 2,.int .i64 2,.int .i64 3,.int .i64 3,.int .i64 4,.int .i64 4,.int .i64 5,.int .i64 5,.int .i64 6,.int .i64 6,.int .i64 7,.int .i64 7,.int .i64 8,.int .i64 8,.int .i64 9,.int .i64 9,.int .i64 10,.int .i64 10,.int .i64 11,.int .i64 11,.int .i64 12,.int .i64 12,.int .i64 13,.int .i64 13]⟩ 3)) fun w4 =>
 br (decide ((sym_0:Int) < 0)) (
 Q (.tuple ⟨[.int .i64 0,.int .i64 0,.bool false]⟩) w4) (
 br (decide ((sym_0:Int) > 29)) (
 Q (.tuple ⟨[.int .i64 0,.int .i64 0,.bool false]⟩) w4) (
 lt (World.drew w4) fun w5 =>
 ixS (some a1) 30 sym_0 1 fun a6 =>
 ldI .i64 w5 a6 fun x7 =>
 ixS (some a3) 30 sym_0 1 fun a8 =>
 ldI .i64 w5 a8 fun x9 =>
 Q (.tuple ⟨[.int .i64 x7,.int .i64 x9,.bool true]⟩) w5))
theorem qze.ok (sym_0:Int) (Q:VWP) (w:World) (h:qze sym_0 Q w):Calls Tryz.prog 295 ⟨[.int .i64 sym_0]⟩ w (Ret Q):=by
 refine qp [.tmp 2,.tmp 3,.tmp 4] Tryz.func295 rfl rfl rfl rfl ?_
 exact qg qpb _ (Eq.mp (by kernel_rfl) h)
end Go.Proofs.YthdmmmfgjmmelaaGreat
namespace Go.Proofs.YthdmmmfgjmmelaaGreat
open Go Go.Proofs
set_option linter.unusedVariables false
set_option linter.unusedSimpArgs false
attribute [local irreducible] apK cpK mkK br
def tLenB:List Int:=[3,4,5,6,7,8,9,10,11,13,15,17,19,23,27,31,35,43,51,59,67,83,99,115,131,163,195,227,258]
def tLenX:List Int:=[0,0,0,0,0,0,0,0,1,1,1,1,2,2,2,2,3,3,3,3,4,4,4,4,5,5,5,5,0]
def tDisB:List Int:=[1,2,3,4,5,7,9,13,17,25,33,49,65,97,129,193,257,385,513,769,1025,1537,2049,3073,4097,6145,8193,12289,16385,24577]
def tDisX:List Int:=[0,0,0,0,1,1,2,2,3,3,4,4,5,5,6,6,7,7,8,8,9,9,10,10,11,11,12,12,13,13]
theorem zlen_t {v:Int} (h0:257≤v) (h1:v≤285):qri v=(tLenB.getD (v - 257).toNat 0,tLenX.getD (v - 257).toNat 0,true):=by
 have:∀ k:Nat,k < 29→qri (257+(k:Int))=(tLenB.getD k 0,tLenX.getD k 0,true):=by decide
 have h:=this (v - 257).toNat (by omega)
 rwa [show (257:Int)+((v - 257).toNat:Int)=v by omega] at h
theorem zdis_t {v:Int} (h0:0≤v) (h1:v≤29):qei v=(tDisB.getD v.toNat 0,tDisX.getD v.toNat 0,true):=by
 have:∀ k:Nat,k < 30→qei (k:Int)=(tDisB.getD k 0,tDisX.getD k 0,true):=by decide
 have h:=this v.toNat (by omega)
 rwa [show ((v.toNat:Nat):Int)=v by omega] at h
section
variable {F0:List Nat} {w0 w:World} {ps rest rest2:List As}
theorem qpf.c {v:Int} {K:Ending→World→Prop} (h:St F0 w0 w ps) (hk:∀ w',St F0 w0 w' ps→K (.returned (.tuple ⟨[.int .i64 (qri v).1,.int .i64 (qri v).2.1,.bool (qri v).2.2]⟩)) w') :
 Calls Tryz.prog 294 ⟨[.int .i64 v]⟩ w K:=by
 refine qnc (qpf.ok _ _ _ ?_)
 unfold qpf
 refine h.new fun na w h=>?_
 refine h.new fun nb w h=>?_
 have h:St F0 w0 w (qjd nb (ivs .i64 tLenX) :: qjd na (ivs .i64 tLenB) :: ps):=h
 have no:¬ (257≤v∧v≤285)→K (.returned (.tuple ⟨[.int .i64 0,.int .i64 0,.bool false]⟩)) w:=fun e=>by
  have:=hk w h.drop.drop
  unfold qri at this
  rw [if_pos (by omega)] at this
  exact this
 refine qxc (fun g=>no (by omega)) (fun g=>?_)
 refine qxc (fun g2=>no (by omega)) (fun g2=>?_)
 have h:=h.ownB (n:=29) rfl
 have h:=h.at1.ownB (n:=29) rfl
 refine h.drewK fun w h=>?_
 refine qw (qi (by omega) (by omega)) ?_
 refine h.lx (s:=⟨some ⟨na,0,none⟩,29,29⟩) (zs:=tLenB) (k:=.i64) (v - 257).toNat (by omega) (by show _ < 29; omega) ?_
 refine qw (qi (by omega) (by omega)) ?_
 refine h.lx (s:=⟨some ⟨nb,0,none⟩,29,29⟩) (zs:=tLenX) (k:=.i64) (v - 257).toNat (by omega) (by show _ < 29; omega) ?_
 have:=hk w h.drop.drop
 rw [zlen_t (by omega) (by omega)] at this
 exact this
theorem qze.c {v:Int} {K:Ending→World→Prop} (h:St F0 w0 w ps) (hk:∀ w',St F0 w0 w' ps→K (.returned (.tuple ⟨[.int .i64 (qei v).1,.int .i64 (qei v).2.1,.bool (qei v).2.2]⟩)) w') :
 Calls Tryz.prog 295 ⟨[.int .i64 v]⟩ w K:=by
 refine qnc (qze.ok _ _ _ ?_)
 unfold qze
 refine h.new fun na w h=>?_
 refine h.new fun nb w h=>?_
 have h:St F0 w0 w (qjd nb (ivs .i64 tDisX) :: qjd na (ivs .i64 tDisB) :: ps):=h
 have no:¬ (0≤v∧v≤29)→K (.returned (.tuple ⟨[.int .i64 0,.int .i64 0,.bool false]⟩)) w:=fun e=>by
  have:=hk w h.drop.drop
  unfold qei at this
  rw [if_pos (by omega)] at this
  exact this
 refine qxc (fun g=>no (by omega)) (fun g=>?_)
 refine qxc (fun g2=>no (by omega)) (fun g2=>?_)
 have h:=h.ownB (n:=30) rfl
 have h:=h.at1.ownB (n:=30) rfl
 refine h.drewK fun w h=>?_
 refine h.lx (s:=⟨some ⟨na,0,none⟩,30,30⟩) (zs:=tDisB) (k:=.i64) v.toNat (by omega) (by show _ < 30; omega) ?_
 refine h.lx (s:=⟨some ⟨nb,0,none⟩,30,30⟩) (zs:=tDisX) (k:=.i64) v.toNat (by omega) (by show _ < 30; omega) ?_
 have:=hk w h.drop.drop
 rw [zdis_t (by omega) (by omega)] at this
 exact this
theorem qkb.c {K:Ending→World→Prop} (h:St F0 w0 w ps)
 (hk:∀ s t w',s.len=288→t.len=32→St F0 w0 w' (qmc 1 t (ivs .i64 qme) :: qmc 1 s (ivs .i64 qih) :: ps)→K (.returned (.tuple ⟨[.slice s.a s.len s.cap,.slice t.a t.len t.cap]⟩)) w'):Calls Tryz.prog 218 ⟨[]⟩ w K:=by
 refine qnc (qkb.ok _ _ ?_)
 unfold qkb
 have step:∀ (l:List Int) (n i:Nat) (v:Int),l.length=n→i < n→v=l.getD i 0→(l.take i ++ List.replicate (n - i) (0:Int)).set i v=l.take (i+1) ++ List.replicate (n - (i+1)) 0:=by
  intro l n i v hn hi hv
  rw [qrg (by omega),← hv,List.set_append_right _ _ (by rw [List.length_take]; omega),List.length_take,show i - min i l.length=0 by omega,show n - i=(n - (i+1))+1 by omega,List.replicate_succ,List.set_cons_zero,List.append_assoc]
  rfl
 refine h.makeI (n:=288) rfl rfl (by decide) fun s w hs _ h=>?_
 unfold qkb.j1 qkb.j6
 refine qpg (fun (i:Nat) (i':Int) w'=>i'=i∧i≤288∧St F0 w0 w' (qmc 1 s (ivs .i64 (qih.take i ++ List.replicate (288 - i) 0)) :: ps)) (fun i=>288 - i) 0 ⟨rfl,by omega,h⟩ ?_
 clear h
 rintro i i' wL I μ ⟨rfl,hi,h⟩ hin
 unfold qkb.b2
 refine qxc (fun g=>?_) (fun g=>?_)
 · have hi2:i < 288:=by omega
   have hg:=qso hi2
   have fin:∀ v:Int,v=qih.getD i 0→ixS s.a s.len (i:Int) 1 fun a=>Go.Proofs.YthdmmmfgjmmelaaGreat.st wL a (.int .i64 v) fun w=>lt (IntKind.i64.wrap ((i:Int)+1)) fun x=>(s=s∧I x w∧μ x w < μ (i:Int) wL):=by
    intro v hv
    refine h.sx (s:=s) i rfl (by rw [List.length_append,List.length_take,List.length_replicate,qqg]; omega) fun w h=>?_
    rw [step qih 288 i v qqg hi2 hv] at h
    refine qw (qi (by omega) (by omega)) ?_
    exact ⟨rfl,hin (i+1) _ _ ⟨by omega,by omega,h⟩ (by omega)⟩
   refine qxc (fun g1=>?_) (fun g1=>?_)
   · exact fin 8 (by rw [hg,if_pos (by omega)])
   rw [if_neg (by omega)] at hg
   refine qxc (fun g2=>?_) (fun g2=>?_)
   · exact fin 9 (by rw [hg,if_pos (by omega)])
   rw [if_neg (by omega)] at hg
   refine qxc (fun g3=>?_) (fun g3=>?_)
   · exact fin 7 (by rw [hg,if_pos (by omega)])
   · exact fin 8 (by rw [hg,if_neg (by omega)])
 · have:i=288:=by omega
   subst this
   rw [List.take_of_length_le (by rw [qqg]; omega),Nat.sub_self,List.replicate_zero,List.append_nil] at h
   unfold qkb.j2
   clear hin
   refine h.makeI (n:=32) rfl rfl (by decide) fun t w ht _ h=>?_
   unfold qkb.j3 qkb.j5
   refine qpg (fun (i:Nat) (i':Int) w'=>i'=i∧i≤32∧St F0 w0 w' (qmc 1 t (ivs .i64 (qme.take i ++ List.replicate (32 - i) 0)) :: qmc 1 s (ivs .i64 qih) :: ps)) (fun i=>32 - i) 0 ⟨rfl,by omega,h⟩ ?_
   clear h
   rintro i i' wL I μ ⟨rfl,hi,h⟩ hin
   unfold qkb.b1
   refine qxc (fun g=>?_) (fun g=>?_)
   · have hi2:i < 32:=by omega
     refine h.sx (s:=t) i rfl (by rw [List.length_append,List.length_take,List.length_replicate,qch]; omega) fun w h=>?_
     rw [step qme 32 i 5 qch hi2 (qkq hi2).symm] at h
     refine qw (qi (by omega) (by omega)) ?_
     exact ⟨⟨rfl,rfl⟩,hin (i+1) _ _ ⟨by omega,by omega,h⟩ (by omega)⟩
   · have:i=32:=by omega
     subst this
     rw [List.take_of_length_le (by rw [qch]; omega),Nat.sub_self,List.replicate_zero,List.append_nil] at h
     unfold qkb.j4
     exact hk s t wL hs ht h
theorem flit_ok:okL qih:=by
 intro x hx
 unfold qih at hx
 simp only [List.mem_append,List.mem_replicate] at hx
 omega
theorem fdist_ok:okL qme:=by
 intro x hx
 unfold qme at hx
 simp only [List.mem_replicate] at hx
 omega
theorem kr_flit:kr qih=32768:=by kernel_rfl
theorem kr_fdist:kr qme=32768:=by kernel_rfl
end
end Go.Proofs.YthdmmmfgjmmelaaGreat
namespace Go.Proofs.YthdmmmfgjmmelaaGreat
open Go Go.Proofs
set_option linter.unusedVariables false
set_option linter.unusedSimpArgs false
def quc (ls:List Int) (s:Nat):List Bool:=cbits (qmf ls s) (ls.getD s 0).toNat
theorem qmi (ls:List Int) (s:Nat):(quc ls s).length=(ls.getD s 0).toNat:=qtl _ _
section
variable {B:List Bool} {most:Int}
theorem qoc {p:Nat} {l r:List Bool} (h:B.drop p=l ++ r):B.drop (p+l.length)=r:=by
 rw [← List.drop_drop,h,List.drop_left' rfl]
theorem qvc {p:Nat} {l r:List Bool} (h:B.drop p=l ++ r):l.length≤B.length - p:=by
 have:=congrArg List.length h
 rw [List.length_drop,List.length_append] at this
 omega
theorem qbg {p:Nat} {l r:List Bool} {out:List Int} {n:Int} (h:B.drop p=l ++ r) (hn:n=l.length) (hl:l.length≤24) (hp:p≤B.length):qie B n (p,out,0)=((val l:Int),(p+l.length,out,0)):=by
 have:=qvc h
 unfold qie
 rw [if_neg (by simp),if_pos (by simp only; omega),h,hn,Int.toNat_natCast,List.take_left' rfl]
theorem zsym_at {ls:List Int} {p s:Nat} {r:List Bool} {out:List Int} (hok:okL ls) (hkr:kr ls≤32768) (hs:s < ls.length) (h0:0 < ls.getD s 0) (h:B.drop p=quc ls s ++ r):qxi ls B (p,out,0)=((s:Int),(p+(quc ls s).length,out,0)):=by
 have hm:ls.getD s 0=(((ls.getD s 0).toNat:Nat):Int):=by omega
 have h1:=hnext_code hok hs hm (by omega) (b:=B) (p:=p) (by rw [h]; exact List.take_left' (qmi ls s)) (qnr hok hkr hs hm (by omega))
 unfold qxi
 rw [if_neg (by simp),h1,qmi]
theorem zlit_at {p s:Nat} {r:List Bool} {out:List Int} (hs:s < 288) (h:B.drop p=quc qih s ++ r):qxi qih B (p,out,0)=((s:Int),(p+(quc qih s).length,out,0)) :=
 zsym_at flit_ok (by rw [kr_flit]; decide) (by rw [qqg]; exact hs) (by rw [qso hs]; split; decide; split; decide; split <;> decide) h
theorem zdist_at {p s:Nat} {r:List Bool} {out:List Int} (hs:s < 32) (h:B.drop p=quc qme s ++ r):qxi qme B (p,out,0)=((s:Int),(p+(quc qme s).length,out,0)) :=
 zsym_at fdist_ok (by rw [kr_fdist]; decide) (by rw [qch]; exact hs) (by rw [qkq hs]; decide) h
theorem zcp_full (p:Nat) (d:Int):∀ (n:Nat) (out:List Int),(out.length+n:Int)≤most→zcp most d n (p,out,0)=(p,tkCopy d n out,0):=by
 intro n
 induction n with
 | zero=>intro out _; rfl
 | succ n ih =>
   intro out h
   rw [zcp,if_neg (by simp),tkCopy]
   simp only
   unfold qlm
   rw [if_neg (by simp),if_neg (by simp only; omega)]
   simp only
   exact ih _ (by rw [List.length_append,List.length_singleton]; omega)
theorem zcp_bad (d:Int) (n:Nat) {z:Z} (h:z.2.2 ≠ 0):zcp most d n z=z:=by
 cases n with
 | zero=>rfl
 | succ n=>rw [zcp,if_pos h]
theorem zcp_short (p:Nat) (d:Int):∀ (n:Nat) (out:List Int),(out.length:Int)≤most→most < (out.length+n:Int)→(zcp most d n (p,out,0)).2.2=5:=by
 intro n
 induction n with
 | zero=>intro out h1 h2; omega
 | succ n ih =>
   intro out h1 h2
   rw [zcp,if_neg (by simp)]
   simp only
   unfold qlm
   rw [if_neg (by simp)]
   by_cases h3:most≤(out.length:Int)
   · rw [if_pos h3,zcp_bad _ _ (by simp)]
   · rw [if_neg h3]
     simp only
     exact ih _ (by rw [List.length_append,List.length_singleton]; omega) (by rw [List.length_append,List.length_singleton]; omega)
def symP (v:Int) (dist:Bool) (n e x:Int):Prop :=
 (dist=true∧0≤n∧n < 30∧∃ b,qei n=(b,x,true)∧e=v - b∧b≤v∧v < b+2 ^ x.toNat∧0≤x) ∨
 (dist=false∧257≤n∧n≤285∧∃ b,qri n=(b,x,true)∧e=v - b∧b≤v∧v < b+2 ^ x.toNat∧0≤x)
inductive Fx:List Bool→List Int→Prop
 | nil:Fx [] []
 | lit {bits:List Bool} {out:List Int} {b:Int} (h:Fx bits out) (h0:0≤b) (h1:b < 256):Fx (bits ++ quc qih b.toNat) (out ++ [b])
 | copy {bits:List Bool} {out:List Int} {n d s e x s2 e2 x2:Int} (h:Fx bits out) (h3:3≤n) (h258:n≤258) (hd:1≤d) (hdo:d≤out.length) (hs:symP n false s e x) (hs2:symP d true s2 e2 x2) :
    Fx (bits ++ (quc qih s.toNat ++ (qm e x.toNat ++ (quc qme s2.toNat ++ qm e2 x2.toNat)))) (tkCopy d n.toNat out)
theorem qcf {e x:Int} (h0:0≤e) (h1:e < 2 ^ x.toNat):((val (qm e x.toNat):Nat):Int)=e:=by
 rw [qwj]
 exact Int.emod_eq_of_lt h0 h1
theorem zlen_x (v:Int):(qri v).2.1≤6:=by
 have:=(zlen_b v).2.2
 omega
theorem zdis_x (v:Int):(qei v).2.1≤14:=by
 have:=(zdis_b v).2.2.1
 omega
theorem qer {p:Nat} {r:List Bool} {out:List Int} {n d s e x s2 e2 x2:Int} (hn:3≤n) (hs:symP n false s e x) (hs2:symP d true s2 e2 x2) (hd:1≤d) (hp:p≤B.length)
 (h:B.drop p=qm e x.toNat ++ (quc qme s2.toNat ++ (qm e2 x2.toNat ++ r))) :
 zbehind qme B most s (p,out,0)=zcp most d n.toNat (if (out.length:Int) < d then qdd 2 (p+((qm e x.toNat).length+((quc qme s2.toNat).length+(qm e2 x2.toNat).length)),out,0) else (p+((qm e x.toNat).length+((quc qme s2.toNat).length+(qm e2 x2.toNat).length)),out,0)):=by
 rcases hs with ⟨h1,_⟩ | ⟨_,hs0,hs1,b,hz,he,hb1,hb2,hx0⟩
 · cases h1
 rcases hs2 with ⟨_,hs20,hs21,b2,hz2,he2,hb3,hb4,hx20⟩ | ⟨h1,_⟩
 rotate_left
 · cases h1
 have hx:=zlen_x s
 have hx2:=zdis_x s2
 rw [hz] at hx
 rw [hz2] at hx2
 simp only at hx hx2
 have l1:=qvc h
 have h':=qoc h
 have l2:=qvc h'
 have h'':=qoc h'
 have l3:=qvc h''
 unfold zbehind
 simp only [hz]
 unfold zok
 simp only [if_true]
 rw [qbg h (by rw [qq]; omega) (by rw [qq]; omega) hp]
 simp only
 rw [zdist_at (by omega) h']
 simp only
 rw [show ((s2.toNat:Nat):Int)=s2 by omega]
 simp only [hz2]
 simp only [if_true]
 rw [qbg h'' (by rw [qq]; omega) (by rw [qq]; omega) (by omega)]
 simp only
 rw [qcf (by omega) (by omega),qcf (by omega) (by omega),show b2+e2=d by omega,show b+e=n by omega]
 rw [show p+(qm e x.toNat).length+(quc qme s2.toNat).length+(qm e2 x2.toNat).length=p+((qm e x.toNat).length+((quc qme s2.toNat).length+(qm e2 x2.toNat).length)) by omega]
theorem qdn {s:Nat} (hs:s < 288):1≤(quc qih s).length:=by
 rw [qmi,qso hs]
 split
 · decide
 · split
   · decide
   · split <;> decide
theorem qar {p:Nat} {r:List Bool} {out:List Int} {b:Int} (h0:0≤b) (h1:b < 256) (f:Nat) (h:B.drop p=quc qih b.toNat ++ r) :
 qzd qih qme B most (f+1) (p,out,0)=qzd qih qme B most f (qlm most b (p+(quc qih b.toNat).length,out,0)):=by
 rw [qzd,if_neg (by simp)]
 simp only
 rw [zlit_at (by omega) h]
 simp only
 rw [if_neg (by omega),if_pos (by omega),show ((b.toNat:Nat):Int)=b by omega]
theorem qep {p:Nat} {r:List Bool} {out:List Int} {s:Int} (h0:257≤s) (h1:s≤285) (f:Nat) (h:B.drop p=quc qih s.toNat ++ r) :
 qzd qih qme B most (f+1) (p,out,0)=qzd qih qme B most f (zbehind qme B most s (p+(quc qih s.toNat).length,out,0)):=by
 rw [qzd,if_neg (by simp)]
 simp only
 rw [zlit_at (by omega) h]
 simp only
 rw [if_neg (by omega),if_neg (by omega),show ((s.toNat:Nat):Int)=s by omega]
theorem qbr (f:Nat) {z:Z} (h:z.2.2 ≠ 0):qzd qih qme B most f z=z:=by
 cases f with
 | zero=>rfl
 | succ f=>rw [qzd,if_pos h]
theorem qwl {n s e x:Int} (h:symP n false s e x):257≤s∧s≤285:=by
 rcases h with ⟨h1,_⟩ | ⟨_,h1,h2,_⟩
 · cases h1
 · exact ⟨h1,h2⟩
theorem Fx.dec {bits:List Bool} {out:List Int} (h:Fx bits out):∀ {p:Nat} {r:List Bool},p≤B.length→B.drop p=bits ++ r→(out.length:Int)≤most →
 ∃ k,k≤bits.length∧∀ f,qzd qih qme B most (f+k) (p,[],0)=qzd qih qme B most f (p+bits.length,out,0):=by
 induction h with
 | nil=>intro p r hp hd hm; exact ⟨0,Nat.le_refl _,fun f=>rfl⟩
 | @lit bits out b h h0 h1 ih =>
   intro p r hp hd hm
   rw [List.length_append,List.length_singleton] at hm
   rw [List.append_assoc] at hd
   obtain ⟨k,hk,ih⟩:=ih hp hd (by omega)
   have hs:=qdn (s:=b.toNat) (by omega)
   refine ⟨k+1,by rw [List.length_append]; omega,fun f=>?_⟩
   rw [show f+(k+1)=(f+1)+k by omega,ih,qar h0 h1 f (qoc hd)]
   unfold qlm
   rw [if_neg (by simp),if_neg (by simp only; omega),List.length_append,Nat.add_assoc]
 | @copy bits out n d s e x s2 e2 x2 h h3 h258 hdd hdo hs hs2 ih =>
   intro p r hp hd hm
   rw [qui] at hm
   rw [List.append_assoc] at hd
   obtain ⟨k,hk,ih⟩:=ih hp hd (by omega)
   have hr:=qwl hs
   have hsp:=qdn (s:=s.toNat) (by omega)
   refine ⟨k+1,by simp only [List.length_append]; omega,fun f=>?_⟩
   have l1:=qvc hd
   have hd2:=qoc hd
   rw [List.append_assoc] at hd2
   have l2:=qvc hd2
   have hd3:=qoc hd2
   simp only [List.append_assoc] at hd3
   rw [show f+(k+1)=(f+1)+k by omega,ih,qep hr.1 hr.2 f hd2,qer h3 hs hs2 hdd (by omega) hd3,if_neg (by omega),zcp_full _ _ _ _ (by omega)]
   simp only [List.length_append,Nat.add_assoc]
theorem Fx.short {bits:List Bool} {out:List Int} (h:Fx bits out):∀ {p:Nat} {r:List Bool},p≤B.length→B.drop p=bits ++ r→0≤most→most < (out.length:Int) →
 ∀ f,(qzd qih qme B most (f+bits.length) (p,[],0)).2.2=5:=by
 induction h with
 | nil=>intro p r hp hd h0 hm; simp at hm; omega
 | @lit bits out b h h0 h1 ih =>
   intro p r hp hd hm0 hm
   rw [List.append_assoc] at hd
   have hs:=qdn (s:=b.toNat) (by omega)
   intro f
   rw [List.length_append]
   by_cases hle:(out.length:Int)≤most
   · obtain ⟨k,hk,hdec⟩:=Fx.dec (most:=most) h hp hd hle
     rw [List.length_append,List.length_singleton] at hm
     rw [show f+(bits.length+(quc qih b.toNat).length)=((f+(bits.length - k)+((quc qih b.toNat).length - 1))+1)+k by omega,hdec,qar h0 h1 _ (qoc hd)]
     unfold qlm
     rw [if_neg (by simp),if_pos (by simp only; omega),qbr _ (by simp)]
   · rw [show f+(bits.length+(quc qih b.toNat).length)=(f+(quc qih b.toNat).length)+bits.length by omega]
     exact ih hp hd hm0 (by omega) _
 | @copy bits out n d s e x s2 e2 x2 h h3 h258 hdd hdo hs hs2 ih =>
   intro p r hp hd hm0 hm
   rw [List.append_assoc] at hd
   have hr:=qwl hs
   have hsp:=qdn (s:=s.toNat) (by omega)
   intro f
   rw [qui] at hm
   rw [List.length_append,List.length_append]
   by_cases hle:(out.length:Int)≤most
   · obtain ⟨k,hk,hdec⟩:=Fx.dec (most:=most) h hp hd hle
     have l1:=qvc hd
     have hd2:=qoc hd
     rw [List.append_assoc] at hd2
     have l2:=qvc hd2
     have hd3:=qoc hd2
     simp only [List.append_assoc] at hd3
     generalize (qm e x.toNat ++ (quc qme s2.toNat ++ qm e2 x2.toNat)).length=q
     rw [show f+(bits.length+((quc qih s.toNat).length+q))=((f+(bits.length - k)+((quc qih s.toNat).length - 1)+q)+1)+k by omega,hdec,qep hr.1 hr.2 _ hd2,qer h3 hs hs2 hdd (by omega) hd3,if_neg (by omega)]
     have h5:=zcp_short (most:=most) (p+bits.length+(quc qih s.toNat).length+((qm e x.toNat).length+((quc qme s2.toNat).length+(qm e2 x2.toNat).length))) d n.toNat out hle (by omega)
     rw [qbr _ (by rw [h5]; decide),h5]
   · rw [show f+(bits.length+((quc qih s.toNat).length+(qm e x.toNat ++ (quc qme s2.toNat ++ qm e2 x2.toNat)).length))=(f+((quc qih s.toNat).length+(qm e x.toNat ++ (quc qme s2.toNat ++ qm e2 x2.toNat)).length))+bits.length by omega]
     exact ih hp hd hm0 (by omega) _
end
end Go.Proofs.YthdmmmfgjmmelaaGreat
