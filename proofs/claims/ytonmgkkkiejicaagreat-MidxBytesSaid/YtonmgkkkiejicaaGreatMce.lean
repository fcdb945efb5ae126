/- Own texts as one, only what is reached (shake.py). -/
import Derived.Test.YtonmgkkkiejicaaGreatMcd
set_option linter.unusedSectionVars false
namespace Go.Proofs.YtonmgkkkiejicaaGreat
open Go Go.Proofs
set_option linter.unusedVariables false
set_option linter.unusedSimpArgs false
attribute [local irreducible] apK cpK mkK br
def clA (sz:Nat) (s:Sl) (cs:List Value):As where
 hd w F:=(s.a=none∧s.len=0∧cs=[]∧F=[]) ∨ ∃ ob rest,s.a=some ⟨ob,0,none⟩∧Blk w ob (cs ++ rest)∧cs.length=s.len * sz∧F=[ob]
 keep:=by
  rintro w w' F G (h | ⟨ob,rest,h1,hb,h2,rfl⟩) m hd
  · exact Or.inl h
  · exact Or.inr ⟨ob,rest,h1,hb.keep m (hd ob (by simp)),h2,rfl⟩
 lt:=by
  rintro w F (⟨_,_,_,rfl⟩ | ⟨ob,rest,h1,hb,h2,rfl⟩) x hx
  · cases hx
  · have:x=ob:=by simpa using hx
    subst this; exact hb.lt
section
variable {F0:List Nat} {w0 w:World} {ps rest:List As} {s:Sl} {sz:Nat} {cs:List Value} {xs:List Int}
theorem St.ocl (h:St F0 w0 w (qv sz s cs :: ps)):St F0 w0 w (clA sz s cs :: ps):=h.mp (by
 rintro F (⟨rfl,rfl,rfl⟩ | ⟨ob,rs,h1,hb,h2,h3,rfl⟩)
 · exact Or.inl ⟨rfl,rfl,rfl,rfl⟩
 · exact Or.inr ⟨ob,rs,h1,hb,h2,rfl⟩)
theorem St.recapC {s':Sl} (h:St F0 w0 w (clA sz s cs :: ps)) (ha:s'.a=s.a) (hl:s'.len=s.len):St F0 w0 w (clA sz s' cs :: ps):=h.mp (by
 rintro F (⟨h1,h2,h3,rfl⟩ | ⟨ob,rs,h1,hb,h2,rfl⟩)
 · exact Or.inl ⟨by rw [ha]; exact h1,by rw [hl]; exact h2,h3,rfl⟩
 · exact Or.inr ⟨ob,rs,by rw [ha]; exact h1,hb,by rw [hl]; exact h2,rfl⟩)
theorem St.clrd (h:St F0 w0 w (clA sz s cs :: ps)):Rd w sz s cs:=by
 obtain ⟨F,⟨h1,h2,rfl,_⟩ | ⟨ob,rs,h1,hb,h2,_⟩⟩:=h.get
 · exact ⟨by simp [h2],fun i hi=>by simp at hi⟩
 · refine ⟨h2,fun i hi=>⟨_,h1,?_⟩⟩
   rw [qmb,Nat.zero_add,hb.cell,List.getElem?_append_left hi]
instance Rdb.cl:Rdb F0 w0 s (clA sz s cs :: ps) sz cs:=⟨fun h=>h.clrd⟩
theorem qtc.cl {v:Int} {n:Nat} {K:Ending→World→Prop} (h:St F0 w0 w ps) (hr:Rd w 1 s (u8s xs)) (hL:xs.length≤1099511627776) (hn:n≤8)
 (hk:∀ s' w',s'.len=xs.length+n→s'.cap=s'.len→St F0 w0 w' (clA 1 s' (u8s (xs ++ beJ n n v)) :: ps)→K (.returned (.slice s'.a s'.len s'.cap)) w'):Calls Tryz.prog 53 ⟨[.slice s.a s.len s.cap,.int .i64 v,.int .i64 ((8 * n:Nat):Int)]⟩ w K:=by
 refine qsb (qtc.ok _ _ _ _ _ ?_)
 unfold qtc
 refine qhc.c h hr (by omega) fun s1 w h=>⟨s1,rfl,?_⟩
 unfold qtc.j1
 refine loop2 (fun (j:Nat) (b':Int) (o':Sl) w=>b'=((8 * (n - j):Nat):Int)∧j≤n∧St F0 w0 w (qv 1 o' (u8s (xs ++ beJ n j v)) :: ps)) (fun j=>n - j) 0 ⟨rfl,by omega,by simpa [beJ] using h⟩ ?_
 clear h
 rintro j b' o w I μ ⟨rfl,hj,h⟩ hin
 unfold qtc.b1
 refine qsc (fun h1=>?_) (fun h1=>?_)
 · refine qx (qh (by omega) (by omega)) ?_
   have e:((8 * (n - j):Nat):Int) - 8=((8 * (n - 1 - j):Nat):Int):=by omega
   rw [e]
   refine ⟨by omega,?_⟩
   refine qx (qoh .i64 _ (show 8 * (n - 1 - j)≤64 by omega)) ?_
   refine qx (qqj _) ?_
   refine h.new fun nb w h=>?_
   refine h.rdB rfl ?_
   refine h.drop.append_u8 (by rw [List.length_append,qlc]; omega) rfl fun s2 w h=>?_
   refine ⟨rfl,hin (j+1) _ _ _ ⟨?_,by omega,?_⟩ (by omega)⟩
   · rw [show n - 1 - j=n - (j+1) by omega]
   · rw [qil,← List.append_assoc]
     exact h
 · have:j=n:=by omega
   subst this
   have hcap:=h.cap (by decide)
   have hlen:=h.len
   rw [qeb,List.length_append,qlc] at hlen
   unfold qtc.j2
   refine qsb (qzb.ok _ _ _ ?_)
   unfold qzb
   refine qnj rfl hcap (qnj rfl (Nat.le_refl _) (qjc ⟨_,rfl,?_⟩))
   refine hk _ w ?_ rfl (h.ocl.recapC ?_ ?_)
   · show o.len - 0=_
     omega
   · show qfe o.a o.len 0 1=o.a
     unfold qfe
     split
     · rfl
     · rw [Nat.zero_mul]
       cases o.a with
       | none=>rfl
       | some a=>simp [Addr.add]
   · show o.len - 0=o.len
     omega
theorem qhd.cl {v:Int} {K:Ending→World→Prop} (h:St F0 w0 w ps) [Rdb F0 w0 s ps 1 (u8s xs)] (hL:xs.length≤1099511627776)
 (hk:∀ s' w',s'.len=xs.length+4→s'.cap=s'.len→St F0 w0 w' (clA 1 s' (u8s (xs ++ beJ 4 4 v)) :: ps)→K (.returned (.slice s'.a s'.len s'.cap)) w'):Calls Tryz.prog 23 ⟨[.slice s.a s.len s.cap,.int .i64 v]⟩ w K:=by
 refine qsb (qhd.ok _ _ _ _ ?_)
 unfold qhd
 exact qtc.cl (n:=4) h (h.rdb s) hL (by decide) fun s' w h1 h2 h=>⟨s',rfl,hk s' w h1 h2 h⟩
end
end Go.Proofs.YtonmgkkkiejicaaGreat
namespace Go.Proofs.YtonmgkkkiejicaaGreat
open Go Go.Proofs
set_option linter.unusedVariables false
set_option linter.unusedSimpArgs false
attribute [local irreducible] apK cpK mkK br
def slB (L:List (Sl × List Int)):List Value:=L.map fun x=>.slice x.1.a x.1.len x.1.cap
section
variable {F0:List Nat} {w0 w:World} {ps rest:List As} {s:Sl}
theorem St.frontB {sz:Nat} {cs:List Value} (h:St F0 w0 w (qv sz s cs :: ps)) (m:Nat) (hm:m≤s.len):St F0 w0 w (qv sz ⟨qfe s.a s.cap 0 sz,m - 0,s.cap - 0⟩ (cs.take (m * sz)) :: ps):=by
 refine h.mp ?_
 rintro F (⟨rfl,rfl,rfl⟩ | ⟨ob,rs,h1,hb,h2,h3,rfl⟩)
 · have:m=0:=by simpa using hm
   subst this
   exact Or.inl ⟨rfl,by simp,rfl⟩
 · refine Or.inr ⟨ob,cs.drop (m * sz) ++ rs,?_,?_,?_,?_,rfl⟩
   · show qfe s.a s.cap 0 sz=_
     unfold qfe
     rw [h1]
     split
     · rfl
     · rw [Option.map_some,qmb,Nat.zero_mul]
   · rw [← List.append_assoc,List.take_append_drop]; exact hb
   · rw [List.length_take,h2]
     exact Nat.min_eq_left (Nat.mul_le_mul_right _ hm)
   · rw [← List.append_assoc,List.take_append_drop]; exact h3
theorem qsd.c {n:Nat} {K:Ending→World→Prop} (h:St F0 w0 w ps) (hn:n≤1000000)
 (hk:∀ t w',t.len=0→St F0 w0 w' (qv 1 t (ivs .u8 []) :: ps)→K (.returned (.slice t.a t.len t.cap)) w'):Calls Tryz.prog 54 ⟨[.slice none 0 0,.int .i64 n]⟩ w K:=by
 refine qsb (qsd.ok ⟨none,0,0⟩ _ _ _ ?_)
 unfold qsd
 dsimp only
 refine qsc (fun g=>by omega) (fun _=>?_)
 refine qx (qh (by omega) (by omega)) ?_
 refine qx (qh (by omega) (by omega)) ?_
 have e:(n:Int) - (((0:Nat):Int) - ((0:Nat):Int))=n:=by simp
 rw [e]
 have h:=h.nil 1
 refine qsc (fun g=>?_) (fun g=>hk ⟨none,0,0⟩ w rfl h)
 refine qnj (n:=0) rfl (Nat.le_refl _) (qjc ?_)
 have he:Elt Tryz.prog 5 (.int .u8 0):=elt_u8
 dsimp only
 refine ⟨⟨by omega,by omega,?_,by omega⟩,?_⟩
 · have hb:=(Elt.bytes (P:=Tryz.prog) (e:=5) (z:=.int .u8 0))
   have h3:(n:Int) * (Tryz.prog.bytesOf 5:Int)≤1000000 * 16:=Int.mul_le_mul (by omega) (by omega) (by omega) (by omega)
   exact Int.le_trans h3 (by decide)
 rw [Int.toNat_natCast,he.zc,repL_one]
 refine St.app (s:=⟨none,0,0⟩) (cs2:=List.replicate n (.int .u8 0)) (z:=.int .u8 0) h rfl (by simp) (by rw [List.length_nil]; omega) (fun v hv=>?_) fun s6 w h=>?_
 · have hv:v ∈ List.replicate n (Value.int .u8 0):=by simpa using hv
   rw [(List.mem_replicate.1 hv).2]
   trivial
 refine qnj (n:=0) rfl (Nat.zero_le _) (qjc ?_)
 refine hk ⟨qfe s6.a s6.cap 0 1,0 - 0,s6.cap - 0⟩ w rfl ?_
 have h:=h.frontB 0 (Nat.zero_le _)
 rw [Nat.zero_mul,List.take_zero] at h
 exact h
theorem Rd.lslB {L:List (Sl × List Int)} {i:Int} {K:Sl→Prop} (h:Rd w 1 s (slB L)) (j:Nat) (hi:i=j) (hj:j < L.length) (hk:K L[j].1):ixS s.a s.len i 1 fun a=>ldL w a K:=by
 subst hi
 have hl:=h.1
 rw [show (slB L).length=L.length by simp [slB]] at hl
 refine h.ix (by decide) (by omega) (by omega) fun a ha=>?_
 rw [show ((j:Int)).toNat * 1=j by omega]
 exact ldL_c (by rw [h.cell ha (by simp [slB]; omega)]; simp [slB,hj]) hk
def catB (L:List (Sl × List Int)):List Int:=L.flatMap (·.2)
theorem catB_snoc (L:List (Sl × List Int)) {i:Nat} (h:i < L.length):catB (L.take (i+1))=catB (L.take i) ++ L[i].2:=by
 unfold catB
 rw [List.take_succ_eq_append_getElem h,List.flatMap_append]
 simp
theorem catB_le (L:List (Sl × List Int)) (i:Nat):(catB (L.take i)).length≤(catB L).length:=by
 have:catB L=catB (L.take i) ++ catB (L.drop i):=by
  unfold catB
  rw [← List.flatMap_append,List.take_append_drop]
 rw [this,List.length_append]
 omega
theorem qo.c {L:List (Sl × List Int)} {K:Ending→World→Prop} (h:St F0 w0 w ps) [Rdb F0 w0 s ps 1 (slB L)] (hL:∀ y ∈ L,∀ w,St F0 w0 w ps→Rd w 1 y.1 (ivs .u8 y.2)) (hn:L.length≤1000) (hlen:(catB L).length≤1000000)
 (hk:∀ t w',t.len=(catB L).length→St F0 w0 w' (qv 1 t (ivs .u8 (catB L)) :: ps)→K (.returned (.slice t.a t.len t.cap)) w'):Calls Tryz.prog 26 ⟨[.slice s.a s.len s.cap]⟩ w K:=by
 have hl:=(h.rdb s).1
 rw [show (slB L).length=L.length by simp [slB]] at hl
 refine qsb (qo.ok _ _ _ ?_)
 unfold qo qo.j1 qo.j6
 refine loop2 (fun (i:Nat) (z:Int) (i':Int) w'=>i'=i∧i≤L.length∧z=(catB (L.take i)).length∧St F0 w0 w' ps) (fun i=>L.length - i) 0 ⟨rfl,by omega,by simp [catB],h⟩ ?_
 clear h
 rintro i z i' wL I μ ⟨rfl,hi,rfl,h⟩ hin
 have hle:=catB_le L i
 unfold qo.b2
 refine qsc (fun g=>?_) (fun g=>?_)
 · have hix:i < L.length:=by omega
   have hsn:=catB_snoc L hix
   have hle2:=catB_le L (i+1)
   refine (h.rdb s).lslB i rfl hix ?_
   have hy:=(hL L[i] (List.getElem_mem hix) _ h).1
   rw [qw] at hy
   rw [hsn,List.length_append] at hle2
   refine qx (qh (by omega) (by omega)) ?_
   refine qsc (fun g=>by omega) (fun _=>?_)
   refine qx (qh (by omega) (by omega)) ?_
   refine ⟨⟨rfl,rfl,rfl⟩,hin (i+1) _ _ _ ⟨by omega,by omega,?_,h⟩ (by omega)⟩
   rw [hsn,List.length_append]
   omega
 · have:i=L.length:=by omega
   subst this
   rw [List.take_length]
   unfold qo.j2
   refine qsd.c h hlen fun t w ht h=>⟨t,rfl,?_⟩
   unfold qo.j3 qo.j5
   refine loop2 (fun (i:Nat) (o:Sl) (i':Int) w'=>i'=i∧i≤L.length∧St F0 w0 w' (qv 1 o (ivs .u8 (catB (L.take i))) :: ps)) (fun i=>L.length - i) 0 ⟨rfl,by omega,by simpa [catB] using h⟩ ?_
   clear h
   rintro i o i' wL I μ ⟨rfl,hi,h⟩ hin
   have hle:=catB_le L i
   unfold qo.b1
   refine qsc (fun g=>?_) (fun g=>?_)
   · have hix:i < L.length:=by omega
     have hsn:=catB_snoc L hix
     have hle2:=catB_le L (i+1)
     rw [hsn,List.length_append] at hle2
     refine (h.rdb s).lslB i rfl hix ?_
     haveI:Rdb F0 w0 L[i].1 ps 1 (ivs .u8 L[i].2):=⟨fun h=>hL L[i] (List.getElem_mem hix) _ h⟩
     refine h.appI (s:=o) (s2:=L[i].1) (k:=.u8) (by omega) fun o2 w h=>?_
     refine qx (qh (by omega) (by omega)) ?_
     refine ⟨⟨rfl,rfl⟩,hin (i+1) _ _ _ ⟨by omega,by omega,?_⟩ (by omega)⟩
     rw [hsn]
     exact h
   · have:i=L.length:=by omega
     subst this
     rw [List.take_length] at h
     unfold qo.j4
     have:=h.len
     rw [qw] at this
     exact hk o wL (by omega) h
theorem qdg {nb n:Nat} {l:List Value} [PkB nb ps l rest] (hn:l.length=n):Rdb F0 w0 ⟨some ⟨nb,0,none⟩,n,n⟩ ps 1 l:=⟨fun h=>by
 have hb:=(h.toB nb).blk
 refine ⟨by rw [Nat.mul_one]; exact hn,fun i hi=>⟨_,rfl,?_⟩⟩
 rw [qmb,Nat.zero_add,hb.cell]⟩
end
end Go.Proofs.YtonmgkkkiejicaaGreat
namespace Go.Proofs.YtonmgkkkiejicaaGreat
open Go Go.Proofs
set_option linter.unusedVariables false
set_option linter.unusedSimpArgs false
attribute [local irreducible] apK cpK mkK br qie
def apA (s:Sl) (cs:List Value):As:=exA fun b:Bool=>ifA (b=true ∨ s.cap=s.len) (if b then qv 1 s cs else rdA 1 s cs)
section
variable {F0:List Nat} {w0 w:World} {ps rest:List As} {s t:Sl} {xs ys zs:List Int} {cs:List Value}
theorem St.apO (h:St F0 w0 w (qv 1 s cs :: ps)):St F0 w0 w (apA s cs :: ps):=St.exI true (St.ifI (Or.inl rfl) h)
theorem St.apR (h:St F0 w0 w (rdA 1 s cs :: ps)) (hc:s.cap=s.len):St F0 w0 w (apA s cs :: ps):=St.exI false (St.ifI (Or.inr hc) h)
theorem St.apE (h:St F0 w0 w (apA s cs :: ps)):St F0 w0 w (qv 1 s cs :: ps) ∨ (s.cap=s.len∧St F0 w0 w (rdA 1 s cs :: ps)):=by
 obtain ⟨b,h⟩:=h.exE
 obtain ⟨hc,h⟩:=h.ifE
 cases b with
 | true=>exact Or.inl h
 | false=>exact Or.inr ⟨hc.resolve_left (by decide),h⟩
instance Rdb.ap:Rdb F0 w0 s (apA s cs :: ps) 1 cs:=⟨fun h=>by
 rcases h.apE with h | ⟨_,h⟩
 · exact h.rdb s
 · exact h.rdb s⟩
theorem St.appFc {P:Program} {e:TypeId} {z:Value} {k:IntKind} {c:Array Value} {n:Nat} {K:Sl→World→Prop} [he:Elt P e z] (h:St F0 w0 w ps) [Rdb F0 w0 s ps 1 (ivs k zs)] (hcv:c=⟨ivs k ys⟩) (hn:ys.length=n) (hc:s.cap=s.len) (hy:0 < n) (hlen:zs.length+n≤1099511627776)
 (hk:∀ s' w',St F0 w0 w' (qv 1 s' (ivs k (zs ++ ys)) :: ps)→K s' w'):apK P e w s.a s.len s.cap n c K:=by
 subst hcv
 have hr:=h.rdb s
 have hl:=hr.1
 rw [qw] at hl
 obtain ⟨i,h1,h2,h3,h4⟩:=he.info
 have hbo:P.bytesOf e=i.bytes:=by simp [Program.bytesOf,h1]
 unfold apK withSz
 simp only [h1,h2]
 rw [if_neg (by omega)]
 refine ⟨⟨?_,by rw [hbo]; exact h3⟩,?_⟩
 · rw [hbo]
   have:=next_le (s.len+n) s.cap (by omega) (by omega)
   refine Nat.le_trans (Nat.mul_le_mul this h4) ?_
   rw [show (2:Nat) ^ 48=281474976710656 from rfl]
   omega
 · refine hr.rdO (by rw [qw]; omega) fun c hcc=>?_
   have hbl:=Blk.new w.drew (ivs k zs ++ ivs k ys ++ qmg (c - (s.len+n)) (zc P e).toList) e
   have e1:((⟨ivs k zs⟩:Array Value) ++ (⟨ivs k ys⟩:Array Value) ++ ⟨qmg (c - (s.len+n)) (zc P e).toList⟩)=⟨ivs k zs ++ ivs k ys ++ qmg (c - (s.len+n)) (zc P e).toList⟩:=by
    apply Array.ext'
    simp
   rw [e1]
   refine hk _ _ (h.add (f':=[w.heap.size]) (((Mod.drew w).trans (Mod.alloc w.drew _) (fun _ hx=>by cases hx)).mono (fun _ hx=>by cases hx)) ?_ ?_)
   · rw [← qyl]
     refine Or.inr ⟨w.heap.size,_,rfl,hbl,?_,?_,rfl⟩
     · show _=(s.len+n) * 1
       rw [List.length_append,qw,qw]; omega
     · show _=c * 1
       rw [List.length_append,List.length_append,qw,qw,qde,he.zc]
       show _+(c - (s.len+n)) * 1=_
       omega
   · intro x hx
     have:x=w.heap.size:=by simpa using hx
     exact Or.inr (by omega)
theorem St.apx {P:Program} {e:TypeId} {z:Value} {c:Array Value} {n:Nat} {K:Sl→World→Prop} [he:Elt P e z] (h:St F0 w0 w (apA s (u8s xs) :: ps)) (hcv:c=⟨u8s ys⟩) (hn:ys.length=n) (hy:0 < n) (hlen:xs.length+n≤1099511627776)
 (hk:∀ s' w',St F0 w0 w' (qv 1 s' (u8s (xs ++ ys)) :: ps)→K s' w'):apK P e w s.a s.len s.cap n c K:=by
 rcases h.apE with h | ⟨hc,h⟩
 · exact h.app (cs:=u8s xs) (cs2:=u8s ys) hcv (by rw [qw]; exact hn) (by rw [qw]; exact hlen) qvd fun s' w h=>hk s' w (by show St F0 w0 w (qv 1 s' (ivs .u8 (xs ++ ys)) :: ps); rw [← qyl]; exact h)
 · exact h.appFc (zs:=xs) (ys:=ys) (k:=.u8) hcv hn hc hy hlen fun s' w h=>hk s' w (h.tail fun _ _ _ h=>h.drop)
theorem St.apxR {P:Program} {e:TypeId} {z:Value} {K:Sl→World→Prop} [he:Elt P e z] (h:St F0 w0 w (apA s (u8s xs) :: ps)) [hr:Rdb F0 w0 t (apA s (u8s xs) :: ps) 1 (u8s ys)] (hy:0 < ys.length) (hlen:xs.length+ys.length≤1099511627776)
 (hk:∀ s' w',St F0 w0 w' (qv 1 s' (u8s (xs ++ ys)) :: ps)→K s' w'):rdO w t.a (t.len * 1) fun c=>apK P e w s.a s.len s.cap t.len c K:=by
 have hr:=h.rdb t
 have hl:=hr.1
 rw [qw] at hl
 refine hr.rdO (by rw [qw]; omega) ?_
 exact h.apx rfl (by omega) (by omega) (by omega) hk
theorem cutP_b (b o:Nat):cutP ⟨b,o,none⟩ 20 0 1=some ⟨b,o,none⟩:=by
 unfold cutP
 rw [if_neg (by decide),qmb,Nat.zero_mul,Nat.add_zero]
theorem ixS_blk {b n:Nat} {i:Int} {X:Addr→Prop} (j:Nat) (hi:i=j) (hj:j < n) (hk:X ⟨b,j,none⟩):ixS (some ⟨b,0,none⟩) n i 1 X:=by
 subst hi
 unfold ixS
 refine ⟨⟨by omega,by omega⟩,?_⟩
 rw [qmb]
 simpa using hk
theorem St.sealed {b:Nat} {K:Sl→World→Prop} {P:Program} {e:TypeId} {z:Value} [he:Elt P e z] (h:St F0 w0 w (qt b (u8s ys) :: apA s (u8s xs) :: ps)) (hy:ys.length=20) (hlen:xs.length≤1000000000)
 (hk:∀ s' w',St F0 w0 w' (qv 1 s' (u8s (xs ++ ys)) :: ps)→K s' w') :
 lt (⟨cutP ⟨b,0,none⟩ 20 0 1,20 - 0,20 - 0⟩:Sl) fun s21=>rdO w s21.a (s21.len * 1) fun c=>apK P e w s.a s.len s.cap s21.len c K:=by
 rw [cutP_b]
 refine qjc ?_
 have h2:St F0 w0 w (apA s (u8s xs) :: qt b (u8s ys) :: ps):=h.at1
 haveI:Rdb F0 w0 ⟨some ⟨b,0,none⟩,20,20⟩ (apA s (u8s xs) :: qt b (u8s ys) :: ps) 1 (u8s ys):=qdg (by rw [qeb,hy])
 exact h2.apxR (t:=⟨some ⟨b,0,none⟩,20,20⟩) (by omega) (by omega) fun s' w h=>hk s' w (h.tail fun _ _ _ h=>h.drop)
end
end Go.Proofs.YtonmgkkkiejicaaGreat
namespace Go.Proofs.YtonmgkkkiejicaaGreat
open Go Go.Proofs
set_option linter.unusedVariables false
set_option linter.unusedSimpArgs false
attribute [local irreducible] apK cpK mkK br qie
theorem ptI_at {k:IntKind} {zs:List Int} {i:Nat} {K:Int→Prop} (hj:i < zs.length) (hk:K (zs.getD i 0)):ptI k ⟨ivs k zs⟩ (Int.toNat (i:Int) * 1) K:=by
 rw [show Int.toNat (i:Int) * 1=i by omega]
 refine ⟨zs.getD i 0,?_,hk⟩
 have:=qmi (k:=k) hj
 simpa using this
section
variable {F0:List Nat} {w0 w:World} {ps rest:List As} {s t u:Sl} {S L:List Nd} {n:Nd} {pr:Nd→List Nm} {gb:Nat} {G:Rws Int} {K:Ending→World→Prop}
end
end Go.Proofs.YtonmgkkkiejicaaGreat
namespace Go.Proofs.YtonmgkkkiejicaaGreat
open Go Go.Proofs
set_option linter.unusedVariables false
set_option linter.unusedSimpArgs false
attribute [local irreducible] apK cpK mkK br qie
def biB (s:ByteArray):List Int:=s.data.toList.map fun b=>(b.toNat:Int)
theorem qnd (s:ByteArray):(biB s).length=s.size:=by
 unfold biB
 rw [List.length_map]
 rfl
theorem biB_ok (s:ByteArray):qzc (biB s):=by
 intro x hx
 obtain ⟨b,_,rfl⟩:=List.mem_map.1 hx
 have:=b.toNat_lt
 omega
def padB (xs:List Int):List Int:=xs ++ List.replicate ((4 - xs.length % 4) % 4) 0
def nm0 (n:ByteArray):List Int:=biB n ++ [0]
def qfg (NL:List ByteArray):List Int:=padB (NL.flatMap nm0)
def at1B (o:Sp):List Int:=beJ 4 4 o.2.1 ++ beJ 4 4 o.2.2
def atB (O:List Sp):List Int:=O.flatMap at1B
theorem qlg (O:List Sp):(atB O).length=8 * O.length:=by
 induction O with
 | nil=>rfl
 | cons a O ih =>
   show (at1B a ++ atB O).length=_
   unfold at1B at *
   rw [List.length_append,List.length_append,qlc,qlc,ih,List.length_cons]
   omega
theorem atB_ok (O:List Sp):qzc (atB O):=qsi fun o _=>qne.2 ⟨qbl 4 4 _,qbl 4 4 _⟩
theorem nmsB_ok (NL:List ByteArray):qzc (qfg NL):=by
 refine qne.2 ⟨qsi fun n _=>qne.2 ⟨biB_ok n,?_⟩,?_⟩
 · intro x hx
   have:x=0:=by simpa using hx
   omega
 · intro x hx
   have:=List.eq_of_mem_replicate hx
   omega
def qdc (O:List Sp):List Nm:=O.map (·.1)
def mdL (NL:List ByteArray) (O:List Sp):List (List Int):=[qfg NL,fB (qdc O),nB (qdc O),atB O]
def wrdM:List (List Int):=[[80,78,65,77],[79,73,68,70],[79,73,68,76],[79,79,70,70]]
def qfi (l:List (List Int)) (i:Nat):Nat:=72+(l.take i).flatten.length
def tbM (l:List (List Int)) (i:Nat):List Int:=(List.range i).flatMap fun j=>wrdM.getD j [] ++ beJ 8 8 (qfi l j)
theorem qwi (l:List (List Int)) (i:Nat):tbM l (i+1)=tbM l i ++ (wrdM.getD i [] ++ beJ 8 8 (qfi l i)):=by
 unfold tbM
 rw [List.range_succ,List.flatMap_append]
 simp
theorem qig {l:List (List Int)} {i:Nat} (h:i < l.length):qfi l (i+1)=qfi l i+l[i].length:=by
 unfold qfi
 rw [List.take_succ_eq_append_getElem h,List.flatten_append,List.length_append]
 simp
 omega
theorem qtl (l:List (List Int)) (i:Nat):qfi l i≤72+l.flatten.length:=by
 unfold qfi
 have:l.flatten=(l.take i).flatten ++ (l.drop i).flatten:=by rw [← List.flatten_append,List.take_append_drop]
 rw [this,List.length_append]
 omega
theorem qti {j:Nat} (hj:j < 4):(wrdM.getD j []).length=4:=by
 have:j=0 ∨ j=1 ∨ j=2 ∨ j=3:=by omega
 rcases this with rfl | rfl | rfl | rfl <;> rfl
theorem qfk (l:List (List Int)) {i:Nat} (hi:i≤4):(tbM l i).length=12 * i:=by
 induction i with
 | zero=>rfl
 | succ i ih =>
   rw [qwi,List.length_append,List.length_append,ih (by omega),qlc,qti (by omega)]
   omega
theorem tbM_ok (l:List (List Int)) {i:Nat} (hi:i≤4):qzc (tbM l i):=by
 induction i with
 | zero=>intro x hx; simp [tbM] at hx
 | succ i ih =>
   rw [qwi,qne,qne]
   refine ⟨ih (by omega),?_,qbl 8 8 _⟩
   have:i=0 ∨ i=1 ∨ i=2 ∨ i=3:=by omega
   rcases this with rfl | rfl | rfl | rfl <;> (intro x hx; simp [wrdM] at hx; omega)
def markM:List Int:=[77,73,68,88,1,1,4,0]
def hdM (n:Nat):List Int:=markM ++ beJ 4 4 n
theorem qnk (n:Nat):(hdM n).length=12:=by
 unfold hdM
 rw [List.length_append,qlc]
 rfl
theorem hdM_ok (n:Nat):qzc (hdM n):=qne.2 ⟨by intro x hx; simp [markM] at hx; omega,qbl 4 4 _⟩
def tabM (n:Nat) (l:List (List Int)):List Int:=hdM n ++ tbM l 4 ++ [0,0,0,0] ++ beJ 8 8 (qfi l 4)
theorem qlh (n:Nat) (l:List (List Int)):(tabM n l).length=72:=by
 unfold tabM
 rw [List.length_append,List.length_append,List.length_append,qnk,qfk _ (Nat.le_refl _),qlc]
 rfl
def qxi (n:Nat) (l:List (List Int)):List Int:=tabM n l ++ l.flatten
theorem preM_ok {n:Nat} {l:List (List Int)} (h:qzc l.flatten):qzc (qxi n l):=by
 unfold qxi tabM
 rw [qne,qne,qne,qne]
 exact ⟨⟨⟨⟨hdM_ok n,tbM_ok _ (Nat.le_refl _)⟩,by intro x hx; simp at hx; omega⟩,qbl 8 8 _⟩,h⟩
def endM (n:Nat) (l:List (List Int)):List Int:=qxi n l ++ qie (qxi n l)
def mB (NL:List ByteArray) (O:List Sp):List Int:=endM NL.length (mdL NL O)
def wrdT:List ByteArray:=[⟨#[80,78,65,77]⟩,⟨#[79,73,68,70]⟩,⟨#[79,73,68,76]⟩,⟨#[79,79,70,70]⟩]
theorem qpm:∀ j < 4,∃ h:j < wrdT.length,strCells wrdT[j] (ByteArray.size wrdT[j])=⟨u8s (wrdM.getD j [])⟩∧ByteArray.size wrdT[j]=4:=by
 intro j hj
 have:j=0 ∨ j=1 ∨ j=2 ∨ j=3:=by omega
 rcases this with rfl | rfl | rfl | rfl <;> exact ⟨by decide,by kernel_rfl,by kernel_rfl⟩
section
variable {F0:List Nat} {w0 w:World} {ps r1:List As} {s t6 t7 t8 t9 t17:Sl} {x1 x2 x3 x4:List Int} {n:Nat} {K:Ending→World→Prop} {Q:VWP}
theorem MBuild_11 {l:List (List Int)} {t18:Int} (hl:l=[x1,x2,x3,x4]) (h18:t18=(qfi l 4:Int)) (h:St F0 w0 w (apA t17 (u8s (hdM n ++ tbM l 4)) :: ps)) [Rdb F0 w0 t6 ps 1 (u8s x1)] [Rdb F0 w0 t7 ps 1 (u8s x2)] [Rdb F0 w0 t8 ps 1 (u8s x3)] [Rdb F0 w0 t9 ps 1 (u8s x4)]
 (b1:qzc x1) (b2:qzc x2) (b3:qzc x3) (b4:qzc x4) (hlen:x1.length+x2.length+x3.length+x4.length≤900000)
 (hk:∀ t w',(t.len=(endM n l).length∧t.cap=t.len)→St F0 w0 w' (rdA 1 t (u8s (endM n l)) :: ps)→Q (.tuple ⟨[sV t,.int .i64 0]⟩) w') :
 ql.j11 t6 t7 t8 t9 t17 t18 Q w:=by
 subst h18
 have hX:(hdM n ++ tbM l 4).length=60:=by rw [List.length_append,qnk,qfk _ (Nat.le_refl _)]
 unfold ql.j11
 refine h.new fun zb w h=>?_
 have h:St F0 w0 w (qt zb (u8s [0,0,0,0]) :: apA t17 (u8s (hdM n ++ tbM l 4)) :: ps):=h
 haveI:Rdb F0 w0 ⟨some ⟨zb,0,none⟩,4,4⟩ (apA t17 (u8s (hdM n ++ tbM l 4)) :: qt zb (u8s [0,0,0,0]) :: ps) 1 (u8s [0,0,0,0]):=qdg rfl
 refine St.apxR (t:=⟨some ⟨zb,0,none⟩,4,4⟩) (ys:=[0,0,0,0]) h.at1 (by show 0 < 4; decide) (by rw [hX]; show 60+4≤_; decide) fun o2 w h=>?_
 refine qqe.d (s:=o2) h (by rw [List.length_append,hX]; show 60+4≤_; decide) fun o3 w e1 e2 h=>⟨o3,rfl,?_⟩
 have h:St F0 w0 w (rdA 1 o3 (u8s (tabM n l)) :: ps):=h.tail fun _ _ _ h=>h.drop.drop
 refine h.new fun ab w h=>?_
 have h:St F0 w0 w (qt ab (slB [(o3,tabM n l),(t6,x1),(t7,x2),(t8,x3),(t9,x4)]) :: rdA 1 o3 (u8s (tabM n l)) :: ps):=h
 haveI:=qdg (F0:=F0) (w0:=w0) (nb:=ab) (n:=5) (l:=slB [(o3,tabM n l),(t6,x1),(t7,x2),(t8,x3),(t9,x4)]) (ps:=qt ab (slB [(o3,tabM n l),(t6,x1),(t7,x2),(t8,x3),(t9,x4)]) :: rdA 1 o3 (u8s (tabM n l)) :: ps) rfl
 have hcat:catB [(o3,tabM n l),(t6,x1),(t7,x2),(t8,x3),(t9,x4)]=qxi n l:=by
  subst hl
  unfold qxi
  simp [catB]
 have hpl:(qxi n l).length≤900072:=by
  rw [← hcat]
  simp only [catB,List.flatMap_cons,List.flatMap_nil,List.length_append,qlh,List.length_nil]
  omega
 have hpb:qzc (qxi n l):=by
  refine preM_ok ?_
  subst hl
  simp only [List.flatten_cons,List.flatten_nil,List.append_nil,qne]
  exact ⟨b1,b2,b3,b4⟩
 refine qo.c (s:=⟨some ⟨ab,0,none⟩,5,5⟩) (L:=[(o3,tabM n l),(t6,x1),(t7,x2),(t8,x3),(t9,x4)]) h ?_ (by simp) (by rw [hcat]; omega) fun o4 w ht h=>⟨o4,rfl,?_⟩
 · intro y hy w h
   rcases List.mem_cons.1 hy with rfl | hy
   · exact h.rdb o3
   rcases List.mem_cons.1 hy with rfl | hy
   · exact h.rdb t6
   rcases List.mem_cons.1 hy with rfl | hy
   · exact h.rdb t7
   rcases List.mem_cons.1 hy with rfl | hy
   · exact h.rdb t8
   rcases List.mem_cons.1 hy with rfl | hy
   · exact h.rdb t9
   cases hy
 rw [hcat] at h
 have h:St F0 w0 w (qv 1 o4 (u8s (qxi n l)) :: ps):=h.tail fun _ _ _ h=>h.drop.drop
 refine qph.d (s:=o4) (xs:=qxi n l) h hpb (by omega) fun w h=>⟨_,rfl,?_⟩
 have hzc:zc Tryz.prog 39=⟨ivs .u8 z20⟩:=zc_idM
 rw [hzc]
 refine h.new fun kb w h=>?_
 have h:St F0 w0 w (qt kb (u8s z20) :: qv 1 o4 (u8s (qxi n l)) :: ps):=h
 refine ⟨qsf _,?_⟩
 refine St.sA (b:=kb) (l':=u8s (qie (qxi n l))) h rfl (qsf _) qzf fun w h=>?_
 refine St.sealed (s:=o4) (xs:=qxi n l) (ys:=qie (qxi n l)) (h.tail fun _ _ _ h=>h.apO) (qnf _) (by omega) fun o6 w h=>?_
 refine qzb.d h fun o7 h1 h2 h=>⟨o7,rfl,?_⟩
 refine hk o7 w ?_ h
 have:=(h.rdb o7).1
 rw [qeb,Nat.mul_one] at this
 exact ⟨this.symm,by omega⟩
theorem MBuild_10 {l:List (List Int)} (hl:l=[x1,x2,x3,x4]) (h:St F0 w0 w (apA t17 (u8s (hdM n)) :: ps)) [Rdb F0 w0 t6 ps 1 (u8s x1)] [Rdb F0 w0 t7 ps 1 (u8s x2)] [Rdb F0 w0 t8 ps 1 (u8s x3)] [Rdb F0 w0 t9 ps 1 (u8s x4)]
 (b1:qzc x1) (b2:qzc x2) (b3:qzc x3) (b4:qzc x4) (hlen:x1.length+x2.length+x3.length+x4.length≤900000)
 (hk:∀ t w',(t.len=(endM n l).length∧t.cap=t.len)→St F0 w0 w' (rdA 1 t (u8s (endM n l)) :: ps)→Q (.tuple ⟨[sV t,.int .i64 0]⟩) w') :
 ql.j10 t6 t7 t8 t9 t17 72 Q w:=by
 have hf:l.flatten.length≤900000:=by
  subst hl
  simp only [List.flatten_cons,List.flatten_nil,List.append_nil,List.length_append]
  omega
 have ho:∀ i,qfi l i≤900072:=fun i=>Nat.le_trans (qtl l i) (by omega)
 unfold ql.j10
 refine h.new fun ab w h=>?_
 have h:St F0 w0 w (qt ab (slB [(t6,x1),(t7,x2),(t8,x3),(t9,x4)]) :: apA t17 (u8s (hdM n)) :: ps):=h
 have h:St F0 w0 w (apA t17 (u8s (hdM n ++ tbM l 0)) :: qt ab (slB [(t6,x1),(t7,x2),(t8,x3),(t9,x4)]) :: ps):=by
  have e:hdM n ++ tbM l 0=hdM n:=by simp [tbM]
  rw [e]; exact h.at1
 unfold ql.j12
 refine loop3 (fun (i:Nat) (o:Sl) (a i':Int) w'=>i'=(i:Int)∧i≤4∧a=(qfi l i:Int)∧St F0 w0 w' (apA o (u8s (hdM n ++ tbM l i)) :: qt ab (slB [(t6,x1),(t7,x2),(t8,x3),(t9,x4)]) :: ps)) (fun i=>4 - i) 0 ⟨rfl,Nat.zero_le _,rfl,h⟩ ?_
 clear h
 rintro i o _ _ wL I μ ⟨rfl,hi,rfl,h⟩ hin
 have htl:=qfk l (i:=i) hi
 have hxl:(hdM n ++ tbM l i).length≤100:=by rw [List.length_append,htl,qnk]; omega
 have hoi:=ho i
 unfold ql.b1
 refine qsc (fun g=>?_) (fun g=>?_)
 · have hi4:i < 4:=by
    have g:(i:Int) < 4:=g
    omega
   haveI:Rdb F0 w0 ⟨some ⟨ab,0,none⟩,4,4⟩ (apA o (u8s (hdM n ++ tbM l i)) :: qt ab (slB [(t6,x1),(t7,x2),(t8,x3),(t9,x4)]) :: ps) 1 (slB [(t6,x1),(t7,x2),(t8,x3),(t9,x4)]):=qdg rfl
   refine (h.rdb ⟨some ⟨ab,0,none⟩,4,4⟩).lslB (L:=[(t6,x1),(t7,x2),(t8,x3),(t9,x4)]) i rfl (by simpa using hi4) ?_
   have hlen4:l.length=4:=by rw [hl]; rfl
   have hyl:([(t6,x1),(t7,x2),(t8,x3),(t9,x4)]:List (Sl × List Int))[i].1.len=(l[i]'(by omega)).length:=by
    have q1:=(h.drop.drop.rdb t6).1
    have q2:=(h.drop.drop.rdb t7).1
    have q3:=(h.drop.drop.rdb t8).1
    have q4:=(h.drop.drop.rdb t9).1
    rw [qeb,Nat.mul_one] at q1 q2 q3 q4
    have h03:i=0 ∨ i=1 ∨ i=2 ∨ i=3:=by omega
    subst hl
    rcases h03 with rfl | rfl | rfl | rfl
    · exact q1.symm
    · exact q2.symm
    · exact q3.symm
    · exact q4.symm
   generalize ([(t6,x1),(t7,x2),(t8,x3),(t9,x4)]:List (Sl × List Int))[i].1=y at hyl ⊢
   refine h.new fun sb w h=>?_
   have h:St F0 w0 w (qt sb (wrdT.map Value.string) :: apA o (u8s (hdM n ++ tbM l i)) :: qt ab (slB [(t6,x1),(t7,x2),(t8,x3),(t9,x4)]) :: ps):=h
   obtain ⟨hw,hc,hs⟩:=qpm i hi4
   refine ixS_blk i rfl hi4 ?_
   refine (h.toB sb).blk.ldS (n:=wrdT[i]) ?_ ⟨rfl,?_⟩
   · rw [List.getElem?_map,List.getElem?_eq_getElem hw]; rfl
   rw [hc,hs]
   refine qjc ?_
   refine h.drop.apx (ys:=wrdM.getD i []) rfl (qti hi4) (by decide) (by omega) fun o2 w h=>?_
   refine qqe.d (s:=o2) (xs:=hdM n ++ tbM l i ++ wrdM.getD i []) h (by rw [List.length_append,qti hi4]; omega) fun o3 w h1 h2 h=>⟨o3,rfl,?_⟩
   have hoi2:=ho (i+1)
   have hos:=qig (l:=l) (i:=i) (by omega)
   refine qx (e':=(qfi l (i+1):Int)) (by rw [qh (by omega) (by omega)]; omega) ?_
   refine qx (e':=((i+1:Nat):Int)) (by rw [qh (by omega) (by omega)]; rfl) ?_
   refine ⟨⟨rfl,rfl,rfl,rfl,rfl,rfl⟩,hin (i+1) _ _ _ _ ⟨rfl,by omega,rfl,?_⟩ (by omega)⟩
   rw [qwi,← List.append_assoc,← List.append_assoc]
   exact (h.apR h2).tail fun _ _ _ h=>h.drop
 · have:i=4:=by
    have g:¬ (i:Int) < 4:=g
    omega
   subst this
   exact MBuild_11 hl rfl h b1 b2 b3 b4 hlen fun t w ht h=>hk t w ht (h.tail fun _ _ _ h=>h.drop)
end
end Go.Proofs.YtonmgkkkiejicaaGreat
namespace Go.Proofs.YtonmgkkkiejicaaGreat
open Go Go.Proofs
set_option linter.unusedVariables false
set_option linter.unusedSimpArgs false
attribute [local irreducible] apK cpK mkK br qie
def namesB (L:List Mk):List Int:=L.flatMap fun m=>nm0 m.1
theorem namesB_snoc (L:List Mk) (m:Mk):namesB (L ++ [m])=namesB L ++ nm0 m.1:=by simp [namesB]
theorem namesB_eq (L:List Mk):padB (namesB L)=qfg (L.map (·.1)):=by
 unfold qfg namesB
 rw [List.flatMap_map]
theorem namesB_le (L:List Mk) (i:Nat):(namesB (L.take i)).length≤(namesB L).length:=by
 have e:namesB L=namesB (L.take i) ++ namesB (L.drop i):=by
  unfold namesB
  rw [← List.flatMap_append,List.take_append_drop]
 rw [e,List.length_append]
 omega
theorem str0_cells (x:ByteArray):strCells (x ++ ⟨#[0]⟩) (ByteArray.size (x ++ ⟨#[0]⟩))=⟨u8s (nm0 x)⟩:=by
 unfold strCells
 have e:(x ++ ⟨#[0]⟩:ByteArray).extract 0 (ByteArray.size (x ++ ⟨#[0]⟩))=x ++ ⟨#[0]⟩:=by
  apply ByteArray.ext
  rw [ByteArray.data_extract]
  exact Array.extract_eq_self_of_le (Nat.le_refl _)
 rw [e]
 have e2:(x ++ ⟨#[0]⟩:ByteArray).data=x.data ++ #[0]:=ByteArray.data_append
 rw [e2]
 apply Array.ext'
 simp [ivs,nm0,biB]
theorem str0_size (x:ByteArray):ByteArray.size (x ++ ⟨#[0]⟩)=x.size+1:=ByteArray.size_append
theorem qam {O:List Sp} {i:Nat} (h:i < O.length):qdc (O.take (i+1))=qdc (O.take i) ++ [O[i].1]:=by
 unfold qdc
 rw [List.take_succ_eq_append_getElem h,List.map_append]
 rfl
theorem atB_take {O:List Sp} {i:Nat} (h:i < O.length):atB (O.take (i+1))=atB (O.take i) ++ beJ 4 4 O[i].2.1 ++ beJ 4 4 O[i].2.2:=by
 unfold atB
 rw [List.take_succ_eq_append_getElem h,List.flatMap_append,List.append_assoc]
 simp [at1B]
theorem pad_len (xs:List Int):(padB xs).length≤xs.length+3:=by
 unfold padB
 rw [List.length_append,List.length_replicate]
 omega
section
variable {F0:List Nat} {w0 w:World} {ps rest:List As} {s t6 t7 t8 t9 t10 t17:Sl} {x1 x2 x3 x4:List Int} {lb:Nat} {K:Ending→World→Prop} {Q:VWP} {O:List Sp} {L:List Mk} {NL:List ByteArray}
theorem MBuild_9 (h:St F0 w0 w ps) [PkB lb ps [.slice s.a s.len s.cap] rest] (hn:s.len=NL.length) (hNL:NL.length≤1000) [Rdb F0 w0 t6 ps 1 (u8s (qfg NL))] [Rdb F0 w0 t7 ps 1 (u8s (fB (qdc O)))] [Rdb F0 w0 t8 ps 1 (u8s (nB (qdc O)))] [Rdb F0 w0 t9 ps 1 (u8s (atB O))]
 (hO:O.length≤2048) (hnl:(qfg NL).length≤100000)
 (hk:∀ t w',(t.len=(mB NL O).length∧t.cap=t.len)→St F0 w0 w' (rdA 1 t (u8s (mB NL O)) :: ps)→Q (.tuple ⟨[sV t,.int .i64 0]⟩) w') :
 ql.j9 ⟨lb,0,none⟩ t6 t7 t8 t9 Q w:=by
 unfold ql.j9
 refine h.new fun cb w h=>?_
 have h:St F0 w0 w (qt cb (u8s markM) :: ps):=h
 refine h.str (n:=8) rfl fun w h=>?_
 refine (h.toB lb).blk.ldL (n:=s) rfl ?_
 refine qhd.d (s:=⟨some ⟨cb,0,none⟩,8,8⟩) (xs:=markM) (v:=(s.len:Int)) h (by show 8≤_; decide) fun r w hr hc h=>⟨r,rfl,?_⟩
 have hr:r.len=12:=hr
 refine qx (e':=72) (by rw [hr]; rfl) ?_
 rw [hn] at h
 have h:St F0 w0 w (apA r (u8s (hdM NL.length)) :: ps):=(St.apR h hc).tail fun _ _ _ h=>h.drop
 refine MBuild_10 (n:=NL.length) (l:=mdL NL O) (x1:=qfg NL) (x2:=fB (qdc O)) (x3:=nB (qdc O)) (x4:=atB O) rfl h (nmsB_ok _) (wB_ok _) (nB_ok _) (atB_ok _) ?_ hk
 have e1:(qdc O).length=O.length:=List.length_map ..
 rw [qem,qii,qlg,e1]
 omega
theorem MBuild_8 (h:St F0 w0 w (qv 20 t10 ((qdc O).flatMap nmC) :: ps)) [PkB lb ps [.slice s.a s.len s.cap] rest] (hn:s.len=NL.length) (hNL:NL.length≤1000) [Rdb F0 w0 t6 ps 1 (u8s (qfg NL))] [Rdb F0 w0 t8 ps 1 (u8s (nB (qdc O)))] [Rdb F0 w0 t9 ps 1 (u8s (atB O))]
 (hO:O.length≤2048) (hnl:(qfg NL).length≤100000)
 (hk:∀ t w',(t.len=(mB NL O).length∧t.cap=t.len)→St F0 w0 w' (rdA 1 t (u8s (mB NL O)) :: ps)→Q (.tuple ⟨[sV t,.int .i64 0]⟩) w') :
 ql.j8 ⟨lb,0,none⟩ t6 ⟨none,0,0⟩ t8 t9 t10 Q w:=by
 have e1:(qdc O).length=O.length:=List.length_map ..
 unfold ql.j8
 refine qjb.c (s:=t10) (A:=qdc O) h (by omega) fun w h=>⟨_,rfl,?_⟩
 have h:=h.drop
 unfold ql.j13
 refine loop2 (fun (i:Nat) (t7:Sl) (i':Int) w'=>i'=(i:Int)∧i≤256∧St F0 w0 w' (rdA 1 t7 (u8s (wB ((fanL (qdc O)).take i))) :: ps)) (fun i=>256 - i) 0 ⟨rfl,Nat.zero_le _,(h.nil 1).ro⟩ ?_
 clear h
 rintro i t7 _ wL I μ ⟨rfl,hi,h⟩ hin
 unfold ql.b2
 refine qsc (fun g=>?_) (fun g=>?_)
 · have hi2:i < 256:=by omega
   refine ⟨⟨by omega,by omega⟩,?_⟩
   refine ptI_at (by rw [qug]; exact hi2) ?_
   refine qhd.d (s:=t7) h (by rw [wB_len,List.length_take]; omega) fun t7' w _ _ h=>⟨t7',rfl,?_⟩
   refine qx (e':=((i+1:Nat):Int)) (by rw [qh (by omega) (by omega)]; rfl) ?_
   refine ⟨⟨rfl,rfl,rfl,rfl,rfl⟩,hin (i+1) _ _ _ ⟨rfl,by omega,?_⟩ (by omega)⟩
   rw [qkh (by rw [qug]; exact hi2),wB_app,wB_one]
   exact h.tail fun _ _ _ h=>h.drop
 · have:i=256:=by omega
   subst this
   rw [List.take_of_length_le (by rw [qug]; exact Nat.le_refl _)] at h
   have h:St F0 w0 wL (rdA 1 t7 (u8s (fB (qdc O))) :: ps):=h
   exact MBuild_9 (NL:=NL) (O:=O) (s:=s) h hn hNL hO hnl fun t w ht h=>hk t w ht (h.tail fun _ _ _ h=>h.drop)
theorem MBuild_7 {t5:Sl} (h:St F0 w0 w (qv 22 t5 (O.flatMap spC) :: ps)) [PkB lb ps [.slice s.a s.len s.cap] rest] (hn:s.len=NL.length) (hNL:NL.length≤1000) [Rdb F0 w0 t6 ps 1 (u8s (qfg NL))]
 (hO:O.length≤2048) (hnl:(qfg NL).length≤100000)
 (hk:∀ t w',(t.len=(mB NL O).length∧t.cap=t.len)→St F0 w0 w' (rdA 1 t (u8s (mB NL O)) :: ps)→Q (.tuple ⟨[sV t,.int .i64 0]⟩) w') :
 ql.j7 ⟨lb,0,none⟩ t5 t6 ⟨none,0,0⟩ ⟨none,0,0⟩ ⟨none,0,0⟩ ⟨none,0,0⟩ Q w:=by
 have hl5:=h.rlen (s:=t5) (f:=spC) (L:=O)
 unfold ql.j7 ql.j14
 refine loop4 (fun (i:Nat) (t8 t9 t10:Sl) (i':Int) w'=>i'=(i:Int)∧i≤O.length∧St F0 w0 w' (qv 1 t8 (u8s (nB (qdc (O.take i)))) :: qv 20 t10 ((qdc (O.take i)).flatMap nmC) :: clA 1 t9 (u8s (atB (O.take i))) :: qv 22 t5 (O.flatMap spC) :: ps)) (fun i=>O.length - i) 0 ⟨rfl,Nat.zero_le _,?_⟩ ?_
 · have h1:St F0 w0 w (clA 1 ⟨none,0,0⟩ (u8s (atB (O.take 0))) :: qv 22 t5 (O.flatMap spC) :: ps):=(h.nil 1).ocl
   have h2:St F0 w0 w (qv 20 ⟨none,0,0⟩ ((qdc (O.take 0)).flatMap nmC) :: clA 1 ⟨none,0,0⟩ (u8s (atB (O.take 0))) :: qv 22 t5 (O.flatMap spC) :: ps):=h1.nilO
   exact h2.nil 1
 clear h
 rintro i t8 t9 t10 _ wL I μ ⟨rfl,hi,h⟩ hin
 have hnB:(nB (qdc (O.take i))).length≤100000:=by
  have:(qdc (O.take i)).length=(O.take i).length:=List.length_map ..
  rw [qii,this,List.length_take]; omega
 have hidl:(qdc (O.take i)).length≤100000:=by
  have:(qdc (O.take i)).length=(O.take i).length:=List.length_map ..
  rw [this,List.length_take]; omega
 have hatl:(atB (O.take i)).length≤100000:=by rw [qlg,List.length_take]; omega
 unfold ql.b3
 refine qsc (fun g=>?_) (fun g=>?_)
 · have hix:i < O.length:=by omega
   have e1:=qam hix
   have e2:=atB_take hix
   refine h.lr (s:=t5) (f:=spC) (L:=O) i rfl hix ?_
   generalize O[i]=x at e1 e2 ⊢
   rw [qjl]
   refine h.new fun xb w h=>?_
   have h:St F0 w0 w (qt xb (spC spZ) :: qv 1 t8 (u8s (nB (qdc (O.take i)))) :: qv 20 t10 ((qdc (O.take i)).flatMap nmC) :: clA 1 t9 (u8s (atB (O.take i))) :: qv 22 t5 (O.flatMap spC) :: ps):=h
   refine ⟨qxc _,?_⟩
   refine h.setR (f:=spC) (x:=x) (qxc _) fun w h=>?_
   rw [qmb,cutP_b]
   refine qjc ?_
   haveI:∀ qs,Rdb F0 w0 ⟨some ⟨xb,0,none⟩,20,20⟩ (qt xb (spC x) :: qs) 1 (u8s x.1.1):=fun qs=>⟨fun h=>by
    have:=h.blk.rdAt (o:=0) (n:=20) (c:=20) (by rw [qxc]; decide)
    have e:((spC x).drop 0).take 20=u8s x.1.1:=by
     unfold spC
     rw [List.drop_zero]
     exact List.take_left' (by rw [qw,x.1.2.1])
    rw [e] at this
    exact this⟩
   refine h.appI (s:=t8) (s2:=⟨some ⟨xb,0+0,none⟩,20,20⟩) (zs:=nB (qdc (O.take i))) (ys:=x.1.1) (k:=.u8) (by rw [x.1.2.1]; omega) fun t8' w h=>?_
   have h:St F0 w0 w (qt xb (spC x) :: clA 1 t9 (u8s (atB (O.take i))) :: qv 1 t8' (u8s (nB (qdc (O.take i)) ++ x.1.1)) :: qv 20 t10 ((qdc (O.take i)).flatMap nmC) :: qv 22 t5 (O.flatMap spC) :: ps):=h.sub
   refine h.drewK fun w h=>qjc ?_
   have hI:∀ {o:Nat} {v:Int} {w':World} {qs:List As} {Z:Int→Prop},(spC x)[o]?=some (.int .i64 v)→St F0 w0 w' (qt xb (spC x) :: qs)→Z v→ldI .i64 w' (Addr.add ⟨xb,0,none⟩ o) Z:=fun hv h hz=>by
    rw [qmb]
    exact h.blk.ldI (by rw [Nat.zero_add]; exact hv) hz
   have hv20:(spC x)[20]?=some (.int .i64 x.2.1):=by
    unfold spC
    rw [List.getElem?_append_right (by rw [qw,x.1.2.1]; decide),qw,x.1.2.1]
    rfl
   have hv21:(spC x)[21]?=some (.int .i64 x.2.2):=by
    unfold spC
    rw [List.getElem?_append_right (by rw [qw,x.1.2.1]; decide),qw,x.1.2.1]
    rfl
   have hP1:∀ {w':World} {Z:Sl→World→Prop},St F0 w0 w' (qt xb (spC x) :: clA 1 t9 (u8s (atB (O.take i))) :: qv 1 t8' (u8s (nB (qdc (O.take i)) ++ x.1.1)) :: qv 20 t10 ((qdc (O.take i)).flatMap nmC) :: qv 22 t5 (O.flatMap spC) :: ps)→(∀ r w'',St F0 w0 w'' (qt xb (spC x) :: clA 1 r (u8s (atB (O.take i) ++ beJ 4 4 x.2.1)) :: qv 1 t8' (u8s (nB (qdc (O.take i)) ++ x.1.1)) :: qv 20 t10 ((qdc (O.take i)).flatMap nmC) :: qv 22 t5 (O.flatMap spC) :: ps)→Z r w'')→qqf 23 [sV t9,.int .i64 x.2.1] w' Z:=fun h hz =>
    qhd.cl (s:=t9) (xs:=atB (O.take i)) h (by omega) fun r w' _ _ h=>⟨r,rfl,hz r w' h.sub⟩
   have tail:∀ {w:World} {r:Sl},St F0 w0 w (qt xb (spC x) :: clA 1 r (u8s (atB (O.take i) ++ beJ 4 4 x.2.1)) :: qv 1 t8' (u8s (nB (qdc (O.take i)) ++ x.1.1)) :: qv 20 t10 ((qdc (O.take i)).flatMap nmC) :: qv 22 t5 (O.flatMap spC) :: ps) →
    qqf 23 [sV r,.int .i64 x.2.2] w fun r76 w75=>ldA w75 (Addr.add ⟨xb,0,none⟩ 0) 20 fun c77=>(c77).size=20∧nw w75 ⟨(spl (u8s z20) 0 c77)⟩ 39 fun a78 w79=>rdO w79 (some a78) (1 * 20) fun c80=>apK Tryz.prog 39 w79 t10.a t10.len t10.cap 1 c80 fun s81 w82=>lt (IntKind.i64.wrap ((i:Int)+1)) fun x83 =>
     (⟨lb,0,none⟩=(⟨lb,0,none⟩:Addr)∧t6=t6∧(⟨none,0,0⟩:Sl)=⟨none,0,0⟩∧t5=t5∧(t5.len:Int)=(t5.len:Int))∧I t8' r76 s81 x83 w82∧μ t8' r76 s81 x83 w82 < μ t8 t9 t10 (i:Int) wL:=fun {w r} h=>by
    refine qhd.cl (s:=r) (xs:=atB (O.take i) ++ beJ 4 4 x.2.1) h (by rw [List.length_append,qlc]; omega) fun r2 w _ _ h=>⟨r2,rfl,?_⟩
    have hN:(nmC x.1).length=20:=(inferInstance:Rec nmC 20).len x.1
    have hA:∀ {Z:Array Value→Prop},Z ⟨nmC x.1⟩→ldA w (Addr.add ⟨xb,0,none⟩ 0) 20 Z:=fun hz=>by
     rw [qmb]
     refine (h.toB xb).blk.ldA (cs:=⟨nmC x.1⟩) hN (fun j hj=>?_) hz
     unfold spC nmC
     rw [List.getElem?_append_left (by rw [qw,x.1.2.1]; omega)]
     simp
    refine hA ⟨hN,?_⟩
    rw [qvg (by rw [hN]; rfl)]
    refine h.pushR (s:=t10) (f:=nmC) (L:=qdc (O.take i)) (x:=x.1) (by omega) rfl fun t10' w _ h=>?_
    refine qx (e':=((i+1:Nat):Int)) (by rw [qh (by omega) (by omega)]; rfl) ?_
    refine ⟨⟨rfl,rfl,rfl,rfl,rfl⟩,hin (i+1) _ _ _ _ _ ⟨rfl,by omega,?_⟩ (by omega)⟩
    rw [e1,e2,nB_snoc]
    exact h.sub
   refine hI hv20 h ⟨?_,?_⟩
   · refine hP1 h fun r w h=>?_
     refine hI hv21 h ?_
     exact tail h
   · refine hI hv21 h ?_
     refine hP1 h fun r w h=>?_
     exact tail h
 · have:i=O.length:=by omega
   subst this
   rw [List.take_length] at h
   refine MBuild_8 (O:=O) (NL:=NL) (s:=s) (t10:=t10) (ps:=qv 1 t8 (u8s (nB (qdc O))) :: clA 1 t9 (u8s (atB O)) :: qv 22 t5 (O.flatMap spC) :: ps) h.sub hn hNL hO hnl fun t w ht h=>hk t w ht h.sub
end
end Go.Proofs.YtonmgkkkiejicaaGreat
namespace Go.Proofs.YtonmgkkkiejicaaGreat
open Go Go.Proofs
set_option linter.unusedVariables false
set_option linter.unusedSimpArgs false
attribute [local irreducible] apK cpK mkK br qie lessV swapV dtV
theorem qtf {s:ByteArray} (h:qhi s=true):s.size=49:=by
 unfold qhi at h
 simp only [Bool.and_eq_true] at h
 obtain ⟨h1,h2,h3⟩:=h
 have e1:qee s=s.extract qvj.size s.size:=by unfold qee; rw [if_pos h1]
 have e2:cutS1 (qee s)=(qee s).extract 0 ((qee s).size - qzh.size):=by unfold cutS1; rw [if_pos h2]
 have l1:(qee s).size=s.size - 5:=by
  rw [e1,ByteArray.size_extract]
  show min s.size s.size - 5=_
  omega
 have l2:(cutS1 (qee s)).size=(qee s).size - 4:=by
  rw [e2,ByteArray.size_extract]
  show min ((qee s).size - 4) (qee s).size - 0=_
  omega
 unfold begB at h1
 unfold endB at h2
 unfold okN at h3
 simp only [Bool.and_eq_true,decide_eq_true_eq] at h1 h2 h3
 have a1:5≤s.size:=h1.1
 have a2:4≤(qee s).size:=h2.1
 omega
theorem spsA_len (rw:Mk→List Rw) (L:List Mk):(qjj rw L).length=(L.map fun m=>(rw m).length).sum:=by
 unfold qjj
 rw [List.length_flatMap]
 have e:(L.zipIdx.map fun a=>((rw a.1).map (spR a.2)).length)=L.map fun m=>(rw m).length:=by
  have:L=L.zipIdx.map Prod.fst:=by simp
  conv=>rhs; rw [this,List.map_map]
  exact List.map_congr_left fun a _=>by simp
 rw [e]
section
variable {F0:List Nat} {w0 w:World} {ps rest:List As} {s d t6:Sl} {lb:Nat} {K:Ending→World→Prop} {Q:VWP} {O:List Sp} {L:List Mk} {rw:Mk→List Rw}
theorem MBuild_6 {t5:Sl} (h:St F0 w0 w (qv 1 t6 (u8s (namesB L)) :: qv 22 t5 (O.flatMap spC) :: ps)) [PkB lb ps [.slice d.a d.len d.cap] rest] (hd:d.len=L.length) (hL:L.length≤64) (hO:O.length≤2048) (hnl:(namesB L).length≤3200)
 (hk:∀ t w',(t.len=(mB (L.map (·.1)) O).length∧t.cap=t.len)→St F0 w0 w' (rdA 1 t (u8s (mB (L.map (·.1)) O)) :: ps)→Q (.tuple ⟨[sV t,.int .i64 0]⟩) w') :
 ql.j6 ⟨lb,0,none⟩ t5 t6 ⟨none,0,0⟩ ⟨none,0,0⟩ ⟨none,0,0⟩ ⟨none,0,0⟩ Q w:=by
 unfold ql.j6
 refine qud (fun (k:Nat) (t6:Sl) w'=>k≤(4 - (namesB L).length % 4) % 4∧St F0 w0 w' (qv 1 t6 (u8s (namesB L ++ List.replicate k 0)) :: qv 22 t5 (O.flatMap spC) :: ps)) (fun k=>4 - k) 0 ⟨Nat.zero_le _,by simpa using h⟩ ?_
 clear h
 rintro k t6 wL I μ ⟨hk0,h⟩ hin
 have hl:=h.len
 rw [qeb,List.length_append,List.length_replicate,Nat.mul_one] at hl
 unfold ql.b4
 refine ⟨by decide,?_⟩
 refine qx (e':=((t6.len % 4:Nat):Int)) (by rw [Int.tmod_eq_emod_of_nonneg (by omega)]; omega) ?_
 by_cases g:t6.len % 4=0
 · rw [g]
   refine qmd (fun g=>by simp at g) (fun _=>?_)
   have hke:k=(4 - (namesB L).length % 4) % 4:=by omega
   have h:St F0 w0 wL (qv 1 t6 (u8s (qfg (L.map (·.1)))) :: qv 22 t5 (O.flatMap spC) :: ps):=by
    rw [← namesB_eq]
    unfold padB
    rw [← hke]
    exact h
   have hpl:=pad_len (namesB L)
   rw [namesB_eq] at hpl
   have hn7:(L.map (·.1)).length=L.length:=List.length_map ..
   generalize L.map (·.1)=NL at h hpl hn7 hk
   have h:St F0 w0 wL (qv 22 t5 (O.flatMap spC) :: qv 1 t6 (u8s (qfg NL)) :: ps):=h.at1
   refine MBuild_7 (s:=d) (t6:=t6) (NL:=NL) (O:=O) h (by omega) (by omega) hO (by omega) fun t w ht h=>?_
   have h:St F0 w0 w (rdA 1 t (u8s (mB NL O)) :: ps):=h.tail fun _ _ _ h=>h.drop
   exact hk t w ht h
 · refine qmd (fun _=>?_) (fun g2=>by
    have:((t6.len % 4:Nat):Int)=0:=by simpa using g2
    omega)
   refine h.new fun zb w h=>?_
   have h:St F0 w0 w (qt zb (u8s [0]) :: qv 1 t6 (u8s (namesB L ++ List.replicate k 0)) :: qv 22 t5 (O.flatMap spC) :: ps):=h
   haveI:Rdb F0 w0 ⟨some ⟨zb,0,none⟩,1,1⟩ (qt zb (u8s [0]) :: qv 1 t6 (u8s (namesB L ++ List.replicate k 0)) :: qv 22 t5 (O.flatMap spC) :: ps) 1 (u8s [0]):=qdg rfl
   refine h.appI (s:=t6) (s2:=⟨some ⟨zb,0,none⟩,1,1⟩) (zs:=namesB L ++ List.replicate k 0) (ys:=[0]) (k:=.u8) (by rw [List.length_append,List.length_replicate]; show _+1≤_; omega) fun t6' w h=>?_
   refine ⟨⟨rfl,rfl,rfl,rfl,rfl,rfl⟩,hin (k+1) _ _ ⟨by omega,?_⟩ (by omega)⟩
   rw [List.append_assoc,← List.replicate_succ'] at h
   exact h.sub
theorem MBuild_5 {t5:Sl} (h:St F0 w0 w (qv 22 t5 (O.flatMap spC) :: ps)) [PkB lb ps [.slice d.a d.len d.cap] rest] [Rdb F0 w0 d ps 2 (mks L)] (hL:L.length≤64) (hO:O.length≤2048) (hn:∀ m ∈ L,qhi m.1=true)
 (hk:∀ t w',(t.len=(mB (L.map (·.1)) O).length∧t.cap=t.len)→St F0 w0 w' (rdA 1 t (u8s (mB (L.map (·.1)) O)) :: ps)→Q (.tuple ⟨[sV t,.int .i64 0]⟩) w') :
 ql.j4 ⟨lb,0,none⟩ t5 Q w:=by
 haveI iR2:Rdb F0 w0 d ps 2 (L.flatMap mkC):=(inferInstance:Rdb F0 w0 d ps 2 (mks L))
 have hl:=h.rlen (s:=d) (f:=mkC) (L:=L)
 have hn0:∀ M:List Mk,(∀ m ∈ M,qhi m.1=true)→(namesB M).length=50 * M.length:=by
  intro M
  induction M with
  | nil=>intro _; rfl
  | cons m M ih =>
    intro hM
    show (nm0 m.1 ++ namesB M).length=_
    rw [List.length_append,ih fun x hx=>hM x (List.mem_cons_of_mem _ hx),List.length_cons]
    unfold nm0
    rw [List.length_append,qnd,qtf (hM m List.mem_cons_self)]
    show 49+1+_=_
    omega
 have hnl:=hn0 L hn
 have hni:∀ i,(namesB (L.take i)).length≤3200:=fun i=>by have:=namesB_le L i; omega
 unfold ql.j4 ql.j5
 refine (h.toB lb).blk.ldL (n:=d) rfl ?_
 unfold ql.j15
 refine loop2 (fun (i:Nat) (t6:Sl) (i':Int) w'=>i'=(i:Int)∧i≤L.length∧St F0 w0 w' (qv 1 t6 (u8s (namesB (L.take i))) :: qv 22 t5 (O.flatMap spC) :: ps)) (fun i=>L.length - i) 0 ⟨rfl,Nat.zero_le _,h.nil 1⟩ ?_
 clear h
 rintro i t6 _ wL I μ ⟨rfl,hi,h⟩ hin
 unfold ql.b5
 refine qsc (fun g=>?_) (fun g=>?_)
 · have hix:i < L.length:=by omega
   have hsz:=qtf (hn _ (List.getElem_mem hix))
   have hsn:L.take (i+1)=L.take i ++ [L[i]]:=List.take_succ_eq_append_getElem hix
   refine h.lr (s:=d) (f:=mkC) (L:=L) i rfl hix ?_
   generalize L[i]=m at hsz hsn ⊢
   rw [zc_pack]
   refine h.new fun pb w h=>?_
   have h:St F0 w0 w (qt pb (mkC (⟨⟨[]⟩⟩,⟨none,0,0⟩)) :: qv 1 t6 (u8s (namesB (L.take i))) :: qv 22 t5 (O.flatMap spC) :: ps):=h
   refine ⟨rfl,?_⟩
   refine h.setR (f:=mkC) (x:=m) rfl fun w h=>?_
   have hld:∀ {Z:ByteArray→Prop},Z m.1→ldS w (Addr.add ⟨pb,0,none⟩ 0) Z:=fun hz=>by
    rw [qmb]
    exact (h.toB pb).blk.ldS (n:=m.1) rfl hz
   refine hld ⟨?_,?_⟩
   · rw [hsz]; decide
   refine qjc ⟨rfl,?_⟩
   rw [str0_cells,str0_size]
   refine qjc ?_
   have hlen0:(nm0 m.1).length=m.1.size+1:=by unfold nm0; rw [List.length_append,qnd]; rfl
   have h2:St F0 w0 w (apA t6 (u8s (namesB (L.take i))) :: qv 22 t5 (O.flatMap spC) :: ps):=(h.drop).apO
   refine h2.apx (ys:=nm0 m.1) rfl hlen0 (by omega) (by have:=hni i; omega) fun t6' w h=>?_
   rw [← namesB_snoc,← hsn] at h
   refine qx (e':=((i+1:Nat):Int)) (by rw [qh (by omega) (by omega)]; rfl) ?_
   exact ⟨⟨rfl,rfl,rfl,rfl,rfl,rfl,rfl,rfl⟩,hin (i+1) _ _ _ ⟨rfl,by omega,h⟩ (by omega)⟩
 · have:i=L.length:=by omega
   subst this
   rw [List.take_length] at h
   exact MBuild_6 h hl.symm hL hO (by omega) hk
theorem packs_Clone.c (h:St F0 w0 w ps) [iR:Rdb F0 w0 s ps 2 (mks L)] (hP:L.length≤1000000) (hk:∀ t w',t.len=L.length→St F0 w0 w' (qv 2 t (mks L) :: ps)→K (.returned (sV t)) w') :
 Calls Tryz.prog 18 ⟨[sV s]⟩ w K:=by
 haveI iR2:Rdb F0 w0 s ps 2 (L.flatMap mkC):=iR
 refine qsb (qpd.ok _ _ _ ?_)
 unfold qpd
 refine qmd (fun g=>?_) (fun g=>?_)
 · have:s.a=none:=by simpa using g
   have hP:=h.isnil (s:=s) (f:=mkC) (L:=L) this
   subst hP
   exact hk ⟨none,0,0⟩ w rfl (h.nilO)
 · refine h.cloneR (s2:=s) (f:=mkC) (M:=L) (by omega) fun s' w' hs h=>?_
   exact hk s' w' hs h
theorem MBuild.c (h:St F0 w0 w ps) [iR:Rdb F0 w0 s ps 2 (mks L)] (hL:L.length≤1000000) (hN:∀ m ∈ L,m.1.size≤1000000000) (hRl:(L.map fun m=>(rw m).length).sum≤900000000) (hP:∀ m ∈ L,Rdb F0 w0 m.2 ps 22 ((rw m).flatMap rwC))
 (hk1:∀ w',badM rw (qld L)→St F0 w0 w' ps→K (.returned (.tuple ⟨[.slice none 0 0,.int .i64 1]⟩)) w')
 (hk5:∀ w',¬ badM rw (qld L)→(64 < L.length ∨ ∃ O,MgO (qjj rw (qld L)) O∧2048 < O.length)→St F0 w0 w' ps→K (.returned (.tuple ⟨[.slice none 0 0,.int .i64 5]⟩)) w')
 (hk0:∀ O t w',¬ badM rw (qld L)→L.length≤64→MgO (qjj rw (qld L)) O→O.length≤2048→(t.len=(mB ((qld L).map (·.1)) O).length∧t.cap=t.len)→St F0 w0 w' (rdA 1 t (u8s (mB ((qld L).map (·.1)) O)) :: ps)→K (.returned (.tuple ⟨[sV t,.int .i64 0]⟩)) w') :
 Calls Tryz.prog 9 ⟨[sV s]⟩ w K:=by
 have hp:=qrd L
 have hpl:=hp.length_eq
 have hm:∀ m ∈ qld L,m ∈ L:=fun m hm=>hp.mem_iff.1 hm
 have hSl:(qjj rw (qld L)).length≤900000000:=by
  rw [spsA_len,(hp.map fun m=>(rw m).length).sum_nat]; exact hRl
 have hr1:∀ m ∈ qld L,(rw m).length≤1000000000:=fun m hm'=>by
  have:(rw m).length≤(L.map fun m=>(rw m).length).sum:=one_le_sum (f:=fun m=>(rw m).length) (hm m hm')
  omega
 refine qsb (ql.ok _ _ _ ?_)
 unfold ql ql.j1
 refine packs_Clone.c (s:=s) (L:=L) h hL fun d w hd h=>⟨d,rfl,?_⟩
 have hz:zc Tryz.prog 28=⟨[.slice none 0 0]⟩:=by kernel_rfl
 rw [hz]
 refine h.new fun lb w h=>?_
 have h:St F0 w0 w (qt lb [.slice none 0 0] :: qv 2 d (mks L) :: ps):=h
 refine h.st (by show 0 < 1; decide) trivial fun w h=>?_
 have h:St F0 w0 w (qt lb [.slice d.a d.len d.cap] :: qv 2 d (mks L) :: ps):=h
 refine (h.toB lb).blk.ldL (n:=d) rfl ?_
 have h:St F0 w0 w (qv 2 d (mks L) :: qt lb [.slice d.a d.len d.cap] :: ps):=h.at1
 refine mSliceStable.c (lb:=lb) (wt:=rkM L) h (key_rk L) hL fun w h=>⟨rfl,?_⟩
 have h:St F0 w0 w (qv 2 d (mks (qld L)) :: qt lb [.slice d.a d.len d.cap] :: ps):=h
 have hPs:∀ m ∈ qld L,Rdb F0 w0 m.2 (qv 2 d (mks (qld L)) :: qt lb [.slice d.a d.len d.cap] :: ps) 22 ((rw m).flatMap rwC):=fun m hm'=>by
  haveI:=hP m (hm m hm')
  infer_instance
 unfold ql.j2
 refine (h.toB lb).blk.ldL (n:=d) rfl ?_
 refine wrong.c (L:=qld L) (rw:=rw) h (by omega) (fun m hm'=>hN m (hm m hm')) hr1 hPs (fun w hb h=>⟨true,rfl,?_⟩) (fun w hb h=>⟨false,rfl,?_⟩)
 · exact qmd (fun _=>hk1 w hb h.drop.drop) (fun g=>by cases g)
 refine qmd (fun g=>by cases g) (fun _=>?_)
 refine (h.toB lb).blk.ldL (n:=d) rfl ?_
 refine qsc (fun g=>?_) (fun g=>?_)
 · exact hk5 w hb (Or.inl (by omega)) h.drop.drop
 have hL64:L.length≤64:=by omega
 unfold ql.j3
 refine (h.toB lb).blk.ldL (n:=d) rfl ?_
 refine merge.c (L:=qld L) (rw:=rw) h (by omega) hSl hr1 hPs fun t5 O w hO h=>⟨t5,rfl,?_⟩
 have hl5:=h.rlen (s:=t5) (f:=spC) (L:=O)
 refine qsc (fun g=>?_) (fun g=>?_)
 · exact hk5 w hb (Or.inr ⟨O,hO,by omega⟩) h.drop.drop.drop
 refine MBuild_5 (L:=qld L) (O:=O) (d:=d) h (by omega) (by omega) (fun m hm'=>?_) fun t w ht h=>hk0 O t w hb hL64 hO (by omega) ht (h.tail fun _ _ _ h=>h.drop.drop)
 obtain ⟨i,hi,rfl⟩:=List.getElem_of_mem hm'
 cases e:qhi (qld L)[i].1 with
 | true=>rfl
 | false=>exact absurd ⟨i,hi,Or.inl e⟩ hb
end
end Go.Proofs.YtonmgkkkiejicaaGreat
namespace Go.Proofs.YtonmgkkkiejicaaGreat
open Go Go.Proofs
set_option linter.unusedVariables false
set_option linter.unusedSimpArgs false
attribute [local irreducible] apK cpK mkK br qie
section
variable {F0:List Nat} {w0 w:World} {ps rest:List As} {s t u:Sl} {xs:List Int} {S L:List Nd} {n:Nd} {pr:Nd→List Nm} {K:Ending→World→Prop}
theorem qsl.c {v:Int} {n:Nat} (h:St F0 w0 w (qv 1 s (u8s xs) :: ps)) (hL:xs.length≤1000000000) (hv:0≤v∧v < 9223372036854775808) (hn:n≤8)
 (hk:∀ s' w',St F0 w0 w' (qv 1 s' (u8s (xs ++ beJ n n v)) :: ps)→K (.returned (sV s')) w'):Calls Tryz.prog 71 ⟨[sV s,.int .i64 v,.int .i64 (n:Int)]⟩ w K:=by
 refine qsb (qob.ok _ _ _ _ _ ?_)
 unfold qob
 refine qx (e':=v) (by rw [qle]; omega) ?_
 unfold qob.j1
 refine qx (qh (by omega) (by omega)) ?_
 unfold qob.j3
 refine loop2 (fun (j:Nat) (o:Sl) (i':Int) w'=>i'=(n:Int) - 1 - j∧j≤n∧St F0 w0 w' (qv 1 o (u8s (xs ++ beJ n j v)) :: ps)) (fun j=>n - j) 0 ⟨by omega,Nat.zero_le _,by simpa [beJ] using h⟩ ?_
 clear h
 rintro j o _ wL I μ ⟨rfl,hj,h⟩ hin
 unfold qob.b1
 refine qsc (fun g=>?_) (fun g=>?_)
 · refine qx (e':=((n - 1 - j:Nat):Int)) (by rw [qle]; omega) ?_
   refine qx (e':=((8 * (n - 1 - j):Nat):Int)) (by rw [qle]; omega) ?_
   refine ⟨by omega,?_⟩
   refine qx (qoh .u64 _ (show 8 * (n - 1 - j)≤64 by omega)) ?_
   refine qx (qqj _) ?_
   refine h.pushI (s:=o) (by rw [List.length_append,qlc]; omega) fun o2 w h=>?_
   refine qx (qh (by omega) (by omega)) ?_
   refine ⟨rfl,hin (j+1) _ _ _ ⟨by omega,by omega,?_⟩ (by omega)⟩
   rw [qil,← List.append_assoc]
   exact h
 · have:j=n:=by omega
   subst this
   unfold qob.j2
   exact hk o wL h
end
theorem nmA_get {A P:List Nm} {k:Nat} (h:k < P.length):(nmA A P).getD k 0=(posN A P[k]:Int):=by
 unfold nmA
 rw [List.getD_eq_getElem?_getD,List.getElem?_map,List.getElem?_eq_getElem h]
 rfl
theorem edw_get {q:List Int} {k:Nat} (hq:2 < q.length) (h1:1≤k) (hk:k < q.length):(edw q).take k=(edw q).take (k - 1) ++ [if k=q.length - 1 then q.getD k 0+2147483648 else q.getD k 0]:=by
 obtain ⟨k,rfl⟩:∃ m,k=m+1:=⟨k - 1,by omega⟩
 have hl:(edw q).length=q.length - 1:=by rw [edw_len,if_pos hq]
 rw [Nat.add_sub_cancel,qkh (by omega)]
 congr 2
 unfold edw
 rw [if_pos hq,List.getD_eq_getElem?_getD]
 have hdl:(q.drop 1).dropLast.length=q.length - 2:=by rw [List.length_dropLast,List.length_drop]; omega
 by_cases g:k+1=q.length - 1
 · rw [if_pos g,List.getElem?_append_right (by omega),show k - (q.drop 1).dropLast.length=0 by omega,← g]
   rfl
 · rw [if_neg g,List.getElem?_append_left (by omega),List.getElem?_dropLast,if_pos (by rw [List.length_drop]; omega),List.getElem?_drop,List.getD_eq_getElem?_getD,Nat.add_comm 1 k]
end Go.Proofs.YtonmgkkkiejicaaGreat
namespace Go.Proofs.YtonmgkkkiejicaaGreat
open Go Go.Proofs
set_option linter.unusedVariables false
set_option linter.unusedSimpArgs false
attribute [local irreducible] apK cpK mkK br qie
instance elt_str:Elt Tryz.prog 9 (.string ⟨#[]⟩):=⟨⟨Tryz.t9,by kernel_rfl,rfl,by decide,by decide⟩,by kernel_rfl⟩
theorem zc_20b:zc Tryz.prog 38=⟨ivs .u8 z20⟩:=by kernel_rfl
theorem ldS_c {w:World} {a:Addr} {n:ByteArray} {K:ByteArray→Prop} (hc:w.cell? a=some (.string n)) (hk:K n):ldS w a K:=⟨n,hc,hk⟩
theorem Rd.atS {w:World} {s:Sl} {l:List Value} {i:Int} {n:ByteArray} {K:ByteArray→Prop} (h:Rd w 1 s l) (j:Nat) (hi:i=j) (hj:l[j]?=some (.string n)) (hk:K n):ixS s.a s.len i 1 fun a=>ldS w a K:=by
 subst hi
 have hl:=h.1
 have hjl:j < l.length:=(List.getElem?_eq_some_iff.1 hj).1
 refine h.ix (by decide) (by omega) (by omega) fun a ha=>?_
 rw [show ((j:Int)).toNat * 1=j by omega]
 exact ldS_c (by rw [h.cell ha hjl]; exact hj) hk
section
variable {F0:List Nat} {w0 w:World} {ps rest:List As} {s t u:Sl} {xs:List Int} {S L:List Nd} {C:List Cm} {A:List Nm} {n:Nd} {P:List Nm} {g:Nm→Int} {gb xb i:Nat} {t3 t4 t5 t12 t13:Sl} {l:List (List Int)}
 {Q:VWP}
end
end Go.Proofs.YtonmgkkkiejicaaGreat
namespace Go.Proofs.YtonmgkkkiejicaaGreat
open Go Go.Proofs
set_option linter.unusedVariables false
set_option linter.unusedSimpArgs false
structure EncP (A:List Nm) (f:Nat→Int) (E:Nat) (P Q:Int) (PP:List Nm):Prop where
 ris:Ris A
 mem:∀ p ∈ PP,p ∈ A
 len:A.length≤1024
 a:P=numA (nmA A PP)
 b:∃ e,Q=numB e (nmA A PP)∧e+(edw (nmA A PP)).length≤E∧∀ j,j < (edw (nmA A PP)).length→f (e+j)=(edw (nmA A PP)).getD j 0
def lst0 (P:Int):List Int:=if P=1879048192 then [] else [P]
theorem posN_mem {A:List Nm} (hA:Ris A) {p:Nm} (hp:p ∈ A):∃ h:posN A p < A.length,A[posN A p]=p:=by
 obtain ⟨j,hj,rfl⟩:=List.getElem_of_mem hp
 have:=pos_at hA hj
 exact ⟨by omega,by simp only [this]⟩
section
variable {A PP:List Nm} {f:Nat→Int} {E:Nat} {P Q:Int}
theorem EncP.q (h:EncP A f E P Q PP) {k:Nat} (hk:k < PP.length):∃ hj:posN A PP[k] < A.length,(nmA A PP).getD k 0=(posN A PP[k]:Int)∧A[posN A PP[k]]=PP[k]:=by
 obtain ⟨hj,e⟩:=posN_mem h.ris (h.mem _ (List.getElem_mem hk))
 exact ⟨hj,nmA_get hk,e⟩
theorem EncP.small (h:EncP A f E P Q PP) {k:Nat} (hk:k < PP.length):0≤(nmA A PP).getD k 0∧(nmA A PP).getD k 0 < 1024:=by
 obtain ⟨hj,e,_⟩:=h.q hk
 have:=h.len
 omega
theorem EncP.lst (h:EncP A f E P Q PP):lst0 P=(nmA A PP).take 1:=by
 have hl:=nmA_len A PP
 unfold lst0
 rw [h.a]
 unfold numA
 by_cases g:0 < (nmA A PP).length
 · rw [if_pos g]
   have:=h.small (k:=0) (by omega)
   rw [if_neg (by omega),qkh g]
   rfl
 · rw [if_neg g,if_pos rfl,List.eq_nil_of_length_eq_zero (l:=nmA A PP) (by omega)]
   rfl
theorem EncP.none (h:EncP A f E P Q PP) (hQ:Q=1879048192):lst0 P=nmA A PP:=by
 have hl:=nmA_len A PP
 rw [h.lst]
 obtain ⟨e,he,_⟩:=h.b
 rw [he] at hQ
 unfold numB at hQ
 refine List.take_of_length_le ?_
 split at hQ
 · have:=h.small (k:=1) (by omega)
   omega
 · split at hQ
   · omega
   · omega
theorem EncP.many (h:EncP A f E P Q PP) (hQ2:2147483648≤Q):2 < PP.length∧∃ e:Nat,Q=2147483648+e∧e+(PP.length - 1)≤E∧∀ j,j < PP.length - 1→f (e+j)=(edw (nmA A PP)).getD j 0:=by
 have hl:=nmA_len A PP
 obtain ⟨e,he,h1,h2⟩:=h.b
 rw [he] at hQ2
 unfold numB at hQ2
 split at hQ2
 · have:=h.small (k:=1) (by omega)
   omega
 · rename_i g
   split at hQ2
   · rename_i g2
     rw [edw_len,if_pos g2,hl] at h1 h2
     refine ⟨by omega,e,?_,h1,h2⟩
     rw [he]
     unfold numB
     rw [if_neg g,if_pos g2]
   · omega
theorem edw_at {q:List Int} (hq:2 < q.length) {j:Nat} (hj:j < q.length - 1):(edw q).getD j 0=if j=q.length - 2 then q.getD (j+1) 0+2147483648 else q.getD (j+1) 0:=by
 have h:=edw_get (q:=q) (k:=j+1) hq (by omega) (by omega)
 have hl:(edw q).length=q.length - 1:=by rw [edw_len,if_pos hq]
 rw [Nat.add_sub_cancel,qkh (by omega)] at h
 have h:=List.append_cancel_left h
 injection h with h _
 rw [h]
 by_cases g:j=q.length - 2
 · rw [if_pos g,if_pos (by omega)]
 · rw [if_neg g,if_neg (by omega)]
theorem EncP.short (h:EncP A f E P Q PP) {e m:Nat} (hQ:Q=2147483648+(e:Int)) (h1:∀ j,j < m→f (e+j) < 2147483648):e+m < E:=by
 have hl:=nmA_len A PP
 obtain ⟨hp,e',he,h3,h4⟩:=h.many (by omega)
 have:e'=e:=by omega
 subst this
 refine Classical.byContradiction fun hc=>?_
 have:=h1 (PP.length - 2) (by omega)
 rw [h4 _ (by omega),edw_at (by omega) (by omega),if_pos (by omega)] at this
 have:=h.small (k:=PP.length - 2+1) (by omega)
 omega
end
end Go.Proofs.YtonmgkkkiejicaaGreat
namespace Go.Proofs.YtonmgkkkiejicaaGreat
open Go Go.Proofs
set_option linter.unusedVariables false
set_option linter.unusedSimpArgs false
attribute [local irreducible] apK cpK mkK br qie
theorem be4_b {l:List Int} (h:qzc l) (hl:l.length≤4):0≤be l∧be l < 4294967296:=by
 have:=qdk h (n:=4) hl
 have e:((2:Int) ^ (8 * 4))=4294967296:=by decide
 rw [e] at this
 exact this
theorem nu4 {xs:List Int} (hx:qzc xs) (at':Nat) (err:Int):nuS xs at' err 4=(be (tkS xs at' err 4).1,(tkS xs at' err 4).2):=by
 obtain ⟨h1,h2,_⟩:=tkS_ok hx at' err 4
 have:=be4_b h1 h2
 show (if 9223372036854775807 < be (tkS xs at' err 4).1 then _ else _)=_
 rw [if_neg (by omega)]
 rfl
section
variable {F0:List Nat} {w0 w:World} {ps rest:List As} {s t te ta:Sl} {Eb l:List Int} {A:List Nm} {P Q:Int} {K:Ending→World→Prop}
end
end Go.Proofs.YtonmgkkkiejicaaGreat
namespace Go.Proofs.YtonmgkkkiejicaaGreat
open Go Go.Proofs
set_option linter.unusedVariables false
set_option linter.unusedSimpArgs false
attribute [local irreducible] qie
structure Vg (S:List Cm) (g:Nm→Int):Prop where
 ris:S.Pairwise ltC
 ok:OkC S
 full:∃ O,Wk (fC S) true O g∧S.length≤O.length
 len:S.length≤1024
theorem Vg.nm {S:List Cm} {g:Nm→Int} (h:Vg S g):Ris (S.map (·.id)):=by
 unfold Ris
 rw [List.pairwise_map]
 exact h.ris
theorem flat_at {α:Type} {f:α→List Int} {sz:Nat} (hf:∀ x,(f x).length=sz) (r:List Int):∀ {L:List α} {j:Nat} (hj:j < L.length),((L.flatMap f ++ r).drop (sz * j)).take sz=f L[j]:=by
 intro L
 induction L with
 | nil=>intro j hj; simp at hj
 | cons x L ih =>
   intro j hj
   show ((f x ++ L.flatMap f ++ r).drop _).take sz=_
   rw [List.append_assoc]
   cases j with
   | zero =>
     rw [Nat.mul_zero,List.drop_zero,List.take_left' (hf x)]
     rfl
   | succ j =>
     rw [Nat.mul_succ,Nat.add_comm,← List.drop_drop,List.drop_left' (hf x),ih (by simpa using hj)]
     rfl
section
variable {S:List Cm} {g:Nm→Int} {xs:List Int}
end
end Go.Proofs.YtonmgkkkiejicaaGreat
namespace Go.Proofs.YtonmgkkkiejicaaGreat
open Go Go.Proofs
set_option linter.unusedVariables false
set_option linter.unusedSimpArgs false
attribute [local irreducible] apK cpK mkK br qie
theorem nu8 {xs:List Int} (at':Nat) (err:Int):nuS xs at' err 8=if 9223372036854775807 < be (tkS xs at' err 8).1 then (0,at',5) else (be (tkS xs at' err 8).1,(tkS xs at' err 8).2):=rfl
theorem qwj {xs:List Int} {at' n:Nat} (h:at'+n≤xs.length):tkS xs at' 0 (n:Int)=((xs.drop at').take n,at'+n,0):=by
 unfold tkS
 rw [if_pos ⟨rfl,by omega,by omega⟩,Int.toNat_natCast]
theorem Rd.ldF {w:World} {s:Sl} {ys:List Int} {n:Nat} {K:Array Value→Prop} (h:Rd w 1 s (u8s ys)) (hn:0 < n) (hl:n≤ys.length) (hk:K ⟨u8s (ys.take n)⟩):nz s.a fun a=>ldA w a n K:=by
 have hlen:=h.1
 obtain ⟨a,ha,hc⟩:=h.2 0 (by rw [qeb]; omega)
 rw [ha]
 refine qgd ?_
 refine ⟨⟨u8s (ys.take n)⟩,by rw [List.size_toArray,qeb,List.length_take]; omega,fun i hi=>?_,hk⟩
 rw [h.cell ha (by rw [qeb]; omega)]
 show (ivs .u8 ys)[i]?=(⟨ivs .u8 (ys.take n)⟩:Array Value)[i]?
 simp [ivs,List.getElem?_take,hi]
section
variable {F0:List Nat} {w0 w:World} {ps rest:List As} {s t te ta b:Sl} {Eb R:List Int} {A:List Nm} {n:Nd} {X:List Cx} {K:Ending→World→Prop} {rb xb N i:Nat}
 {t10:Sl} {t5:Int} {Q:VWP} {nx1:Sl→Int→Int→Sl→Sl→Int→Sl→Int→Int→World→Prop}
end
end Go.Proofs.YtonmgkkkiejicaaGreat
namespace Go.Proofs.YtonmgkkkiejicaaGreat
open Go Go.Proofs
set_option linter.unusedVariables false
set_option linter.unusedSimpArgs false
attribute [local irreducible] apK cpK mkK br qie
open Classical in
noncomputable def nmOf (l:List Int):Nm:=if h:idOk l then ⟨l,h⟩ else default
theorem nmOf_ok {l:List Int} (h:idOk l):(nmOf l).1=l:=by unfold nmOf; rw [dif_pos h]
theorem idOk_cut {xs:List Int} {n:Nat} (hB:qzc xs) (h:n+20≤xs.length):idOk ((xs.drop n).take 20):=⟨by rw [List.length_take,List.length_drop]; omega,fun x hx=>hB x (List.mem_of_mem_drop (List.mem_of_mem_take hx))⟩
section
variable {F0:List Nat} {w0 w:World} {ps rest:List As} {s t te ta b:Sl} {xs Eb R:List Int} {A:List Nm} {n:Nd} {X:List Cx} {K:Ending→World→Prop} {rb xb N i a2:Nat}
 {t10:Sl} {Q:VWP} {nx1:Sl→Int→Int→Sl→Sl→Int→Sl→Int→Int→World→Prop}
end
end Go.Proofs.YtonmgkkkiejicaaGreat
namespace Go.Proofs.YtonmgkkkiejicaaGreat
open Go Go.Proofs
set_option linter.unusedVariables false
set_option linter.unusedSimpArgs false
attribute [local irreducible] apK cpK mkK br qie
section
variable {F0:List Nat} {w0 w:World} {ps rest:List As} {b s t:Sl} {xs ys:List Int} {K:Ending→World→Prop}
theorem nz_o {a:Addr} {Z:Addr→Prop} (h:nz (some a) Z):Z a:=by
 unfold nz at h
 exact h
theorem qrf.c (h:St F0 w0 w ps) [Rdb F0 w0 s ps 1 (u8s xs)] [Rdb F0 w0 t ps 1 (u8s ys)] (hx:qzc xs) (hy:qzc ys) (hk:K (.returned (.bool (xs == ys))) w):Calls Tryz.prog 32 ⟨[sV s,sV t]⟩ w K:=by
 refine qsb (qrf.ok _ _ _ _ ?_)
 unfold qrf
 refine h.bt (s:=s) hx (h.bt (s:=t) hy ?_)
 rw [u8_beq hx hy]
 exact hk
end
end Go.Proofs.YtonmgkkkiejicaaGreat
namespace Go.Proofs.YtonmgkkkiejicaaGreat
open Go Go.Proofs
set_option linter.unusedVariables false
set_option linter.unusedSimpArgs false
attribute [local irreducible] apK cpK mkK br qie
theorem sumB_ok (xs:List Int):qzc (qie xs):=by
 unfold qie
 refine qsi fun v _=>?_
 intro x hx
 have m:∀ y:Int,0≤y % 256∧y % 256 < 256:=fun y=>by omega
 unfold word4 at hx
 simp only [List.mem_cons,List.not_mem_nil,or_false] at hx
 rcases hx with rfl | rfl | rfl | rfl <;> exact m _
section
variable {F0:List Nat} {w0 w:World} {ps rest:List As} {b s t sa sn sg:Sl} {xs ys:List Int} {L:List Nd} {G:Rws Int} {mb gb:Nat} {K:Ending→World→Prop}
end
end Go.Proofs.YtonmgkkkiejicaaGreat
namespace Go.Proofs.YtonmgkkkiejicaaGreat
open Go Go.Proofs
set_option linter.unusedVariables false
set_option linter.unusedSimpArgs false
attribute [local irreducible] qie
structure VM (NL:List ByteArray) (O:List Sp):Prop where
 nm:∀ n ∈ NL,qhi n=true
 so:NL.Pairwise (fun a b=>ltB a b=true)
 ln:NL.length≤64
 ris:O.Pairwise (fun x y=>ltI x.1.1 y.1.1=true)
 ol:O.length≤2048
 rg:∀ o ∈ O,(0≤o.2.1∧o.2.1 < NL.length)∧(0≤o.2.2∧o.2.2≤2147483647)
theorem tbM_more (l:List (List Int)) (j k:Nat):∃ r,tbM l (j+k)=tbM l j ++ r:=by
 induction k with
 | zero=>exact ⟨[],by simp⟩
 | succ k ih =>
   obtain ⟨r,hr⟩:=ih
   exact ⟨r ++ (wrdM.getD (j+k) [] ++ beJ 8 8 (qfi l (j+k))),by rw [← Nat.add_assoc,qwi,hr,List.append_assoc]⟩
theorem tab_at (n:Nat) (l:List (List Int)) {i:Nat} (hi:i≤4):∃ a r,tabM n l=a ++ (beJ 8 8 (qfi l i) ++ r)∧a.length=16+12 * i:=by
 by_cases h4:i=4
 · subst h4
   refine ⟨hdM n ++ tbM l 4 ++ [0,0,0,0],[],by unfold tabM; simp,?_⟩
   rw [List.length_append,List.length_append,qnk,qfk _ (Nat.le_refl _)]
   rfl
 · obtain ⟨r,hr⟩:=tbM_more l (i+1) (4 - (i+1))
   rw [show i+1+(4 - (i+1))=4 by omega] at hr
   have hs:=qwi l i
   rw [hs] at hr
   refine ⟨hdM n ++ (tbM l i ++ wrdM.getD i []),r ++ [0,0,0,0] ++ beJ 8 8 (qfi l 4),?_,?_⟩
   · unfold tabM
     rw [hr]
     simp only [List.append_assoc]
   · rw [List.length_append,List.length_append,qnk,qfk _ hi,qti (by omega)]
     omega
theorem qgm {a b r:List Int} {p n:Nat} (hp:a.length=p) (hn:b.length=n):((a ++ (b ++ r)).drop p).take n=b:=by
 rw [List.drop_left' hp,List.take_left' hn]
section
variable {n:Nat} {l:List (List Int)} {xs:List Int}
theorem qih:endM n l=tabM n l ++ (l.flatten ++ qie (qxi n l)):=by
 unfold endM qxi
 rw [List.append_assoc]
theorem qej:(endM n l).length=92+l.flatten.length:=by
 rw [qih,List.length_append,List.length_append,qlh,qnf]
 omega
theorem endM_at {i:Nat} (hi:i≤4):(((endM n l).drop 12).drop (12 * i+4)).take 8=beJ 8 8 (qfi l i):=by
 obtain ⟨a,r,e,hl⟩:=tab_at n l hi
 rw [List.drop_drop,qih,e,List.append_assoc,List.append_assoc]
 exact qgm (by omega) (qlc ..)
theorem endM_n:((endM n l).drop 8).take 4=beJ 4 4 n:=by
 rw [qih]
 unfold tabM hdM
 simp only [List.append_assoc]
 exact qgm (a:=markM) rfl (qlc ..)
theorem flatM_at {i:Nat} (hi:i < l.length):∃ a r,l.flatten=a ++ (l[i] ++ r)∧72+a.length=qfi l i:=by
 refine ⟨(l.take i).flatten,(l.drop (i+1)).flatten,?_,rfl⟩
 conv=>lhs; rw [← List.take_append_drop i l,List.drop_eq_getElem_cons hi]
 rw [List.flatten_append,List.flatten_cons]
theorem qjh {i:Nat} (hi:i < l.length):((endM n l).drop (qfi l i)).take l[i].length=l[i]:=by
 obtain ⟨a,r,e,hl⟩:=flatM_at hi
 rw [qih,e]
 have e2:tabM n l ++ (a ++ (l[i] ++ r) ++ qie (qxi n l))=(tabM n l ++ a) ++ (l[i] ++ (r ++ qie (qxi n l))):=by simp only [List.append_assoc]
 have e3:qie (qxi n l)=qie (qxi n l):=rfl
 have key:∀ z:List Int,(List.drop (qfi l i) (tabM n l ++ (a ++ (l[i] ++ r) ++ z))).take l[i].length=l[i]:=by
  intro z
  have e2:tabM n l ++ (a ++ (l[i] ++ r) ++ z)=(tabM n l ++ a) ++ (l[i] ++ (r ++ z)):=by simp only [List.append_assoc]
  rw [e2]
  exact qgm (by rw [List.length_append,qlh]; omega) rfl
 exact key _
theorem endM_mark:(endM n l).take 8=markM:=by
 rw [qih]
 unfold tabM hdM
 simp only [List.append_assoc]
 exact List.take_left' rfl
theorem be_ofs {v:Nat} (h:v≤900000):be (beJ 8 8 v)=v:=by
 rw [be_beJ']
 have e:(2:Int) ^ (8 * 8)=18446744073709551616:=by decide
 rw [e]
 omega
theorem be_4 {v:Int} (h:0≤v∧v < 4294967296):be (beJ 4 4 v)=v:=by
 rw [be_beJ']
 have e:(2:Int) ^ (8 * 4)=4294967296:=by decide
 rw [e]
 omega
end
section
variable {NL:List ByteArray} {O:List Sp}
theorem nmsM_len:∀ {NL:List ByteArray},(∀ n ∈ NL,qhi n=true)→(NL.flatMap nm0).length=50 * NL.length:=by
 intro NL
 induction NL with
 | nil=>intro _; rfl
 | cons n NL ih =>
   intro h
   rw [List.flatMap_cons,List.length_append,ih fun m hm=>h m (List.mem_cons_of_mem _ hm),List.length_cons]
   unfold nm0
   rw [List.length_append,qnd,qtf (h n List.mem_cons_self)]
   show 49+1+_=_
   omega
theorem VM.flat (h:VM NL O):(mdL NL O).flatten.length≤70000:=by
 have h1:=nmsM_len h.nm
 have h2:=pad_len (NL.flatMap nm0)
 have h3:(qdc O).length=O.length:=List.length_map ..
 have h4:=h.ln
 have h5:=h.ol
 unfold mdL
 simp only [List.flatten_cons,List.flatten_nil,List.append_nil,List.length_append,qem,qii,qlg]
 unfold qfg
 omega
theorem VM.len (h:VM NL O):(mB NL O).length≤70092:=by
 have:=h.flat
 unfold mB
 rw [qej]
 omega
theorem VM.ok (h:VM NL O):qzc (mB NL O):=by
 unfold mB endM
 refine qne.2 ⟨preM_ok ?_,sumB_ok _⟩
 unfold mdL
 simp only [List.flatten_cons,List.flatten_nil,List.append_nil,qne]
 exact ⟨nmsB_ok _,wB_ok _,nB_ok _,atB_ok _⟩
end
end Go.Proofs.YtonmgkkkiejicaaGreat
namespace Go.Proofs.YtonmgkkkiejicaaGreat
open Go Go.Proofs
set_option linter.unusedVariables false
set_option linter.unusedSimpArgs false
attribute [local irreducible] apK cpK mkK br qie mB
def slF (y:Sl × List Int):List Value:=[.slice y.1.a y.1.len y.1.cap]
instance rec_slF:Rec slF 1 where
 len _:=rfl
 pos:=by decide
 sto x v hv:=by
  have hv:v ∈ slF x:=by simpa using hv
  simp [slF] at hv
  rw [hv]; trivial
instance elt_by:EltR Tryz.prog 32 1 [.slice none 0 0]:=⟨⟨Tryz.t32,by kernel_rfl,rfl,by decide,by decide⟩,by kernel_rfl,rfl,by decide⟩
section
variable {F0:List Nat} {w0 w:World} {ps rest:List As} {b t5:Sl} {xs:List Int} {K:Ending→World→Prop} {Q:VWP} {rb:Nat} {T:List Int}
def TabV (xs:List Int) (T:List Int) (e:Int) (i:Nat):Prop:=∀ NL O,VM NL O→xs=mB NL O→e=0∧∀ j,j < i→T.getD j 0=qfi (mdL NL O) j
theorem cut_3 {p:Nat} {e:Int} (h:St F0 w0 w (qv 1 t5 (ivs .i64 T) :: brA rb (xs.drop 12,p,e) :: ps)) [Rdb F0 w0 b ps 1 (u8s xs)] (hT:T.length=5) (hc:b.len≤b.cap) (hB:qzc xs) (hx2:xs.length≤1000000) (hv:TabV xs T e 5)
 (hno:∀ w',(∀ NL O,VM NL O→xs ≠ mB NL O)→St F0 w0 w' ps→Q (.tuple ⟨[.slice none 0 0,.bool false]⟩) w')
 (hk:∀ (t:Sl) (LL:List (Sl × List Int)) (w':World),LL.length=4→(∀ y ∈ LL,qzc y.2∧y.2.length≤xs.length∧y.1.len≤y.1.cap∧Rdb F0 w0 y.1 ps 1 (u8s y.2))→(∀ NL O,VM NL O→xs=mB NL O→LL.map Prod.snd=mdL NL O)→St F0 w0 w' (qv 1 t (LL.flatMap slF) :: ps)→Q (.tuple ⟨[sV t,.bool true]⟩) w') :
 qpb.j3 b (some ⟨rb,0,none⟩) t5 Q w:=by
 have hbl:=(h.rdb b).1
 rw [qeb,Nat.mul_one] at hbl
 unfold qpb.j3 qpb.j4 qpb.j6
 refine loop2 (fun (a:Nat × List (Sl × List Int)) (t:Sl) (i':Int) w'=>i'=(a.1:Int)∧a.1≤4∧a.2.length=a.1∧(∀ y ∈ a.2,qzc y.2∧y.2.length≤xs.length∧y.1.len≤y.1.cap∧Rdb F0 w0 y.1 ps 1 (u8s y.2))∧(∀ NL O,VM NL O→xs=mB NL O→a.2.map Prod.snd=(mdL NL O).take a.1)∧St F0 w0 w' (qv 1 t (a.2.flatMap slF) :: qv 1 t5 (ivs .i64 T) :: brA rb (xs.drop 12,p,e) :: ps)) (fun a=>4 - a.1) (0,[]) ⟨rfl,Nat.zero_le _,rfl,by simp,fun _ _ _ _=>rfl,h.nilO⟩ ?_
 clear h
 rintro ⟨i,LL⟩ t _ wL I μ ⟨rfl,hi,hLl,hLL,hvL,h⟩ hin
 simp only at hi hLl hLL hvL h hin ⊢
 unfold qpb.b1
 refine qsc (fun g=>?_) (fun g=>?_)
 · have hi4:i < 4:=by omega
   have fail:∀ w,(∀ NL O,VM NL O→xs=mB NL O→False)→St F0 w0 w (qv 1 t (LL.flatMap slF) :: qv 1 t5 (ivs .i64 T) :: brA rb (xs.drop 12,p,e) :: ps)→Q (.tuple ⟨[.slice none 0 0,.bool false]⟩) w:=fun w hf h=>hno w (fun NL O a b=>hf NL O a b) h.drop.drop.drop
   refine h.drewK fun w h=>?_
   refine qxd.c (rb:=rb) h ⟨_,rfl,?_⟩
   by_cases he:¬ e=0
   · exact qck (by simpa using he) (fail w (fun NL O a b=>he (hv NL O a b).1) h)
   refine qxg (by simpa using he) ?_
   have hlx:∀ {w':World} {n:Int} {Z:Int→Prop} (j:Nat),n=j→j < 5→St F0 w0 w' (qv 1 t (LL.flatMap slF) :: qv 1 t5 (ivs .i64 T) :: brA rb (xs.drop 12,p,e) :: ps)→Z (T.getD j 0)→ixS t5.a t5.len n 1 fun a=>ldI .i64 w' a Z:=fun j hn hj h hz=>h.lx (s:=t5) (zs:=T) j hn (by omega) hz
   have hof:∀ NL O,VM NL O→xs=mB NL O→∀ j,j < 5→T.getD j 0=qfi (mdL NL O) j:=fun NL O a b=>(hv NL O a b).2
   have hs:∀ NL O,VM NL O→xs=mB NL O→(qfi (mdL NL O) (i+1):Int)=qfi (mdL NL O) i+((mdL NL O).getD i []).length∧qfi (mdL NL O) (i+1)≤xs.length:=fun NL O a b=>by
    have hl4:i < (mdL NL O).length:=hi4
    have e1:=qig hl4
    have e2:(mdL NL O).getD i []=(mdL NL O)[i]:=by rw [List.getD_eq_getElem?_getD,List.getElem?_eq_getElem hl4]; rfl
    rw [e2]
    refine ⟨by omega,?_⟩
    have h1:=qtl (mdL NL O) (i+1)
    have h2:xs.length=92+(mdL NL O).flatten.length:=by rw [b]; unfold mB; exact qej
    omega
   refine hlx i rfl (by omega) h ?_
   refine qsc (fun g1=>fail w (fun NL O a b=>?_) h) (fun g1=>?_)
   · have:=hof NL O a b i (by omega); omega
   refine qx (e':=((i+1:Nat):Int)) (by rw [qh (by omega) (by omega)]; rfl) ?_
   refine hlx (i+1) rfl (by omega) h ?_
   refine hlx i rfl (by omega) h ?_
   refine qsc (fun g2=>fail w (fun NL O a b=>?_) h) (fun g2=>?_)
   · have:=hof NL O a b i (by omega)
     have:=hof NL O a b (i+1) (by omega)
     have:=hs NL O a b
     omega
   refine qx (e':=((i+1:Nat):Int)) (by rw [qh (by omega) (by omega)]; rfl) ?_
   refine hlx (i+1) rfl (by omega) h ?_
   refine qsc (fun g3=>fail w (fun NL O a b=>?_) h) (fun g3=>?_)
   · have:=hof NL O a b (i+1) (by omega)
     have:=hs NL O a b
     omega
   refine h.drewK fun w h=>?_
   refine hlx i rfl (by omega) h ?_
   refine qx (e':=((i+1:Nat):Int)) (by rw [qh (by omega) (by omega)]; rfl) ?_
   refine hlx (i+1) rfl (by omega) h ?_
   obtain ⟨u,hu⟩:∃ u:Nat,T.getD i 0=u:=⟨(T.getD i 0).toNat,by omega⟩
   obtain ⟨v,hv2⟩:∃ v:Nat,T.getD (i+1) 0=v:=⟨(T.getD (i+1) 0).toNat,by omega⟩
   rw [hu,hv2]
   refine qnj (n:=v) rfl (by omega) ?_
   refine qnj (n:=u) rfl (by omega) (qjc ?_)
   have iC:Rdb F0 w0 ⟨qfe b.a b.cap u 1,v - u,b.cap - u⟩ ps 1 (u8s ((xs.drop u).take (v - u))):=h.drop.drop.drop.cutR b u v (b.cap - u) (by omega) (by omega) hc rfl
   refine h.pushR (s:=t) (f:=slF) (L:=LL) (x:=(⟨qfe b.a b.cap u 1,v - u,b.cap - u⟩,(xs.drop u).take (v - u))) (by omega) rfl fun t' w _ h=>?_
   refine qx (e':=((i+1:Nat):Int)) (by rw [qh (by omega) (by omega)]; rfl) ?_
   refine ⟨⟨rfl,rfl,rfl⟩,hin (i+1,LL ++ [(⟨qfe b.a b.cap u 1,v - u,b.cap - u⟩,(xs.drop u).take (v - u))]) _ _ _ ⟨rfl,by simp only; omega,by simp only [List.length_append,List.length_singleton]; omega,?_,?_,h⟩ (by simp only; omega)⟩
   · intro y hy
     rcases List.mem_append.1 hy with hy | hy
     · exact hLL y hy
     · have:y=(⟨qfe b.a b.cap u 1,v - u,b.cap - u⟩,(xs.drop u).take (v - u)):=by simpa using hy
       subst this
       refine ⟨fun x hx=>hB x (List.mem_of_mem_drop (List.mem_of_mem_take hx)),?_,?_,iC⟩
       · rw [List.length_take,List.length_drop]; omega
       · show v - u≤b.cap - u; omega
   · intro NL O a b
     have hl4:i < (mdL NL O).length:=hi4
     rw [List.map_append,hvL NL O a b,List.take_succ_eq_append_getElem hl4]
     have h1:=hof NL O a b i (by omega)
     have h2:=hof NL O a b (i+1) (by omega)
     have h3:=qig hl4
     have hu2:u=qfi (mdL NL O) i:=by omega
     have hv3:v - u=(mdL NL O)[i].length:=by omega
     have:=qjh (n:=NL.length) hl4
     rw [← hu2,← hv3] at this
     have e:endM NL.length (mdL NL O)=xs:=by rw [b]; unfold mB; rfl
     rw [e] at this
     rw [List.map_singleton]
     simp only [this]
 · have:i=4:=by omega
   subst this
   unfold qpb.j5
   refine hk t LL wL hLl hLL (fun NL O a b=>?_) (h.tail fun _ _ _ h=>h.drop.drop)
   rw [hvL NL O a b]
   rfl
theorem cut.c (h:St F0 w0 w ps) [Rdb F0 w0 b ps 1 (u8s xs)] (hc:b.len≤b.cap) (hB:qzc xs) (hx1:32≤xs.length) (hx2:xs.length≤1000000)
 (hno:∀ w',(∀ NL O,VM NL O→xs ≠ mB NL O)→St F0 w0 w' ps→K (.returned (.tuple ⟨[.slice none 0 0,.bool false]⟩)) w')
 (hk:∀ (t:Sl) (LL:List (Sl × List Int)) (w':World),LL.length=4→(∀ y ∈ LL,qzc y.2∧y.2.length≤xs.length∧y.1.len≤y.1.cap∧Rdb F0 w0 y.1 ps 1 (u8s y.2))→(∀ NL O,VM NL O→xs=mB NL O→LL.map Prod.snd=mdL NL O)→St F0 w0 w' (qv 1 t (LL.flatMap slF) :: ps)→K (.returned (.tuple ⟨[sV t,.bool true]⟩)) w') :
 Calls Tryz.prog 59 ⟨[sV b]⟩ w K:=by
 have hbl:=(h.rdb b).1
 rw [qeb,Nat.mul_one] at hbl
 refine qsb (qpb.ok _ _ _ ?_)
 unfold qpb qpb.j1
 refine qnj (n:=12) rfl (by omega) (qjc ?_)
 haveI i1:Rdb F0 w0 ⟨qfe b.a b.cap 12 1,b.len - 12,b.cap - 12⟩ ps 1 (u8s (xs.drop 12)):=h.cutR b 12 b.len (b.cap - 12) (Nat.le_refl _) (by omega) hc (List.take_of_length_le (by rw [List.length_drop]; omega))
 have hRB:qzc (xs.drop 12):=fun x hx=>hB x (List.mem_of_mem_drop hx)
 refine qkg.c (s:=⟨qfe b.a b.cap 12 1,b.len - 12,b.cap - 12⟩) h hRB (by rw [List.length_drop]; omega) fun rb w h=>⟨_,rfl,?_⟩
 unfold qpb.j2 qpb.j7
 refine loop2 (fun (a:Nat × List Int × Nat × Int) (t5:Sl) (i':Int) w'=>i'=(a.1:Int)∧a.1≤5∧a.2.1.length=a.1∧TabV xs a.2.1 a.2.2.2 a.1∧(∀ NL O,VM NL O→xs=mB NL O→a.2.2.1=12 * a.1)∧St F0 w0 w' (qv 1 t5 (ivs .i64 a.2.1) :: brA rb (xs.drop 12,a.2.2.1,a.2.2.2) :: ps)) (fun a=>5 - a.1) (0,[],0,0) ⟨rfl,Nat.zero_le _,rfl,fun _ _ _ _=>⟨rfl,fun j hj=>by omega⟩,fun _ _ _ _=>rfl,h.nil 1⟩ ?_
 clear h
 rintro ⟨i,T,p,e⟩ t5 _ wL I μ ⟨rfl,hi,hTl,hv,hp,h⟩ hin
 simp only at hi hTl hv hp h hin ⊢
 unfold qpb.b2
 refine qsc (fun g=>?_) (fun g=>?_)
 · have hi5:i < 5:=by omega
   refine qfd.c (rb:=rb) (n:=4) h fun r w h=>⟨r,rfl,?_⟩
   have h:=h.drop
   generalize hq:tkS (xs.drop 12) p e 4=q at h
   obtain ⟨q0,p1,e1⟩:=q
   have h:St F0 w0 w (brA rb (xs.drop 12,p1,e1) :: qv 1 t5 (ivs .i64 T) :: ps):=h
   refine qje.c (rb:=rb) h hRB fun w h=>⟨_,rfl,?_⟩
   generalize hz:nuS (xs.drop 12) p1 e1 8=z at h ⊢
   obtain ⟨v,p2,e2⟩:=z
   have h:St F0 w0 w (qv 1 t5 (ivs .i64 T) :: brA rb (xs.drop 12,p2,e2) :: ps):=h.at1
   simp only
   refine h.new fun ab w h=>?_
   have h:St F0 w0 w (qt ab (ivs .i64 [v]) :: qv 1 t5 (ivs .i64 T) :: brA rb (xs.drop 12,p2,e2) :: ps):=h
   haveI:Rdb F0 w0 ⟨some ⟨ab,0,none⟩,1,1⟩ (qt ab (ivs .i64 [v]) :: qv 1 t5 (ivs .i64 T) :: brA rb (xs.drop 12,p2,e2) :: ps) 1 (ivs .i64 [v]):=qdg rfl
   refine h.appI (s:=t5) (s2:=⟨some ⟨ab,0,none⟩,1,1⟩) (zs:=T) (ys:=[v]) (k:=.i64) (by show _+1≤_; omega) fun t5' w h=>?_
   refine qx (e':=((i+1:Nat):Int)) (by rw [qh (by omega) (by omega)]; rfl) ?_
   have hV:∀ NL O,VM NL O→xs=mB NL O→e2=0∧p2=12 * (i+1)∧v=qfi (mdL NL O) i:=fun NL O a b=>by
    have he:=(hv NL O a b).1
    have hpp:=hp NL O a b
    have hl:xs.length=92+(mdL NL O).flatten.length:=by rw [b]; unfold mB; exact qej
    subst he hpp
    have ht4:tkS (xs.drop 12) (12 * i) 0 4=(((xs.drop 12).drop (12 * i)).take 4,12 * i+4,0):=qwj (n:=4) (by rw [List.length_drop]; omega)
    rw [ht4] at hq
    have h1:p1=12 * i+4:=by have:=congrArg (fun z=>z.2.1) hq; exact this.symm
    have h2:e1=0:=by have:=congrArg (fun z=>z.2.2) hq; exact this.symm
    subst h1 h2
    have hat:=endM_at (n:=NL.length) (l:=mdL NL O) (i:=i) (by omega)
    have e:endM NL.length (mdL NL O)=xs:=by rw [b]; unfold mB; rfl
    rw [e] at hat
    have hbe:be (((xs.drop 12).drop (12 * i+4)).take 8)=qfi (mdL NL O) i:=by
     rw [hat]
     refine be_ofs ?_
     have:=qtl (mdL NL O) i
     have:=a.flat
     omega
    have ht8:tkS (xs.drop 12) (12 * i+4) 0 8=(((xs.drop 12).drop (12 * i+4)).take 8,12 * i+4+8,0):=qwj (n:=8) (by rw [List.length_drop]; omega)
    have hle:(qfi (mdL NL O) i:Int)≤900000:=by
     have:=qtl (mdL NL O) i
     have:=a.flat
     omega
    rw [nu8,ht8] at hz
    simp only [hbe] at hz
    rw [if_neg (by omega)] at hz
    refine ⟨?_,?_,?_⟩
    · have:=congrArg (fun z=>z.2.2) hz; exact this.symm
    · have:=congrArg (fun z=>z.2.1) hz; simp only at this; omega
    · have:=congrArg (fun z=>z.1) hz; exact this.symm
   refine ⟨⟨trivial,trivial⟩,hin (i+1,T ++ [v],p2,e2) _ _ _ ⟨rfl,by simp only; omega,by simp only [List.length_append,List.length_singleton]; omega,fun NL O a b=>⟨(hV NL O a b).1,fun j hj=>?_⟩,fun NL O a b=>(hV NL O a b).2.1,?_⟩ (by simp only; omega)⟩
   · by_cases hj2:j < i
     · have:=(hv NL O a b).2 j hj2
       rw [← this,List.getD_eq_getElem?_getD,List.getD_eq_getElem?_getD,List.getElem?_append_left (by omega)]
     · have:j=i:=by omega
       subst this
       rw [List.getD_eq_getElem?_getD,List.getElem?_append_right (by omega),hTl,Nat.sub_self,← (hV NL O a b).2.2]
       rfl
   · have h:St F0 w0 w (qv 1 t5' (ivs .i64 (T ++ [v])) :: qt ab (ivs .i64 [v]) :: brA rb (xs.drop 12,p2,e2) :: ps):=h
     exact h.tail fun _ _ _ h=>h.drop
 · have:i=5:=by omega
   subst this
   exact cut_3 h hTl hc hB hx2 hv hno hk
end
end Go.Proofs.YtonmgkkkiejicaaGreat
namespace Go.Proofs.YtonmgkkkiejicaaGreat
open Go Go.Proofs
set_option linter.unusedVariables false
set_option linter.unusedSimpArgs false
attribute [local irreducible] apK cpK mkK br
theorem qal {xs:List Int} (h:qzc xs):biB ⟨⟨u8 xs⟩⟩=xs:=by
 unfold biB u8
 show (xs.map _).map _=xs
 rw [List.map_map]
 conv=>rhs; rw [← List.map_id xs]
 refine List.map_congr_left fun x hx=>?_
 have:=h x hx
 have e:=u8_byte (x:=x) (by omega)
 show ((x.toNat.toUInt8.toNat:Nat):Int)=x
 rw [e]
 omega
theorem qyh {a b:ByteArray} (h:biB a=biB b):a=b:=by
 unfold biB at h
 have h2:a.data.toList=b.data.toList:=by
  refine List.map_inj_right (f:=fun b:UInt8=>(b.toNat:Int)) (fun x y e=>?_) |>.1 h
  have e2:(x.toNat:Int)=(y.toNat:Int):=e
  have:x.toNat=y.toNat:=by omega
  exact UInt8.toNat_inj.1 this
 apply ByteArray.ext
 exact Array.ext' h2
theorem qre (s:ByteArray) (a b:Nat):biB (s.extract a b)=((biB s).drop a).take (b - a):=by
 unfold biB
 rw [ByteArray.data_extract,Array.toList_extract,← List.map_drop,← List.map_take]
theorem biB_get {s:ByteArray} {k:Nat} {v:UInt8} (h:s.data.toList[k]?=some v):(biB s)[k]?=some (v.toNat:Int):=by
 unfold biB
 rw [List.getElem?_map,h]
 rfl
theorem biB_no0 {s:ByteArray} (h:∀ k:Nat,s.data.toList[k]? ≠ some 0):(0:Int) ∉ biB s:=by
 intro hm
 obtain ⟨b,hb,e⟩:=List.mem_map.1 hm
 obtain ⟨k,hk,rfl⟩:=List.getElem_of_mem hb
 refine h k ?_
 rw [List.getElem?_eq_getElem hk]
 have:(s.data.toList[k]).toNat=0:=by omega
 exact congrArg some (UInt8.toNat_inj.1 this)
section
variable {w:World} {s:ByteArray} {K:Ending→World→Prop}
def nulB:ByteArray:={ data:=#[0] }
theorem IndexByteI.c {ch:Int} {K:Ending→World→Prop} (hk:K (.returned (.int .i64 (ixBy s ch))) w):Calls Tryz.prog 112 ⟨[.string s,.int .u8 ch]⟩ w K:=by
 refine qsb (qxb.ok _ _ _ _ ?_)
 unfold qxb
 refine ⟨ixBy s ch,w,?_,hk⟩
 unfold cfR
 rw [run_callFunc_extern (fn:=Tryz.f116) (e:=Extern.BytealgIndexByte.indexByte) (by kernel_rfl) (by kernel_rfl) (by kernel_rfl) (by kernel_rfl) (by kernel_rfl)]
 have:=Lib.run_indexByteString (P:=Tryz.prog) s ch w
 rw [this]
 rfl
theorem IndexZ.c {K:Ending→World→Prop} (hk:K (.returned (.int .i64 (ixBy s 0))) w):Calls Tryz.prog 108 ⟨[.string s,.string nulB]⟩ w K:=by
 refine qsb (qf.ok _ _ _ _ ?_)
 unfold qf qf.j1
 refine qxg (by kernel_rfl) ?_
 unfold qf.j13
 refine qmd (fun g=>?_) (fun g=>?_)
 · have g:ByteArray.toList nulB=ByteArray.toList s:=by simpa using g
   have e:s=nulB:=(qoj g).symm
   subst e
   have:ixBy nulB 0=0:=by unfold ixBy nulB; decide
   rw [this] at hk
   exact hk
 · refine qck (by kernel_rfl) ?_
   refine ⟨⟨by decide,by decide⟩,qjc ?_⟩
   have:qqd nulB (Int.toNat 0)=0:=by kernel_rfl
   rw [this]
   exact IndexByteI.c ⟨_,rfl,hk⟩
theorem CutZ.c {K:Ending→World→Prop} (hs:s.size≤1000000000) (hk:∀ p r w',w'.heap=w.heap→biB s=nm0 p ++ biB r→(0:Int) ∉ biB p→Mod [] w w'→K (.returned (.tuple ⟨[.string p,.string r,.bool true]⟩)) w')
 (hno:(0:Int) ∉ biB s→K (.returned (.tuple ⟨[.string s,.string ⟨#[]⟩,.bool false]⟩)) w) :
 Calls Tryz.prog 62 ⟨[.string s,.string nulB]⟩ w K:=by
 refine qsb (qmh.ok _ _ _ _ ?_)
 unfold qmh
 refine qsb (qdd.ok _ _ _ _ ?_)
 unfold qdd
 refine IndexZ.c ⟨_,rfl,?_⟩
 have hge : -1≤ixBy s 0:=Lib.indexByte_ge _ _
 refine qsc (fun g=>?_) (fun g=>?_)
 · obtain ⟨o,ho⟩:∃ o:Nat,ixBy s 0=o:=⟨(ixBy s 0).toNat,by omega⟩
   obtain ⟨h1,h2⟩:=Lib.indexByte_some (l:=s.data.toList) (c:=0) (o:=o) ho
   have hos:o < s.size:=by
    have:=List.getElem?_eq_some_iff.1 h1
    exact this.1
   rw [ho]
   refine qjc ?_
   refine qnj (n:=o) rfl (by omega) (qjc ?_)
   refine qx (e':=((o+1:Nat):Int)) (by show IntKind.i64.wrap ((o:Int)+1)=_; rw [qh (by omega) (by omega)]; rfl) ?_
   refine qnj (n:=o+1) rfl (by omega) (qjc ?_)
   refine ⟨_,_,_,rfl,?_⟩
   refine hk _ _ _ rfl ?_ ?_ (Mod.drew w)
   · unfold nm0
     rw [qre,qre,List.drop_zero]
     have hb:=biB_get h1
     have hl:=qnd s
     have e1:biB s=(biB s).take o ++ (biB s).drop o:=(List.take_append_drop _ _).symm
     have e2:(biB s).drop o=0 :: (biB s).drop (o+1):=by
      have hlt:o < (biB s).length:=by omega
      rw [List.drop_eq_getElem_cons hlt]
      rw [List.getElem?_eq_getElem hlt] at hb
      have:(biB s)[o]=0:=by injection hb
      rw [this]
     have e3:((biB s).drop (o+1)).take (s.size - (o+1))=(biB s).drop (o+1):=List.take_of_length_le (by rw [List.length_drop]; omega)
     rw [e3,List.append_assoc]
     conv=>lhs; rw [e1,e2]
     rfl
   · refine biB_no0 fun k hk2=>?_
     rw [ByteArray.data_extract,Array.toList_extract] at hk2
     have hk2:((s.data.toList.drop 0).take (o - 0))[k]?=some 0:=hk2
     rw [List.drop_zero,Nat.sub_zero] at hk2
     have hko:k < o:=by
      have:=(List.getElem?_eq_some_iff.1 hk2).1
      rw [List.length_take] at this
      omega
     rw [List.getElem?_take_of_lt hko] at hk2
     exact h2 k hko hk2
 · have e:ixBy s 0 = -1:=by omega
   refine ⟨_,_,_,rfl,?_⟩
   exact hno (biB_no0 (Lib.indexByte_none e))
end
theorem nmd_no0 {s:ByteArray} (h:qhi s=true):(0:Int) ∉ biB s:=by
 have hsz:=qtf h
 unfold qhi at h
 simp only [Bool.and_eq_true] at h
 obtain ⟨h1,h2,h3⟩:=h
 have e1:qee s=s.extract 5 s.size:=by unfold qee; rw [if_pos h1]; rfl
 have l1:(qee s).size=44:=by rw [e1,ByteArray.size_extract]; omega
 have e2:cutS1 (qee s)=(qee s).extract 0 40:=by
  unfold cutS1
  rw [if_pos h2,l1]
  rfl
 have b1:biB s=(biB s).take 5 ++ (biB s).drop 5:=(List.take_append_drop _ _).symm
 have hl:=qnd s
 have b2:biB (qee s)=(biB s).drop 5:=by
  rw [e1,qre]
  exact List.take_of_length_le (by rw [List.length_drop]; omega)
 have b3:biB (qee s)=biB (cutS1 (qee s)) ++ (biB (qee s)).drop 40:=by
  rw [e2,qre,List.drop_zero]
  exact (List.take_append_drop _ _).symm
 unfold begB at h1
 unfold endB at h2
 unfold okN at h3
 simp only [Bool.and_eq_true,decide_eq_true_eq,beq_iff_eq] at h1 h2 h3
 have p1:s.extract 0 5=qvj:=qoj h1.2
 have p2:(qee s).extract 40 44=qzh:=by
  have:=qoj h2.2
  rw [l1] at this
  exact this
 have q1:(biB s).take 5=biB qvj:=by
  rw [← p1,qre]; rfl
 have q2:(biB (qee s)).drop 40=biB qzh:=by
  rw [← p2,qre]
  exact (List.take_of_length_le (by rw [List.length_drop,qnd]; omega)).symm
 have n1:(0:Int) ∉ biB qvj:=by decide +kernel
 have n2:(0:Int) ∉ biB qzh:=by decide +kernel
 have n3:(0:Int) ∉ biB (cutS1 (qee s)):=by
  generalize cutS1 (qee s)=z at h3
  refine biB_no0 fun k hk=>?_
  have hs:=h3.2
  unfold sgs at hs
  rw [List.all_eq_true] at hs
  have hkl:=(List.getElem?_eq_some_iff.1 hk).1
  have:=hs k (List.mem_range.2 hkl)
  have e:qqd z k=0:=by
   unfold qqd
   have h4:z.data[k]?=some 0:=by simpa using hk
   simp [h4]
  rw [e] at this
  have h0:isSg 0=false:=by decide +kernel
  rw [h0] at this
  cases this
 rw [b1,q1,← b2,b3,q2]
 simp only [List.mem_append,not_or]
 exact ⟨n1,n3,n2⟩
theorem nm0_eq {p q:List Int} {X Y:List Int} (hp:(0:Int) ∉ p) (hq:(0:Int) ∉ q) (h:p ++ [0] ++ X=q ++ [0] ++ Y):p=q∧X=Y:=by
 induction p generalizing q with
 | nil =>
   cases q with
   | nil=>exact ⟨rfl,by simpa using h⟩
   | cons b q =>
     have:(0:Int)=b:=by injection h
     exact absurd (by rw [← this]; exact List.mem_cons_self) hq
 | cons a p ih =>
   cases q with
   | nil =>
     have:a=(0:Int):=by injection h
     exact absurd (by rw [this]; exact List.mem_cons_self) hp
   | cons b q =>
     have h1:a=b:=by injection h
     have h2:p ++ [0] ++ X=q ++ [0] ++ Y:=by injection h
     obtain ⟨e1,e2⟩:=ih (fun hm=>hp (List.mem_cons_of_mem _ hm)) (fun hm=>hq (List.mem_cons_of_mem _ hm)) h2
     exact ⟨by rw [h1,e1],e2⟩
end Go.Proofs.YtonmgkkkiejicaaGreat
namespace Go.Proofs.YtonmgkkkiejicaaGreat
open Go Go.Proofs
set_option linter.unusedVariables false
set_option linter.unusedSimpArgs false
attribute [local irreducible] apK cpK mkK br
theorem repL_flat {α:Type} {f:α→List Value} (n:Nat) (x:α):qmg n (f x)=(List.replicate n x).flatMap f:=by
 induction n with
 | zero=>rfl
 | succ n ih =>
   show f x ++ qmg n (f x)=_
   rw [ih,List.replicate_succ,List.flatMap_cons]
section
variable {α:Type} {f:α→List Value} {sz:Nat} {P:Program} {e:TypeId} {z:List Value} {F0:List Nat} {w0 w:World} {ps rest:List As} {s:Sl} {L:List α}
theorem St.makeR [r:Rec f sz] {n:Nat} {l c:Int} {x0:α} {K:Sl→World→Prop} [he:EltR P e sz z] (hz:z=f x0) (h:St F0 w0 w ps) (hl:l=n) (hc:c=n) (hn:n≤1000000)
 (hk:∀ s w',s.len=n→s.cap=n→St F0 w0 w' (qv sz s ((List.replicate n x0).flatMap f) :: ps)→K s w'):mkK P e w l c K:=by
 subst hl hc
 obtain ⟨i,h1,h2,h3,h4⟩:=he.info
 have hb:P.bytesOf e=i.bytes:=by simp [Program.bytesOf,h1]
 unfold mkK
 refine ⟨⟨by omega,by omega,by omega,?_⟩,?_⟩
 · rw [hb]
   have:i.bytes * n≤1024 * 1000000:=Nat.mul_le_mul h4 hn
   have e2:(2:Int) ^ 48=281474976710656:=by decide
   rw [e2]
   have h5:((i.bytes:Int) * (n:Int))=((i.bytes * n:Nat):Int):=by simp
   rw [h5]
   omega
 · rw [Int.toNat_natCast]
   refine hk _ _ rfl rfl ?_
   have e1:qmg n (Go.Proofs.YtonmgkkkiejicaaGreat.zc P e).toList=(List.replicate n x0).flatMap f:=by
    rw [he.zc,hz]
    exact repL_flat n x0
   rw [e1]
   have h2:=h.new (t:=e) (cs:=⟨(List.replicate n x0).flatMap f⟩) (K:=fun a w'=>a=⟨w.heap.size,0,none⟩→St F0 w0 w' (qv sz ⟨some a,n,n⟩ ((List.replicate n x0).flatMap f) :: ps)) (fun nb w' h _=>h.ownBR (by rw [qed,List.length_replicate]))
   exact h2 rfl
theorem St.sF [r:Rec f sz] (h:St F0 w0 w (qv sz s (L.flatMap f) :: ps)) {n:Int} {o:Nat} {v:Value} {x:α} {K:World→Prop} (j:Nat) (hi:n=j) (hj:j < L.length) (ho:o < sz) (hs:qec v) (hx:f x=(f L[j]).set o v) (hk:∀ w',St F0 w0 w' (qv sz s ((L.set j x).flatMap f) :: ps)→K w') :
 ixS s.a s.len n sz fun a=>Go.Proofs.YtonmgkkkiejicaaGreat.st w (Addr.add a o) v K:=by
 subst hi
 have hl:=h.len
 rw [qed] at hl
 have hp:=r.pos
 have hsl:=Nat.eq_of_mul_eq_mul_right hp hl
 obtain ⟨F,hw,hst⟩:=h.step
 have hle:(j+1) * sz≤L.length * sz:=Nat.mul_le_mul_right _ hj
 rw [Nat.add_mul,Nat.one_mul] at hle
 have hfl:(f L[j]).length=sz:=r.len _
 rcases hw with ⟨rfl,hnil,_⟩ | ⟨ob,rs,h1,hb,h2,h3,rfl⟩
 · simp only at hsl; omega
 · unfold ixS
   rw [h1]
   refine ⟨⟨by omega,by omega⟩,?_⟩
   rw [qmb,Nat.zero_add,Int.toNat_natCast]
   show Go.Proofs.YtonmgkkkiejicaaGreat.st w (Addr.add ⟨ob,j * sz,none⟩ o) v K
   rw [qmb]
   have hdec:L.flatMap f=(L.take j).flatMap f ++ (f L[j] ++ (L.drop (j+1)).flatMap f):=by
    conv=>lhs; rw [← List.take_append_drop j L,List.drop_eq_getElem_cons hj]
    rw [qef,qrg]
   have htl:((L.take j).flatMap f).length=j * sz:=by rw [qed,List.length_take,Nat.min_eq_left (by omega)]
   have hset:(L.set j x).flatMap f=(L.flatMap f).set (j * sz+o) v:=by
    rw [List.set_eq_take_append_cons_drop,if_pos hj,qef,qrg,hx]
    conv=>rhs; rw [hdec]
    rw [List.set_append_right _ _ (by omega),htl,show j * sz+o - j * sz=o by omega,List.set_append_left _ _ (by omega)]
   refine hb.st (by rw [List.length_append,qed]; omega) hs fun w' hm hb'=>hk w' (hst w' [ob] _ hm (Gr.refl _ _) (Or.inr ⟨ob,rs,h1,?_,?_,?_,rfl⟩))
   · rw [List.set_append_left _ _ (by rw [qed]; omega)] at hb'
     rw [hset]
     exact hb'
   · rw [qed,List.length_set,hsl]
   · rw [List.length_append,qed,List.length_set,← h3,List.length_append,qed]
end
end Go.Proofs.YtonmgkkkiejicaaGreat
namespace Go.Proofs.YtonmgkkkiejicaaGreat
open Go Go.Proofs
set_option linter.unusedVariables false
set_option linter.unusedSimpArgs false
attribute [local irreducible] apK cpK mkK br
section
variable {α:Type} {f:α→List Value} {sz:Nat} {P:Program} {e:TypeId} {z:List Value} {F0:List Nat} {w0 w:World} {ps rest:List As} {s:Sl} {L:List α}
theorem St.pushB [i:Rec f sz] [he:EltR P e sz z] {nb:Nat} {x:α} (h:St F0 w0 w (qt nb (f x) :: ps)) [PkO s ps sz (L.flatMap f) rest] {K:Sl→World→Prop} (hlen:L.length≤999999999)
 (hk:∀ s' w',St F0 w0 w' (qv sz s' ((L ++ [x]).flatMap f) :: qt nb (f x) :: rest)→K s' w') :
 rdO w (some ⟨nb,0,none⟩) (1 * sz) fun c=>apK P e w s.a s.len s.cap 1 c K:=by
 refine h.rdB (by rw [i.len,Nat.one_mul]) ?_
 have h2:St F0 w0 w (qv sz s (L.flatMap f) :: qt nb (f x) :: rest):=(h.tail fun _ _ _ h=>h.toO s).at1
 have hl:=h2.len
 rw [qed] at hl
 have hl:=Nat.eq_of_mul_eq_mul_right i.pos hl
 obtain ⟨t,h1,h2',h3,h4⟩:=he.info
 refine St.append (i:=t) (sz:=sz) (m:=1) h1 h2' i.pos (by rw [he.zc]; exact he.len) h3 (rec_room h4 (by omega)) h2 (by show (f x).length=_; rw [i.len,Nat.one_mul]) (fun v hv=>i.sto x v (by simpa using hv)) fun s' w' h hl'=>hk s' w' (by rw [qef,qci]; exact h)
end
def rwX (x:Sp):Rw:=(x.1,0,x.2.2)
theorem rw_sp (x:Sp):(List.set (spl ([.int .u8 0,.int .u8 0,.int .u8 0,.int .u8 0,.int .u8 0,.int .u8 0,.int .u8 0,.int .u8 0,.int .u8 0,.int .u8 0,.int .u8 0,.int .u8 0,.int .u8 0,.int .u8 0,.int .u8 0,.int .u8 0,.int .u8 0,.int .u8 0,.int .u8 0,.int .u8 0,.int .u32 0,.int .i64 0]:List Value) 0 ⟨nmC x.1⟩) 21 (.int .i64 x.2.2))=rwC (rwX x):=by
 have hl:(nmC x.1).length=20:=(inferInstance:Rec nmC 20).len x.1
 have e00:([.int .u8 0,.int .u8 0,.int .u8 0,.int .u8 0,.int .u8 0,.int .u8 0,.int .u8 0,.int .u8 0,.int .u8 0,.int .u8 0,.int .u8 0,.int .u8 0,.int .u8 0,.int .u8 0,.int .u8 0,.int .u8 0,.int .u8 0,.int .u8 0,.int .u8 0,.int .u8 0,.int .u32 0,.int .i64 0]:List Value)=ivs .u8 z20 ++ [.int .u32 0,.int .i64 0]:=rfl
 rw [e00,spl_eq _ _ _ (by rw [hl]; decide),hl]
 unfold rwC rwX
 have e:(ivs .u8 z20 ++ [Value.int .u32 0,.int .i64 0]).drop (0+20)=[.int .u32 0,.int .i64 0]:=rfl
 rw [e]
 have e0:(ivs .u8 z20 ++ [Value.int .u32 0,.int .i64 0]).take 0=[]:=rfl
 rw [e0,List.nil_append,List.set_append_right _ _ (by rw [hl]; decide),hl]
 rfl
instance elt_row:EltR Tryz.prog 42 22 (rwC (⟨z20,by refine ⟨rfl,?_⟩; decide⟩,0,0)):=⟨⟨Tryz.t42,by kernel_rfl,rfl,by decide,by decide⟩,by kernel_rfl,rfl,by decide⟩
abbrev Mp:=Mk × List Rw
def qbg (x:Mp):As:=qv 22 x.1.2 (x.2.flatMap rwC)
theorem er_perm {β:Type}:∀ {l:List β} {k:Nat} (hk:k < l.length),(l[k] :: l.eraseIdx k).Perm l:=by
 intro l
 induction l with
 | nil=>intro k hk; simp at hk
 | cons y l ih =>
   intro k hk
   cases k with
   | zero=>exact .refl _
   | succ k =>
     rw [List.length_cons] at hk
     exact (List.Perm.swap y l[k] (l.eraseIdx k)).trans ((ih (by omega)).cons y)
theorem St.bagSet {LM:List Mp} {k:Nat} (hk:k < LM.length) {F0:List Nat} {w0 w:World} {ps:List As} (h:St F0 w0 w (qgg (LM.map qbg) :: ps)) :
 St F0 w0 w (qbg LM[k] :: qgg ((LM.eraseIdx k).map qbg) :: ps):=by
 have hp:(LM.map qbg).Perm (qbg LM[k] :: (LM.eraseIdx k).map qbg):=by
  have:=(er_perm hk).map qbg
  exact this.symm
 exact (h.bagP hp).bagOut
theorem St.bagPut {LM:List Mp} {k:Nat} (hk:k < LM.length) {y:Mp} {F0:List Nat} {w0 w:World} {ps:List As} (h:St F0 w0 w (qbg y :: qgg ((LM.eraseIdx k).map qbg) :: ps)) :
 St F0 w0 w (qgg ((LM.set k y).map qbg) :: ps):=by
 have h2:k < (LM.set k y).length:=by rw [List.length_set]; exact hk
 have hp:(qbg y :: (LM.eraseIdx k).map qbg).Perm ((LM.set k y).map qbg):=by
  have:=(er_perm h2).map qbg
  rw [List.getElem_set_self,List.eraseIdx_set_eq,List.map_cons] at this
  exact this
 exact h.bagIn.bagP hp
section
variable {F0:List Nat} {w0 w:World} {ps rest:List As} {t13 si ss sp:Sl} {LM:List Mp} {x:Sp} {A:List Nm} {S:List Sp} {Q:VWP} {xb tb rb2 k:Nat} {t7 t16 t17:Option Addr}
 {nx1:OAd→Sl→OAd→OAd→World→Prop}
theorem sp_20 (x:Sp):(spC x)[20]?=some (.int .i64 x.2.1):=by
 unfold spC
 rw [List.getElem?_append_right (by rw [qw,x.1.2.1]; decide),qw,x.1.2.1]
 rfl
theorem sp_21 (x:Sp):(spC x)[21]?=some (.int .i64 x.2.2):=by
 unfold spC
 rw [List.getElem?_append_right (by rw [qw,x.1.2.1]; decide),qw,x.1.2.1]
 rfl
theorem Blk.spI {o:Nat} {v:Int} {Z:Int→Prop} (h:Blk w xb (spC x)) (hv:(spC x)[o]?=some (.int .i64 v)) (hz:Z v):Go.Proofs.YtonmgkkkiejicaaGreat.ldI .i64 w (Addr.add ⟨xb,0,none⟩ o) Z:=by
 rw [qmb]
 exact h.ldI (by rw [Nat.zero_add]; exact hv) hz
theorem Blk.spN {Z:Array Value→Prop} (h:Blk w xb (spC x)) (hz:Z ⟨nmC x.1⟩):Go.Proofs.YtonmgkkkiejicaaGreat.ldA w (Addr.add ⟨xb,0,none⟩ 0) 20 Z:=by
 rw [qmb]
 refine h.ldA (cs:=⟨nmC x.1⟩) (by unfold nmC; simp [x.1.2.1]) (fun j hj=>?_) hz
 unfold spC nmC
 rw [List.getElem?_append_left (by rw [qw,x.1.2.1]; omega)]
 simp
theorem read_12 (h:St F0 w0 w (qt xb (spC x) :: qv 2 t13 ((LM.map Prod.fst).flatMap mkC) :: qgg (LM.map qbg) :: ps)) (hk:k < LM.length) (hxk:x.2.1=k) (hR:LM[k].2.length≤999999999)
 (hn:∀ s' w',St F0 w0 w' (qv 2 t13 (((LM.set k ((LM[k].1.1,s'),LM[k].2 ++ [rwX x])).map Prod.fst).flatMap mkC) :: qgg ((LM.set k ((LM[k].1.1,s'),LM[k].2 ++ [rwX x])).map qbg) :: ps)→nx1 t7 t13 t16 t17 w') :
 qm.j12 t7 t13 t16 t17 ⟨xb,0,none⟩ Q nx1 w:=by
 have hkm:k < (LM.map Prod.fst).length:=by rw [List.length_map]; exact hk
 have hmk:(LM.map Prod.fst)[k]=LM[k].1:=by simp
 unfold qm.j12
 refine h.drewK fun w h=>?_
 refine h.blk.spI (sp_20 x) ?_
 rw [hxk]
 refine h.rix (s:=t13) (f:=mkC) (L:=LM.map Prod.fst) k rfl hkm fun a0 ha=>?_
 refine (h.rdb t13).rL (f:=mkC) (L:=LM.map Prod.fst) (v:=LM[k].1.2) ha hkm (by decide) (by rw [hmk]; rfl) ?_
 refine h.blk.spN ?_
 refine h.blk.spI (sp_21 x) ?_
 have hN:(nmC x.1).length=20:=(inferInstance:Rec nmC 20).len x.1
 refine ⟨hN,?_⟩
 have h:St F0 w0 w (qt xb (spC x) :: noA :: qv 22 LM[k].1.2 (LM[k].2.flatMap rwC) :: qgg ((LM.eraseIdx k).map qbg) :: qv 2 t13 ((LM.map Prod.fst).flatMap mkC) :: ps):=by
  have h1:St F0 w0 w (qgg (LM.map qbg) :: qt xb (spC x) :: qv 2 t13 ((LM.map Prod.fst).flatMap mkC) :: ps):=h.at2
  have h2:=h1.bagSet hk
  have h3:St F0 w0 w (qv 22 LM[k].1.2 (LM[k].2.flatMap rwC) :: qgg ((LM.eraseIdx k).map qbg) :: qt xb (spC x) :: qv 2 t13 ((LM.map Prod.fst).flatMap mkC) :: ps):=h2
  have h4:St F0 w0 w (noA :: qv 22 LM[k].1.2 (LM[k].2.flatMap rwC) :: qgg ((LM.eraseIdx k).map qbg) :: qt xb (spC x) :: qv 2 t13 ((LM.map Prod.fst).flatMap mkC) :: ps):=h3.bag0
  exact h4.sub
 rw [rw_sp]
 have hI:∀ {w':World} {X Y:As} {Z:Int→Prop},St F0 w0 w' (qt xb (spC x) :: X :: Y :: qgg ((LM.eraseIdx k).map qbg) :: qv 2 t13 ((LM.map Prod.fst).flatMap mkC) :: ps)→Z (k:Int)→ldI .i64 w' (Addr.add ⟨xb,0,none⟩ 20) Z:=fun h hz=>h.blk.spI (sp_20 x) (by rw [hxk]; exact hz)
 have hNew:∀ {w':World} {X Y:As} {Z:Addr→World→Prop},St F0 w0 w' (qt xb (spC x) :: X :: Y :: qgg ((LM.eraseIdx k).map qbg) :: qv 2 t13 ((LM.map Prod.fst).flatMap mkC) :: ps) →
  (∀ nb w'',St F0 w0 w'' (qt xb (spC x) :: qt nb (rwC (rwX x)) :: Y :: qgg ((LM.eraseIdx k).map qbg) :: qv 2 t13 ((LM.map Prod.fst).flatMap mkC) :: ps)→Z ⟨nb,0,none⟩ w'') →
  (⟨rwC (rwX x)⟩:Array Value).size=22∧nw w' ⟨spl ([.int .u8 0,.int .u8 0,.int .u8 0,.int .u8 0,.int .u8 0,.int .u8 0,.int .u8 0,.int .u8 0,.int .u8 0,.int .u8 0,.int .u8 0,.int .u8 0,.int .u8 0,.int .u8 0,.int .u8 0,.int .u8 0,.int .u8 0,.int .u8 0,.int .u8 0,.int .u8 0,.int .u32 0,.int .i64 0]:List Value) 0 (⟨rwC (rwX x)⟩:Array Value)⟩ 42 Z:=fun {w' X Y Z} h hz=>by
  refine ⟨qwd _,?_⟩
  rw [qvg (by rw [qwd]; rfl)]
  refine h.new fun nb w h=>hz nb w ?_
  have h:St F0 w0 w (qt nb (rwC (rwX x)) :: qt xb (spC x) :: X :: Y :: qgg ((LM.eraseIdx k).map qbg) :: qv 2 t13 ((LM.map Prod.fst).flatMap mkC) :: ps):=h
  exact (h.tail fun _ _ _ h=>h.tail fun _ _ _ h=>h.drop).at1
 have hPush:∀ {w':World} {nb:Nat} {Z:Sl→World→Prop},St F0 w0 w' (qt xb (spC x) :: qt nb (rwC (rwX x)) :: qv 22 LM[k].1.2 (LM[k].2.flatMap rwC) :: qgg ((LM.eraseIdx k).map qbg) :: qv 2 t13 ((LM.map Prod.fst).flatMap mkC) :: ps) →
  (∀ s' w'',St F0 w0 w'' (qt xb (spC x) :: noA :: qv 22 s' ((LM[k].2 ++ [rwX x]).flatMap rwC) :: qgg ((LM.eraseIdx k).map qbg) :: qv 2 t13 ((LM.map Prod.fst).flatMap mkC) :: ps)→Z s' w'') →
  rdO w' (some ⟨nb,0,none⟩) (1 * 22) fun c=>apK Tryz.prog 42 w' LM[k].1.2.a LM[k].1.2.len LM[k].1.2.cap 1 c Z:=fun {w' nb Z} h hz=>by
  have h2:St F0 w0 w' (qt nb (rwC (rwX x)) :: qt xb (spC x) :: qv 22 LM[k].1.2 (LM[k].2.flatMap rwC) :: qgg ((LM.eraseIdx k).map qbg) :: qv 2 t13 ((LM.map Prod.fst).flatMap mkC) :: ps):=h.at1
  refine h2.pushB (s:=LM[k].1.2) (f:=rwC) (L:=LM[k].2) hR fun s' w h=>hz s' w ?_
  have h3:St F0 w0 w (noA :: qv 22 s' ((LM[k].2 ++ [rwX x]).flatMap rwC) :: qt nb (rwC (rwX x)) :: qt xb (spC x) :: qgg ((LM.eraseIdx k).map qbg) :: qv 2 t13 ((LM.map Prod.fst).flatMap mkC) :: ps):=h.bag0
  exact h3.sub
 have leaf:∀ {w':World} {s':Sl},St F0 w0 w' (qt xb (spC x) :: noA :: qv 22 s' ((LM[k].2 ++ [rwX x]).flatMap rwC) :: qgg ((LM.eraseIdx k).map qbg) :: qv 2 t13 ((LM.map Prod.fst).flatMap mkC) :: ps) →
  ixS t13.a t13.len (k:Int) 2 fun a13=>Go.Proofs.YtonmgkkkiejicaaGreat.st w' (Addr.add a13 1) (.slice s'.a s'.len s'.cap) fun w14=>nx1 t7 t13 t16 t17 w14:=fun {w' s'} h=>by
  have h2:St F0 w0 w' (qv 2 t13 ((LM.map Prod.fst).flatMap mkC) :: qv 22 s' ((LM[k].2 ++ [rwX x]).flatMap rwC) :: qgg ((LM.eraseIdx k).map qbg) :: ps):=h.sub
  refine h2.sF (f:=mkC) (x:=(LM[k].1.1,s')) k rfl hkm (by decide) trivial (by rw [hmk]; rfl) fun w h=>hn s' w ?_
  have e1:(LM.set k ((LM[k].1.1,s'),LM[k].2 ++ [rwX x])).map Prod.fst=(LM.map Prod.fst).set k (LM[k].1.1,s'):=by rw [List.map_set]
  rw [e1]
  exact h.tail fun _ _ _ h=>St.bagPut (y:=((LM[k].1.1,s'),LM[k].2 ++ [rwX x])) hk h
 refine ⟨?_,?_⟩
 · refine hI h ?_
   refine hNew h fun nb w h=>?_
   refine hPush h fun s' w h=>?_
   exact leaf h
 · refine hNew h fun nb w h=>⟨?_,?_⟩
   · refine hI h ?_
     refine hPush h fun s' w h=>?_
     exact leaf h
   · refine hPush h fun s' w h=>?_
     refine hI h ?_
     exact leaf h
end
end Go.Proofs.YtonmgkkkiejicaaGreat
namespace Go.Proofs.YtonmgkkkiejicaaGreat
open Go Go.Proofs
set_option linter.unusedVariables false
set_option linter.unusedSimpArgs false
attribute [local irreducible] apK cpK mkK br
section
variable {F0:List Nat} {w0 w:World} {ps rest:List As} {t13 si ss sp:Sl} {x:Sp} {A:List Nm} {S:List Sp} {Q:VWP} {xb tb rb2 k at':Nat} {cs:List Int} {err:Int} {t7 t16 t17:Option Addr}
 {nx1:OAd→Sl→OAd→OAd→World→Prop}
theorem read_11 (h:St F0 w0 w (qt xb (spC x) :: qt tb [sV sp,sV si,sV ss] :: qv 20 si (A.flatMap nmC) :: qv 22 ss (S.flatMap spC) :: ps)) [PkF brA rb2 ps (cs,at',err) rest] (hA:A.length≤999999999) (hS:S.length≤999999999)
 (hfail:∀ w',(t13.len≤x.2.1 ∨ err ≠ 0)→St F0 w0 w' (qt xb (spC x) :: qt tb [sV sp,sV si,sV ss] :: qv 20 si (A.flatMap nmC) :: qv 22 ss (S.flatMap spC) :: ps)→Q (.tuple ⟨[.pointer none,.slice none 0 0,.bool false]⟩) w')
 (hok:err=0→x.2.1 < t13.len→∀ si' ss' w',St F0 w0 w' (qt xb (spC x) :: qt tb [sV sp,sV si',sV ss'] :: qv 20 si' ((A ++ [x.1]).flatMap nmC) :: qv 22 ss' ((S ++ [x]).flatMap spC) :: ps)→qm.j12 (some ⟨tb,0,none⟩) t13 t16 (some ⟨rb2,0,none⟩) ⟨xb,0,none⟩ Q nx1 w') :
 qm.j11 (some ⟨tb,0,none⟩) t13 t16 (some ⟨rb2,0,none⟩) ⟨xb,0,none⟩ Q nx1 w:=by
 unfold qm.j11
 refine h.blk.spI (sp_20 x) ?_
 refine qsc (fun g=>hfail w (Or.inl (by omega)) h) (fun g=>?_)
 refine qxd.c (rb:=rb2) h ⟨_,rfl,?_⟩
 by_cases he:¬ err=0
 · exact qck (by simpa using he) (hfail w (Or.inr he) h)
 refine qxg (by simpa using he) ?_
 have hok:=hok (by omega) (by omega)
 refine h.drewK fun w h=>qgd ?_
 have hN:(nmC x.1).length=20:=(inferInstance:Rec nmC 20).len x.1
 have hL1:∀ {w':World} {l2:Value} {X Y Z1 Z2:As} {Z:Sl→Prop},St F0 w0 w' (qt xb (spC x) :: qt tb [sV sp,sV si,l2] :: X :: Y :: Z1 :: Z2 :: ps)→Z si→ldL w' (Addr.add ⟨tb,0,none⟩ 1) Z:=fun h hz=>by
  rw [qmb]
  exact h.drop.blk.ldL (n:=si) rfl hz
 have hL2:∀ {w':World} {l1:Value} {X Y Z1 Z2:As} {Z:Sl→Prop},St F0 w0 w' (qt xb (spC x) :: qt tb [sV sp,l1,sV ss] :: X :: Y :: Z1 :: Z2 :: ps)→Z ss→ldL w' (Addr.add ⟨tb,0,none⟩ 2) Z:=fun h hz=>by
  rw [qmb]
  exact h.drop.blk.ldL (n:=ss) rfl hz
 have hA1:∀ {w':World} {B X Y Z1 Z2:As} {Z:Array Value→Prop},St F0 w0 w' (qt xb (spC x) :: B :: X :: Y :: Z1 :: Z2 :: ps)→Z ⟨nmC x.1⟩→ldA w' (Addr.add ⟨xb,0,none⟩ 0) 20 Z:=fun h hz=>h.blk.spN hz
 have hA2:∀ {w':World} {B X Y Z1 Z2:As} {Z:Array Value→Prop},St F0 w0 w' (qt xb (spC x) :: B :: X :: Y :: Z1 :: Z2 :: ps)→Z ⟨spC x⟩→ldA w' ⟨xb,0,none⟩ 22 Z:=fun h hz=>h.lA (b:=xb) (qxc _) hz
 have hN1:∀ {w':World} {B X Y Z1 Z2:As} {Z:Addr→World→Prop},St F0 w0 w' (qt xb (spC x) :: B :: X :: Y :: Z1 :: Z2 :: ps)→(∀ nb w'',St F0 w0 w'' (qt xb (spC x) :: B :: X :: Y :: qt nb (nmC x.1) :: Z2 :: ps)→Z ⟨nb,0,none⟩ w'') →
  (⟨nmC x.1⟩:Array Value).size=20∧nw w' ⟨spl ([.int .u8 0,.int .u8 0,.int .u8 0,.int .u8 0,.int .u8 0,.int .u8 0,.int .u8 0,.int .u8 0,.int .u8 0,.int .u8 0,.int .u8 0,.int .u8 0,.int .u8 0,.int .u8 0,.int .u8 0,.int .u8 0,.int .u8 0,.int .u8 0,.int .u8 0,.int .u8 0]:List Value) 0 (⟨nmC x.1⟩:Array Value)⟩ 39 Z:=fun {w' B X Y Z1 Z2 Z} h hz=>by
  refine ⟨hN,?_⟩
  rw [qvg (by rw [hN]; rfl)]
  refine h.new fun nb w h=>hz nb w ?_
  have h:St F0 w0 w (qt nb (nmC x.1) :: qt xb (spC x) :: B :: X :: Y :: Z1 :: Z2 :: ps):=h
  exact h.sub
 have hN2:∀ {w':World} {B X Y Z1 Z2:As} {Z:Addr→World→Prop},St F0 w0 w' (qt xb (spC x) :: B :: X :: Y :: Z1 :: Z2 :: ps)→(∀ nb w'',St F0 w0 w'' (qt xb (spC x) :: B :: X :: Y :: Z1 :: qt nb (spC x) :: ps)→Z ⟨nb,0,none⟩ w'') →
  (⟨spC x⟩:Array Value).size=22∧nw w' ⟨spl ([.int .u8 0,.int .u8 0,.int .u8 0,.int .u8 0,.int .u8 0,.int .u8 0,.int .u8 0,.int .u8 0,.int .u8 0,.int .u8 0,.int .u8 0,.int .u8 0,.int .u8 0,.int .u8 0,.int .u8 0,.int .u8 0,.int .u8 0,.int .u8 0,.int .u8 0,.int .u8 0,.int .i64 0,.int .i64 0]:List Value) 0 (⟨spC x⟩:Array Value)⟩ 75 Z:=fun {w' B X Y Z1 Z2 Z} h hz=>by
  refine ⟨qxc _,?_⟩
  rw [qvg (by rw [qxc]; rfl)]
  refine h.new fun nb w h=>hz nb w ?_
  have h:St F0 w0 w (qt nb (spC x) :: qt xb (spC x) :: B :: X :: Y :: Z1 :: Z2 :: ps):=h
  exact h.sub
 have hP1:∀ {w':World} {nb:Nat} {B Y Z2:As} {Z:Sl→World→Prop},St F0 w0 w' (qt xb (spC x) :: B :: qv 20 si (A.flatMap nmC) :: Y :: qt nb (nmC x.1) :: Z2 :: ps)→(∀ s' w'',St F0 w0 w'' (qt xb (spC x) :: B :: qv 20 s' ((A ++ [x.1]).flatMap nmC) :: Y :: noA :: Z2 :: ps)→Z s' w'') →
  rdO w' (some ⟨nb,0,none⟩) (1 * 20) fun c=>apK Tryz.prog 39 w' si.a si.len si.cap 1 c Z:=fun {w' nb B Y Z2 Z} h hz=>by
  have h2:St F0 w0 w' (qt nb (nmC x.1) :: qt xb (spC x) :: B :: qv 20 si (A.flatMap nmC) :: Y :: Z2 :: ps):=h.at4
  refine h2.pushB (s:=si) (f:=nmC) (L:=A) hA fun s' w h=>hz s' w ?_
  have h3:St F0 w0 w (noA :: qv 20 s' ((A ++ [x.1]).flatMap nmC) :: qt nb (nmC x.1) :: qt xb (spC x) :: B :: Y :: Z2 :: ps):=h.bag0
  exact h3.sub
 have hP2:∀ {w':World} {nb:Nat} {B X Z1:As} {Z:Sl→World→Prop},St F0 w0 w' (qt xb (spC x) :: B :: X :: qv 22 ss (S.flatMap spC) :: Z1 :: qt nb (spC x) :: ps)→(∀ s' w'',St F0 w0 w'' (qt xb (spC x) :: B :: X :: qv 22 s' ((S ++ [x]).flatMap spC) :: Z1 :: noA :: ps)→Z s' w'') →
  rdO w' (some ⟨nb,0,none⟩) (1 * 22) fun c=>apK Tryz.prog 75 w' ss.a ss.len ss.cap 1 c Z:=fun {w' nb B X Z1 Z} h hz=>by
  have h2:St F0 w0 w' (qt nb (spC x) :: qt xb (spC x) :: B :: X :: qv 22 ss (S.flatMap spC) :: Z1 :: ps):=h.at5
  refine h2.pushB (s:=ss) (f:=spC) (L:=S) hS fun s' w h=>hz s' w ?_
  have h3:St F0 w0 w (noA :: qv 22 s' ((S ++ [x]).flatMap spC) :: qt nb (spC x) :: qt xb (spC x) :: B :: X :: Z1 :: ps):=h.bag0
  exact h3.sub
 have leaf:∀ {w':World} {s1 s2:Sl},St F0 w0 w' (qt xb (spC x) :: qt tb [sV sp,sV si,sV ss] :: qv 20 s1 ((A ++ [x.1]).flatMap nmC) :: qv 22 s2 ((S ++ [x]).flatMap spC) :: noA :: noA :: ps) →
  nz (some (⟨tb,0,none⟩:Addr)) fun a50=>Go.Proofs.YtonmgkkkiejicaaGreat.st w' (Addr.add a50 1) (sV s1) fun w51=>nz (some (⟨tb,0,none⟩:Addr)) fun a52=>Go.Proofs.YtonmgkkkiejicaaGreat.st w51 (Addr.add a52 2) (sV s2) fun w53=>qm.j12 (some ⟨tb,0,none⟩) t13 t16 (some ⟨rb2,0,none⟩) ⟨xb,0,none⟩ Q nx1 w53:=fun {w' s1 s2} h=>by
  have h:St F0 w0 w' (qt tb [sV sp,sV si,sV ss] :: qt xb (spC x) :: qv 20 s1 ((A ++ [x.1]).flatMap nmC) :: qv 22 s2 ((S ++ [x]).flatMap spC) :: ps):=h.sub
  refine qgd ?_
  rw [qmb]
  refine h.st (by show 1 < 3; decide) trivial fun w h=>qgd ?_
  rw [qmb]
  refine h.st (by show 2 < 3; decide) trivial fun w h=>?_
  have h:St F0 w0 w (qt tb [sV sp,sV s1,sV s2] :: qt xb (spC x) :: qv 20 s1 ((A ++ [x.1]).flatMap nmC) :: qv 22 s2 ((S ++ [x]).flatMap spC) :: ps):=h
  exact hok s1 s2 w h.at1
 have h:St F0 w0 w (qt xb (spC x) :: qt tb [sV sp,sV si,sV ss] :: qv 20 si (A.flatMap nmC) :: qv 22 ss (S.flatMap spC) :: noA :: noA :: ps):=by
  have h2:St F0 w0 w (noA :: noA :: qt xb (spC x) :: qt tb [sV sp,sV si,sV ss] :: qv 20 si (A.flatMap nmC) :: qv 22 ss (S.flatMap spC) :: ps):=(h.bag0).bag0
  exact h2.sub
 refine hL1 h ?_
 refine hA1 h (qgd ?_)
 repeat' first
  | with_reducible exact leaf (by assumption)
  | with_reducible refine hN1 (by assumption) fun nb w h=>?_
  | with_reducible refine hN2 (by assumption) fun nb w h=>?_
  | with_reducible refine hP1 (by assumption) fun s' w h=>?_
  | with_reducible refine hP2 (by assumption) fun s' w h=>?_
  | with_reducible refine hL2 (by assumption) ?_
  | with_reducible refine hA2 (by assumption) ?_
  | with_reducible refine And.intro ?_ ?_
end
end Go.Proofs.YtonmgkkkiejicaaGreat
namespace Go.Proofs.YtonmgkkkiejicaaGreat
open Go Go.Proofs
set_option linter.unusedVariables false
set_option linter.unusedSimpArgs false
attribute [local irreducible] apK cpK mkK br qie mB
structure RdR (NL:List ByteArray) (S:List Sp) (LM:List Mp):Prop where
 nm:LM.map (·.1.1)=NL
 row:∀ k (h:k < LM.length),LM[k].2=(S.filter fun s=>decide (s.2.1=(k:Int))).map rwX
 rg:∀ s ∈ S,(0≤s.2.1∧s.2.1 < LM.length)∧(0≤s.2.2∧s.2.2 < 4294967296)
theorem RdR.step {NL:List ByteArray} {S:List Sp} {LM:List Mp} (h:RdR NL S LM) {x:Sp} {k:Nat} (hk:k < LM.length) (hx:x.2.1=k) (hr:0≤x.2.2∧x.2.2 < 4294967296) (s':Sl) :
 RdR NL (S ++ [x]) (LM.set k ((LM[k].1.1,s'),LM[k].2 ++ [rwX x])) where
 nm:=by
  rw [← h.nm,List.map_set]
  have e:(LM.map (·.1.1))[k]'(by rw [List.length_map]; exact hk)=LM[k].1.1:=by simp
  refine List.ext_getElem (by simp) fun j h1 h2=>?_
  rw [List.getElem_set]
  split
  · rename_i hj; subst hj; exact e.symm
  · rfl
 row:=by
  intro j hj
  rw [List.length_set] at hj
  rw [List.getElem_set,List.filter_append,List.map_append]
  by_cases e:k=j
  · subst e
    rw [if_pos rfl]
    simp [hx,h.row k hk]
  · rw [if_neg e,h.row j hj]
    have:¬ x.2.1=(j:Int):=by omega
    simp [this]
 rg:=by
  intro s hs
  rw [List.length_set]
  rcases List.mem_append.1 hs with hs | hs
  · exact h.rg s hs
  · have:s=x:=by simpa using hs
    subst this
    exact ⟨by omega,hr⟩
theorem atB_at {O:List Sp} {i:Nat} (h:i < O.length):∃ a r,atB O=a ++ (at1B O[i] ++ r)∧a.length=8 * i:=by
 refine ⟨atB (O.take i),atB (O.drop (i+1)),?_,?_⟩
 · unfold atB
   conv=>lhs; rw [← List.take_append_drop i O,List.drop_eq_getElem_cons h]
   rw [List.flatMap_append,List.flatMap_cons]
 · rw [qlg,List.length_take]; omega
theorem at_step {O:List Sp} {i:Nat} (h:i < O.length):tkS (atB O) (8 * i) 0 4=(beJ 4 4 O[i].2.1,8 * i+4,0)∧tkS (atB O) (8 * i+4) 0 4=(beJ 4 4 O[i].2.2,8 * i+8,0):=by
 obtain ⟨a,r,e,hl⟩:=atB_at h
 have hlen:8 * i+8≤(atB O).length:=by rw [qlg]; omega
 have t1:tkS (atB O) (8 * i) 0 4=(((atB O).drop (8 * i)).take 4,8 * i+4,0):=qwj (n:=4) (by omega)
 have t2:tkS (atB O) (8 * i+4) 0 4=(((atB O).drop (8 * i+4)).take 4,8 * i+4+4,0):=qwj (n:=4) (by omega)
 rw [t1,t2,e]
 unfold at1B
 refine ⟨?_,?_⟩
 · rw [List.append_assoc,qgm hl (qlc ..)]
 · have e2:a ++ (beJ 4 4 O[i].2.1 ++ beJ 4 4 O[i].2.2 ++ r)=(a ++ beJ 4 4 O[i].2.1) ++ (beJ 4 4 O[i].2.2 ++ r):=by simp only [List.append_assoc]
   rw [e2,qgm (by rw [List.length_append,qlc,hl]) (qlc ..)]
theorem ids_step {O:List Sp} {i:Nat} (h:i < O.length):((nB (qdc O)).drop (20 * i)).take 20=O[i].1.1:=by
 have hi:i < (qdc O).length:=by unfold qdc; rw [List.length_map]; exact h
 have:=flat_at (f:=fun q:Nm=>q.1) (fun q=>q.2.1) [] hi
 rw [List.append_nil] at this
 have e:(qdc O)[i]=O[i].1:=List.getElem_map ..
 rw [e] at this
 exact this
theorem u32_rg {xs:List Int} (hx:qzc xs) (p:Nat) (e:Int):0≤be (tkS xs p e 4).1∧be (tkS xs p e 4).1 < 4294967296:=by
 have h:=tkS_ok hx p e 4
 have h2:=qdk h.1 (n:=4) (by omega)
 have h3:(2:Int) ^ (8 * 4)=4294967296:=by decide
 rw [h3] at h2
 exact h2
theorem sp_new (q:Nm):spl ([.int .u8 0,.int .u8 0,.int .u8 0,.int .u8 0,.int .u8 0,.int .u8 0,.int .u8 0,.int .u8 0,.int .u8 0,.int .u8 0,.int .u8 0,.int .u8 0,.int .u8 0,.int .u8 0,.int .u8 0,.int .u8 0,.int .u8 0,.int .u8 0,.int .u8 0,.int .u8 0,.int .i64 0,.int .i64 0]:List Value) 0 ⟨nmC q⟩=spC (q,0,0):=by
 have hl:(nmC q).length=20:=(inferInstance:Rec nmC 20).len q
 have e00:([.int .u8 0,.int .u8 0,.int .u8 0,.int .u8 0,.int .u8 0,.int .u8 0,.int .u8 0,.int .u8 0,.int .u8 0,.int .u8 0,.int .u8 0,.int .u8 0,.int .u8 0,.int .u8 0,.int .u8 0,.int .u8 0,.int .u8 0,.int .u8 0,.int .u8 0,.int .u8 0,.int .i64 0,.int .i64 0]:List Value)=ivs .u8 z20 ++ [.int .i64 0,.int .i64 0]:=rfl
 rw [e00,spl_eq _ _ _ (by rw [hl]; decide),hl]
 rfl
theorem sp_set20 (q:Nm) (a b v:Int):(spC (q,a,b)).set 20 (.int .i64 v)=spC (q,v,b):=by
 unfold spC
 rw [List.set_append_right _ _ (by rw [qw,q.2.1]; decide),qw,q.2.1]
 rfl
theorem sp_set21 (q:Nm) (a b v:Int):(spC (q,a,b)).set 21 (.int .i64 v)=spC (q,a,v):=by
 unfold spC
 rw [List.set_append_right _ _ (by rw [qw,q.2.1]; decide),qw,q.2.1]
 rfl
section
variable {F0:List Nat} {w0 w:World} {ps rest:List As} {t13 si ss sp:Sl} {LM:List Mp} {NL:List ByteArray} {Q:VWP} {tb rb1 rb2:Nat} {c2 c3 xs:List Int}
theorem read_7 (h:St F0 w0 w (qt tb [sV sp,.slice none 0 0,.slice none 0 0] :: qv 2 t13 ((LM.map Prod.fst).flatMap mkC) :: qgg (LM.map qbg) :: brA rb1 (c2,0,0) :: brA rb2 (c3,0,0) :: ps))
 (hLM:RdR NL [] LM) (ht13:t13.len=LM.length) (h2:qzc c2) (h3:qzc c3) (hl2:c2.length≤1000000) (hl3:c3.length≤1000000)
 (hV:∀ NL' O,VM NL' O→xs=mB NL' O→NL'=NL∧c2=nB (qdc O)∧c3=atB O)
 (hno:∀ w',(∀ NL O,VM NL O→xs ≠ mB NL O)→St F0 w0 w' ps→Q (.tuple ⟨[.pointer none,.slice none 0 0,.bool false]⟩) w')
 (hok:∀ si ss LM S w',RdR NL S LM→S.length≤50000→(∀ NL' O,VM NL' O→xs=mB NL' O→S=O)→t13.len=LM.length→St F0 w0 w' (qt tb [sV sp,sV si,sV ss] :: qv 20 si ((qdc S).flatMap nmC) :: qv 22 ss (S.flatMap spC) :: qv 2 t13 ((LM.map Prod.fst).flatMap mkC) :: qgg (LM.map qbg) :: ps)→Q (.tuple ⟨[.pointer (some ⟨tb,0,none⟩),sV t13,.bool true]⟩) w') :
 qm.j7 (some ⟨tb,0,none⟩) t13 (some ⟨rb1,0,none⟩) (some ⟨rb2,0,none⟩) Q w:=by
 unfold qm.j7
 refine loop0 (fun (a:List Sp × List Mp × Sl × Sl × Nat) w'=>RdR NL a.1 a.2.1∧20 * a.1.length≤c2.length∧t13.len=a.2.1.length∧(∀ NL' O,VM NL' O→xs=mB NL' O→a.1=O.take a.1.length∧a.2.2.2.2=8 * a.1.length) ∧
  St F0 w0 w' (qt tb [sV sp,sV a.2.2.1,sV a.2.2.2.1] :: qv 20 a.2.2.1 ((qdc a.1).flatMap nmC) :: qv 22 a.2.2.2.1 (a.1.flatMap spC) :: qv 2 t13 ((a.2.1.map Prod.fst).flatMap mkC) :: qgg (a.2.1.map qbg) :: brA rb1 (c2,20 * a.1.length,0) :: brA rb2 (c3,a.2.2.2.2,0) :: ps)) (fun a=>c2.length - 20 * a.1.length) ([],LM,⟨none,0,0⟩,⟨none,0,0⟩,0) ⟨hLM,Nat.zero_le _,ht13,fun _ _ _ _=>⟨rfl,rfl⟩,?_⟩ ?_
 · have h1:St F0 w0 w (qv 20 ⟨none,0,0⟩ ((qdc []).flatMap nmC) :: qv 22 ⟨none,0,0⟩ (([]:List Sp).flatMap spC) :: qt tb [sV sp,.slice none 0 0,.slice none 0 0] :: qv 2 t13 ((LM.map Prod.fst).flatMap mkC) :: qgg (LM.map qbg) :: brA rb1 (c2,0,0) :: brA rb2 (c3,0,0) :: ps):=(h.nilO).nilO
   exact h1.at2
 clear h hLM ht13
 rintro ⟨S,LM,si,ss,p⟩ wL I μ ⟨hLM,hSl,ht13,hSV,h⟩ hin
 simp only at hLM hSl ht13 hSV h hin ⊢
 unfold qm.b1
 refine qvc.c (rb:=rb1) h fun w h=>⟨_,rfl,?_⟩
 rw [if_pos rfl]
 have h:St F0 w0 w (qt tb [sV sp,sV si,sV ss] :: qv 20 si ((qdc S).flatMap nmC) :: qv 22 ss (S.flatMap spC) :: qv 2 t13 ((LM.map Prod.fst).flatMap mkC) :: qgg (LM.map qbg) :: brA rb1 (c2,20 * S.length,0) :: brA rb2 (c3,p,0) :: ps):=h.sub
 refine qsc (fun g=>?_) (fun g=>?_)
 · have hle:20 * S.length+20≤c2.length:=by omega
   have hid:=idOk_cut h2 hle
   have hVx:∀ NL' O,VM NL' O→xs=mB NL' O→∃ hi:S.length < O.length,(c2.drop (20 * S.length)).take 20=O[S.length].1.1∧p=8 * S.length:=fun NL' O a b=>by
    obtain ⟨_,e2,e3⟩:=hV NL' O a b
    have hl:(qdc O).length=O.length:=List.length_map ..
    have hi:S.length < O.length:=by
     have:=congrArg List.length e2
     rw [qii,hl] at this
     omega
    refine ⟨hi,?_,(hSV NL' O a b).2⟩
    rw [e2]
    exact ids_step hi
   unfold qm.j9
   have t20:tkS c2 (20 * S.length) 0 20=((c2.drop (20 * S.length)).take 20,20 * S.length+20,0):=qwj (n:=20) hle
   refine qfd.c (rb:=rb1) (n:=20) h fun r w h=>⟨r,rfl,?_⟩
   rw [t20] at h
   generalize hq:(c2.drop (20 * S.length)).take 20=q at h hid hVx
   have h:St F0 w0 w (rdA 1 r (u8s q) :: brA rb1 (c2,20 * S.length+20,0) :: qt tb [sV sp,sV si,sV ss] :: qv 20 si ((qdc S).flatMap nmC) :: qv 22 ss (S.flatMap spC) :: qv 2 t13 ((LM.map Prod.fst).flatMap mkC) :: qgg (LM.map qbg) :: brA rb2 (c3,p,0) :: ps):=h
   have hr:=h.rd
   have hrl:=hr.1
   rw [qeb,hid.1,Nat.mul_one] at hrl
   refine ⟨by omega,hr.ldF (by decide) (by rw [hid.1]; decide) ?_⟩
   rw [List.take_of_length_le (by rw [hid.1]; decide)]
   obtain ⟨Nq,hNq⟩:∃ Nq:Nm,Nq.1=q:=⟨⟨q,hid⟩,rfl⟩
   subst hNq
   have hN:(nmC Nq).length=20:=(inferInstance:Rec nmC 20).len Nq
   refine ⟨hN,?_⟩
   show nw w (zc Tryz.prog 75) 75 fun a437 w438=>(⟨spl ([.int .u8 0,.int .u8 0,.int .u8 0,.int .u8 0,.int .u8 0,.int .u8 0,.int .u8 0,.int .u8 0,.int .u8 0,.int .u8 0,.int .u8 0,.int .u8 0,.int .u8 0,.int .u8 0,.int .u8 0,.int .u8 0,.int .u8 0,.int .u8 0,.int .u8 0,.int .u8 0,.int .i64 0,.int .i64 0]:List Value) 0 ⟨nmC Nq⟩⟩:Array Value).size=22∧Go.Proofs.YtonmgkkkiejicaaGreat.stA w438 a437 ⟨spl ([.int .u8 0,.int .u8 0,.int .u8 0,.int .u8 0,.int .u8 0,.int .u8 0,.int .u8 0,.int .u8 0,.int .u8 0,.int .u8 0,.int .u8 0,.int .u8 0,.int .u8 0,.int .u8 0,.int .u8 0,.int .u8 0,.int .u8 0,.int .u8 0,.int .u8 0,.int .u8 0,.int .i64 0,.int .i64 0]:List Value) 0 ⟨nmC Nq⟩⟩ fun w439=>qm.j10 _ _ _ _ a437 Q _ w439
   rw [sp_new,qjl]
   refine h.drop.new fun xb w h=>?_
   have h:St F0 w0 w (qt xb (spC spZ) :: brA rb1 (c2,20 * S.length+20,0) :: qt tb [sV sp,sV si,sV ss] :: qv 20 si ((qdc S).flatMap nmC) :: qv 22 ss (S.flatMap spC) :: qv 2 t13 ((LM.map Prod.fst).flatMap mkC) :: qgg (LM.map qbg) :: brA rb2 (c3,p,0) :: ps):=h
   refine ⟨qxc _,?_⟩
   refine h.setR (f:=spC) (x:=(Nq,0,0)) (qxc _) fun w h=>?_
   unfold qm.j10
   refine qjd.c (rb:=rb2) h h3 fun w h=>⟨_,rfl,?_⟩
   have u1:=u32_rg h3 p 0
   rw [nu4 h3] at h ⊢
   generalize hz1:tkS c3 p 0 4=z1 at h u1 ⊢
   obtain ⟨v1,p1,e1⟩:=z1
   have h:St F0 w0 w (qt xb (spC (Nq,0,0)) :: brA rb2 (c3,p1,e1) :: brA rb1 (c2,20 * S.length+20,0) :: qt tb [sV sp,sV si,sV ss] :: qv 20 si ((qdc S).flatMap nmC) :: qv 22 ss (S.flatMap spC) :: qv 2 t13 ((LM.map Prod.fst).flatMap mkC) :: qgg (LM.map qbg) :: ps):=h.sub
   rw [qmb]
   refine h.st (by rw [qxc]; decide) trivial fun w h=>?_
   rw [Nat.zero_add,sp_set20] at h
   refine qjd.c (rb:=rb2) h h3 fun w h=>⟨_,rfl,?_⟩
   have u2:=u32_rg h3 p1 e1
   rw [nu4 h3] at h ⊢
   generalize hz2:tkS c3 p1 e1 4=z2 at h u2 ⊢
   obtain ⟨v2,p2,e2⟩:=z2
   have h:St F0 w0 w (qt xb (spC (Nq,be v1,0)) :: brA rb2 (c3,p2,e2) :: brA rb1 (c2,20 * S.length+20,0) :: qt tb [sV sp,sV si,sV ss] :: qv 20 si ((qdc S).flatMap nmC) :: qv 22 ss (S.flatMap spC) :: qv 2 t13 ((LM.map Prod.fst).flatMap mkC) :: qgg (LM.map qbg) :: ps):=h.sub
   rw [qmb]
   refine h.st (by rw [qxc]; decide) trivial fun w h=>?_
   rw [Nat.zero_add,sp_set21] at h
   have hVy:∀ NL' O,VM NL' O→xs=mB NL' O→∃ hi:S.length < O.length,O[S.length]=(Nq,be v1,be v2)∧e2=0∧p2=8 * S.length+8:=fun NL' O a b=>by
    obtain ⟨hi,hq2,hp⟩:=hVx NL' O a b
    obtain ⟨_,_,hc3⟩:=hV NL' O a b
    obtain ⟨s1,s2⟩:=at_step hi
    subst hp
    rw [← hc3] at s1 s2
    rw [s1] at hz1
    have a1:v1=beJ 4 4 O[S.length].2.1:=(congrArg (fun z=>z.1) hz1).symm
    have a2:p1=8 * S.length+4:=(congrArg (fun z=>z.2.1) hz1).symm
    have a3:e1=0:=(congrArg (fun z=>z.2.2) hz1).symm
    subst a2 a3
    rw [s2] at hz2
    have b1:v2=beJ 4 4 O[S.length].2.2:=(congrArg (fun z=>z.1) hz2).symm
    have b2:p2=8 * S.length+8:=(congrArg (fun z=>z.2.1) hz2).symm
    have b3:e2=0:=(congrArg (fun z=>z.2.2) hz2).symm
    have hrg:=a.rg _ (List.getElem_mem hi)
    have hln:=a.ln
    refine ⟨hi,?_,b3,b2⟩
    rw [a1,b1,be_4 (by omega),be_4 (by omega)]
    have:O[S.length].1=Nq:=Nm.ext' hq2.symm
    rw [← this]
   have h:St F0 w0 w (qt xb (spC (Nq,be v1,be v2)) :: qt tb [sV sp,sV si,sV ss] :: qv 20 si ((qdc S).flatMap nmC) :: qv 22 ss (S.flatMap spC) :: brA rb2 (c3,p2,e2) :: brA rb1 (c2,20 * S.length+20,0) :: qv 2 t13 ((LM.map Prod.fst).flatMap mkC) :: qgg (LM.map qbg) :: ps):=h.sub
   have hidl:(qdc S).length=S.length:=List.length_map ..
   refine read_11 (x:=(Nq,be v1,be v2)) h (by omega) (by omega) (fun w hf h=>?_) (fun he hlt si' ss' w h=>?_)
   · refine hno w (fun NL' O a b=>?_) h.sub
     obtain ⟨hi,hO,he,_⟩:=hVy NL' O a b
     have hrg:=a.rg _ (List.getElem_mem hi)
     rw [hO] at hrg
     simp only at hrg hf
     rcases hf with hf | hf
     · have e1:=(hV NL' O a b).1
       have e2:=congrArg List.length hLM.nm
       rw [List.length_map,← e1] at e2
       omega
     · exact hf he
   · simp only at hlt u1 u2
     subst he
     obtain ⟨k,hk⟩:∃ k:Nat,be v1=k:=⟨(be v1).toNat,by omega⟩
     have hkl:k < LM.length:=by omega
     have h:St F0 w0 w (qt xb (spC (Nq,be v1,be v2)) :: qv 2 t13 ((LM.map Prod.fst).flatMap mkC) :: qgg (LM.map qbg) :: qt tb [sV sp,sV si',sV ss'] :: qv 20 si' ((qdc S ++ [Nq]).flatMap nmC) :: qv 22 ss' ((S ++ [(Nq,be v1,be v2)]).flatMap spC) :: brA rb1 (c2,20 * S.length+20,0) :: brA rb2 (c3,p2,0) :: ps):=h.sub
     have hRl:LM[k].2.length≤999999999:=by
      rw [hLM.row k hkl,List.length_map]
      have:=List.length_filter_le (fun s:Sp=>decide (s.2.1=(k:Int))) S
      omega
     refine read_12 (x:=(Nq,be v1,be v2)) (LM:=LM) (k:=k) h hkl hk hRl fun s' w h=>?_
     refine ⟨⟨rfl,rfl,rfl,rfl⟩,hin (S ++ [(Nq,be v1,be v2)],LM.set k ((LM[k].1.1,s'),LM[k].2 ++ [rwX (Nq,be v1,be v2)]),si',ss',p2) w ⟨hLM.step hkl hk u2 s',?_,?_,?_,?_⟩ ?_⟩
     · simp only [List.length_append,List.length_singleton]; omega
     · simp only [List.length_set]; exact ht13
     · intro NL' O a b
       obtain ⟨hi,hO,_,hp2⟩:=hVy NL' O a b
       simp only [List.length_append,List.length_singleton]
       refine ⟨?_,by omega⟩
       rw [List.take_succ_eq_append_getElem hi,hO,← (hSV NL' O a b).1]
     · have e1:qdc (S ++ [(Nq,be v1,be v2)])=qdc S ++ [Nq]:=by unfold qdc; simp
       have e2:20 * (S ++ [(Nq,be v1,be v2)]).length=20 * S.length+20:=by simp only [List.length_append,List.length_singleton]; omega
       simp only [e1,e2]
       exact h.sub
     · simp only [List.length_append,List.length_singleton]; omega
 · unfold qm.j8
   refine hok si ss LM S w hLM (by omega) (fun NL' O a b=>?_) ht13 h.sub
   have e:=(hSV NL' O a b).1
   obtain ⟨_,e2,_⟩:=hV NL' O a b
   have hl:(qdc O).length=O.length:=List.length_map ..
   have:=congrArg List.length e2
   rw [qii,hl] at this
   rw [e]
   exact List.take_of_length_le (by omega)
end
end Go.Proofs.YtonmgkkkiejicaaGreat
namespace Go.Proofs.YtonmgkkkiejicaaGreat
open Go Go.Proofs
set_option linter.unusedVariables false
set_option linter.unusedSimpArgs false
attribute [local irreducible] apK cpK mkK br qie mB
def stC (n:ByteArray):List Value:=[.string n]
instance rec_stC:Rec stC 1 where
 len _:=rfl
 pos:=by decide
 sto x v hv:=by
  have hv:v ∈ stC x:=by simpa using hv
  simp [stC] at hv
  rw [hv]; trivial
instance elt_strR:EltR Tryz.prog 9 1 [.string ⟨#[]⟩]:=⟨⟨Tryz.t9,by kernel_rfl,rfl,by decide,by decide⟩,by kernel_rfl,rfl,by decide⟩
def mkN (n:ByteArray):Mk:=(n,⟨none,0,0⟩)
def mkZ:Mk:=(⟨⟨[]⟩⟩,⟨none,0,0⟩)
def nmK (NL:List ByteArray) (i:Nat):List Mk:=(NL.take i).map mkN ++ List.replicate (NL.length - i) mkZ
theorem nmK_len (NL:List ByteArray) {i:Nat} (h:i≤NL.length):(nmK NL i).length=NL.length:=by
 unfold nmK
 rw [List.length_append,List.length_map,List.length_take,List.length_replicate]; omega
theorem nmK_set (NL:List ByteArray) {i:Nat} (h:i < NL.length):(nmK NL i).set i (mkN NL[i])=nmK NL (i+1):=by
 unfold nmK
 have hl:((NL.take i).map mkN).length=i:=by rw [List.length_map,List.length_take]; omega
 have e:NL.length - i=(NL.length - (i+1))+1:=by omega
 rw [List.set_append_right _ _ (by omega),hl,Nat.sub_self,e,List.replicate_succ,List.set_cons_zero,List.take_succ_eq_append_getElem h,List.map_append,List.append_assoc]
 rfl
theorem nmK_end (NL:List ByteArray):nmK NL NL.length=NL.map mkN:=by
 unfold nmK
 rw [List.take_length,Nat.sub_self]
 simp
def lm0 (NL:List ByteArray):List Mp:=NL.map fun n=>(mkN n,[])
theorem lm0_rd (NL:List ByteArray):RdR NL [] (lm0 NL) where
 nm:=by unfold lm0; rw [List.map_map]; exact (List.map_congr_left fun n _=>rfl).trans (List.map_id NL)
 row k h:=by
  have hk:k < NL.length:=by unfold lm0 at h; rw [List.length_map] at h; exact h
  have e:(lm0 NL)[k]=(mkN NL[k],[]):=List.getElem_map ..
  rw [e]
  rfl
 rg s hs:=by cases hs
theorem lm0_fst (NL:List ByteArray):(lm0 NL).map Prod.fst=NL.map mkN:=by unfold lm0; rw [List.map_map]; rfl
theorem St.bagNil (NL:List ByteArray) {F0:List Nat} {w0 w:World} {ps:List As} (h:St F0 w0 w ps):St F0 w0 w (qgg ((lm0 NL).map qbg) :: ps):=by
 induction NL with
 | nil=>exact h.bag0
 | cons n NL ih =>
   have h2:St F0 w0 w (qv 22 ⟨none,0,0⟩ (([]:List Rw).flatMap rwC) :: qgg ((lm0 NL).map qbg) :: ps):=ih.nilO
   exact h2.bagIn
section
variable {F0:List Nat} {w0 w:World} {ps rest:List As} {t5 t13 b sp:Sl} {NL:List ByteArray} {Q:VWP} {tb:Nat} {xs:List Int} {y0 y1 y2 y3:Sl × List Int} {K:Ending→World→Prop}
theorem read_6 (h:St F0 w0 w (qt tb [sV sp,.slice none 0 0,.slice none 0 0] :: qv 2 t13 ((NL.map mkN).flatMap mkC) :: ps)) (ht13:t13.len=NL.length) [Rdb F0 w0 t5 ps 1 ([y0,y1,y2,y3].flatMap slF)] (h2:qzc y2.2) (h3:qzc y3.2) (hl2:y2.2.length≤1000000) (hl3:y3.2.length≤1000000) [Rdb F0 w0 y2.1 ps 1 (u8s y2.2)] [Rdb F0 w0 y3.1 ps 1 (u8s y3.2)]
 (hV:∀ NL' O,VM NL' O→xs=mB NL' O→NL'=NL∧y2.2=nB (qdc O)∧y3.2=atB O)
 (hno:∀ w',(∀ NL O,VM NL O→xs ≠ mB NL O)→St F0 w0 w' ps→Q (.tuple ⟨[.pointer none,.slice none 0 0,.bool false]⟩) w')
 (hok:∀ si ss LM S w',RdR NL S LM→S.length≤50000→(∀ NL' O,VM NL' O→xs=mB NL' O→S=O)→t13.len=LM.length→St F0 w0 w' (qt tb [sV sp,sV si,sV ss] :: qv 20 si ((qdc S).flatMap nmC) :: qv 22 ss (S.flatMap spC) :: qv 2 t13 ((LM.map Prod.fst).flatMap mkC) :: qgg (LM.map qbg) :: ps)→Q (.tuple ⟨[.pointer (some ⟨tb,0,none⟩),sV t13,.bool true]⟩) w') :
 qm.j6 t5 (some ⟨tb,0,none⟩) t13 Q w:=by
 have fin:∀ {w:World} {r1 r2:Nat},St F0 w0 w (brA r2 (y3.2,0,0) :: brA r1 (y2.2,0,0) :: qt tb [sV sp,.slice none 0 0,.slice none 0 0] :: qv 2 t13 ((NL.map mkN).flatMap mkC) :: ps)→qm.j7 (some ⟨tb,0,none⟩) t13 (some ⟨r1,0,none⟩) (some ⟨r2,0,none⟩) Q w:=fun {w r1 r2} h=>by
  have h:=h.bagNil NL
  have h:St F0 w0 w (qt tb [sV sp,.slice none 0 0,.slice none 0 0] :: qv 2 t13 (((lm0 NL).map Prod.fst).flatMap mkC) :: qgg ((lm0 NL).map qbg) :: brA r1 (y2.2,0,0) :: brA r2 (y3.2,0,0) :: ps):=by
   rw [lm0_fst]
   exact h.sub
  exact read_7 (xs:=xs) h (lm0_rd NL) (by rw [ht13]; unfold lm0; rw [List.length_map]) h2 h3 hl2 hl3 hV hno hok
 have hb:∀ {w':World},St F0 w0 w' (qt tb [sV sp,.slice none 0 0,.slice none 0 0] :: qv 2 t13 ((NL.map mkN).flatMap mkC) :: ps)→St F0 w0 w' ps:=fun h=>h.drop.drop
 unfold qm.j6
 refine h.drewK fun w h=>?_
 refine h.rix (s:=t5) (f:=slF) (L:=[y0,y1,y2,y3]) 2 rfl (by simp) fun a0 ha=>?_
 have hL2:∀ {w':World} {Z:Sl→Prop},Rd w' 1 t5 ([y0,y1,y2,y3].flatMap slF)→Z y2.1→ldL w' (Addr.add a0 (2 * 1)) Z:=fun hr hz=>by
  have:=hr.rL (f:=slF) (L:=[y0,y1,y2,y3]) (v:=y2.1) (j:=2) (o:=0) ha (by simp) (by decide) rfl hz
  simpa [qke] using this
 refine hL2 (h.rdb t5) ?_
 refine h.rix (s:=t5) (f:=slF) (L:=[y0,y1,y2,y3]) 3 rfl (by simp) fun a1 ha1=>?_
 have hL3:∀ {w':World} {Z:Sl→Prop},Rd w' 1 t5 ([y0,y1,y2,y3].flatMap slF)→Z y3.1→ldL w' (Addr.add a1 (3 * 1)) Z:=fun hr hz=>by
  have:=hr.rL (f:=slF) (L:=[y0,y1,y2,y3]) (v:=y3.1) (j:=3) (o:=0) ha1 (by simp) (by decide) rfl hz
  simpa [qke] using this
 refine ⟨?_,?_⟩
 · refine qkg.c (s:=y2.1) h h2 (by omega) fun r1 w h=>⟨_,rfl,?_⟩
   refine hL3 (h.rdb t5) ?_
   refine qkg.c (s:=y3.1) h h3 (by omega) fun r2 w h=>⟨_,rfl,?_⟩
   exact fin h
 · refine hL3 (h.rdb t5) ?_
   refine qkg.c (s:=y2.1) h h2 (by omega) fun r1 w h=>⟨_,rfl,?_⟩
   refine qkg.c (s:=y3.1) h h3 (by omega) fun r2 w h=>⟨_,rfl,?_⟩
   exact fin h
theorem read_4 (h:St F0 w0 w (qt tb [sV sp,.slice none 0 0,.slice none 0 0] :: ps)) [Rdb F0 w0 sp ps 1 (NL.flatMap stC)] (hN:NL.length≤1000000) [Rdb F0 w0 t5 ps 1 ([y0,y1,y2,y3].flatMap slF)] (h2:qzc y2.2) (h3:qzc y3.2) (hl2:y2.2.length≤1000000) (hl3:y3.2.length≤1000000) [Rdb F0 w0 y2.1 ps 1 (u8s y2.2)] [Rdb F0 w0 y3.1 ps 1 (u8s y3.2)]
 (hV:∀ NL' O,VM NL' O→xs=mB NL' O→NL'=NL∧y2.2=nB (qdc O)∧y3.2=atB O)
 (hno:∀ w',(∀ NL O,VM NL O→xs ≠ mB NL O)→St F0 w0 w' ps→Q (.tuple ⟨[.pointer none,.slice none 0 0,.bool false]⟩) w')
 (hok:∀ t13 si ss LM S w',RdR NL S LM→S.length≤50000→(∀ NL' O,VM NL' O→xs=mB NL' O→S=O)→t13.len=LM.length→St F0 w0 w' (qt tb [sV sp,sV si,sV ss] :: qv 20 si ((qdc S).flatMap nmC) :: qv 22 ss (S.flatMap spC) :: qv 2 t13 ((LM.map Prod.fst).flatMap mkC) :: qgg (LM.map qbg) :: ps)→Q (.tuple ⟨[.pointer (some ⟨tb,0,none⟩),sV t13,.bool true]⟩) w') :
 qm.j4 t5 (some ⟨tb,0,none⟩) Q w:=by
 have hsl:=h.drop.rlen (s:=sp) (f:=stC) (L:=NL)
 have hld:∀ {w':World} {qs:List As} {Z:Sl→Prop},St F0 w0 w' (qt tb [sV sp,.slice none 0 0,.slice none 0 0] :: qs)→Z sp→ldL w' (Addr.add ⟨tb,0,none⟩ 0) Z:=fun h hz=>by
  rw [qmb]
  exact h.blk.ldL (n:=sp) rfl hz
 unfold qm.j4
 refine qgd (hld h ?_)
 refine h.makeR (f:=mkC) (x0:=mkZ) (n:=NL.length) rfl (by omega) (by omega) hN fun t13 w ht _ h=>?_
 have h:St F0 w0 w (qt tb [sV sp,.slice none 0 0,.slice none 0 0] :: qv 2 t13 ((nmK NL 0).flatMap mkC) :: ps):=h.at1
 unfold qm.j5
 refine qgd (hld h ?_)
 unfold qm.j13
 refine qud (fun (i:Nat) (i':Int) w'=>i'=(i:Int)∧i≤NL.length∧St F0 w0 w' (qt tb [sV sp,.slice none 0 0,.slice none 0 0] :: qv 2 t13 ((nmK NL i).flatMap mkC) :: ps)) (fun i=>NL.length - i) 0 ⟨rfl,Nat.zero_le _,h⟩ ?_
 clear h
 rintro i _ wL I μ ⟨rfl,hi,h⟩ hin
 unfold qm.b2
 refine qsc (fun g=>?_) (fun g=>?_)
 · have hix:i < NL.length:=by omega
   refine h.rix (s:=sp) (f:=stC) (L:=NL) i rfl hix fun a0 ha=>?_
   have hc:=(h.rdb sp).rcell (f:=stC) (L:=NL) (j:=i) (o:=0) ha hix (by decide)
   refine ⟨NL[i],by simpa [stC,qke] using hc,?_⟩
   have h:St F0 w0 wL (qv 2 t13 ((nmK NL i).flatMap mkC) :: qt tb [sV sp,.slice none 0 0,.slice none 0 0] :: ps):=h.at1
   have hkl:i < (nmK NL i).length:=by rw [nmK_len NL hi]; exact hix
   have hel:(nmK NL i)[i]=mkZ:=by
    have hl:((NL.take i).map mkN).length=i:=by rw [List.length_map,List.length_take]; omega
    have:(nmK NL i)[i]?=some mkZ:=by
     unfold nmK
     rw [List.getElem?_append_right (by omega),hl,Nat.sub_self,List.getElem?_replicate,if_pos (by omega)]
    rw [List.getElem?_eq_getElem hkl] at this
    injection this
   refine h.sF (f:=mkC) (x:=mkN NL[i]) i rfl hkl (by decide) trivial (by rw [hel]; rfl) fun w h=>?_
   rw [nmK_set NL hix] at h
   refine qx (e':=((i+1:Nat):Int)) (by rw [qh (by omega) (by omega)]; rfl) ?_
   exact ⟨⟨rfl,rfl,rfl,rfl,rfl⟩,hin (i+1) _ _ ⟨rfl,by omega,h.at1⟩ (by omega)⟩
 · have:i=NL.length:=by omega
   subst this
   rw [nmK_end] at h
   exact read_6 h ht h2 h3 hl2 hl3 hV hno fun si ss LM S w a b c d h=>hok t13 si ss LM S w a b c d h
end
end Go.Proofs.YtonmgkkkiejicaaGreat
namespace Go.Proofs.YtonmgkkkiejicaaGreat
open Go Go.Proofs
set_option linter.unusedVariables false
set_option linter.unusedSimpArgs false
attribute [local irreducible] apK cpK mkK br qie mB
theorem nm0_len (n:ByteArray):(nm0 n).length=n.size+1:=by
 unfold nm0
 rw [List.length_append,qnd]
 rfl
section
variable {F0:List Nat} {w0 w:World} {ps rest:List As} {t5 t13 b sp:Sl} {NL:List ByteArray} {Q:VWP} {tb:Nat} {xs:List Int} {y0 y1 y2 y3:Sl × List Int} {K:Ending→World→Prop} {N:Int} {s:ByteArray}
theorem read_3 (h:St F0 w0 w (qt tb [.slice none 0 0,.slice none 0 0,.slice none 0 0] :: ps)) (hs:s.size≤1000000) [Rdb F0 w0 t5 ps 1 ([y0,y1,y2,y3].flatMap slF)] (h2:qzc y2.2) (h3:qzc y3.2) (hl2:y2.2.length≤1000000) (hl3:y3.2.length≤1000000) [Rdb F0 w0 y2.1 ps 1 (u8s y2.2)] [Rdb F0 w0 y3.1 ps 1 (u8s y3.2)] (hN:0≤N∧N < 4294967296)
 (hV:∀ NL' O,VM NL' O→xs=mB NL' O→N=NL'.length∧biB s=qfg NL'∧y2.2=nB (qdc O)∧y3.2=atB O)
 (hno:∀ w',(∀ NL O,VM NL O→xs ≠ mB NL O)→St F0 w0 w' ps→Q (.tuple ⟨[.pointer none,.slice none 0 0,.bool false]⟩) w')
 (hok:∀ t13 sp si ss NL LM S w',RdR NL S LM→NL.length≤1000000→(∀ n ∈ NL,n.size≤1000000)→S.length≤50000→(∀ NL' O,VM NL' O→xs=mB NL' O→NL'=NL∧S=O)→t13.len=LM.length→St F0 w0 w' (qt tb [sV sp,sV si,sV ss] :: qv 20 si ((qdc S).flatMap nmC) :: qv 22 ss (S.flatMap spC) :: qv 2 t13 ((LM.map Prod.fst).flatMap mkC) :: qgg (LM.map qbg) :: qv 1 sp (NL.flatMap stC) :: ps)→Q (.tuple ⟨[.pointer (some ⟨tb,0,none⟩),sV t13,.bool true]⟩) w') :
 qm.j3 t5 (some ⟨tb,0,none⟩) N s Q w:=by
 obtain ⟨n,rfl⟩:∃ n:Nat,N=n:=⟨N.toNat,by omega⟩
 unfold qm.j3 qm.j14
 refine loop2 (fun (a:Nat × List ByteArray × Sl) (r:ByteArray) (i':Int) w'=>i'=(a.1:Int)∧a.1≤n∧a.2.1.length=a.1∧a.1+r.size≤1000000∧(∀ m ∈ a.2.1,m.size≤1000000)∧(∀ NL' O,VM NL' O→xs=mB NL' O→a.2.1=NL'.take a.1∧∃ z,biB r=(NL'.drop a.1).flatMap nm0 ++ z)∧St F0 w0 w' (qt tb [sV a.2.2,.slice none 0 0,.slice none 0 0] :: qv 1 a.2.2 (a.2.1.flatMap stC) :: ps)) (fun a=>n - a.1) (0,[],⟨none,0,0⟩) ⟨rfl,Nat.zero_le _,rfl,by simpa using hs,by simp,fun NL' O a b=>⟨rfl,?_⟩,?_⟩ ?_
 · obtain ⟨_,e,_⟩:=hV NL' O a b
   rw [e]
   exact ⟨_,rfl⟩
 · have h1:St F0 w0 w (qv 1 ⟨none,0,0⟩ (([]:List ByteArray).flatMap stC) :: qt tb [.slice none 0 0,.slice none 0 0,.slice none 0 0] :: ps):=h.nilO
   exact h1.at1
 clear h hs
 rintro ⟨i,P,sp⟩ r _ wL I μ ⟨rfl,hi,hPl,hrs,hPs,hPV,h⟩ hin
 simp only at hi hPl hrs hPs hPV h hin ⊢
 unfold qm.b3
 refine qsc (fun g=>?_) (fun g=>?_)
 · have hix:i < n:=by omega
   have hVi:∀ NL' O,VM NL' O→xs=mB NL' O→∃ hl:i < NL'.length,P=NL'.take i∧∃ z,biB r=biB NL'[i] ++ [0] ++ ((NL'.drop (i+1)).flatMap nm0 ++ z)∧(0:Int) ∉ biB NL'[i]:=fun NL' O a b=>by
    obtain ⟨e1,_⟩:=hV NL' O a b
    have hl:i < NL'.length:=by omega
    obtain ⟨e2,z,e3⟩:=hPV NL' O a b
    refine ⟨hl,e2,z,?_,nmd_no0 (a.nm _ (List.getElem_mem hl))⟩
    rw [e3,List.drop_eq_getElem_cons hl,List.flatMap_cons,List.append_assoc]
    rfl
   refine CutZ.c (s:=r) (by omega) (fun p r2 w _ hb hp0 hm=>⟨_,_,_,rfl,?_⟩) (fun hz=>⟨_,_,_,rfl,?_⟩)
   · have h:=h.skip hm
     have hbl:=congrArg List.length hb
     rw [List.length_append,nm0_len,qnd,qnd] at hbl
     refine qmd (fun g=>by cases g) (fun _=>qgd ?_)
     rw [qmb]
     refine h.blk.ldL (n:=sp) rfl ?_
     refine h.pushR (s:=sp) (f:=stC) (L:=P) (x:=p) (by omega) rfl fun sp' w _ h=>qgd ?_
     have h:St F0 w0 w (qt tb [sV sp,.slice none 0 0,.slice none 0 0] :: qv 1 sp' ((P ++ [p]).flatMap stC) :: ps):=h.at1
     rw [qmb]
     refine h.st (by show 0 < 3; decide) trivial fun w h=>?_
     have h:St F0 w0 w (qt tb [sV sp',.slice none 0 0,.slice none 0 0] :: qv 1 sp' ((P ++ [p]).flatMap stC) :: ps):=h
     refine qx (e':=((i+1:Nat):Int)) (by rw [qh (by omega) (by omega)]; rfl) ?_
     refine ⟨⟨rfl,rfl,rfl⟩,hin (i+1,P ++ [p],sp') _ _ _ ⟨rfl,by simp only; omega,by simp only [List.length_append,List.length_singleton]; omega,by simp only; omega,?_,?_,h⟩ (by simp only; omega)⟩
     · intro m hm2
       rcases List.mem_append.1 hm2 with hm2 | hm2
       · exact hPs m hm2
       · have:m=p:=by simpa using hm2
         subst this
         omega
     · intro NL' O a b
       obtain ⟨hl,e1,z,e2,hn0⟩:=hVi NL' O a b
       rw [hb] at e2
       obtain ⟨e3,e4⟩:=nm0_eq hp0 hn0 e2
       have e5:=qyh e3
       refine ⟨?_,z,e4⟩
       simp only
       rw [List.take_succ_eq_append_getElem hl,e1,e5]
   · refine qmd (fun _=>hno _ (fun NL' O a b=>?_) h.drop.drop) (fun g=>by cases g)
     obtain ⟨_,_,z,e2,_⟩:=hVi NL' O a b
     rw [e2] at hz
     exact hz (by simp)
 · have:i=n:=by omega
   subst this
   refine read_4 (xs:=xs) (NL:=P) (y0:=y0) (y1:=y1) (y2:=y2) (y3:=y3) h (by omega) h2 h3 hl2 hl3 (fun NL' O a b=>?_) (fun w hz h=>hno w hz h.drop) fun t13 si ss LM S w q1 q2 q3 q4 h=>hok t13 sp si ss P LM S w q1 (by omega) hPs q2 (fun NL' O a b=>⟨?_,q3 NL' O a b⟩) q4 h
   · obtain ⟨e1,_,e2,e3⟩:=hV NL' O a b
     obtain ⟨e4,_⟩:=hPV NL' O a b
     refine ⟨?_,e2,e3⟩
     rw [e4,List.take_of_length_le (by omega)]
   · obtain ⟨e1,_,e2,e3⟩:=hV NL' O a b
     obtain ⟨e4,_⟩:=hPV NL' O a b
     rw [e4,List.take_of_length_le (by omega)]
theorem mread.c (h:St F0 w0 w ps) [Rdb F0 w0 b ps 1 (u8s xs)] (hc:b.len≤b.cap) (hB:qzc xs) (hx1:32≤xs.length) (hx2:xs.length≤1000000)
 (hno:∀ w',(∀ NL O,VM NL O→xs ≠ mB NL O)→St F0 w0 w' ps→K (.returned (.tuple ⟨[.pointer none,.slice none 0 0,.bool false]⟩)) w')
 (hok:∀ tb t13 sp si ss NL LM S w',RdR NL S LM→NL.length≤1000000→(∀ n ∈ NL,n.size≤1000000)→S.length≤50000→(∀ NL' O,VM NL' O→xs=mB NL' O→NL'=NL∧S=O)→t13.len=LM.length→St F0 w0 w' (qt tb [sV sp,sV si,sV ss] :: qv 20 si ((qdc S).flatMap nmC) :: qv 22 ss (S.flatMap spC) :: qv 2 t13 ((LM.map Prod.fst).flatMap mkC) :: qgg (LM.map qbg) :: qv 1 sp (NL.flatMap stC) :: ps)→K (.returned (.tuple ⟨[.pointer (some ⟨tb,0,none⟩),sV t13,.bool true]⟩)) w') :
 Calls Tryz.prog 31 ⟨[sV b]⟩ w K:=by
 have hbl:=(h.rdb b).1
 rw [qeb,Nat.mul_one] at hbl
 refine qsb (qm.ok _ _ _ ?_)
 unfold qm
 refine cut.c h hc hB hx1 hx2 (fun w hz h=>⟨⟨none,0,0⟩,_,rfl,?_⟩) (fun t LL w hl hLL hLV h=>⟨t,_,rfl,?_⟩)
 · unfold qm.j1
   exact qmd (fun _=>hno w hz h) (fun g=>by cases g)
 · unfold qm.j1
   refine qmd (fun g=>by cases g) (fun _=>?_)
   obtain ⟨y0,y1,y2,y3,rfl⟩:∃ y0 y1 y2 y3,LL=[y0,y1,y2,y3]:=by
    match LL,hl with
    | [a,b,c,d],_=>exact ⟨a,b,c,d,rfl⟩
   obtain ⟨a0,l0,c0,r0⟩:=hLL y0 (by simp)
   obtain ⟨a2,l2,c2,r2⟩:=hLL y2 (by simp)
   obtain ⟨a3,l3,c3,r3⟩:=hLL y3 (by simp)
   refine h.new fun tb w h=>?_
   have h:St F0 w0 w (qt tb [.slice none 0 0,.slice none 0 0,.slice none 0 0] :: qv 1 t ([y0,y1,y2,y3].flatMap slF) :: ps):=h
   unfold qm.j2
   refine qnj (n:=8) rfl (by omega) (qjc ?_)
   haveI i1:Rdb F0 w0 ⟨qfe b.a b.cap 8 1,b.len - 8,b.cap - 8⟩ (qt tb [.slice none 0 0,.slice none 0 0,.slice none 0 0] :: qv 1 t ([y0,y1,y2,y3].flatMap slF) :: ps) 1 (u8s (xs.drop 8)):=h.cutR b 8 b.len (b.cap - 8) (Nat.le_refl _) (by omega) hc (List.take_of_length_le (by rw [List.length_drop]; omega))
   have hRB:qzc (xs.drop 8):=fun x hx=>hB x (List.mem_of_mem_drop hx)
   refine qkg.c (s:=⟨qfe b.a b.cap 8 1,b.len - 8,b.cap - 8⟩) h hRB (by rw [List.length_drop]; omega) fun rb w h=>⟨_,rfl,?_⟩
   refine qjd.c (rb:=rb) h hRB fun w h=>⟨_,rfl,?_⟩
   have h:=h.drop
   have u1:=u32_rg hRB 0 0
   rw [nu4 hRB]
   have t4:tkS (xs.drop 8) 0 0 4=(((xs.drop 8).drop 0).take 4,0+4,0):=qwj (n:=4) (by rw [List.length_drop]; omega)
   rw [t4] at u1 ⊢
   rw [List.drop_zero] at u1 ⊢
   refine h.rix (s:=t) (f:=slF) (L:=[y0,y1,y2,y3]) 0 rfl (by simp) fun q0 hq=>?_
   have hL0:∀ {Z:Sl→Prop},Z y0.1→ldL w (Addr.add q0 (0 * 1)) Z:=fun hz=>by
    have:=(h.rdb t).rL (f:=slF) (L:=[y0,y1,y2,y3]) (v:=y0.1) (j:=0) (o:=0) hq (by simp) (by decide) rfl hz
    simpa [qke] using this
   refine hL0 ?_
   refine (h.drop.drop.rdb y0.1).btS a0 ?_
   have hsz:ByteArray.size ⟨⟨u8 y0.2⟩⟩=y0.2.length:=by
    have:=qnd ⟨⟨u8 y0.2⟩⟩
    rw [qal a0] at this
    exact this.symm
   refine read_3 (xs:=xs) (y0:=y0) (y1:=y1) (y2:=y2) (y3:=y3) h (by omega) a2 a3 (by omega) (by omega) u1 (fun NL' O a b=>?_) (fun w hz h=>hno w hz h.drop) fun t13 sp si ss NL LM S w q1 q2 q3 q4 q5 q6 h=>hok tb t13 sp si ss NL LM S w q1 q2 q3 q4 q5 q6 h.sub
   have e:=hLV NL' O a b
   have e0:y0.2=qfg NL':=by have:=congrArg (fun l=>l.getD 0 []) e; exact this
   have e2:y2.2=nB (qdc O):=by have:=congrArg (fun l=>l.getD 2 []) e; exact this
   have e3:y3.2=atB O:=by have:=congrArg (fun l=>l.getD 3 []) e; exact this
   refine ⟨?_,?_,e2,e3⟩
   · have hn:=endM_n (n:=NL'.length) (l:=mdL NL' O)
     have e:endM NL'.length (mdL NL' O)=xs:=by rw [b]; unfold mB; rfl
     rw [e] at hn
     rw [hn]
     have:=a.ln
     exact be_4 (by omega)
   · rw [qal a0,e0]
end
end Go.Proofs.YtonmgkkkiejicaaGreat
namespace Go.Proofs.YtonmgkkkiejicaaGreat
open Go Go.Proofs
set_option linter.unusedVariables false
set_option linter.unusedSimpArgs false
attribute [local irreducible] qie mB
theorem qth {rw:Mk→List Rw} {L:List Mk} {o:Sp}:o ∈ qjj rw L ↔ ∃ k,∃ h:k < L.length,∃ r ∈ rw L[k],o=spR k r:=by
 unfold qjj
 rw [List.mem_flatMap]
 constructor
 · rintro ⟨⟨m,k⟩,hm,ho⟩
   obtain ⟨r,hr,rfl⟩:=List.mem_map.1 ho
   have:=List.mem_zipIdx hm
   simp only [Nat.zero_add,Nat.sub_zero] at this
   obtain ⟨_,h2,h3⟩:=this
   exact ⟨k,h2,r,by rw [← h3]; exact hr,rfl⟩
 · rintro ⟨k,h,r,hr,rfl⟩
   refine ⟨(L[k],k),?_,List.mem_map.2 ⟨r,hr,rfl⟩⟩
   rw [List.mem_zipIdx_iff_getElem?]
   exact List.getElem?_eq_getElem h
section
variable {rw:Mk→List Rw} {L:List Mk} {O:List Sp}
theorem notBad (h:¬ badM rw L) {i:Nat} (hi:i < L.length):qhi L[i].1=true∧(∀ h0:0 < i,L[i - 1].1 ≠ L[i].1)∧¬ badR (rw L[i]):=by
 refine ⟨?_,fun h0 e=>h ⟨i,hi,Or.inr (Or.inl ⟨h0,e⟩)⟩,fun e=>h ⟨i,hi,Or.inr (Or.inr e)⟩⟩
 cases e:qhi L[i].1 with
 | true=>rfl
 | false=>exact absurd ⟨i,hi,Or.inl e⟩ h
theorem strict_of (h:¬ badM rw L) (hs:L.Pairwise fun x y=>ltB y.1 x.1=false):L.Pairwise fun x y=>ltB x.1 y.1=true:=by
 have adj:∀ i (hi:i+1 < L.length),ltB L[i].1 L[i+1].1=true:=fun i hi=>by
  have h1:=(notBad h hi).2.1 (by omega)
  have h2:=List.pairwise_iff_getElem.1 hs i (i+1) (by omega) hi (by omega)
  cases e:ltB L[i].1 L[i+1].1 with
  | true=>rfl
  | false=>exact absurd (qdh e h2) h1
 rw [List.pairwise_iff_getElem]
 intro i j hi hj hij
 obtain ⟨d,rfl⟩:∃ d,j=i+1+d:=⟨j - i - 1,by omega⟩
 clear hij
 induction d with
 | zero=>exact adj i hj
 | succ d ih=>exact qlf (ih (by omega)) (adj (i+1+d) (by omega))
theorem VM_build (h:¬ badM rw L) (hs:L.Pairwise fun x y=>ltB y.1 x.1=false) (hl:L.length≤64) (hO:MgO (qjj rw L) O) (hO2:O.length≤2048):VM (L.map (·.1)) O where
 nm n hn:=by
  obtain ⟨m,hm,rfl⟩:=List.mem_map.1 hn
  obtain ⟨i,hi,rfl⟩:=List.getElem_of_mem hm
  exact (notBad h hi).1
 so:=by
  rw [List.pairwise_map]
  exact strict_of h hs
 ln:=by rw [List.length_map]; exact hl
 ris:=hO.1
 ol:=hO2
 rg o ho:=by
  obtain ⟨k,hk,r,hr,rfl⟩:=qth.1 (hO.2.1 o ho)
  have:=(notBad h hk).2.2
  have h1:¬ (r.2.2 < 0 ∨ 2147483647 < r.2.2):=fun e=>this (Or.inl ⟨r,hr,e⟩)
  rw [List.length_map]
  show (0≤(k:Int)∧(k:Int) < _)∧0≤r.2.2∧r.2.2≤2147483647
  omega
theorem ris_nodup {O:List Sp} (h:O.Pairwise fun x y=>ltI x.1.1 y.1.1=true):(O.map (·.1)).Nodup:=by
 unfold List.Nodup
 rw [List.pairwise_map]
 refine h.imp fun {a b} hab e=>?_
 rw [e,qzd] at hab
 cases hab
theorem ris_id {O:List Sp} (h:O.Pairwise fun x y=>ltI x.1.1 y.1.1=true) {a b:Sp} (ha:a ∈ O) (hb:b ∈ O) (e:a.1=b.1):a=b:=by
 obtain ⟨i,hi,rfl⟩:=List.getElem_of_mem ha
 obtain ⟨j,hj,rfl⟩:=List.getElem_of_mem hb
 rcases Nat.lt_trichotomy i j with g | g | g
 · have:=List.pairwise_iff_getElem.1 h i j hi hj g
   rw [e,qzd] at this; cases this
 · subst g; rfl
 · have:=List.pairwise_iff_getElem.1 h j i hj hi g
   rw [e,qzd] at this; cases this
theorem ris_eq {O O':List Sp} (h:O.Pairwise fun x y=>ltI x.1.1 y.1.1=true) (h':O'.Pairwise fun x y=>ltI x.1.1 y.1.1=true) (hm:∀ x,x ∈ O ↔ x ∈ O'):O=O':=by
 have n1:O.Nodup:=by
  exact h.imp fun {a b} hab e=>by rw [e,qzd] at hab; cases hab
 have n2:O'.Nodup:=by
  exact h'.imp fun {a b} hab e=>by rw [e,qzd] at hab; cases hab
 have hp:=(List.perm_ext_iff_of_nodup n1 n2).2 hm
 refine hp.eq_of_pairwise (le:=fun x y=>ltI x.1.1 y.1.1=true) (fun a b _ _ h1 h2=>?_) h h'
 have:=qvl h1
 rw [h2] at this
 cases this
theorem sort_strict (hs:L.Pairwise fun x y=>ltB x.1 y.1=true):qld L=L:=by
 have hs2:L.Pairwise fun x y=>ltB y.1 x.1=false:=hs.imp fun {a b} h=>by
  cases e:ltB b.1 a.1 with
  | false=>rfl
  | true =>
    have:=qlf h e
    rw [qcd] at this
    cases this
 refine (qrd L).eq_of_pairwise (le:=fun x y=>ltB y.1 x.1=false) (fun a b ha hb h1 h2=>?_) (qel L) hs2
 have hn:=qdh h2 h1
 have ha:=(qrd L).mem_iff.1 ha
 obtain ⟨i,hi,rfl⟩:=List.getElem_of_mem ha
 obtain ⟨j,hj,rfl⟩:=List.getElem_of_mem hb
 rcases Nat.lt_trichotomy i j with g | g | g
 · have:=List.pairwise_iff_getElem.1 hs i j hi hj g
   rw [hn,qcd] at this; cases this
 · subst g; rfl
 · have:=List.pairwise_iff_getElem.1 hs j i hj hi g
   rw [hn,qcd] at this; cases this
end
section
variable {rw:Mk→List Rw} {NL:List ByteArray} {O:List Sp} {LM:List Mp}
theorem back_1 (hV:VM NL O) (hR:RdR NL O LM) (hrw:∀ x ∈ LM,rw x.1=x.2):qld (LM.map Prod.fst)=LM.map Prod.fst∧¬ badM rw (LM.map Prod.fst)∧(∀ o,o ∈ qjj rw (LM.map Prod.fst) ↔ o ∈ O):=by
 have hnm:(LM.map Prod.fst).map (·.1)=NL:=by rw [List.map_map]; exact hR.nm
 have hst:(LM.map Prod.fst).Pairwise fun x y=>ltB x.1 y.1=true:=by
  have:=hV.so
  rw [← hnm,List.pairwise_map] at this
  exact this
 have hrk:∀ k (h:k < LM.length),rw ((LM.map Prod.fst)[k]'(by rw [List.length_map]; exact h))=(O.filter fun s=>decide (s.2.1=(k:Int))).map rwX:=fun k h=>by
  rw [List.getElem_map,hrw _ (List.getElem_mem h),hR.row k h]
 refine ⟨sort_strict hst,?_,fun o=>?_⟩
 · rintro ⟨i,hi,h⟩
   have hi2:i < LM.length:=by rw [List.length_map] at hi; exact hi
   rcases h with h | ⟨h0,h⟩ | h
   · have:(LM.map Prod.fst)[i].1 ∈ NL:=by
      rw [← hnm]
      exact List.mem_map.2 ⟨_,List.getElem_mem hi,rfl⟩
     rw [hV.nm _ this] at h
     cases h
   · have:=List.pairwise_iff_getElem.1 hst (i - 1) i (by omega) hi (by omega)
     rw [h,qcd] at this
     cases this
   · rw [hrk i hi2] at h
     rcases h with ⟨r,hr,h⟩ | h
     · obtain ⟨s,hs,rfl⟩:=List.mem_map.1 hr
       have:=(hV.rg s (List.mem_filter.1 hs).1).2
       have h:s.2.2 < 0 ∨ 2147483647 < s.2.2:=h
       omega
     · refine h ?_
       rw [List.map_map]
       have hn:=ris_nodup hV.ris
       have e:(O.filter fun s=>decide (s.2.1=(i:Int))).map ((·.1) ∘ rwX)=(O.filter fun s=>decide (s.2.1=(i:Int))).map (·.1):=rfl
       rw [e]
       exact hn.sublist (List.filter_sublist.map _)
 · rw [qth]
   constructor
   · rintro ⟨k,hk,r,hr,rfl⟩
     have hk2:k < LM.length:=by rw [List.length_map] at hk; exact hk
     rw [hrk k hk2] at hr
     obtain ⟨s,hs,rfl⟩:=List.mem_map.1 hr
     obtain ⟨h1,h2⟩:=List.mem_filter.1 hs
     have h2:s.2.1=(k:Int):=by simpa using h2
     have e:spR k (rwX s)=s:=by
      unfold spR rwX
      rw [← h2]
     rw [e]
     exact h1
   · intro ho
     have h:=(hR.rg o ho).1
     obtain ⟨k,hk⟩:∃ k:Nat,o.2.1=k:=⟨o.2.1.toNat,by omega⟩
     have hk2:k < LM.length:=by omega
     refine ⟨k,by rw [List.length_map]; exact hk2,rwX o,?_,?_⟩
     · rw [hrk k hk2]
       exact List.mem_map.2 ⟨o,List.mem_filter.2 ⟨ho,by simpa using hk⟩,rfl⟩
     · unfold spR rwX
       rw [← hk]
theorem back_2 (hV:VM NL O) {L:List Mk} (hm:∀ o,o ∈ qjj rw L ↔ o ∈ O) {O':List Sp} (hO:MgO (qjj rw L) O'):O'=O:=by
 refine ris_eq hO.1 hV.ris fun x=>⟨fun h=>(hm x).1 (hO.2.1 x h),fun h=>?_⟩
 obtain ⟨o,ho,e,_⟩:=hO.2.2 x ((hm x).2 h)
 have:o=x:=ris_id hV.ris ((hm o).1 (hO.2.1 o ho)) h e
 rw [← this]
 exact ho
theorem one_count (a:Int) (n:Nat):((List.range n).map fun k:Nat=>if a=(k:Int) then 1 else 0).sum≤1∧(((List.range n).map fun k:Nat=>if a=(k:Int) then 1 else 0).sum=1→a < n):=by
 induction n with
 | zero=>simp
 | succ n ih =>
   rw [List.range_succ,List.map_append,List.sum_append]
   simp only [List.map_cons,List.map_nil,List.sum_cons,List.sum_nil]
   split <;> omega
theorem rows_sum (S:List Sp) (n:Nat):((List.range n).map fun k:Nat=>(S.filter fun s=>decide (s.2.1=(k:Int))).length).sum≤S.length:=by
 induction S with
 | nil =>
   generalize List.range n=R
   induction R with
   | nil=>exact Nat.le_refl _
   | cons k R ih=>simpa using ih
 | cons s S ih =>
   have e:((List.range n).map fun k:Nat=>((s :: S).filter fun s=>decide (s.2.1=(k:Int))).length).sum=((List.range n).map fun k:Nat=>if s.2.1=(k:Int) then 1 else 0).sum+((List.range n).map fun k:Nat=>(S.filter fun s=>decide (s.2.1=(k:Int))).length).sum:=by
    generalize List.range n=R
    induction R with
    | nil=>rfl
    | cons k R ihR =>
      simp only [List.map_cons,List.sum_cons]
      rw [ihR,List.filter_cons]
      split
      · rename_i h
        have h:s.2.1=(k:Int):=by simpa using h
        rw [if_pos h,List.length_cons]
        omega
      · rename_i h
        have h:¬ s.2.1=(k:Int):=by simpa using h
        rw [if_neg h]
        omega
   rw [e,List.length_cons]
   have:=(one_count s.2.1 n).1
   omega
theorem RdR.sum {S:List Sp} (hR:RdR NL S LM):(LM.map fun x=>x.2.length).sum≤S.length:=by
 have e:(LM.map fun x=>x.2.length)=(List.range LM.length).map fun k:Nat=>(S.filter fun s=>decide (s.2.1=(k:Int))).length:=by
  refine List.ext_getElem (by simp) fun j h1 h2=>?_
  have hj:j < LM.length:=by rw [List.length_map] at h1; exact h1
  rw [List.getElem_map,List.getElem_map,List.getElem_range,hR.row j hj,List.length_map]
 rw [e]
 exact rows_sum S _
end
end Go.Proofs.YtonmgkkkiejicaaGreat
namespace Go.Proofs.YtonmgkkkiejicaaGreat
open Go Go.Proofs
set_option linter.unusedVariables false
set_option linter.unusedSimpArgs false
attribute [local irreducible] apK cpK mkK br qie mB
open Classical in
noncomputable def errM (xs:List Int):Int:=if 262144 < xs.length then 5 else if xs.length < 20 then 3 else if ¬ xs.length < 32∧xs.take 8=markM then (if qie (xs.take (xs.length - 20))=xs.drop (xs.length - 20) then 2 else 4) else 2
section
variable {NL:List ByteArray} {O:List Sp} {xs:List Int}
theorem qji (NL:List ByteArray) (O:List Sp):mB NL O=endM NL.length (mdL NL O):=by unfold mB; rfl
theorem mB_sum (b:xs=mB NL O):qie (xs.take (xs.length - 20))=xs.drop (xs.length - 20):=by
 rw [b,qji]
 unfold endM
 generalize qxi NL.length (mdL NL O)=X
 have hl:=qnf X
 rw [List.length_append,hl,Nat.add_sub_cancel,List.take_left' rfl,List.drop_left' rfl]
theorem mB_len (b:xs=mB NL O):92≤xs.length:=by
 rw [b,qji,qej]
 omega
theorem mB_mark (b:xs=mB NL O):xs.take 8=markM:=by rw [b,qji,endM_mark]
end
theorem rwC_inj1 {a b:Rw} (h:rwC a=rwC b):a=b:=by
 unfold rwC at h
 have hl:(ivs .u8 a.1.1).length=(ivs .u8 b.1.1).length:=by rw [qw,qw,a.1.2.1,b.1.2.1]
 obtain ⟨h1,h2⟩:=List.append_inj h hl
 have e1:a.1=b.1:=Nm.ext' (ivs_inj h1)
 simp only [List.cons.injEq,Value.int.injEq,true_and,and_true] at h2
 obtain ⟨a1,a2,a3⟩:=a
 obtain ⟨b1,b2,b3⟩:=b
 simp only at e1 h2
 rw [e1,h2.1,h2.2]
theorem rwC_inj:∀ {L M:List Rw},L.flatMap rwC=M.flatMap rwC→L=M:=by
 intro L
 induction L with
 | nil =>
   intro M h
   cases M with
   | nil=>rfl
   | cons b M =>
     have:=congrArg List.length h
     rw [List.flatMap_nil,List.flatMap_cons,List.length_append,qwd] at this
     simp only [List.length_nil] at this
     omega
 | cons a L ih =>
   intro M h
   cases M with
   | nil =>
     have:=congrArg List.length h
     rw [List.flatMap_nil,List.flatMap_cons,List.length_append,qwd] at this
     simp only [List.length_nil] at this
     omega
   | cons b M =>
     rw [List.flatMap_cons,List.flatMap_cons] at h
     obtain ⟨h1,h2⟩:=List.append_inj h (by rw [qwd,qwd])
     rw [rwC_inj1 h1,ih h2]
theorem bagM_rd {F0:List Nat} {w0:World} {LM:List Mp} {ps:List As} {x:Mp} (hx:x ∈ LM):Rdb F0 w0 x.1.2 (qgg (LM.map qbg) :: ps) 22 (x.2.flatMap rwC):=⟨fun h=>by
 obtain ⟨k,hk,rfl⟩:=List.getElem_of_mem hx
 have h2:St F0 w0 _ (qv 22 LM[k].1.2 (LM[k].2.flatMap rwC) :: _):=h.bagSet hk
 exact h2.rdb LM[k].1.2⟩
section
variable {F0:List Nat} {w0 w:World} {ps rest:List As} {b s t:Sl} {xs ys:List Int} {LM:List Mp} {K:Ending→World→Prop}
open Classical in
theorem St.rwX (h:St F0 w0 w ps) (hP:∀ x ∈ LM,Rdb F0 w0 x.1.2 ps 22 (x.2.flatMap rwC)):∃ rw:Mk→List Rw,∀ x ∈ LM,rw x.1=x.2:=by
 refine ⟨fun n=>if hn:∃ x ∈ LM,x.1=n then hn.choose.2 else [],fun x hx=>?_⟩
 have hn:∃ y ∈ LM,y.1=x.1:=⟨x,hx,rfl⟩
 show (if hn:∃ y ∈ LM,y.1=x.1 then hn.choose.2 else [])=_
 rw [dif_pos hn]
 obtain ⟨h1,h2⟩:=hn.choose_spec
 generalize hn.choose=y at h1 h2
 haveI:=hP y h1
 haveI:=hP x hx
 have r1:=h.rdb y.1.2
 have r2:=h.rdb x.1.2
 rw [h2] at r1
 exact rwC_inj (rd_one r1 r2)
theorem prefix8.c (hx:xs.length=12) (hB:qzc xs) (hk:K (.returned (.bool (xs.take 8 == markM))) w):Calls Tryz.prog 30 ⟨[.string ⟨⟨u8 xs⟩⟩,.string { data:=#[77,73,68,88,1,1,4,0] }]⟩ w K:=by
 refine qsb (qte.ok _ _ _ _ ?_)
 unfold qte
 have hsz:ByteArray.size ⟨⟨u8 xs⟩⟩=12:=by
  show (u8 xs).length=12
  simp [u8,hx]
 have e2:({ data:=#[77,73,68,88,1,1,4,0] }:ByteArray)=⟨⟨u8 markM⟩⟩:=by kernel_rfl
 have e:begB ⟨⟨u8 xs⟩⟩ { data:=#[77,73,68,88,1,1,4,0] }=(xs.take 8 == markM):=by
  have e1:ByteArray.extract ⟨⟨u8 xs⟩⟩ 0 8=⟨⟨u8 (xs.take 8)⟩⟩:=by
   refine qyh ?_
   rw [qre,qal hB,qal (fun x hx=>hB x (List.mem_of_mem_take hx)),List.drop_zero]
  unfold begB
  have hp:ByteArray.size { data:=#[77,73,68,88,1,1,4,0] }=8:=rfl
  rw [hp,hsz,e1,e2,u8_beq (fun x hx=>hB x (List.mem_of_mem_take hx)) (by intro x hx; simp [markM] at hx; omega)]
  rfl
 refine HasPrefix.c ⟨_,rfl,?_⟩
 rw [e]
 exact hk
theorem MOpen_2 (h:St F0 w0 w ps) [Rdb F0 w0 b ps 1 (u8s xs)] (hc:b.len≤b.cap) (hB:qzc xs) (hx1:32≤xs.length) (hx2:xs.length≤262144)
 (hno:∀ w',(∀ NL O,VM NL O→xs ≠ mB NL O)→St F0 w0 w' ps→K (.returned (.tuple ⟨[.pointer none,.int .i64 2]⟩)) w')
 (hok:∀ tb sp si ss NL O w',VM NL O→xs=mB NL O→(∀ NL' O',VM NL' O'→xs=mB NL' O'→NL'=NL∧O'=O)→St F0 w0 w' (qt tb [sV sp,sV si,sV ss] :: qv 1 sp (NL.flatMap stC) :: qv 20 si ((qdc O).flatMap nmC) :: qv 22 ss (O.flatMap spC) :: ps)→K (.returned (.tuple ⟨[.pointer (some ⟨tb,0,none⟩),.int .i64 0]⟩)) w') :
 qwb.j2 b (fun v w'=>K (.returned v) w') w:=by
 unfold qwb.j2
 refine mread.c (b:=b) h hc hB hx1 (by omega) (fun w hz h=>⟨none,⟨none,0,0⟩,false,rfl,?_⟩) (fun tb t13 sp si ss NL LM S w hR hNL hns hS hV ht h=>⟨some ⟨tb,0,none⟩,t13,true,rfl,?_⟩)
 · exact qmd (fun _=>hno w hz h) (fun g=>by cases g)
 refine qmd (fun g=>by cases g) (fun _=>?_)
 have h:St F0 w0 w (qv 2 t13 ((LM.map Prod.fst).flatMap mkC) :: qgg (LM.map qbg) :: qt tb [sV sp,sV si,sV ss] :: qv 1 sp (NL.flatMap stC) :: qv 20 si ((qdc S).flatMap nmC) :: qv 22 ss (S.flatMap spC) :: ps):=h.sub
 have hP0:∀ x ∈ LM,Rdb F0 w0 x.1.2 (qv 2 t13 ((LM.map Prod.fst).flatMap mkC) :: qgg (LM.map qbg) :: qt tb [sV sp,sV si,sV ss] :: qv 1 sp (NL.flatMap stC) :: qv 20 si ((qdc S).flatMap nmC) :: qv 22 ss (S.flatMap spC) :: ps) 22 (x.2.flatMap rwC):=fun x hx=>by
  haveI:=bagM_rd (F0:=F0) (w0:=w0) (ps:=qt tb [sV sp,sV si,sV ss] :: qv 1 sp (NL.flatMap stC) :: qv 20 si ((qdc S).flatMap nmC) :: qv 22 ss (S.flatMap spC) :: ps) hx
  exact inferInstance
 obtain ⟨rw,hrw⟩:=h.rwX hP0
 have hLl:LM.length=NL.length:=by rw [← hR.nm,List.length_map]
 have hPm:∀ m ∈ LM.map Prod.fst,Rdb F0 w0 m.2 (qv 2 t13 ((LM.map Prod.fst).flatMap mkC) :: qgg (LM.map qbg) :: qt tb [sV sp,sV si,sV ss] :: qv 1 sp (NL.flatMap stC) :: qv 20 si ((qdc S).flatMap nmC) :: qv 22 ss (S.flatMap spC) :: ps) 22 ((rw m).flatMap rwC):=fun m hm=>by
  obtain ⟨x,hx,rfl⟩:=List.mem_map.1 hm
  rw [hrw x hx]
  exact hP0 x hx
 have hnm:∀ m ∈ LM.map Prod.fst,m.1.size≤1000000000:=fun m hm=>by
  obtain ⟨x,hx,rfl⟩:=List.mem_map.1 hm
  have:x.1.1 ∈ NL:=by rw [← hR.nm]; exact List.mem_map.2 ⟨x,hx,rfl⟩
  have:=hns _ this
  omega
 have hsum:((LM.map Prod.fst).map fun m=>(rw m).length).sum≤900000000:=by
  have e:((LM.map Prod.fst).map fun m=>(rw m).length)=LM.map fun x=>x.2.length:=by
   rw [List.map_map]
   exact List.map_congr_left fun x hx=>by show (rw x.1).length=_; rw [hrw x hx]
  rw [e]
  have:=hR.sum
  omega
 haveI:Rdb F0 w0 t13 (qv 2 t13 ((LM.map Prod.fst).flatMap mkC) :: qgg (LM.map qbg) :: qt tb [sV sp,sV si,sV ss] :: qv 1 sp (NL.flatMap stC) :: qv 20 si ((qdc S).flatMap nmC) :: qv 22 ss (S.flatMap spC) :: ps) 2 (mks (LM.map Prod.fst)):=(inferInstance:Rdb F0 w0 t13 _ 2 ((LM.map Prod.fst).flatMap mkC))
 have hVb:∀ NL' O,VM NL' O→xs=mB NL' O→qld (LM.map Prod.fst)=LM.map Prod.fst∧¬ badM rw (LM.map Prod.fst)∧(∀ o,o ∈ qjj rw (LM.map Prod.fst) ↔ o ∈ O)∧(LM.map Prod.fst).map (·.1)=NL'∧LM.length≤64:=fun NL' O a b=>by
  obtain ⟨e1,e2⟩:=hV NL' O a b
  subst e1 e2
  obtain ⟨q1,q2,q3⟩:=back_1 a hR hrw
  exact ⟨q1,q2,q3,by rw [List.map_map]; exact hR.nm,by have:=a.ln; omega⟩
 refine MBuild.c (s:=t13) (L:=LM.map Prod.fst) (rw:=rw) h (by rw [List.length_map]; omega) hnm hsum hPm (fun w hb h=>⟨⟨none,0,0⟩,1,rfl,?_⟩) (fun w hb h5 h=>⟨⟨none,0,0⟩,5,rfl,?_⟩) (fun O t w hb hl hO hO2 ht h=>⟨t,0,rfl,?_⟩)
 · refine qmd (fun _=>hno w (fun NL' O a b=>?_) h.sub) (fun g=>by cases g)
   obtain ⟨q1,q2,_⟩:=hVb NL' O a b
   rw [q1] at hb
   exact q2 hb
 · refine qmd (fun _=>hno w (fun NL' O a b=>?_) h.sub) (fun g=>by cases g)
   obtain ⟨q1,q2,q3,q4,q5⟩:=hVb NL' O a b
   rcases h5 with h5 | ⟨O',hO',h5⟩
   · rw [List.length_map] at h5; omega
   · rw [q1] at hO'
     rw [back_2 a q3 hO'] at h5
     have:=a.ol
     omega
 refine qmd (fun g=>by cases g) (fun _=>?_)
 have hVM:=VM_build hb (qel _) (by rw [(qrd _).length_eq]; exact hl) hO hO2
 generalize hNs:(qld (LM.map Prod.fst)).map (fun m:Mk=>m.1)=Ns at h ht hVM
 refine qrf.c (s:=t) (t:=b) (xs:=mB Ns O) (ys:=xs) h hVM.ok hB ⟨_,rfl,?_⟩
 refine qmd (fun g2=>?_) (fun g2=>?_)
 · have g2:¬ mB Ns O=xs:=by simpa using g2
   refine hno w (fun NL' O' a b=>g2 ?_) (h.drop.sub)
   obtain ⟨q1,q2,q3,q4,q5⟩:=hVb NL' O' a b
   rw [q1] at hO hNs
   rw [q4] at hNs
   rw [back_2 a q3 hO,← hNs]
   exact b.symm
 · have g2:mB Ns O=xs:=by simpa using g2
   obtain ⟨e1,e2⟩:=hV _ _ hVM g2.symm
   have h2:=h.drop
   rw [e1] at hVM g2
   subst e2
   exact hok tb sp si ss NL S w hVM g2.symm (fun NL' O' a b=>⟨(hV NL' O' a b).1,(hV NL' O' a b).2.symm⟩) h2.sub
theorem MOpen.c (h:St F0 w0 w ps) [Rdb F0 w0 b ps 1 (u8s xs)] (hc:b.len≤b.cap) (hB:qzc xs)
 (hkE:∀ w',(¬ xs.length≤262144 ∨ ∀ NL O,VM NL O→xs ≠ mB NL O)→St F0 w0 w' ps→K (.returned (.tuple ⟨[.pointer none,.int .i64 (errM xs)]⟩)) w')
 (hok:∀ tb sp si ss NL O w',VM NL O→xs=mB NL O→(∀ NL' O',VM NL' O'→xs=mB NL' O'→NL'=NL∧O'=O)→St F0 w0 w' (qt tb [sV sp,sV si,sV ss] :: qv 1 sp (NL.flatMap stC) :: qv 20 si ((qdc O).flatMap nmC) :: qv 22 ss (O.flatMap spC) :: ps)→K (.returned (.tuple ⟨[.pointer (some ⟨tb,0,none⟩),.int .i64 0]⟩)) w') :
 Calls Tryz.prog 11 ⟨[sV b]⟩ w K:=by
 have hbl:=(h.rdb b).1
 rw [qeb,Nat.mul_one] at hbl
 refine qsb (qwb.ok _ _ _ ?_)
 unfold qwb qwb.j1 qwb.j3
 refine qsc (fun g=>?_) (fun g1=>?_)
 · have:=hkE w (Or.inl (by omega)) h
   unfold errM at this
   rw [if_pos (by omega)] at this
   exact this
 unfold qwb.j4
 refine qsc (fun g=>?_) (fun g2=>?_)
 · have:=hkE w (Or.inr fun NL O a b=>by have:=mB_len b; omega) h
   unfold errM at this
   rw [if_neg (by omega),if_pos (by omega)] at this
   exact this
 have short:∀ w,(xs.length < 32 ∨ ¬ xs.take 8=markM)→St F0 w0 w ps→qwb.j5 b true (fun v w'=>K (.returned v) w') w:=fun w hs h=>by
  unfold qwb.j5
  refine qmd (fun _=>?_) (fun g=>by cases g)
  have:=hkE w (Or.inr fun NL O a b=>by
   rcases hs with hs | hs
   · have:=mB_len b; omega
   · exact hs (mB_mark b)) h
  unfold errM at this
  rw [if_neg (by omega),if_neg (by omega),if_neg (by rintro ⟨a,b⟩; rcases hs with hs | hs; exact a hs; exact hs b)] at this
  exact this
 refine qsc (fun g=>short w (Or.inl (by omega)) h) (fun g3=>?_)
 refine qnj (n:=12) rfl (by omega) (qjc ?_)
 haveI i6:Rdb F0 w0 ⟨qfe b.a b.cap 0 1,12 - 0,b.cap - 0⟩ ps 1 (u8s (xs.take 12)):=h.cutR b 0 12 (b.cap - 0) (by omega) (by omega) hc (by rw [List.drop_zero])
 have hB6:qzc (xs.take 12):=fun x hx=>hB x (List.mem_of_mem_take hx)
 refine h.bt (s:=⟨qfe b.a b.cap 0 1,12 - 0,b.cap - 0⟩) hB6 ?_
 have ht8:(xs.take 12).take 8=xs.take 8:=by rw [List.take_take]; rfl
 refine prefix8.c (by rw [List.length_take]; omega) hB6 ⟨_,rfl,?_⟩
 rw [ht8]
 by_cases g4:¬ xs.take 8=markM
 · have e:(xs.take 8 == markM)=false:=by simpa using g4
   rw [e]
   exact short w (Or.inr g4) h
 have g4:xs.take 8=markM:=Classical.byContradiction g4
 have e:(xs.take 8 == markM)=true:=by rw [g4]; exact beq_self_eq_true _
 rw [e]
 show qwb.j5 b false _ w
 unfold qwb.j5
 refine qmd (fun g=>by cases g) (fun _=>?_)
 refine h.drewK fun w h=>?_
 refine qx (e':=((xs.length - 20:Nat):Int)) (by rw [qh (by omega) (by omega)]; omega) ?_
 refine qnj (n:=xs.length - 20) rfl (by omega) (qjc ?_)
 refine qx (e':=((xs.length - 20:Nat):Int)) (by rw [qh (by omega) (by omega)]; omega) ?_
 refine qnj (n:=xs.length - 20) rfl (by omega) (qjc ?_)
 haveI i7:Rdb F0 w0 ⟨qfe b.a b.cap 0 1,xs.length - 20 - 0,b.cap - 0⟩ ps 1 (u8s (xs.take (xs.length - 20))):=h.cutR b 0 (xs.length - 20) (b.cap - 0) (by omega) (by omega) hc (by rw [List.drop_zero]; rfl)
 have i8:Rdb F0 w0 ⟨qfe b.a b.cap (xs.length - 20) 1,b.len - (xs.length - 20),b.cap - (xs.length - 20)⟩ ps 1 (u8s (xs.drop (xs.length - 20))):=h.cutR b (xs.length - 20) b.len _ (Nat.le_refl _) (by omega) hc (List.take_of_length_le (by rw [List.length_drop]; omega))
 have hdl:(xs.drop (xs.length - 20)).length=20:=by rw [List.length_drop]; omega
 refine ⟨by show 20≤b.len - _; omega,?_⟩
 have hBt:qzc (xs.take (xs.length - 20)):=fun x hx=>hB x (List.mem_of_mem_take hx)
 obtain ⟨a0,ha0⟩:∃ a0,qfe b.a b.cap (xs.length - 20) 1=some a0:=by
  obtain ⟨a,ha,_⟩:=(i8.rd h).2 0 (by rw [qeb]; omega)
  exact ⟨a,ha⟩
 have hl20:∀ {w':World} {Z:Array Value→Prop},St F0 w0 w' ps→Z ⟨u8s (xs.drop (xs.length - 20))⟩→ldA w' a0 20 Z:=fun {w' Z} h hz=>by
  have:=(i8.rd h).ldF (n:=20) (by decide) (by omega) (K:=Z) (by rw [List.take_of_length_le (by omega)]; exact hz)
  have e:(⟨qfe b.a b.cap (xs.length - 20) 1,b.len - (xs.length - 20),b.cap - (xs.length - 20)⟩:Sl).a=some a0:=ha0
  rw [e] at this
  exact nz_o this
 have fin:∀ w,St F0 w0 w ps→eqA .u8 20 ⟨u8s (qie (xs.take (xs.length - 20)))⟩ ⟨u8s (xs.drop (xs.length - 20))⟩ fun x=>br (!x) ((fun v w'=>K (.returned v) w') (.tuple ⟨[.pointer none,.int .i64 4]⟩) w) (qwb.j2 b (fun v w'=>K (.returned v) w') w):=fun w h=>by
  refine eqA_i (qnf _) hdl ?_
  refine qmd (fun g=>?_) (fun g5=>?_)
  · have g:¬ qie (xs.take (xs.length - 20))=xs.drop (xs.length - 20):=by simpa using g
    have:=hkE w (Or.inr fun NL O a b=>g (mB_sum b)) h
    unfold errM at this
    rw [if_neg (by omega),if_neg (by omega),if_pos ⟨by omega,g4⟩,if_neg g] at this
    exact this
  · have g5:qie (xs.take (xs.length - 20))=xs.drop (xs.length - 20):=by simpa using g5
    refine MOpen_2 h hc hB (by omega) (by omega) (fun w hz h=>?_) hok
    have:=hkE w (Or.inr hz) h
    unfold errM at this
    rw [if_neg (by omega),if_neg (by omega),if_pos ⟨by omega,g4⟩,if_pos g5] at this
    exact this
 have hS:∀ {w':World} {Z:Array Value→World→Prop},St F0 w0 w' ps→(∀ w'',St F0 w0 w'' ps→Z ⟨u8s (qie (xs.take (xs.length - 20)))⟩ w'')→cr_G 27 [sV ⟨qfe b.a b.cap 0 1,xs.length - 20 - 0,b.cap - 0⟩] w' Z:=fun h hz =>
  qph.d (s:=⟨qfe b.a b.cap 0 1,xs.length - 20 - 0,b.cap - 0⟩) (xs:=xs.take (xs.length - 20)) h hBt (by rw [List.length_take]; omega) fun w h=>⟨_,rfl,hz w h⟩
 rw [ha0]
 refine qgd ⟨?_,?_⟩
 · exact hS h fun w h=>hl20 h (fin w h)
 · exact hl20 h (hS h fun w h=>fin w h)
end
end Go.Proofs.YtonmgkkkiejicaaGreat
namespace Go.Proofs.YtonmgkkkiejicaaGreat
open Go Go.Proofs
set_option linter.unusedVariables false
set_option linter.unusedSimpArgs false
attribute [local irreducible] apK cpK mkK br qie mB
def fdM (NL:List ByteArray) (O:List Sp) (q:Nm):ByteArray × Int:=match O.find? (fun o=>decide (o.1=q)) with
 | some o=>(NL.getD o.2.1.toNat ⟨#[]⟩,o.2.2)
 | none=>(⟨#[]⟩,0)
theorem fdM_no {NL:List ByteArray} {O:List Sp} {q:Nm} (h:q ∉ qdc O):fdM NL O q=(⟨#[]⟩,0):=by
 unfold fdM
 have:O.find? (fun o=>decide (o.1=q))=none:=by
  rw [List.find?_eq_none]
  intro o ho e
  have e:o.1=q:=by simpa using e
  exact h (List.mem_map.2 ⟨o,ho,e⟩)
 rw [this]
theorem fdM_at {NL:List ByteArray} {O:List Sp} (hV:VM NL O) {o:Sp} (ho:o ∈ O):fdM NL O o.1=(NL.getD o.2.1.toNat ⟨#[]⟩,o.2.2):=by
 unfold fdM
 cases e:O.find? (fun p=>decide (p.1=o.1)) with
 | none =>
   rw [List.find?_eq_none] at e
   exact absurd (e o ho) (by simp)
 | some p =>
   have h1:=List.find?_some e
   have h1:p.1=o.1:=by simpa using h1
   have h2:=List.mem_of_find?_eq_some e
   have:=ris_id hV.ris h2 ho h1
   rw [this]
section
variable {F0:List Nat} {w0 w:World} {ps rest:List As} {sp si ss s:Sl} {tb:Nat} {NL:List ByteArray} {O:List Sp} {q:Nm} {K:Ending→World→Prop}
theorem MLen.c (h:St F0 w0 w ps) [PkB tb ps [sV sp,sV si,sV ss] rest] (hk:K (.returned (.int .i64 (si.len:Int))) w):Calls Tryz.prog 12 ⟨[.pointer (some ⟨tb,0,none⟩)]⟩ w K:=by
 refine qsb (qwf.ok _ _ _ ?_)
 unfold qwf
 refine qgd ?_
 rw [qmb]
 exact (h.toB tb).blk.ldL (n:=si) rfl hk
theorem strs_Clone.c {L:List ByteArray} (h:St F0 w0 w ps) [Rdb F0 w0 s ps 1 (L.flatMap stC)] (hP:L.length≤1000000) (hk:∀ t w',t.len=L.length→St F0 w0 w' (qv 1 t (L.flatMap stC) :: ps)→K (.returned (sV t)) w') :
 Calls Tryz.prog 44 ⟨[sV s]⟩ w K:=by
 refine qsb (qbe.ok _ _ _ ?_)
 unfold qbe
 refine qmd (fun g=>?_) (fun g=>?_)
 · have:s.a=none:=by simpa using g
   have hP:=h.isnil (s:=s) (f:=stC) (L:=L) this
   subst hP
   exact hk ⟨none,0,0⟩ w rfl h.nilO
 · refine h.cloneR (s2:=s) (f:=stC) (M:=L) (by omega) fun s' w' hs h=>?_
   exact hk s' w' hs h
theorem MPacks.c (h:St F0 w0 w ps) [PkB tb ps [sV sp,sV si,sV ss] rest] [Rdb F0 w0 sp ps 1 (NL.flatMap stC)] (hN:NL.length≤1000000) (hk:∀ t w',t.len=NL.length→St F0 w0 w' (qv 1 t (NL.flatMap stC) :: ps)→K (.returned (sV t)) w'):Calls Tryz.prog 16 ⟨[.pointer (some ⟨tb,0,none⟩)]⟩ w K:=by
 refine qsb (qdf.ok _ _ _ ?_)
 unfold qdf
 refine qgd ?_
 rw [qmb]
 refine (h.toB tb).blk.ldL (n:=sp) rfl ?_
 exact strs_Clone.c (s:=sp) (L:=NL) h hN fun t w ht h=>⟨t,rfl,hk t w ht h⟩
theorem MIDs.c (h:St F0 w0 w ps) [PkB tb ps [sV sp,sV si,sV ss] rest] [Rdb F0 w0 si ps 20 ((qdc O).flatMap nmC)] (hN:O.length≤1000000) (hk:∀ t w',t.len=O.length→St F0 w0 w' (qv 20 t ((qdc O).flatMap nmC) :: ps)→K (.returned (sV t)) w'):Calls Tryz.prog 42 ⟨[.pointer (some ⟨tb,0,none⟩)]⟩ w K:=by
 have hl:(qdc O).length=O.length:=List.length_map ..
 refine qsb (qxf.ok _ _ _ ?_)
 unfold qxf
 refine qgd ?_
 rw [qmb]
 refine (h.toB tb).blk.ldL (n:=si) rfl ?_
 exact ids_Clone.c (s:=si) (P:=qdc O) h (by omega) fun t w ht h=>⟨t,rfl,hk t w (by omega) h⟩
def plC (x:ByteArray × Int):List Value:=[.string x.1,.int .i64 x.2]
theorem ris_ids (hV:VM NL O):Ris (qdc O):=by
 unfold Ris qdc
 rw [List.pairwise_map]
 exact hV.ris
theorem MFind.c (h:St F0 w0 w ps) [PkB tb ps [sV sp,sV si,sV ss] rest] [Rdb F0 w0 sp ps 1 (NL.flatMap stC)] [Rdb F0 w0 si ps 20 ((qdc O).flatMap nmC)] [Rdb F0 w0 ss ps 22 (O.flatMap spC)] (hV:VM NL O)
 (hk:∀ w',St F0 w0 w' ps→K (.returned (.tuple ⟨[.agg ⟨plC (fdM NL O q)⟩,.bool (decide (q ∈ qdc O))]⟩)) w'):Calls Tryz.prog 13 ⟨[.pointer (some ⟨tb,0,none⟩),.agg ⟨nmC q⟩]⟩ w K:=by
 have hl:(qdc O).length=O.length:=List.length_map ..
 have hO:=hV.ol
 refine qsb (qkf.ok _ _ _ _ ?_)
 unfold qkf
 refine h.new fun qb w h=>?_
 have h:St F0 w0 w (qt qb (nmC q) :: ps):=h
 have hz:zc Tryz.prog 52=⟨plC (⟨#[]⟩,0)⟩:=by kernel_rfl
 rw [hz]
 refine h.new fun pb w h=>?_
 have h:St F0 w0 w (qt pb (plC (⟨#[]⟩,0)) :: qt qb (nmC q) :: ps):=h
 refine h.drewK fun w h=>qgd ?_
 have hT:∀ {w':World} {qs:List As} {l:List Value},St F0 w0 w' (qt pb l :: qt qb (nmC q) :: ps)→Blk w' tb [sV sp,sV si,sV ss]:=fun h=>(h.drop.drop.toB tb).blk
 rw [qmb]
 refine (hT (qs:=[]) h).ldL (n:=si) rfl ?_
 refine h.lA (b:=qb) ((inferInstance:Rec nmC 20).len q) ?_
 refine qaj.c (A:=qdc O) (s:=si) (q:=q) h (ris_ids hV) (by omega) fun w h=>⟨_,_,rfl,?_⟩
 have sto:∀ x:ByteArray × Int,∀ v ∈ (⟨plC x⟩:Array Value),qec v:=fun x v hv=>by
  have hv:v ∈ plC x:=by simpa using hv
  simp [plC] at hv
  rcases hv with rfl | rfl <;> trivial
 by_cases g:q ∈ qdc O
 · rw [decide_eq_true g]
   rw [decide_eq_true g] at hk
   refine qmd (fun g2=>by cases g2) (fun _=>?_)
   obtain ⟨i,hi,rfl⟩:=List.getElem_of_mem g
   have hio:i < O.length:=by omega
   have eid:(qdc O)[i]=O[i].1:=List.getElem_map ..
   have hpos:=pos_at (ris_ids hV) hi
   rw [hpos]
   have hrg:=hV.rg _ (List.getElem_mem hio)
   have hfd:fdM NL O (qdc O)[i]=(NL.getD O[i].2.1.toNat ⟨#[]⟩,O[i].2.2):=by rw [eid]; exact fdM_at hV (List.getElem_mem hio)
   rw [hfd] at hk
   obtain ⟨k,hk1⟩:∃ k:Nat,O[i].2.1=k:=⟨O[i].2.1.toNat,by omega⟩
   have hkN:k < NL.length:=by omega
   have hgd:NL.getD O[i].2.1.toNat ⟨#[]⟩=NL[k]:=by
    rw [hk1,Int.toNat_natCast,List.getD_eq_getElem?_getD,List.getElem?_eq_getElem hkN]
    rfl
   rw [hgd] at hk
   refine h.drewK fun w h=>qgd ?_
   rw [qmb]
   refine (hT (qs:=[]) h).ldL (n:=sp) rfl (qgd ?_)
   rw [qmb]
   refine (hT (qs:=[]) h).ldL (n:=ss) rfl ?_
   have hl1:∀ {Z:Int→Prop},Z (k:Int)→ixS ss.a ss.len (i:Int) 22 fun a=>ldI .i64 w (Addr.add a 20) Z:=fun hz=>h.spPk (s:=ss) (D:=O) i rfl hio (by rw [hk1]; exact hz)
   refine hl1 ?_
   refine h.rix (s:=sp) (f:=stC) (L:=NL) k rfl hkN fun a0 ha=>?_
   have hc:=(h.rdb sp).rcell (f:=stC) (L:=NL) (j:=k) (o:=0) ha hkN (by decide)
   refine ⟨NL[k],by simpa [stC,qke] using hc,qgd ?_⟩
   rw [qmb]
   refine (hT (qs:=[]) h).ldL (n:=ss) rfl ?_
   refine h.rix (s:=ss) (f:=spC) (L:=O) i rfl hio fun a1 ha1=>?_
   refine (h.rdb ss).rI (f:=spC) (L:=O) ha1 hio (by decide) (sp_21 O[i]) ⟨rfl,?_⟩
   refine h.sA (b:=pb) (l':=plC (NL[k],O[i].2.2)) rfl rfl (sto _) fun w h=>?_
   refine h.lA (b:=pb) rfl ?_
   exact hk w (h.drop.drop)
 · rw [decide_eq_false g]
   rw [decide_eq_false g,fdM_no g] at hk
   refine qmd (fun _=>⟨rfl,?_⟩) (fun g2=>by cases g2)
   refine h.sA (b:=pb) (l':=plC (⟨#[]⟩,0)) rfl rfl (sto _) fun w h=>?_
   refine h.lA (b:=pb) rfl ?_
   exact hk w (h.drop.drop)
end
end Go.Proofs.YtonmgkkkiejicaaGreat
