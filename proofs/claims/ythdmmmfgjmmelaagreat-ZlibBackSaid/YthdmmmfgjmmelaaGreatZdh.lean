/- Own texts as one, only what is reached (shake.py). -/
import Derived.Test.YthdmmmfgjmmelaaGreatZdg
import Derived.Test.YthdmmmfgjmmelaaGreatProg
namespace Go.Proofs.YthdmmmfgjmmelaaGreat
open Go Go.Proofs
set_option linter.unusedVariables false
set_option linter.unusedSimpArgs false
attribute [local irreducible] apK cpK mkK br
class Rec {α:Type} (f:α→List Value) (sz:outParam Nat):Prop where
 len:∀ x,(f x).length=sz
 sto:∀ x,∀ v ∈ f x,storable v
 pos:0 < sz
class EltR (P:Program) (e:TypeId) (sz:outParam Nat) (z:outParam (List Value)):Prop where
 info:∃ i,P.info? e=some i∧i.size=sz∧i.bytes ≠ 0∧i.bytes≤1024
 zc:Go.Proofs.YthdmmmfgjmmelaaGreat.zc P e=⟨z⟩
 len:z.length=sz
 pos:0 < sz
section
variable {α:Type} {f:α→List Value} {sz:Nat}
theorem qen (x:α) (L:List α):(x :: L).flatMap f=f x ++ L.flatMap f:=rfl
theorem qhr (L M:List α):(L ++ M).flatMap f=L.flatMap f ++ M.flatMap f:=List.flatMap_append
theorem rws_one (x:α):[x].flatMap f=f x:=by simp
theorem qil [i:Rec f sz] (L:List α):(L.flatMap f).length=L.length * sz:=by
 induction L with
 | nil=>simp
 | cons x L ih=>rw [qen,List.length_append,ih,i.len,List.length_cons,Nat.add_mul]; omega
theorem rws_sto [i:Rec f sz] (L:List α):∀ v ∈ (⟨L.flatMap f⟩:Array Value),storable v:=by
 intro v hv
 have hv:v ∈ L.flatMap f:=by simpa using hv
 obtain ⟨x,_,hx⟩:=List.mem_flatMap.1 hv
 exact i.sto x v hx
theorem rws_get [i:Rec f sz]:∀ {L:List α} {j o:Nat} (hj:j < L.length),o < sz→(L.flatMap f)[j * sz+o]?=(f L[j])[o]?:=by
 intro L
 induction L with
 | nil=>intro j o hj; simp at hj
 | cons x L ih =>
   intro j o hj ho
   rw [qen]
   cases j with
   | zero=>rw [Nat.zero_mul,Nat.zero_add,List.getElem?_append_left (by rw [i.len]; exact ho)]; rfl
   | succ j =>
     rw [List.getElem?_append_right (by rw [i.len,Nat.add_mul]; omega),i.len,show (j+1) * sz+o - sz=j * sz+o by rw [Nat.add_mul]; omega,ih (by simpa using hj) ho]
     rfl
theorem rws_take [i:Rec f sz]:∀ (L:List α) (n:Nat),(L.flatMap f).take (n * sz)=(L.take n).flatMap f:=by
 intro L
 induction L with
 | nil=>intro n; simp
 | cons x L ih =>
   intro n
   cases n with
   | zero=>simp
   | succ n =>
     rw [List.take_succ_cons,qen,qen,← ih n,List.take_append,List.take_of_length_le (by rw [i.len,Nat.add_mul]; omega),i.len,show (n+1) * sz - sz=n * sz by rw [Nat.add_mul]; omega]
theorem rws_drop [i:Rec f sz]:∀ (L:List α) (n:Nat),(L.flatMap f).drop (n * sz)=(L.drop n).flatMap f:=by
 intro L
 induction L with
 | nil=>intro n; simp
 | cons x L ih =>
   intro n
   cases n with
   | zero=>simp
   | succ n =>
     rw [List.drop_succ_cons,qen,← ih n,List.drop_append,List.drop_eq_nil_of_le (by rw [i.len,Nat.add_mul]; omega),i.len,show (n+1) * sz - sz=n * sz by rw [Nat.add_mul]; omega,List.nil_append]
end
section
variable {F0:List Nat} {w0 w:World} {ps rest:List As} {P:Program} {e:TypeId} {α:Type} {f:α→List Value} {sz:Nat} {z:List Value} {s:Sl} {L:List α}
theorem Rd.rcell [i:Rec f sz] (h:Rd w sz s (L.flatMap f)) {a0:Addr} (ha:s.a=some a0) {j o:Nat} (hj:j < L.length) (ho:o < sz):w.cell? ((a0.add (j * sz)).add o)=(f L[j])[o]?:=by
 have hb:(j+1) * sz≤L.length * sz:=Nat.mul_le_mul_right _ hj
 rw [Nat.add_mul,Nat.one_mul] at hb
 rw [qvm,h.cell ha (by rw [qil]; omega),rws_get hj ho]
theorem St.rix [i:Rec f sz] (h:St F0 w0 w ps) [Rdb F0 w0 s ps sz (L.flatMap f)] {n:Int} {K:Addr→Prop} (j:Nat) (hi:n=j) (hj:j < L.length) (hk:∀ a0,s.a=some a0→K (a0.add (j * sz))):ixS s.a s.len n sz K:=by
 subst hi
 have hr:=h.rdb s
 have hl:=hr.1
 rw [qil] at hl
 have:=Nat.eq_of_mul_eq_mul_right i.pos hl
 refine hr.ix i.pos (by omega) (by omega) fun a ha=>?_
 rw [Int.toNat_natCast]
 exact hk a ha
theorem St.rlen [i:Rec f sz] (h:St F0 w0 w ps) [Rdb F0 w0 s ps sz (L.flatMap f)]:L.length=s.len:=by
 have hl:=(h.rdb s).1
 rw [qil] at hl
 exact Nat.eq_of_mul_eq_mul_right i.pos hl
theorem Rd.rI {k:IntKind} [i:Rec f sz] (h:Rd w sz s (L.flatMap f)) {a0:Addr} {v:Int} {K:Int→Prop} (ha:s.a=some a0) {j o:Nat} (hj:j < L.length) (ho:o < sz) (hv:(f L[j])[o]?=some (.int k v)) (hk:K v):Go.Proofs.YthdmmmfgjmmelaaGreat.ldI k w ((a0.add (j * sz)).add o) K :=
 ldI_c (by rw [h.rcell ha hj ho]; exact hv) hk
theorem Rd.rL [i:Rec f sz] (h:Rd w sz s (L.flatMap f)) {a0:Addr} {v:Sl} {K:Sl→Prop} (ha:s.a=some a0) {j o:Nat} (hj:j < L.length) (ho:o < sz) (hv:(f L[j])[o]?=some (.slice v.a v.len v.cap)) (hk:K v):Go.Proofs.YthdmmmfgjmmelaaGreat.ldL w ((a0.add (j * sz)).add o) K :=
 ldL_c (by rw [h.rcell ha hj ho]; exact hv) hk
theorem Rd.rA [i:Rec f sz] (h:Rd w sz s (L.flatMap f)) {a0:Addr} {K:Array Value→Prop} (ha:s.a=some a0) {j:Nat} (hj:j < L.length) (hk:K ⟨f L[j]⟩):Go.Proofs.YthdmmmfgjmmelaaGreat.ldA w (a0.add (j * sz)) sz K:=by
 refine ⟨⟨f L[j]⟩,i.len _,fun o ho=>?_,hk⟩
 rw [h.rcell ha hj ho]
 simp
theorem St.lr [i:Rec f sz] (h:St F0 w0 w ps) [Rdb F0 w0 s ps sz (L.flatMap f)] {n:Int} {K:Array Value→Prop} (j:Nat) (hi:n=j) (hj:j < L.length) (hk:K ⟨f L[j]⟩):ixS s.a s.len n sz fun a=>ldA w a sz K :=
 h.rix j hi hj fun a0 ha=>(h.rdb s).rA ha hj hk
theorem St.lrI {k:IntKind} [i:Rec f sz] (h:St F0 w0 w ps) [Rdb F0 w0 s ps sz (L.flatMap f)] {n v:Int} {o:Nat} {K:Int→Prop} (j:Nat) (hi:n=j) (hj:j < L.length) (ho:o < sz) (hv:(f L[j])[o]?=some (.int k v)) (hk:K v):ixS s.a s.len n sz fun a=>Go.Proofs.YthdmmmfgjmmelaaGreat.ldI k w (a.add o) K :=
 h.rix j hi hj fun a0 ha=>(h.rdb s).rI ha hj ho hv hk
theorem rec_room {b n:Nat} (hb:b≤1024) (hn:n≤1000000000):(2 * n+1024) * b≤281474976710656:=by
 refine Nat.le_trans (Nat.mul_le_mul_left _ hb) ?_
 omega
theorem St.pushR [i:Rec f sz] [he:EltR P e sz z] (h:St F0 w0 w ps) [PkO s ps sz (L.flatMap f) rest] {x:α} {c:Array Value} {K:Sl→World→Prop} (hlen:L.length≤999999999) (hc:c=⟨f x⟩)
 (hk:∀ s' w',s'.len=s.len+1→St F0 w0 w' (qmc sz s' ((L ++ [x]).flatMap f) :: rest)→K s' w') :
 lt (⟨World.heapSize w,0,none⟩:Addr) fun a=>lt (World.alloc w (.cells c e)) fun w1=>rdO w1 (some a) (1 * sz) fun c=>apK P e w1 s.a s.len s.cap 1 c K:=by
 subst hc
 refine (h.toO s).new fun nb w h=>?_
 have h:St F0 w0 w (qjd nb (f x) :: qmc sz s (L.flatMap f) :: rest):=h
 refine h.rdB (by rw [i.len,Nat.one_mul]) ?_
 have h:=h.drop
 have hl:=h.len
 rw [qil] at hl
 have hl:=Nat.eq_of_mul_eq_mul_right i.pos hl
 obtain ⟨t,h1,h2,h3,h4⟩:=he.info
 refine St.append (i:=t) (sz:=sz) (m:=1) h1 h2 i.pos (by rw [he.zc]; exact he.len) h3 (rec_room h4 (by omega)) h (by show (f x).length=_; rw [i.len,Nat.one_mul]) (fun v hv=>i.sto x v (by simpa using hv)) fun s' w' h hl'=>hk s' w' hl' (by rw [qhr,rws_one]; exact h)
theorem St.appR [i:Rec f sz] [he:EltR P e sz z] (h:St F0 w0 w ps) [PkO s ps sz (L.flatMap f) rest] {s2:Sl} {M:List α} [Rdb F0 w0 s2 ps sz (M.flatMap f)] {K:Sl→World→Prop} (hlen:L.length+M.length≤999999999)
 (hk:∀ s' w',s'.len=s.len+M.length→St F0 w0 w' (qmc sz s' ((L ++ M).flatMap f) :: rest)→K s' w') :
 rdO w s2.a (s2.len * sz) fun c=>apK P e w s.a s.len s.cap s2.len c K:=by
 have hr:=h.rdb s2
 have hl:=hr.1
 refine hr.rdO hl.symm ?_
 rw [qil] at hl
 have hl:=Nat.eq_of_mul_eq_mul_right i.pos hl
 have h:=h.toO s
 have hl2:=h.len
 rw [qil] at hl2
 have hl2:=Nat.eq_of_mul_eq_mul_right i.pos hl2
 obtain ⟨t,h1,h2,h3,h4⟩:=he.info
 refine St.append (i:=t) (sz:=sz) (m:=s2.len) h1 h2 i.pos (by rw [he.zc]; exact he.len) h3 (rec_room h4 (by omega)) h (by show (M.flatMap f).length=_; rw [qil,hl]) (rws_sto M) fun s' w' h hl'=>hk s' w' (by omega) (by rw [qhr]; exact h)
theorem St.ownBR {nb n:Nat} {l:List Value} (h:St F0 w0 w (qjd nb l :: ps)) (hn:l.length=n * sz):St F0 w0 w (qmc sz ⟨some ⟨nb,0,none⟩,n,n⟩ l :: ps):=by
 refine h.mp ?_
 rintro F ⟨hb,rfl⟩
 exact Or.inr ⟨nb,[],rfl,by simpa using hb,hn,by simpa using hn,rfl⟩
theorem St.cloneR [i:Rec f sz] [he:EltR P e sz z] (h:St F0 w0 w ps) {s2:Sl} {M:List α} [Rdb F0 w0 s2 ps sz (M.flatMap f)] {K:Sl→World→Prop} (hlen:M.length≤999999999)
 (hk:∀ s' w',s'.len=M.length→St F0 w0 w' (qmc sz s' (M.flatMap f) :: ps)→K s' w') :
 lt (⟨World.heapSize w,0,none⟩:Addr) fun a=>lt (World.alloc w (.cells ⟨[]⟩ e)) fun w1=>rdO w1 s2.a (s2.len * sz) fun c=>apK P e w1 (some a) 0 0 s2.len c K:=by
 refine h.new fun nb w h=>?_
 have h:St F0 w0 w (qjd nb [] :: ps):=h
 have h:St F0 w0 w (qmc sz ⟨some ⟨nb,0,none⟩,0,0⟩ (([]:List α).flatMap f) :: ps):=h.ownBR (n:=0) (by simp)
 exact St.appR (s:=⟨some ⟨nb,0,none⟩,0,0⟩) (L:=([]:List α)) h (by simpa using hlen) fun s' w' h1 h=>hk s' w' (by simpa using h1) (by simpa using h)
theorem St.isnil [i:Rec f sz] (h:St F0 w0 w ps) [Rdb F0 w0 s ps sz (L.flatMap f)] (hn:s.a=none):L=[]:=by
 have hr:=h.rdb s
 cases L with
 | nil=>rfl
 | cons x L =>
   exfalso
   obtain ⟨a,ha,_⟩:=hr.2 0 (by rw [qil,List.length_cons,Nat.add_mul]; have:=i.pos; omega)
   rw [hn] at ha
   cases ha
theorem St.cutRR [i:Rec f sz] (h:St F0 w0 w ps) (s:Sl) [hr:Rdb F0 w0 s ps sz (L.flatMap f)] (n m c':Nat) (hm:m≤s.len) (hn:n≤m) (hc:s.len≤s.cap):Rdb F0 w0 ⟨qwf s.a s.cap n sz,m - n,c'⟩ ps sz (((L.drop n).take (m - n)).flatMap f):=⟨fun h=>by
 have:=(hr.rd h).cut (n:=n) (m:=m) i.pos hm hn hc c'
 rw [rws_drop,rws_take] at this
 exact this⟩
theorem St.setR [i:Rec f sz] {b:Nat} {l:List Value} {x:α} {K:World→Prop} (h:St F0 w0 w (qjd b l :: ps)) (hl:l.length=sz) (hk:∀ w',St F0 w0 w' (qjd b (f x) :: ps)→K w'):Go.Proofs.YthdmmmfgjmmelaaGreat.stA w ⟨b,0,none⟩ ⟨f x⟩ K :=
 h.sA (b:=b) hl (i.len x) (fun v hv=>i.sto x v (by simpa using hv)) hk
end
end Go.Proofs.YthdmmmfgjmmelaaGreat
namespace Go.Proofs.YthdmmmfgjmmelaaGreat
open Go Go.Proofs
set_option linter.unusedVariables false
set_option linter.unusedSimpArgs false
attribute [local irreducible] apK cpK mkK br
section
variable {F0:List Nat} {w0 w:World} {ps rest:List As} {s:Sl}
theorem St.front {sz:Nat} {cs:List Value} (h:St F0 w0 w (qmc sz s cs :: ps)) (m:Nat) (hm:m≤s.len):St F0 w0 w (qmc sz ⟨qwf s.a s.cap 0 sz,m - 0,s.cap - 0⟩ (cs.take (m * sz)) :: ps):=by
 refine h.mp ?_
 rintro F (⟨rfl,rfl,rfl⟩ | ⟨ob,rs,h1,hb,h2,h3,rfl⟩)
 · have:m=0:=by simpa using hm
   subst this
   exact Or.inl ⟨rfl,by simp,rfl⟩
 · refine Or.inr ⟨ob,cs.drop (m * sz) ++ rs,?_,?_,?_,?_,rfl⟩
   · show qwf s.a s.cap 0 sz=_
     unfold qwf
     rw [h1]
     split
     · rfl
     · rw [Option.map_some,qnf,Nat.zero_mul]
   · rw [← List.append_assoc,List.take_append_drop]; exact hb
   · rw [List.length_take,h2]
     exact Nat.min_eq_left (Nat.mul_le_mul_right _ hm)
   · rw [← List.append_assoc,List.take_append_drop]; exact h3
theorem qfg.c {n:Nat} {K:Ending→World→Prop} (h:St F0 w0 w ps) (hn:n≤1000000)
 (hk:∀ t w',t.len=0→St F0 w0 w' (qmc 1 t (ivs .i64 []) :: ps)→K (.returned (.slice t.a t.len t.cap)) w'):Calls Tryz.prog 287 ⟨[.slice none 0 0,.int .i64 n]⟩ w K:=by
 refine qnc (qfg.ok ⟨none,0,0⟩ _ _ _ ?_)
 unfold qfg
 dsimp only
 refine qxc (fun g=>by omega) (fun _=>?_)
 refine qw (qi (by omega) (by omega)) ?_
 refine qw (qi (by omega) (by omega)) ?_
 have e:(n:Int) - (((0:Nat):Int) - ((0:Nat):Int))=n:=by simp
 rw [e]
 have h:=h.nil 1
 refine qxc (fun g=>?_) (fun g=>hk ⟨none,0,0⟩ w rfl h)
 refine qzo (n:=0) rfl (Nat.le_refl _) (qwh ?_)
 have he:Elt Tryz.prog 3 (.int .i64 0):=elt_int
 dsimp only
 refine ⟨⟨by omega,by omega,?_,by omega⟩,?_⟩
 · have hb:=(Elt.bytes (P:=Tryz.prog) (e:=3) (z:=.int .i64 0))
   have h3:(n:Int) * (Tryz.prog.bytesOf 3:Int)≤1000000 * 16:=Int.mul_le_mul (by omega) (by omega) (by omega) (by omega)
   exact Int.le_trans h3 (by decide)
 rw [Int.toNat_natCast,he.zc,repL_one]
 refine St.app (s:=⟨none,0,0⟩) (cs2:=List.replicate n (.int .i64 0)) (z:=.int .i64 0) h rfl (by simp) (by rw [List.length_nil]; omega) (fun v hv=>?_) fun s6 w h=>?_
 · have hv:v ∈ List.replicate n (Value.int .i64 0):=by simpa using hv
   rw [(List.mem_replicate.1 hv).2]
   trivial
 refine qzo (n:=0) rfl (Nat.zero_le _) (qwh ?_)
 refine hk ⟨qwf s6.a s6.cap 0 1,0 - 0,s6.cap - 0⟩ w rfl ?_
 have h:=h.front 0 (Nat.zero_le _)
 rw [Nat.zero_mul,List.take_zero] at h
 exact h
theorem Rd.lsl2 {L:List (Sl × List Int)} {i:Int} {K:Sl→Prop} (h:Rd w 1 s (sls L)) (j:Nat) (hi:i=j) (hj:j < L.length) (hk:K L[j].1):ixS s.a s.len i 1 fun a=>ldL w a K:=by
 subst hi
 have hl:=h.1
 rw [show (sls L).length=L.length by simp [sls]] at hl
 refine h.ix (by decide) (by omega) (by omega) fun a ha=>?_
 rw [show ((j:Int)).toNat * 1=j by omega]
 exact ldL_c (by rw [h.cell ha (by simp [sls]; omega)]; simp [sls,hj]) hk
def catL (L:List (Sl × List Int)):List Int:=L.flatMap (·.2)
theorem catL_snoc (L:List (Sl × List Int)) {i:Nat} (h:i < L.length):catL (L.take (i+1))=catL (L.take i) ++ L[i].2:=by
 unfold catL
 rw [List.take_succ_eq_append_getElem h,List.flatMap_append]
 simp
theorem catL_le (L:List (Sl × List Int)) (i:Nat):(catL (L.take i)).length≤(catL L).length:=by
 have:catL L=catL (L.take i) ++ catL (L.drop i):=by
  unfold catL
  rw [← List.flatMap_append,List.take_append_drop]
 rw [this,List.length_append]
 omega
theorem qdb.c {L:List (Sl × List Int)} {K:Ending→World→Prop} (h:St F0 w0 w ps) [Rdb F0 w0 s ps 1 (sls L)] (hL:∀ y ∈ L,∀ w,St F0 w0 w ps→Rd w 1 y.1 (ivs .i64 y.2)) (hn:L.length≤1000) (hlen:(catL L).length≤1000000)
 (hk:∀ t w',t.len=(catL L).length→St F0 w0 w' (qmc 1 t (ivs .i64 (catL L)) :: ps)→K (.returned (.slice t.a t.len t.cap)) w'):Calls Tryz.prog 213 ⟨[.slice s.a s.len s.cap]⟩ w K:=by
 have hl:=(h.rdb s).1
 rw [show (sls L).length=L.length by simp [sls]] at hl
 refine qnc (qdb.ok _ _ _ ?_)
 unfold qdb qdb.j1 qdb.j6
 refine qkh (fun (i:Nat) (z:Int) (i':Int) w'=>i'=i∧i≤L.length∧z=(catL (L.take i)).length∧St F0 w0 w' ps) (fun i=>L.length - i) 0 ⟨rfl,by omega,by simp [catL],h⟩ ?_
 clear h
 rintro i z i' wL I μ ⟨rfl,hi,rfl,h⟩ hin
 have hle:=catL_le L i
 unfold qdb.b2
 refine qxc (fun g=>?_) (fun g=>?_)
 · have hix:i < L.length:=by omega
   have hsn:=catL_snoc L hix
   have hle2:=catL_le L (i+1)
   refine (h.rdb s).lsl2 i rfl hix ?_
   have hy:=(hL L[i] (List.getElem_mem hix) _ h).1
   rw [qx] at hy
   rw [hsn,List.length_append] at hle2
   refine qw (qi (by omega) (by omega)) ?_
   refine qxc (fun g=>by omega) (fun _=>?_)
   refine qw (qi (by omega) (by omega)) ?_
   refine ⟨⟨rfl,rfl,rfl⟩,hin (i+1) _ _ _ ⟨by omega,by omega,?_,h⟩ (by omega)⟩
   rw [hsn,List.length_append]
   omega
 · have:i=L.length:=by omega
   subst this
   rw [List.take_length]
   unfold qdb.j2
   refine qfg.c h hlen fun t w ht h=>⟨t,rfl,?_⟩
   unfold qdb.j3 qdb.j5
   refine qkh (fun (i:Nat) (o:Sl) (i':Int) w'=>i'=i∧i≤L.length∧St F0 w0 w' (qmc 1 o (ivs .i64 (catL (L.take i))) :: ps)) (fun i=>L.length - i) 0 ⟨rfl,by omega,by simpa [catL] using h⟩ ?_
   clear h
   rintro i o i' wL I μ ⟨rfl,hi,h⟩ hin
   have hle:=catL_le L i
   unfold qdb.b1
   refine qxc (fun g=>?_) (fun g=>?_)
   · have hix:i < L.length:=by omega
     have hsn:=catL_snoc L hix
     have hle2:=catL_le L (i+1)
     rw [hsn,List.length_append] at hle2
     refine (h.rdb s).lsl2 i rfl hix ?_
     haveI:Rdb F0 w0 L[i].1 ps 1 (ivs .i64 L[i].2):=⟨fun h=>hL L[i] (List.getElem_mem hix) _ h⟩
     refine h.appI (s:=o) (s2:=L[i].1) (k:=.i64) (by omega) fun o2 w h=>?_
     refine qw (qi (by omega) (by omega)) ?_
     refine ⟨⟨rfl,rfl⟩,hin (i+1) _ _ _ ⟨by omega,by omega,?_⟩ (by omega)⟩
     rw [hsn]
     exact h
   · have:i=L.length:=by omega
     subst this
     rw [List.take_length] at h
     unfold qdb.j4
     have:=h.len
     rw [qx] at this
     exact hk o wL (by omega) h
theorem blk_rdb {nb n:Nat} {l:List Value} [PkB nb ps l rest] (hn:l.length=n):Rdb F0 w0 ⟨some ⟨nb,0,none⟩,n,n⟩ ps 1 l:=⟨fun h=>by
 have hb:=(h.toB nb).blk
 refine ⟨by rw [Nat.mul_one]; exact hn,fun i hi=>⟨_,rfl,?_⟩⟩
 rw [qnf,Nat.zero_add,hb.cell]⟩
theorem qdb.c2 {nb:Nat} {A B:Sl} {xs ys:List Int} {K:Ending→World→Prop} (h:St F0 w0 w ps) [PkB nb ps [.slice A.a A.len A.cap,.slice B.a B.len B.cap] rest] [ha:Rdb F0 w0 A ps 1 (ivs .i64 xs)] [hb:Rdb F0 w0 B ps 1 (ivs .i64 ys)] (hlen:xs.length+ys.length≤1000000)
 (hk:∀ t w',t.len=xs.length+ys.length→St F0 w0 w' (qmc 1 t (ivs .i64 (xs ++ ys)) :: ps)→K (.returned (.slice t.a t.len t.cap)) w'):Calls Tryz.prog 213 ⟨[.slice (some ⟨nb,0,none⟩) 2 2]⟩ w K:=by
 haveI:Rdb F0 w0 ⟨some ⟨nb,0,none⟩,2,2⟩ ps 1 (sls [(A,xs),(B,ys)]):=blk_rdb rfl
 have e:catL [(A,xs),(B,ys)]=xs ++ ys:=by simp [catL]
 refine qdb.c (s:=⟨some ⟨nb,0,none⟩,2,2⟩) (L:=[(A,xs),(B,ys)]) h (fun y hy w h=>?_) (by simp) (by rw [e,List.length_append]; omega) fun t w ht h=>?_
 · simp only [List.mem_cons,List.not_mem_nil,or_false] at hy
   rcases hy with rfl | rfl
   · exact ha.rd h
   · exact hb.rd h
 · rw [e] at ht h
   exact hk t w (by rw [ht,List.length_append]) h
abbrev Ep:=Int × Sl × List Nat
def eC (x:Ep):List Value:=[.int .i64 x.1,.slice x.2.1.a x.2.1.len x.2.1.cap]
def pkE (x:Ep):Pk:=(x.1,x.2.1)
def erE (x:Ep):Pg:=(x.1,x.2.2)
instance rec_eC:Rec eC 2:=⟨fun _=>rfl,fun x v hv=>by
 simp [eC] at hv
 rcases hv with rfl | rfl <;> trivial,by decide⟩
instance elt_pack:EltR Tryz.prog 396 2 [.int .i64 0,.slice none 0 0]:=⟨⟨Tryz.t396,by kernel_rfl,rfl,by decide,by decide⟩,by kernel_rfl,rfl,by decide⟩
theorem pks_eC (L:List Ep):pks (L.map pkE)=L.flatMap eC:=by
 unfold pks
 rw [List.flatMap_map]
 rfl
abbrev nvs (l:List Nat):List Value:=ivs .i64 (l.map fun n:Nat=>(n:Int))
def tabA (T:List (Sl × List Nat)):As:=allA (T.map fun x=>rdA 1 x.1 (nvs x.2))
theorem St.tab:∀ {T:List (Sl × List Nat)} {s:Sl} {xs:List Nat} {F0:List Nat} {w0 w:World} {ps:List As},St F0 w0 w (tabA T :: ps)→(s,xs) ∈ T→Rd w 1 s (nvs xs):=by
 intro T
 induction T with
 | nil=>intro s xs F0 w0 w ps h hm; cases hm
 | cons x T ih =>
   intro s xs F0 w0 w ps h hm
   have h:St F0 w0 w (andA (rdA 1 x.1 (nvs x.2)) (tabA T) :: ps):=h
   have h:=h.split
   rcases List.mem_cons.1 hm with e | hm
   · subst e; exact h.rd
   · exact ih h.drop hm
theorem tab_rdb {T:List (Sl × List Nat)} {xs:List Nat} (hm:(s,xs) ∈ T):Rdb F0 w0 s (tabA T :: ps) 1 (nvs xs):=⟨fun h=>h.tab hm⟩
theorem St.tabI {T:List (Sl × List Nat)} {xs:List Nat} (h:St F0 w0 w (rdA 1 s (nvs xs) :: tabA T :: ps)):St F0 w0 w (tabA ((s,xs) :: T) :: ps):=h.join
def okE (T:List (Sl × List Nat)) (M:Int) (n:Nat) (L:List Ep):Prop:=∀ x ∈ L,(x.2.1,x.2.2) ∈ T∧0≤x.1∧x.1≤M∧x.2.2.length≤n
theorem okE.mono {T T':List (Sl × List Nat)} {M M':Int} {n n':Nat} {L:List Ep} (h:okE T M n L) (hT:∀ x ∈ T,x ∈ T') (hM:M≤M') (hn:n≤n'):okE T' M' n' L:=fun x hx=>by
 have:=h x hx
 exact ⟨hT _ this.1,this.2.1,by omega,by omega⟩
def pairsFin (out:Sl) (i x:Int) (r:Sl) (w:World) (nx:Sl→Int→World→Prop):Prop :=
 ((⟨[.int .i64 x,.slice r.a r.len r.cap]⟩:Array Value)).size=2 ∧
 lt (⟨World.heapSize w,0,none⟩:Addr) fun a18 =>
 lt (World.alloc w (.cells ⟨(spl [.int .i64 0,.slice none 0 0] 0 (⟨[.int .i64 x,.slice r.a r.len r.cap]⟩:Array Value))⟩ 396)) fun w19 =>
 rdO w19 (some a18) (1 * 2) fun c20 =>
 apK Tryz.prog 396 w19 out.a out.len out.cap 1 c20 fun s21 w22 =>
 lt (IntKind.i64.wrap (i+2)) fun x23 =>
 nx s21 x23 w22
theorem qed.c {L:List Ep} {T:List (Sl × List Nat)} {M:Int} {n:Nat} {K:Ending→World→Prop} (h:St F0 w0 w (tabA T :: ps)) [Rdb F0 w0 s ps 2 (L.flatMap eC)] (hL:okE T M n L) (hM:M≤4611686018427387903) (hn:n≤400000) (hlen:L.length≤1000000)
 (hk:∀ t w' L' T',L'.map erE=qak (L.map erE)→(∀ x ∈ T,x ∈ T')→okE T' (2 * M) (2 * n) L'→St F0 w0 w' (qmc 2 t (L'.flatMap eC) :: tabA T' :: ps)→K (.returned (.slice t.a t.len t.cap)) w'):Calls Tryz.prog 283 ⟨[.slice s.a s.len s.cap]⟩ w K:=by
 have hl:=h.rlen (s:=s)
 refine qnc (qed.ok _ _ _ ?_)
 unfold qed qed.j1 qed.j3
 refine qkh (fun (a:Nat × List Ep × List (Sl × List Nat)) (o:Sl) (i':Int) w'=>i'=((2 * a.1+1:Nat):Int)∧2 * a.1≤L.length∧a.2.1.map erE=qak ((L.map erE).take (2 * a.1))∧(∀ x ∈ T,x ∈ a.2.2)∧okE a.2.2 (2 * M) (2 * n) a.2.1∧St F0 w0 w' (qmc 2 o (a.2.1.flatMap eC) :: tabA a.2.2 :: ps)) (fun a=>L.length - 2 * a.1) (0,[],T)
  ⟨rfl,by simp,by simp [qak],fun _ h=>h,fun x hx=>(by cases hx),h.nil 2⟩ ?_
 clear h
 rintro ⟨k,L',T'⟩ o i' wL I μ ⟨rfl,hi,hL',hT,hok,h⟩ hin
 simp only at hi hL' hT hok h hin ⊢
 unfold qed.b1
 have hLl:L'.length=k:=by
  have:=congrArg List.length hL'
  rw [qfj,List.length_map,List.length_take,List.length_map] at this
  omega
 refine qxc (fun g=>?_) (fun g=>?_)
 · have h1:2 * k < L.length:=by omega
   have h2:2 * k+1 < L.length:=by omega
   have m1:=hL L[2 * k] (List.getElem_mem h1)
   have m2:=hL L[2 * k+1] (List.getElem_mem h2)
   haveI:Rdb F0 w0 (L[2 * k]).2.1 (tabA T' :: ps) 1 (nvs (L[2 * k]).2.2):=tab_rdb (hT _ m1.1)
   haveI:Rdb F0 w0 (L[2 * k+1]).2.1 (tabA T' :: ps) 1 (nvs (L[2 * k+1]).2.2):=tab_rdb (hT _ m2.1)
   have fin:∀ (w:World) (r:Sl) (x:Int),x=(L[2 * k]).1+(L[2 * k+1]).1→St F0 w0 w (qmc 2 o (L'.flatMap eC) :: qmc 1 r (ivs .i64 ((L[2 * k]).2.2.map (fun n:Nat=>(n:Int)) ++ (L[2 * k+1]).2.2.map (fun n:Nat=>(n:Int)))) :: tabA T' :: ps) →
    pairsFin o ((2 * k+1:Nat):Int) x r w (fun o' i'' w'=>s=s∧I o' i'' w'∧μ o' i'' w' < μ o ((2 * k+1:Nat):Int) wL):=by
    rintro w r x rfl h
    refine ⟨rfl,?_⟩
    rw [← List.map_append] at h
    refine h.pushR (s:=o) (x:=(((L[2 * k]).1+(L[2 * k+1]).1,r,(L[2 * k]).2.2 ++ (L[2 * k+1]).2.2):Ep)) (by omega) rfl fun o2 w _ h=>?_
    refine qw (qi (by omega) (by omega)) ⟨rfl,?_⟩
    refine hin (k+1,L' ++ [((L[2 * k]).1+(L[2 * k+1]).1,r,(L[2 * k]).2.2 ++ (L[2 * k+1]).2.2)],(r,(L[2 * k]).2.2 ++ (L[2 * k+1]).2.2) :: T') _ _ _ ⟨by simp only; omega,by simp only; omega,?_,fun x hx=>List.mem_cons_of_mem _ (hT x hx),?_,?_⟩ (by simp only; omega)
    · simp only
      rw [List.map_append,hL',show 2 * (k+1)=2 * k+1+1 by omega,List.take_succ_eq_append_getElem (by rw [List.length_map]; omega),List.take_succ_eq_append_getElem (by rw [List.length_map]; omega),List.append_assoc]
      have:∀ (X Y:List Pg),X.length % 2=0→qak (X ++ Y)=qak X ++ qak Y:=by
       intro X Y
       exact qtj (Q:=fun X=>X.length % 2=0→qak (X ++ Y)=qak X ++ qak Y) (fun _=>rfl) (fun a h=>by simp at h) (fun a b r ih h=>by
        simp only [List.length_cons] at h
        rw [List.cons_append,List.cons_append,qak,qak,ih (by omega),List.cons_append]) X
      rw [this _ _ (by rw [List.length_take,List.length_map,Nat.min_eq_left (by omega)]; omega)]
      simp [qak,erE]
    · intro x hx
      rcases List.mem_append.1 hx with hx | hx
      · exact hok.mono (fun x hx=>List.mem_cons_of_mem _ hx) (Int.le_refl _) (Nat.le_refl _) x hx
      · rw [List.mem_singleton] at hx
        subst hx
        refine ⟨by simp,?_,?_,?_⟩
        · show 0≤(L[2 * k]).1+(L[2 * k+1]).1; omega
        · show (L[2 * k]).1+(L[2 * k+1]).1≤2 * M; omega
        · show ((L[2 * k]).2.2 ++ (L[2 * k+1]).2.2).length≤2 * n; rw [List.length_append]; omega
    · exact h.tail fun _ _ _ h=>h.ro.tabI
   refine h.drewK fun w h=>?_
   refine qw (qi (by omega) (by omega)) ?_
   refine h.rix (s:=s) (2 * k) (by omega) h1 fun a1 e1=>?_
   refine h.rix (s:=s) (2 * k+1) (by omega) h2 fun a2 e2=>?_
   refine qw (qi (by omega) (by omega)) ?_
   refine h.rix (s:=s) (2 * k) (by omega) h1 fun a3 e3=>?_
   refine (h.rdb s).rL (v:=(L[2 * k]).2.1) e3 h1 (by decide) rfl ?_
   refine h.rix (s:=s) (2 * k+1) (by omega) h2 fun a4 e4=>?_
   refine (h.rdb s).rL (v:=(L[2 * k+1]).2.1) e4 h2 (by decide) rfl ?_
   repeat' first
    | exact fin _ _ _ rfl h.sub
    | refine (h.rdb s).rI e1 h1 (by decide) rfl ?_
    | refine (h.rdb s).rI e2 h2 (by decide) rfl ?_
    | refine qw (qi (by omega) (by omega)) ?_
    | (refine h.new fun nb w h=>?_
       have h:St F0 w0 w (qjd nb [.slice (L[2 * k]).2.1.a (L[2 * k]).2.1.len (L[2 * k]).2.1.cap,.slice (L[2 * k+1]).2.1.a (L[2 * k+1]).2.1.len (L[2 * k+1]).2.1.cap] :: qmc 2 o (L'.flatMap eC) :: tabA T' :: ps):=h)
    | refine qdb.c2 (A:=(L[2 * k]).2.1) (B:=(L[2 * k+1]).2.1) h (by simp only [List.length_map]; omega) fun r w _ h=>⟨r,rfl,?_⟩
    | refine And.intro ?_ ?_
 · unfold qed.j2
   have e:qak ((L.map erE).take (2 * k))=qak (L.map erE):=by
    rcases Nat.lt_or_ge (2 * k) L.length with h1 | h1
    · have h2:L.length=2 * k+1:=by omega
      rw [← qup,List.take_of_length_le (by rw [qfj,List.length_map]; omega)]
    · rw [List.take_of_length_le (by rw [List.length_map]; omega)]
   exact hk o wL L' T' (by rw [hL',e]) hT hok h
end
end Go.Proofs.YthdmmmfgjmmelaaGreat
namespace Go.Proofs.YthdmmmfgjmmelaaGreat
open Go Go.Proofs
set_option linter.unusedVariables false
set_option linter.unusedSimpArgs false
attribute [local irreducible] apK cpK mkK br
section
variable {F0:List Nat} {w0 w:World} {ps rest:List As} {s:Sl} {xs:List Int}
theorem qpn.c {L:List Ep} {K:Ending→World→Prop} (h:St F0 w0 w ps) [Rdb F0 w0 s ps 2 (L.flatMap eC)] (hlen:L.length≤1000000)
 (hk:∀ t w',t.len=L.length→St F0 w0 w' (qmc 2 t (L.flatMap eC) :: ps)→K (.returned (.slice t.a t.len t.cap)) w'):Calls Tryz.prog 282 ⟨[.slice s.a s.len s.cap]⟩ w K:=by
 refine qnc (qef.ok _ _ _ ?_)
 unfold qef
 refine qqe (fun g=>?_) (fun g=>?_)
 · have:L=[]:=h.isnil (s:=s) (by simpa using g)
   subst this
   exact hk ⟨none,0,0⟩ w rfl (h.nil 2)
 · refine h.cloneR (s2:=s) (by omega) fun t w ht h=>hk t w ht h
def we (x:Ep):Int:=x.1
theorem ssortE (M:List Ep):pks (qhd wt (M.map pkE))=(qhd we M).flatMap eC:=by
 rw [← pks_eC,ssort_map (k:=we) (k':=wt) (f:=pkE) (fun _=>rfl)]
theorem qnp {l:List Nat} {k:Nat} (h:k < l.length):(l.map fun n:Nat=>(n:Int)).getD k 0=l[k]:=by
 simp [List.getD,h]
theorem qt.count {t6 t7 t85:Sl} {R:List Ep} {T:List (Sl × List Nat)} {N:Nat} {K:Ending→World→Prop} (h:St F0 w0 w (qmc 1 t7 (ivs .i64 (List.replicate N 0)) :: tabA T :: ps)) [Rdb F0 w0 t85 ps 2 (R.flatMap eC)]
 (hT:∀ x ∈ R,(x.2.1,x.2.2) ∈ T) (hN:∀ x ∈ R,∀ s ∈ x.2.2,s < N) (hNl:N≤1000) (hn:∀ x ∈ R,x.2.2.length≤100000) (hR:R.length≤1000)
 (hk:∀ w',St F0 w0 w' (qmc 1 t7 (ivs .i64 (qzk N fun i=>((qkf (R.map erE)).count i:Int))) :: ps)→K (.returned (.tuple ⟨[.slice t7.a t7.len t7.cap,.int .i64 0]⟩)) w') :
 qt.j7 t7 t85 ((R.length:Nat):Int) 0 (fun v w'=>K (.returned v) w') w:=by
 have hcnt:∀ (l:List Ep),(∀ x ∈ l,x.2.2.length≤100000)→∀ i,(qkf (l.map erE)).count i≤l.length * 100000:=by
  intro l
  induction l with
  | nil=>intro _ i; simp [qkf]
  | cons a l ih =>
    intro h i
    have:=ih (fun x hx=>h x (by simp [hx])) i
    have h1:=h a (by simp)
    have h2:=List.count_le_length (a:=i) (l:=a.2.2)
    rw [List.map_cons,qni,List.count_append,List.length_cons]
    show (a.2.2).count i+_≤_
    omega
 unfold qt.j7
 refine qpg (fun (j:Nat) (j':Int) w'=>j'=j∧j≤R.length∧St F0 w0 w' (qmc 1 t7 (ivs .i64 (qzk N fun i=>((qkf ((R.take j).map erE)).count i:Int))) :: tabA T :: ps)) (fun j=>R.length - j) 0 ⟨rfl,by omega,by
  rw [qok] at h
  simpa [qkf] using h⟩ ?_
 clear h
 rintro j j' wL I μ ⟨rfl,hj,h⟩ hin
 unfold qt.b1
 refine qxc (fun g=>?_) (fun g=>?_)
 · have hjR:j < R.length:=by omega
   have hmem:=List.getElem_mem hjR
   have hsl:=hn _ hmem
   have hcj:∀ i,(qkf ((R.take j).map erE)).count i≤100000000:=fun i=>by
    have h1:=hcnt (R.take j) (fun x hx=>hn x (List.mem_of_mem_take hx)) i
    have h2:(R.take j).length≤1000:=by rw [List.length_take]; omega
    have h3:=Nat.mul_le_mul_right 100000 h2
    omega
   unfold qt.j8
   refine h.lr (s:=t85) j rfl hjR ?_
   refine h.new fun nb w h=>?_
   refine ⟨rfl,?_⟩
   refine h.setR (x:=R[j]) (by rw [elt_pack.zc]; rfl) fun w h=>?_
   have h:St F0 w0 w (qjd nb [.int .i64 (R[j]).1,.slice (R[j]).2.1.a (R[j]).2.1.len (R[j]).2.1.cap] :: qmc 1 t7 (ivs .i64 (qzk N fun i=>((qkf ((R.take j).map erE)).count i:Int))) :: tabA T :: ps):=h
   rw [qnf]
   refine h.fL (b:=nb) (o:=0+1) ?_
   dsimp only
   have h:St F0 w0 w (qmc 1 t7 (ivs .i64 (qzk N fun i=>((qkf ((R.take j).map erE)).count i:Int))) :: tabA T :: ps):=h.drop
   haveI:Rdb F0 w0 (R[j]).2.1 (tabA T :: ps) 1 (nvs (R[j]).2.2):=tab_rdb (hT _ hmem)
   have hl5:=(h.rdb (R[j]).2.1).1
   rw [qx,List.length_map] at hl5
   unfold qt.j10
   refine qpg (fun (k:Nat) (k':Int) w'=>k'=k∧k≤(R[j]).2.2.length∧St F0 w0 w' (qmc 1 t7 (ivs .i64 (qzk N fun i=>((qkf ((R.take j).map erE) ++ (R[j]).2.2.take k).count i:Int))) :: tabA T :: ps)) (fun k=>(R[j]).2.2.length - k) 0 ⟨rfl,by omega,by simpa using h⟩ ?_
   clear h
   rintro k k' wL2 I2 μ2 ⟨rfl,hk2,h⟩ hin2
   unfold qt.b2
   refine qxc (fun g2=>?_) (fun g2=>?_)
   · have hks:k < (R[j]).2.2.length:=by
      omega
     have hsN:=hN _ hmem _ (List.getElem_mem hks)
     have hck:(qkf ((R.take j).map erE) ++ (R[j]).2.2.take k).count ((R[j]).2.2[k])≤200000000:=by
      have h1:=hcj ((R[j]).2.2[k])
      have h2:=List.count_le_length (a:=(R[j]).2.2[k]) (l:=(R[j]).2.2.take k)
      rw [List.count_append]
      rw [List.length_take] at h2
      omega
     refine h.lx (s:=(R[j]).2.1) k rfl (by rw [List.length_map]; exact hks) ?_
     rw [qnp hks]
     refine h.lx (s:=t7) ((R[j]).2.2[k]) rfl (by rw [qid]; exact hsN) ?_
     rw [quf hsN]
     refine qw (qi (by omega) (by omega)) ?_
     refine h.sx (s:=t7) ((R[j]).2.2[k]) rfl (by rw [qid]; exact hsN) fun w h=>?_
     refine qw (qi (by omega) (by omega)) ?_
     refine ⟨⟨rfl,rfl,rfl,rfl,rfl,rfl⟩,hin2 (k+1) _ _ ⟨by omega,by omega,?_⟩ (by omega)⟩
     rw [qnj] at h
     have e:(qzk N fun m=>if m=(R[j]).2.2[k] then ((qkf ((R.take j).map erE) ++ (R[j]).2.2.take k).count ((R[j]).2.2[k]):Int)+1 else ((qkf ((R.take j).map erE) ++ (R[j]).2.2.take k).count m:Int))=qzk N fun i=>((qkf ((R.take j).map erE) ++ (R[j]).2.2.take (k+1)).count i:Int):=by
      refine qpd fun i _=>?_
      rw [List.take_succ_eq_append_getElem hks,← List.append_assoc,List.count_append (l₁:=qkf ((R.take j).map erE) ++ (R[j]).2.2.take k),List.count_singleton]
      by_cases e:i=(R[j]).2.2[k]
      · rw [if_pos e,e]; simp
      · rw [if_neg e]
        have:((R[j]).2.2[k] == i)=false:=by simpa using fun h=>e h.symm
        rw [this]; simp
     rw [e] at h
     exact h
   · have:k=(R[j]).2.2.length:=by
      omega
     subst this
     unfold qt.j9
     refine qw (qi (by omega) (by omega)) ?_
     refine ⟨⟨rfl,rfl,rfl⟩,hin (j+1) _ _ ⟨by omega,by omega,?_⟩ (by omega)⟩
     rw [List.take_length] at h
     have e:qkf ((R.take (j+1)).map erE)=qkf ((R.take j).map erE) ++ (R[j]).2.2:=by
      rw [List.take_succ_eq_append_getElem hjR,List.map_append,qfq]
      congr 1
      simp [qkf,erE]
     rw [e]
     exact h
 · have:j=R.length:=by omega
   subst this
   rw [List.take_length] at h
   unfold qt.j6
   exact hk wL (h.tail fun _ _ _ h=>h.drop)
theorem okE_sort {T:List (Sl × List Nat)} {M:Int} {n:Nat} {L:List Ep} (h:okE T M n L):okE T M n (qhd we L):=fun x hx=>h x ((qth _).mem_iff.1 hx)
theorem qt.rows {t6 t7 t8:Sl} {C:List Ep} {T0:List (Sl × List Nat)} {cs:List Pg} {m:Nat} {K:Ending→World→Prop}
 (h:St F0 w0 w (qmc 2 t8 (C.flatMap eC) :: tabA T0 :: ps)) (hC:C.map erE=cs) (hok0:okE T0 16777216 1 C) (hm:m≤15) (hc1:1≤cs.length) (hc:cs.length≤300)
 (hk:∀ (t9:Sl) (R:List Ep) (T:List (Sl × List Nat)) (w':World),R.map erE=qvi cs m→(∀ x ∈ R,(x.2.1,x.2.2) ∈ T∧x.2.2.length≤100000)→St F0 w0 w' (qmc 2 t9 (R.flatMap eC) :: tabA T :: ps)→qt.j5 t6 t7 t9 (fun v w'=>K (.returned v) w') w') :
 qt.j4 (m:Int) t6 t7 t8 ⟨none,0,0⟩ (fun v w'=>K (.returned v) w') w:=by
 have hCl:C.length=cs.length:=by rw [← hC,List.length_map]
 unfold qt.j4 qt.j11
 refine qkh (fun (a:Nat × List Ep × List (Sl × List Nat)) (o:Sl) (i':Int) w'=>i'=a.1∧a.1≤m∧a.2.1.map erE=qvi cs a.1∧okE a.2.2 (16777216 * 2 ^ a.1) (2 ^ a.1) a.2.1∧okE a.2.2 16777216 1 C∧St F0 w0 w' (qmc 2 o (a.2.1.flatMap eC) :: tabA a.2.2 :: qmc 2 t8 (C.flatMap eC) :: ps)) (fun a=>m - a.1) (0,[],T0)
  ⟨rfl,by omega,rfl,fun x hx=>(by cases hx),hok0,(h.at1).nil 2⟩ ?_
 clear h
 rintro ⟨r,R,T⟩ o i' wL I μ ⟨rfl,hr,hR,hok,hokC,h⟩ hin
 simp only at hr hR hok hokC h hin ⊢
 have hRl:R.length < 2 * cs.length:=by
  have:=congrArg List.length hR
  rw [List.length_map] at this
  rw [this]
  exact rowP_lt hc1 r
 have h15:2 ^ r≤2 ^ 15:=Nat.pow_le_pow_right (by decide) (by omega)
 rw [show (2:Nat) ^ 15=32768 from rfl] at h15
 unfold qt.b3
 refine qxc (fun g=>?_) (fun g=>?_)
 · refine qpn.c (s:=t8) h (by omega) fun t w ht h=>⟨t,rfl,?_⟩
   have h:St F0 w0 w (tabA T :: qmc 2 t (C.flatMap eC) :: qmc 2 o (R.flatMap eC) :: qmc 2 t8 (C.flatMap eC) :: ps):=h.sub
   have e2:((2:Int) ^ r)=((2 ^ r:Nat):Int):=by simp
   rw [e2] at hok
   have h1p:1≤2 ^ r:=Nat.one_le_two_pow
   have ep:2 ^ (r+1)=2 * 2 ^ r:=by rw [Nat.pow_succ,Nat.mul_comm]
   have e3:((2:Int) ^ (r+1))=((2 ^ (r+1):Nat):Int):=by simp
   refine qed.c (s:=o) (L:=R) h hok (by omega) (by omega) (by omega) fun t2 w L2 T2 hL2 hT2 hok2 h=>⟨t2,rfl,?_⟩
   have hL2l:L2.length≤600:=by
    have:=congrArg List.length hL2
    rw [List.length_map,qfj,List.length_map] at this
    omega
   refine h.appR (s:=t) (s2:=t2) (by omega) fun t3 w ht3 h=>?_
   rw [← pks_eC] at h
   refine SortStable.c (s:=t3) h (by rw [List.length_map,List.length_append]; omega) fun w h=>⟨rfl,?_⟩
   rw [ssortE] at h
   refine qw (qi (by omega) (by omega)) ?_
   refine ⟨⟨rfl,rfl,rfl,rfl⟩,hin (r+1,qhd we (C ++ L2),T2) _ _ _ ⟨by simp only; omega,by simp only; omega,?_,?_,?_,?_⟩ (by simp only; omega)⟩
   · simp only
     rw [ssort_map (k:=we) (k':=gw) (f:=erE) (fun _=>rfl),List.map_append,hC,hL2,hR,qvi]
   · simp only
     rw [e3]
     refine okE_sort fun x hx=>?_
     rcases List.mem_append.1 hx with hx | hx
     · exact hokC.mono hT2 (by omega) (by omega) x hx
     · exact hok2.mono (fun _ h=>h) (by omega) (by omega) x hx
   · exact hokC.mono hT2 (Int.le_refl _) (Nat.le_refl _)
   · exact h.sub
 · have:r=m:=by omega
   subst this
   have h:St F0 w0 wL (qmc 2 o (R.flatMap eC) :: tabA T :: ps):=h.sub
   exact hk o R T wL hR (fun x hx=>⟨(hok x hx).1,by have:=(hok x hx).2.2.2; omega⟩) h
theorem qt.coins {t6 t7:Sl} {m:Int} {K:Ending→World→Prop} (h:St F0 w0 w ps) [Rdb F0 w0 s ps 1 (ivs .i64 xs)] [Rdb F0 w0 t6 ps 1 (nvs (qyd xs))] (hg:goodX xs)
 (hk:∀ (t8:Sl) (C:List Ep) (T:List (Sl × List Nat)) (w':World),C.map erE=coinsP xs→okE T 16777216 1 C→St F0 w0 w' (qmc 2 t8 (C.flatMap eC) :: tabA T :: ps)→qt.j4 m t6 t7 t8 ⟨none,0,0⟩ (fun v w'=>K (.returned v) w') w') :
 qt.j3 s m t6 t7 ⟨none,0,0⟩ ⟨none,0,0⟩ (fun v w'=>K (.returned v) w') w:=by
 have hl6:=(h.rdb t6).1
 rw [qx,List.length_map] at hl6
 have hcl:=qxn xs
 have hlg:=hg.1
 unfold qt.j3 qt.j12
 have h:St F0 w0 w (tabA [] :: ps):=h.add (f':=[]) (p':=noA) (Mod.refl _ _) rfl (Gr.refl _ _)
 refine qkh (fun (a:Nat × List Ep × List (Sl × List Nat)) (o:Sl) (i':Int) w'=>i'=a.1∧a.1≤(qyd xs).length∧a.2.1.map erE=(coinsP xs).take a.1∧okE a.2.2 16777216 1 a.2.1∧St F0 w0 w' (qmc 2 o (a.2.1.flatMap eC) :: tabA a.2.2 :: ps)) (fun a=>(qyd xs).length - a.1) (0,[],[])
  ⟨rfl,by omega,rfl,fun x hx=>(by cases hx),h.nil 2⟩ ?_
 clear h
 rintro ⟨i,L,T⟩ o i' wL I μ ⟨rfl,hi,hL,hok,h⟩ hin
 simp only at hi hL hok h hin ⊢
 have hLl:L.length=i:=by
  have:=congrArg List.length hL
  rw [List.length_map,List.length_take,qvd] at this
  omega
 unfold qt.b4
 refine qxc (fun g=>?_) (fun g=>?_)
 · have hic:i < (qyd xs).length:=by omega
   have hcm:=qnh.1 (List.getElem_mem hic)
   have hv:=hg.2 _ (qde hcm.1)
   unfold badN at hv
   refine h.lx (s:=t6) i rfl (by rw [List.length_map]; exact hic) ?_
   rw [qnp hic]
   refine h.lx (s:=s) ((qyd xs)[i]) rfl hcm.1 ?_
   refine h.new fun nb w h=>⟨rfl,?_⟩
   have h:St F0 w0 w (qjd nb (nvs [(qyd xs)[i]]) :: qmc 2 o (L.flatMap eC) :: tabA T :: ps):=h
   refine h.pushR (s:=o) (x:=((xs.getD ((qyd xs)[i]) 0,⟨some ⟨nb,0,none⟩,1,1⟩,[(qyd xs)[i]]):Ep)) (by omega) rfl fun o2 w _ h=>?_
   refine qw (qi (by omega) (by omega)) ?_
   refine ⟨⟨rfl,rfl,rfl,rfl,rfl,rfl,rfl⟩,hin (i+1,L ++ [(xs.getD ((qyd xs)[i]) 0,⟨some ⟨nb,0,none⟩,1,1⟩,[(qyd xs)[i]])],(⟨some ⟨nb,0,none⟩,1,1⟩,[(qyd xs)[i]]) :: T) _ _ _ ⟨by simp only; omega,by simp only; omega,?_,?_,?_⟩ (by simp only; omega)⟩
   · simp only
     rw [List.map_append,hL,List.take_succ_eq_append_getElem (by rw [qvd]; exact hic)]
     congr 1
     simp [coinsP,erE]
   · intro x hx
     rcases List.mem_append.1 hx with hx | hx
     · exact hok.mono (fun x hx=>List.mem_cons_of_mem _ hx) (Int.le_refl _) (Nat.le_refl _) x hx
     · rw [List.mem_singleton] at hx
       subst hx
       refine ⟨by simp,?_,?_,?_⟩
       · show 0≤xs.getD _ 0; omega
       · show xs.getD _ 0≤_; omega
       · show 1≤1; omega
   · exact h.tail fun _ _ _ h=>(h.ownB (n:=1) rfl).ro.tabI
 · have:i=(qyd xs).length:=by omega
   subst this
   rw [List.take_of_length_le (by rw [qvd]; omega)] at hL
   exact hk o L T wL hL hok h
theorem qt.c {m:Int} {K:Ending→World→Prop} (h:St F0 w0 w ps) [Rdb F0 w0 s ps 1 (ivs .i64 xs)]
 (hk0:∀ t w',leastE xs m=0→t.len=xs.length→St F0 w0 w' (qmc 1 t (ivs .i64 (lenP xs m.toNat)) :: ps)→K (.returned (.tuple ⟨[.slice t.a t.len t.cap,.int .i64 0]⟩)) w')
 (hk1:∀ w',leastE xs m ≠ 0→St F0 w0 w' ps→K (.returned (.tuple ⟨[.slice none 0 0,.int .i64 (leastE xs m)]⟩)) w'):Calls Tryz.prog 210 ⟨[.slice s.a s.len s.cap,.int .i64 m]⟩ w K:=by
 have hl:=(h.rdb s).1
 rw [qx] at hl
 refine qnc (qt.ok _ _ _ _ ?_)
 unfold qt
 have no1:∀ w,(¬ goodX xs ∨ m < 1 ∨ 15 < m)→St F0 w0 w ps→K (.returned (.tuple ⟨[.slice none 0 0,.int .i64 1]⟩)) w:=by
  intro w e h
  have e1:leastE xs m=1:=by unfold leastE; rw [if_pos e]
  have:=hk1 w (by omega) h
  rw [e1] at this
  exact this
 refine qfk.c (s:=s) h fun b w hg hb h=>⟨b,rfl,?_⟩
 refine qqe (fun g=>?_) (fun g=>?_)
 · refine no1 w (Or.inl fun hgd=>?_) h
   rcases hb g with e | ⟨x,hx,e⟩
   · have:=hgd.1; omega
   · exact hgd.2 x hx e
 have hgood:goodX xs:=hg g
 have hlg:=hgood.1
 have hcl:=qxn xs
 refine qxc (fun g1=>no1 w (by omega) h) (fun g1=>?_)
 refine qxc (fun g2=>no1 w (by omega) h) (fun g2=>?_)
 obtain ⟨M,rfl⟩:∃ M:Nat,m=M:=⟨m.toNat,by omega⟩
 have eL:leastE xs M=if 2 ^ M < (qyd xs).length then 7 else 0:=by
  unfold leastE
  rw [if_neg (fun e=>by
   rcases e with e | e | e
   · exact e hgood
   · omega
   · omega),Int.toNat_natCast]
 unfold qt.j1
 refine qqd.c (s:=s) h (by omega) fun t6 w ht6 h=>⟨t6,rfl,?_⟩
 refine h.makeI (n:=xs.length) (by omega) (by omega) (by omega) fun t7 w ht7 hc7 h=>?_
 unfold qt.j2
 have h15:2 ^ M≤2 ^ 15:=Nat.pow_le_pow_right (by decide) (by omega)
 have hM:qpi .i64 1 (M:Int)=((2 ^ M:Nat):Int):=by
  rw [shlV_lit .i64 (t:=M) rfl (by show M≤64; omega) (by decide) (by
   have e:((1:Int) * 2 ^ M)=((2 ^ M:Nat):Int):=by simp
   rw [e]
   show ((2 ^ M:Nat):Int) < 9223372036854775808
   have:(2:Nat) ^ 15=32768:=rfl
   omega)]
  simp
 refine ⟨by omega,qw hM ?_⟩
 refine qxc (fun g3=>?_) (fun g3=>?_)
 · have e7:leastE xs M=7:=by rw [eL,if_pos (by omega)]
   have:=hk1 w (by omega) h.drop.drop
   rw [e7] at this
   exact this
 have e0:leastE xs M=0:=by rw [eL,if_neg (by omega)]
 have hk0:=fun t w'=>hk0 t w' e0
 simp only [Int.toNat_natCast] at hk0
 have few:(qyd xs).length < 2→lenP xs M=qzk xs.length fun i=>if 0 < xs.getD i 0 then 1 else 0:=by
  intro hf
  refine qpd fun i hi=>?_
  unfold lenF
  rw [if_pos hf]
  split <;> rfl
 refine qqe (fun g4=>?_) (fun g4=>?_)
 · have g4:(t6.len:Int)=0:=by simpa using g4
   refine hk0 t7 w ht7 ?_
   have e:lenP xs M=List.replicate xs.length 0:=by
    rw [few (by omega),qok]
    refine qpd fun i hi=>?_
    rw [if_neg (fun h0=>?_)]
    have:=List.length_pos_of_mem (qnh.2 ⟨hi,h0⟩)
    omega
   rw [e]
   exact h.tail fun _ _ _ h=>h.drop
 have g4:(t6.len:Int) ≠ 0:=by simpa using g4
 refine qqe (fun g5=>?_) (fun g5=>?_)
 · have g5:(t6.len:Int)=1:=by simpa using g5
   have hc0:0 < (qyd xs).length:=by omega
   have hcm:=qnh.1 (List.getElem_mem hc0)
   refine h.lx (s:=t6) 0 rfl (by rw [List.length_map]; exact hc0) ?_
   rw [qnp hc0]
   refine h.sx (s:=t7) ((qyd xs)[0]) rfl (by rw [List.length_replicate]; exact hcm.1) fun w h=>?_
   refine hk0 t7 w ht7 ?_
   have e:(List.replicate xs.length (0:Int)).set ((qyd xs)[0]) 1=lenP xs M:=by
    rw [few (by omega),qok,qnj]
    refine qpd fun i hi=>?_
    by_cases h0:0 < xs.getD i 0
    · have hm:=qnh.2 ⟨hi,h0⟩
      obtain ⟨k,hk,rfl⟩:=List.mem_iff_getElem.1 hm
      have:k=0:=by omega
      subst this
      rw [if_pos rfl,if_pos h0]
    · rw [if_neg h0,if_neg (fun e:i=(qyd xs)[0]=>h0 (by rw [e]; exact hcm.2))]
   rw [e] at h
   exact h.tail fun _ _ _ h=>h.drop
 have g5:(t6.len:Int) ≠ 1:=by simpa using g5
 refine qt.coins (s:=s) (xs:=xs) h hgood fun t8 C T w hC hok h=>?_
 refine qt.rows (cs:=coinsP xs) h hC hok (by omega) (by rw [qvd]; omega) (by rw [qvd]; omega) fun t9 R T w hR hRT h=>?_
 have hen:=qsp (cs:=coinsP xs) (by rw [qvd]; omega) (L:=M) (by rw [qvd]; omega)
 have hRl:R.length=(qvi (coinsP xs) M).length:=by rw [← hR,List.length_map]
 have hRlt:=rowP_lt (cs:=coinsP xs) (by rw [qvd]; omega) M
 rw [qvd] at hen hRlt
 have h9:=h.rlen (s:=t9)
 have hcap:=h.cap (by decide)
 unfold qt.j5
 refine qw (qi (by omega) (by omega)) ?_
 refine qw (qi (by omega) (by omega)) ?_
 refine qzo (n:=2 * (qyd xs).length - 2) (by omega) (by omega) (qwh ?_)
 have h:St F0 w0 w (qmc 1 t7 (ivs .i64 (List.replicate xs.length 0)) :: tabA T :: qmc 2 t9 (R.flatMap eC) :: ps):=h.sub
 haveI:=h.drop.drop.cutRR t9 0 (2 * (qyd xs).length - 2) (t9.cap - 0) (by omega) (by omega) hcap
 rw [List.drop_zero,Nat.sub_zero] at this
 have hRt:(R.take (2 * (qyd xs).length - 2)).map erE=(qvi (coinsP xs) M).take (2 * (qyd xs).length - 2):=by rw [List.map_take,hR]
 have hlen:(R.take (2 * (qyd xs).length - 2)).length=2 * (qyd xs).length - 2:=by rw [List.length_take]; omega
 have hfin:=qt.count (t6:=t6) (t7:=t7) (t85:=⟨qwf t9.a t9.cap 0 2,2 * (qyd xs).length - 2,t9.cap - 0⟩) (R:=R.take (2 * (qyd xs).length - 2)) (T:=T) (N:=xs.length) (K:=K) h (fun x hx=>(hRT x (List.mem_of_mem_take hx)).1) (fun x hx s hs=>?_) (by omega) (fun x hx=>(hRT x (List.mem_of_mem_take hx)).2) (by omega) fun w h=>?_
 · rw [hlen] at hfin
   exact hfin
 · have hx':erE x ∈ qvi (coinsP xs) M:=by rw [← hR]; exact List.mem_map_of_mem (List.mem_of_mem_take hx)
   refine flat_lt (cs:=coinsP xs) (n:=xs.length) ?_ M (erE x) hx' s hs
   intro y hy s hs
   obtain ⟨i,hi,rfl⟩:=List.mem_map.1 hy
   have:s=i:=by simpa using hs
   subst this
   exact (qnh.1 hi).1
 · refine hk0 t7 w ht7 ?_
   rw [hRt] at h
   have e:lenP xs M=qzk xs.length fun i=>((qkf ((qvi (coinsP xs) M).take (2 * (qyd xs).length - 2))).count i:Int):=by
    refine qpd fun i hi=>?_
    unfold lenF
    rw [if_neg (by omega)]
   rw [e]
   exact h.tail fun _ _ _ h=>h.drop
end
end Go.Proofs.YthdmmmfgjmmelaaGreat
namespace Go.Proofs.YthdmmmfgjmmelaaGreat
open Go Go.Proofs
set_option linter.unusedVariables false
set_option linter.unusedSimpArgs false
attribute [local irreducible] apK cpK mkK br
section
variable {α β:Type} {k:α→Int}
def hless (k:α→Int) (H:List α) (i j:Nat):Bool:=match H[i]?,H[j]? with
 | some x,some y=>decide (k x < k y)
 | _,_=>false
def hswap (H:List α) (i j:Nat):List α:=match H[i]?,H[j]? with
 | some x,some y=>(H.set i y).set j x
 | _,_=>H
def hup (k:α→Int):Nat→List α→Nat→List α
 | 0,H,_=>H
 | f+1,H,j=>if (j - 1) / 2=j then H else if hless k H j ((j - 1) / 2) then hup k f (hswap H ((j - 1) / 2) j) ((j - 1) / 2) else H
def hkid (k:α→Int) (H:List α) (i n:Nat):Nat:=if 2 * i+2 < n∧hless k H (2 * i+2) (2 * i+1)=true then 2 * i+2 else 2 * i+1
def hdown (k:α→Int):Nat→List α→Nat→Nat→List α
 | 0,H,_,_=>H
 | f+1,H,i,n=>if n≤2 * i+1 then H else if hless k H (hkid k H i n) i then hdown k f (hswap H i (hkid k H i n)) (hkid k H i n) n else H
def hpush (k:α→Int) (H:List α) (x:α):List α:=hup k (H.length+1) (H ++ [x]) H.length
def hmid (k:α→Int) (H:List α):List α:=hdown k (H.length - 1) (hswap H 0 (H.length - 1)) 0 (H.length - 1)
def hrest (k:α→Int) (H:List α):List α:=(hmid k H).take (H.length - 1)
variable {k':β→Int} {g:α→β}
end
inductive Tr where
 | leaf (s:Nat)
 | nd (a b:Tr)
def Tr.size:Tr→Nat
 | leaf _=>1
 | nd a b=>a.size+b.size+1
abbrev HE:=Nat × Int × Tr
abbrev Nd:=Nat × Int × Int × Option Nat × Option Nat
abbrev WT:=Int × Tr
def kW (x:WT):Int:=x.1
section
variable {F0:List Nat} {w0 w:World} {ps rest:List As} {s:Sl} {hb:Nat} {H:List HE} {N:List Nd} {M:Int}
end
end Go.Proofs.YthdmmmfgjmmelaaGreat
namespace Go.Proofs.YthdmmmfgjmmelaaGreat
open Go Go.Proofs
set_option linter.unusedVariables false
set_option linter.unusedSimpArgs false
attribute [local irreducible] apK cpK mkK br
def Tr.ok (n:Nat):Tr→Prop
 | .leaf s=>s < n
 | .nd l r=>l.ok n∧r.ok n
def dT:WT:=(0,.leaf 0)
def hlast (H:List WT):WT:=(hmid kW H).getD (H.length - 1) dT
def hstep (H:List WT):List WT:=hpush kW (hrest kW (hrest kW H)) ((hlast H).1+(hlast (hrest kW H)).1,.nd (hlast H).2 (hlast (hrest kW H)).2)
section
variable {F0:List Nat} {w0 w:World} {ps rest:List As} {s:Sl} {hb:Nat} {H:List HE} {N:List Nd} {M:Int} {xs:List Int}
end
end Go.Proofs.YthdmmmfgjmmelaaGreat
namespace Go.Proofs.YthdmmmfgjmmelaaGreat
open Go Go.Proofs
set_option linter.unusedVariables false
set_option linter.unusedSimpArgs false
attribute [local irreducible] apK cpK mkK br
section
variable {xs:List Int} {M:Nat}
theorem lenP_ok (h:(qyd xs).length≤2 ^ M) (h1:1≤M) (hM:M≤15):okL (lenP xs M):=by
 intro x hx
 obtain ⟨i,hi,rfl⟩:=List.mem_iff_getElem.1 hx
 have e:(lenP xs M)[i]=(lenP xs M).getD i 0:=by rw [List.getD,List.getElem?_eq_getElem hi]; rfl
 rw [qii] at hi
 rw [e,qwp hi]
 have:=lenF_ok h h1 hi
 omega
theorem kr_sum (h:(qyd xs).length≤2 ^ M) (h1:1≤M):kr (lenP xs M)=((qyd xs).map fun i=>2 ^ (15 - lenF xs M i)).sum:=by
 unfold kr lenP qzk
 rw [List.map_map]
 have:=come_sum xs (fun i=>decide (0 < xs.getD i 0)) (fun i=>2 ^ (15 - lenF xs M i)) xs.length
 unfold qyd
 rw [← this]
 congr 1
 refine List.map_congr_left fun i hi=>?_
 have h2:=lenF_ok h h1 (List.mem_range.1 hi)
 show (if 0 < ((lenF xs M i:Nat):Int) then 2 ^ (15 - ((lenF xs M i:Nat):Int).toNat) else 0)=_
 rw [Int.toNat_natCast]
 by_cases h0:0 < xs.getD i 0
 · rw [if_pos (by omega),if_pos (by simpa using h0)]
 · rw [if_neg (by omega),if_neg (by simpa using h0)]
theorem few_sum {g:Nat→Nat} (h:(qyd xs).length=1):((qyd xs).map fun i=>g (lenF xs M i)).sum=g 1:=by
 obtain ⟨c,hc⟩:=List.length_eq_one_iff.1 h
 have hm:c ∈ qyd xs:=by rw [hc]; exact List.mem_singleton.2 rfl
 have:lenF xs M c=1:=by
  unfold lenF
  rw [if_pos (by omega),if_pos (qnh.1 hm).2]
 rw [hc]
 simp [this]
theorem kr_lenP (h:(qyd xs).length≤2 ^ M) (h1:1≤M) (hM:M≤15):kr (lenP xs M)≤32768∧(2≤(qyd xs).length→kr (lenP xs M)=32768):=by
 rw [kr_sum h h1]
 rcases Nat.lt_or_ge (qyd xs).length 2 with h2 | h2
 · refine ⟨?_,fun h=>by omega⟩
   rcases Nat.lt_or_ge 0 (qyd xs).length with h3 | h3
   · rw [few_sum (g:=fun x=>2 ^ (15 - x)) (by omega)]; decide
   · rw [List.length_eq_zero_iff.1 (show (qyd xs).length=0 by omega)]; simp
 · have:=lenF_full h h2 15 hM
   rw [this]
   exact ⟨by decide,fun _=>by decide⟩
theorem lenP_chk (hg:xs.length≤288) (h:(qyd xs).length≤2 ^ M) (h1:1≤M) (hM:M≤15):(qvk (lenP xs M)).2=0∧(qvk (lenP xs M)).1=decide (kr (lenP xs M)=32768):=by
 have hk:=(kr_lenP h h1 hM).1
 unfold qvk
 rw [if_neg (by rw [qii]; omega),if_neg (fun e=>e (lenP_ok h h1 hM)),if_neg (by omega)]
 exact ⟨rfl,rfl⟩
theorem lenP_new (hg:xs.length≤288) (h:(qyd xs).length≤2 ^ M) (h1:1≤M) (hM:M≤15):qji (lenP xs M) true=0:=by
 obtain ⟨hc,hc2⟩:=lenP_chk hg h h1 hM
 unfold qji
 rw [if_neg (fun e=>e hc),hc2]
 rcases Nat.lt_or_ge (qyd xs).length 2 with h2 | h2
 · rw [if_neg]
   rintro ⟨_,e⟩
   rw [Bool.true_and,qro (lenP_ok h h1 hM)] at e
   have e:=of_decide_eq_false e
   have e2:(lenP xs M).filter (0 < ·)=(qyd xs).map fun _=>(1:Int):=by
    unfold lenP qzk
    rw [List.filter_map]
    unfold qyd
    have e3:∀ l:List Nat,(∀ i ∈ l,i < xs.length)→(l.filter ((fun x=>decide ((0:Int) < x)) ∘ fun i=>(lenF xs M i:Int))).map (fun i=>(lenF xs M i:Int))=(l.filter fun i=>decide (0 < xs.getD i 0)).map fun _=>(1:Int):=by
     intro l
     induction l with
     | nil=>intro _; rfl
     | cons a l ih =>
       intro hl
       rw [List.filter_cons,List.filter_cons]
       have:lenF xs M a=if 0 < xs.getD a 0 then 1 else 0:=by unfold lenF; rw [if_pos h2]
       have ih:=ih (fun i hi=>hl i (by simp [hi]))
       by_cases h0:0 < xs.getD a 0
       · rw [if_pos h0] at this
         rw [if_pos (by simp [this]),if_pos (by simpa using h0),List.map_cons,List.map_cons,ih,this]; rfl
       · rw [if_neg h0] at this
         rw [if_neg (by simp [this]),if_neg (by simpa using h0),ih]
    exact e3 _ (fun i hi=>List.mem_range.1 hi)
   rw [e2] at e
   have e4:∀ l:List Nat,(l.map fun _=>(1:Int)).sum=l.length:=by
    intro l
    induction l with
    | nil=>rfl
    | cons a l ih=>rw [List.map_cons,List.sum_cons,ih,List.length_cons]; omega
   rw [e4] at e
   omega
 · rw [if_neg]
   rintro ⟨e,_⟩
   have:=of_decide_eq_false e
   exact this ((kr_lenP h h1 hM).2 h2)
end
section
variable {F0:List Nat} {w0 w:World} {ps rest:List As} {s t:Sl} {xs:List Int} {M:Nat}
end
end Go.Proofs.YthdmmmfgjmmelaaGreat
namespace Go.Proofs.YthdmmmfgjmmelaaGreat
open Go Go.Proofs
set_option linter.unusedVariables false
set_option linter.unusedSimpArgs false
attribute [local irreducible] apK cpK mkK br
def pcC (p:Pc):List Value:=[.int .i64 p.1,.int .i64 p.2.1,.int .i64 p.2.2]
theorem qjh (p:Pc):∀ v ∈ (⟨pcC p⟩:Array Value),storable v:=by
 intro v hv
 have:v ∈ pcC p:=by simpa using hv
 rcases List.mem_cons.1 this with rfl | this
 · trivial
 · rcases List.mem_cons.1 this with rfl | this
   · trivial
   · rcases List.mem_cons.1 this with rfl | this
     · trivial
     · cases this
theorem qjj:zc Tryz.prog 307=⟨pcC (0,0,0)⟩:=by kernel_rfl
section
variable {F0:List Nat} {w0 w:World} {ps rest rest2 rest3:List As}
theorem qwe.c {v:Int} {K:Ending→World→Prop} (h:St F0 w0 w ps) (h3:0≤v) (h258:v≤100000) (hk:∀ w',St F0 w0 w' ps→K (.returned (.agg ⟨pcC (ofLen v)⟩)) w') :
 Calls Tryz.prog 272 ⟨[.int .i64 v,.int .i64 257,.func (.func 273) ⟨[]⟩ ⟨[]⟩]⟩ w K:=by
 refine qnc (qwe.ok _ _ _ _ ?_)
 unfold qwe
 rw [qjj]
 refine h.new fun tb w h=>?_
 unfold qwe.j1
 rw [qjj]
 refine h.new fun pb w h=>⟨rfl,?_⟩
 have h:St F0 w0 w (qjd pb (pcC (0,0,0)) :: qjd tb (pcC (0,0,0)) :: ps):=h
 refine h.sA (l':=pcC (0,0,0)) rfl rfl (qjh _) fun w h=>?_
 unfold qwe.j2
 refine qpg (fun (a:Nat × Pc) (k':Int) w'=>k'=257+((40 - a.1:Nat):Int)∧a.1≤40∧11≤a.1∧ofG qri v a.1 k' a.2=ofLen v∧St F0 w0 w' (qjd pb (pcC a.2) :: qjd tb (pcC (0,0,0)) :: ps)) (fun a=>a.1) (40,(0,0,0)) ⟨rfl,Nat.le_refl _,by decide,rfl,h⟩ ?_
 clear h
 rintro ⟨f,p⟩ k' wL I μ ⟨hk',hf,hf2,hof,h⟩ hin
 simp only at hk' hf hf2 hof h hin ⊢
 unfold qwe.b1
 refine qpc.c h ⟨_,_,_,rfl,?_⟩
 obtain ⟨f,rfl⟩:∃ g,f=g+1:=⟨f - 1,by omega⟩
 rw [ofG] at hof
 have done:p=ofLen v→ldA wL ⟨pb,0,none⟩ 3 fun c6=>c6.size=3∧stA wL ⟨tb,0,none⟩ c6 fun w7=>ldA w7 ⟨tb,0,none⟩ 3 fun c8=>K (.returned (.agg c8)) w7:=by
  intro e
  refine h.lA (b:=pb) rfl ⟨rfl,?_⟩
  refine St.sA (b:=tb) (l:=pcC (0,0,0)) h (l':=pcC p) rfl rfl (qjh _) fun w h=>?_
  refine h.lA (b:=tb) rfl ?_
  rw [e]
  exact hk w h.drop.drop
 refine qqe (fun g=>?_) (fun g=>?_)
 · have g:(qri k').2.2=false:=by simpa using g
   rw [if_pos (Or.inl g)] at hof
   exact done hof
 have g:(qri k').2.2=true:=by simpa using g
 refine qxc (fun g2=>?_) (fun g2=>?_)
 · rw [if_pos (Or.inr g2)] at hof
   exact done hof
 rw [if_neg (by rintro (e | e); rw [e] at g; cases g; exact g2 e)] at hof
 have hle:k'≤285:=by
  rcases Int.lt_or_le 285 k' with e | e
  · unfold qri at g
    rw [if_pos (Or.inr e)] at g
    cases g
  · exact e
 have hb:=zlen_b k'
 refine qw (qi (by omega) (by omega)) ⟨rfl,?_⟩
 refine h.sA (b:=pb) (l':=pcC (k',v - (qri k').1,(qri k').2.1)) rfl rfl (qjh _) fun w h=>?_
 refine qw (qi (by omega) (by omega)) ?_
 exact ⟨⟨rfl,rfl,rfl⟩,hin (f,(k',v - (qri k').1,(qri k').2.1)) _ _ ⟨by omega,by omega,by omega,hof,h⟩ (by simp only; omega)⟩
theorem qxe.c {v:Int} {K:Ending→World→Prop} (h:St F0 w0 w ps) (h3:0≤v) (h258:v≤100000) (hk:∀ w',St F0 w0 w' ps→K (.returned (.agg ⟨pcC (ofDis v)⟩)) w') :
 Calls Tryz.prog 272 ⟨[.int .i64 v,.int .i64 0,.func (.func 274) ⟨[]⟩ ⟨[]⟩]⟩ w K:=by
 refine qnc (qxe.ok _ _ _ _ ?_)
 unfold qxe
 rw [qjj]
 refine h.new fun tb w h=>?_
 unfold qxe.j1
 rw [qjj]
 refine h.new fun pb w h=>⟨rfl,?_⟩
 have h:St F0 w0 w (qjd pb (pcC (0,0,0)) :: qjd tb (pcC (0,0,0)) :: ps):=h
 refine h.sA (l':=pcC (0,0,0)) rfl rfl (qjh _) fun w h=>?_
 unfold qxe.j2
 refine qpg (fun (a:Nat × Pc) (k':Int) w'=>k'=((40 - a.1:Nat):Int)∧a.1≤40∧10≤a.1∧ofG qei v a.1 k' a.2=ofDis v∧St F0 w0 w' (qjd pb (pcC a.2) :: qjd tb (pcC (0,0,0)) :: ps)) (fun a=>a.1) (40,(0,0,0)) ⟨rfl,Nat.le_refl _,by decide,rfl,h⟩ ?_
 clear h
 rintro ⟨f,p⟩ k' wL I μ ⟨hk',hf,hf2,hof,h⟩ hin
 simp only at hk' hf hf2 hof h hin ⊢
 unfold qxe.b1
 refine qkc.c h ⟨_,_,_,rfl,?_⟩
 obtain ⟨f,rfl⟩:∃ g,f=g+1:=⟨f - 1,by omega⟩
 rw [ofG] at hof
 have done:p=ofDis v→ldA wL ⟨pb,0,none⟩ 3 fun c6=>c6.size=3∧stA wL ⟨tb,0,none⟩ c6 fun w7=>ldA w7 ⟨tb,0,none⟩ 3 fun c8=>K (.returned (.agg c8)) w7:=by
  intro e
  refine h.lA (b:=pb) rfl ⟨rfl,?_⟩
  refine St.sA (b:=tb) (l:=pcC (0,0,0)) h (l':=pcC p) rfl rfl (qjh _) fun w h=>?_
  refine h.lA (b:=tb) rfl ?_
  rw [e]
  exact hk w h.drop.drop
 refine qqe (fun g=>?_) (fun g=>?_)
 · have g:(qei k').2.2=false:=by simpa using g
   rw [if_pos (Or.inl g)] at hof
   exact done hof
 have g:(qei k').2.2=true:=by simpa using g
 refine qxc (fun g2=>?_) (fun g2=>?_)
 · rw [if_pos (Or.inr g2)] at hof
   exact done hof
 rw [if_neg (by rintro (e | e); rw [e] at g; cases g; exact g2 e)] at hof
 have hle:k'≤29:=by
  rcases Int.lt_or_le 29 k' with e | e
  · unfold qei at g
    rw [if_pos (Or.inr (show 30≤k' by omega))] at g
    cases g
  · exact e
 have hb:=zdis_b k'
 refine qw (qi (by omega) (by omega)) ⟨rfl,?_⟩
 refine h.sA (b:=pb) (l':=pcC (k',v - (qei k').1,(qei k').2.1)) rfl rfl (qjh _) fun w h=>?_
 refine qw (qi (by omega) (by omega)) ?_
 exact ⟨⟨rfl,rfl,rfl⟩,hin (f,(k',v - (qei k').1,(qei k').2.1)) _ _ ⟨by omega,by omega,by omega,hof,h⟩ (by simp only; omega)⟩
def qej (t:Tk):Pc × Pc × Bool:=if t.2.1=0 then ((t.1,0,0),(0,0,0),false) else (ofLen t.2.1,ofDis t.2.2,true)
def tkOk (t:Tk):Prop:=(0≤t.1∧t.1 < 256)∧(t.2.1 ≠ 0→(3≤t.2.1∧t.2.1≤258)∧1≤t.2.2∧t.2.2≤32768)
theorem qxf.tkOk {b:List Int} (hb:∀ x ∈ b,0≤x∧x < 256) {n m:Nat} {L:List Tk} (h:qxf b n L m):∀ t ∈ L,tkOk t:=by
 induction h with
 | nil n=>intro t ht; cases ht
 | @lit n m r h _ ih =>
   intro t ht
   rcases List.mem_cons.1 ht with rfl | ht
   · exact ⟨hb _ (qde h),fun e=>absurd rfl e⟩
   · exact ih t ht
 | @copy n m k d r h3 h258 hd hdn hdf hk hs _ ih =>
   intro t ht
   rcases List.mem_cons.1 ht with rfl | ht
   · exact ⟨⟨Int.le_refl _,by show (0:Int) < 256; decide⟩,fun _=>⟨⟨by show (3:Int)≤(k:Int); omega,by show (k:Int)≤258; omega⟩,by show (1:Int)≤(d:Int); omega,by show (d:Int)≤32768; omega⟩⟩
   · exact ih t ht
theorem qfi.c {t:Tk} {K:Ending→World→Prop} (h:St F0 w0 w ps) (ht:tkOk t)
 (hk:∀ w',St F0 w0 w' ps→K (.returned (.tuple ⟨[.agg ⟨pcC (qej t).1⟩,.agg ⟨pcC (qej t).2.1⟩,.bool (qej t).2.2]⟩)) w'):Calls Tryz.prog 198 ⟨[.agg ⟨tkC t⟩]⟩ w K:=by
 refine qnc (qfi.ok _ _ _ ?_)
 unfold qfi
 refine h.new fun tb w h=>?_
 have h:St F0 w0 w (qjd tb (tkC t) :: ps):=h
 rw [qjj]
 refine h.new fun ab w h=>?_
 refine h.new fun bb w h=>?_
 have h:St F0 w0 w (qjd bb (pcC (0,0,0)) :: qjd ab (pcC (0,0,0)) :: qjd tb [.int .u8 t.1,.int .i64 t.2.1,.int .i64 t.2.2] :: ps):=h
 simp only [qnf,Nat.zero_add]
 refine h.fI (b:=tb) ?_
 unfold qej at hk
 refine qqe (fun g=>?_) (fun g=>?_)
 · have g:t.2.1=0:=by simpa using g
   rw [if_pos g] at hk
   refine h.fI (b:=tb) ?_
   refine qw (qi (by have:=ht.1; omega) (by have:=ht.1; omega)) ⟨rfl,?_⟩
   refine h.sA (b:=ab) (l':=pcC (t.1,0,0)) rfl rfl (qjh _) fun w h=>⟨rfl,?_⟩
   refine h.sA (b:=bb) (l':=pcC (0,0,0)) rfl rfl (qjh _) fun w h=>?_
   refine h.lA (b:=ab) rfl ?_
   refine h.lA (b:=bb) rfl ?_
   exact hk w h.sub
 · have g:t.2.1 ≠ 0:=by simpa using g
   rw [if_neg g] at hk
   obtain ⟨_,ht2⟩:=ht
   have ht2:=ht2 g
   refine h.drewK fun w h=>?_
   refine h.fI (b:=tb) ⟨?_,?_⟩
   · refine qwe.c h (by omega) (by omega) fun w h=>⟨_,rfl,?_⟩
     refine h.fI (b:=tb) ?_
     refine qxe.c h (by omega) (by omega) fun w h=>⟨_,rfl,rfl,?_⟩
     refine h.sA (b:=ab) (l':=pcC (ofLen t.2.1)) rfl rfl (qjh _) fun w h=>⟨rfl,?_⟩
     refine h.sA (b:=bb) (l':=pcC (ofDis t.2.2)) rfl rfl (qjh _) fun w h=>?_
     refine h.lA (b:=ab) rfl ?_
     refine h.lA (b:=bb) rfl ?_
     exact hk w h.sub
   · refine h.fI (b:=tb) ?_
     refine qwe.c h (by omega) (by omega) fun w h=>⟨_,rfl,?_⟩
     refine qxe.c h (by omega) (by omega) fun w h=>⟨_,rfl,rfl,?_⟩
     refine h.sA (b:=ab) (l':=pcC (ofLen t.2.1)) rfl rfl (qjh _) fun w h=>⟨rfl,?_⟩
     refine h.sA (b:=bb) (l':=pcC (ofDis t.2.2)) rfl rfl (qjh _) fun w h=>?_
     refine h.lA (b:=ab) rfl ?_
     refine h.lA (b:=bb) rfl ?_
     exact hk w h.sub
end
end Go.Proofs.YthdmmmfgjmmelaaGreat
namespace Go.Proofs.YthdmmmfgjmmelaaGreat
open Go Go.Proofs
set_option linter.unusedVariables false
set_option linter.unusedSimpArgs false
attribute [local irreducible] apK cpK mkK br
def qsl (n:Nat) (S:List Nat):List Int:=qzk n fun i=>(S.count i:Int)
theorem qrd (n:Nat) (S:List Nat):(qsl n S).length=n:=qid _ _
theorem qvo {n i:Nat} (S:List Nat) (h:i < n):(qsl n S).getD i 0=(S.count i:Int):=quf (f:=fun i=>(S.count i:Int)) h
theorem cntL_nil (n:Nat):qsl n []=List.replicate n 0:=by
 rw [qok]
 exact qpd fun i _=>by simp
theorem qrl {n s:Nat} (S:List Nat) (hs:s < n):(qsl n S).set s ((qsl n S).getD s 0+1)=qsl n (S ++ [s]):=by
 rw [qvo S hs]
 unfold qsl
 rw [qnj]
 refine qpd fun i hi=>?_
 rw [List.count_append]
 by_cases e:i=s
 · rw [if_pos e,e]; simp
 · rw [if_neg e]
   have:[s].count i=0:=List.count_eq_zero.2 (by simpa using e)
   rw [this]; simp
theorem qbj {n:Nat} {S:List Nat} (i:Nat):0≤(qsl n S).getD i 0∧(qsl n S).getD i 0≤S.length:=by
 rcases Nat.lt_or_ge i n with h | h
 · rw [qvo S h]
   have:=List.count_le_length (a:=i) (l:=S)
   omega
 · have e:(qsl n S).getD i 0=0:=by
    rw [List.getD_eq_getElem?_getD,List.getElem?_eq_none (by rw [qrd]; exact h)]; rfl
   rw [e]; omega
theorem qpq {n:Nat} {S:List Nat} (hn:n≤288) (hS:S.length≤16777216):goodX (qsl n S):=by
 refine ⟨by rw [qrd]; exact hn,fun x hx=>?_⟩
 obtain ⟨i,hi,rfl⟩:=List.mem_iff_getElem.1 hx
 have e:(qsl n S)[i]=(qsl n S).getD i 0:=by rw [List.getD,List.getElem?_eq_getElem hi]; rfl
 rw [e]
 have:=qbj (n:=n) (S:=S) i
 unfold badN
 omega
theorem qdm {n i:Nat} {S:List Nat} (h:i < n):0 < (qsl n S).getD i 0 ↔ i ∈ S:=by
 rw [qvo S h,← List.count_pos_iff (a:=i) (l:=S)]
 omega
def litS (t:Tk):Nat:=(qej t).1.1.toNat
def disS (t:Tk):List Nat:=if (qej t).2.2 then [(qej t).2.1.1.toNat] else []
def litC (L:List Tk):List Int:=qsl 286 (L.map litS ++ [256])
def disC (L:List Tk):List Int:=qsl 30 (L.flatMap disS)
theorem lit_lt {t:Tk} (h:tkOk t):0≤(qej t).1.1∧(qej t).1.1 < 286:=by
 unfold qej
 by_cases g:t.2.1=0
 · rw [if_pos g]
   have:=h.1
   simp only; omega
 · rw [if_neg g]
   have:=qwl (qyl (h.2 g).1.1 (h.2 g).1.2)
   simp only; omega
theorem symP_dis {n s e x:Int} (h:symP n true s e x):0≤s∧s < 30:=by
 rcases h with ⟨_,h1,h2,_⟩ | ⟨h1,_⟩
 · exact ⟨h1,h2⟩
 · cases h1
theorem dis_lt {t:Tk} (h:tkOk t) (hc:(qej t).2.2=true):0≤(qej t).2.1.1∧(qej t).2.1.1 < 30:=by
 unfold qej at hc ⊢
 by_cases g:t.2.1=0
 · rw [if_pos g] at hc; cases hc
 · rw [if_neg g]
   exact symP_dis (qdk (h.2 g).2.1 (h.2 g).2.2)
theorem disS_len (L:List Tk):(L.flatMap disS).length≤L.length:=by
 induction L with
 | nil=>exact Nat.le_refl _
 | cons t L ih =>
   rw [List.flatMap_cons,List.length_append,List.length_cons]
   have:(disS t).length≤1:=by unfold disS; split <;> simp
   omega
section
variable {F0:List Nat} {w0 w:World} {ps rest rest2 rest3:List As} {L:List Tk}
theorem St.pcN {p q:Pc} {K:Addr→Addr→World→Prop} (h:St F0 w0 w ps) (hk:∀ a b w',St F0 w0 w' (qjd b (pcC q) :: qjd a (pcC p) :: ps)→K ⟨a,0,none⟩ ⟨b,0,none⟩ w') :
 lt (⟨World.heapSize w,0,none⟩:Addr) fun a=>lt (World.alloc w (.cells (zc Tryz.prog 307) 307)) fun w1 =>
 lt (⟨World.heapSize w1,0,none⟩:Addr) fun b=>lt (World.alloc w1 (.cells (zc Tryz.prog 307) 307)) fun w2 =>
 (⟨pcC p⟩:Array Value).size=3∧Go.Proofs.YthdmmmfgjmmelaaGreat.stA w2 a ⟨pcC p⟩ fun w3=>(⟨pcC q⟩:Array Value).size=3∧Go.Proofs.YthdmmmfgjmmelaaGreat.stA w3 b ⟨pcC q⟩ fun w4=>K a b w4:=by
 rw [qjj]
 refine h.new fun a w h=>?_
 refine h.new fun b w h=>⟨rfl,?_⟩
 have h:St F0 w0 w (qjd b (pcC (0,0,0)) :: qjd a (pcC (0,0,0)) :: ps):=h
 refine h.sA (b:=a) (l':=pcC p) rfl rfl (qjh _) fun w h=>⟨rfl,?_⟩
 refine h.sA (b:=b) (l':=pcC q) rfl rfl (qjh _) fun w h=>?_
 exact hk a b w h.sub
theorem qkd.go {s A B:Sl} {kb:Nat} {K:Ending→World→Prop} (h:St F0 w0 w (qjd kb [.slice s.a s.len s.cap,.slice A.a A.len A.cap,.slice B.a B.len B.cap] :: qmc 1 A (ivs .i64 (List.replicate 286 0)) :: qmc 1 B (ivs .i64 (List.replicate 30 0)) :: ps))
 [Rdb F0 w0 s ps 3 (tks L)] (hok:∀ t ∈ L,tkOk t) (hL:L.length≤1000000)
 (hk:∀ w',St F0 w0 w' (qjd kb [.slice s.a s.len s.cap,.slice A.a A.len A.cap,.slice B.a B.len B.cap] :: qmc 1 A (ivs .i64 (litC L)) :: qmc 1 B (ivs .i64 (disC L)) :: ps)→K (.returned (.pointer (some ⟨kb,0,none⟩))) w') :
 qkd.j1 s (some ⟨kb,0,none⟩) (fun v w'=>K (.returned v) w') w:=by
 have hl:=(h.rdb s).1
 rw [qrh] at hl
 rw [← cntL_nil,← cntL_nil] at h
 unfold litC disC at hk
 unfold qkd.j1 qkd.j3
 refine qpg (fun (i:Nat) (i':Int) w'=>i'=i∧i≤L.length∧St F0 w0 w' (qjd kb [.slice s.a s.len s.cap,.slice A.a A.len A.cap,.slice B.a B.len B.cap] :: qmc 1 A (ivs .i64 (qsl 286 ((L.take i).map litS))) :: qmc 1 B (ivs .i64 (qsl 30 ((L.take i).flatMap disS))) :: ps)) (fun i=>L.length - i) 0 ⟨rfl,by omega,by simpa using h⟩ ?_
 clear h
 rintro i i' wL I μ ⟨rfl,hi,h⟩ hin
 have s1:=qbj (n:=286) (S:=(L.take i).map litS)
 have s2:=qbj (n:=30) (S:=(L.take i).flatMap disS)
 have s3:=disS_len (L.take i)
 simp only [List.length_map,List.length_take] at s1 s2 s3
 unfold qkd.b1
 refine qxc (fun g=>?_) (fun g=>?_)
 · have hi2:i < L.length:=by omega
   have htk:=hok _ (List.getElem_mem hi2)
   have et:L.take (i+1)=L.take i ++ [L[i]]:=List.take_succ_eq_append_getElem hi2
   refine h.ltok (s:=s) i rfl hi2 ?_
   refine h.tokN (t:=L[i]) fun nb w h=>?_
   refine h.lA (b:=nb) rfl ?_
   refine qfi.c h htk fun w h=>⟨_,_,_,rfl,?_⟩
   refine h.pcN (p:=(qej L[i]).1) (q:=(qej L[i]).2.1) fun a b w h=>?_
   have h:St F0 w0 w (qjd b [.int .i64 (qej L[i]).2.1.1,.int .i64 (qej L[i]).2.1.2.1,.int .i64 (qej L[i]).2.1.2.2] :: qjd a [.int .i64 (qej L[i]).1.1,.int .i64 (qej L[i]).1.2.1,.int .i64 (qej L[i]).1.2.2] :: qjd nb (tkC L[i]) :: qjd kb [.slice s.a s.len s.cap,.slice A.a A.len A.cap,.slice B.a B.len B.cap] :: qmc 1 A (ivs .i64 (qsl 286 ((L.take i).map litS))) :: qmc 1 B (ivs .i64 (qsl 30 ((L.take i).flatMap disS))) :: ps):=h
   refine h.drewK fun w h=>?_
   refine qod ?_
   simp only [qnf,Nat.zero_add]
   have hs:=lit_lt htk
   have es:(qej L[i]).1.1=((litS L[i]:Nat):Int):=by unfold litS; omega
   have hls:litS L[i] < 286:=by unfold litS; omega
   have hc1:=s1 (litS L[i])
   refine h.fL (b:=kb) ?_
   refine h.fI (b:=a) ?_
   refine h.lx (s:=A) (litS L[i]) es (by rw [qrd]; exact hls) ?_
   refine qw (qi (by omega) (by omega)) ?_
   refine h.sx (s:=A) (litS L[i]) es (by rw [qrd]; exact hls) fun w h=>?_
   rw [qrl _ hls] at h
   have e1:(L.take i).map litS ++ [litS L[i]]=(L.take (i+1)).map litS:=by rw [et,List.map_append]; rfl
   rw [e1] at h
   refine qqe (fun gc=>?_) (fun gc=>?_)
   · refine h.drewK fun w h=>?_
     refine qod ?_
     have hd:=dis_lt htk gc
     have ed:(qej L[i]).2.1.1=(((qej L[i]).2.1.1.toNat:Nat):Int):=by omega
     generalize hD:(qej L[i]).2.1.1.toNat=D at ed
     have hc2:=s2 D
     refine h.fL (b:=kb) ?_
     refine h.fI (b:=b) ?_
     refine h.lx (s:=B) D ed (by rw [qrd]; omega) ?_
     refine qw (qi (by omega) (by omega)) ?_
     refine h.sx (s:=B) D ed (by rw [qrd]; omega) fun w h=>?_
     rw [qrl _ (by omega)] at h
     have e2:(L.take i).flatMap disS ++ [D]=(L.take (i+1)).flatMap disS:=by
      rw [et,List.flatMap_append]
      congr 1
      simp only [List.flatMap_cons,List.flatMap_nil,List.append_nil]
      unfold disS
      rw [if_pos gc,hD]
     rw [e2] at h
     refine qw (qi (by omega) (by omega)) ?_
     exact ⟨⟨by trivial,by trivial,by trivial⟩,hin (i+1) _ _ ⟨by omega,by omega,h.sub⟩ (by omega)⟩
   · have e2:(L.take i).flatMap disS=(L.take (i+1)).flatMap disS:=by
      rw [et,List.flatMap_append]
      simp only [List.flatMap_cons,List.flatMap_nil,List.append_nil]
      unfold disS
      rw [if_neg (by rw [gc]; decide),List.append_nil]
     rw [e2] at h
     refine qw (qi (by omega) (by omega)) ?_
     exact ⟨⟨by trivial,by trivial,by trivial⟩,hin (i+1) _ _ ⟨by omega,by omega,h.sub⟩ (by omega)⟩
 · have:i=L.length:=by omega
   subst this
   rw [List.take_length] at h s1
   unfold qkd.j2
   refine qod ?_
   simp only [qnf,Nat.zero_add]
   have hc1:=s1 256
   refine h.fL (b:=kb) ?_
   refine h.lx (s:=A) 256 rfl (by rw [qrd]; decide) ?_
   refine qw (qi (by omega) (by omega)) ?_
   refine h.sx (s:=A) 256 rfl (by rw [qrd]; decide) fun w h=>?_
   rw [qrl _ (by decide)] at h
   exact hk w h.sub
theorem qkd.c {s:Sl} {K:Ending→World→Prop} (h:St F0 w0 w ps) [Rdb F0 w0 s ps 3 (tks L)] (hok:∀ t ∈ L,tkOk t) (hL:L.length≤1000000)
 (hk:∀ kb A B w',A.len=286→B.len=30→St F0 w0 w' (qjd kb [.slice s.a s.len s.cap,.slice A.a A.len A.cap,.slice B.a B.len B.cap] :: rdA 1 A (ivs .i64 (litC L)) :: rdA 1 B (ivs .i64 (disC L)) :: ps)→K (.returned (.pointer (some ⟨kb,0,none⟩))) w') :
 Calls Tryz.prog 129 ⟨[.slice s.a s.len s.cap]⟩ w K:=by
 refine qnc (qkd.ok _ _ _ ?_)
 unfold qkd
 have fin:∀ (kb:Nat) (A B:Sl) w',St F0 w0 w' (qjd kb [.slice s.a s.len s.cap,.slice A.a A.len A.cap,.slice B.a B.len B.cap] :: qmc 1 A (ivs .i64 (litC L)) :: qmc 1 B (ivs .i64 (disC L)) :: ps)→K (.returned (.pointer (some ⟨kb,0,none⟩))) w':=by
  intro kb A B w' h
  have l1:=h.drop.len
  have l2:=h.drop.drop.len
  rw [qx,litC,qrd] at l1
  rw [qx,disC,qrd] at l2
  exact hk kb A B w' (by omega) (by omega) (h.tail fun _ _ _ h=>(h.tail fun _ _ _ h=>h.ro).ro)
 refine h.drewK fun w h=>⟨?_,?_⟩
 · refine h.makeI (k:=.i64) (n:=286) rfl rfl (by decide) fun A w _ _ h=>?_
   refine h.makeI (k:=.i64) (n:=30) rfl rfl (by decide) fun B w _ _ h=>?_
   refine h.new fun kb w h=>?_
   have h:St F0 w0 w (qjd kb [.slice s.a s.len s.cap,.slice A.a A.len A.cap,.slice B.a B.len B.cap] :: qmc 1 B (ivs .i64 (List.replicate 30 0)) :: qmc 1 A (ivs .i64 (List.replicate 286 0)) :: ps):=h
   exact qkd.go (A:=A) (B:=B) h.sub hok hL (fin kb A B)
 · refine h.makeI (k:=.i64) (n:=30) rfl rfl (by decide) fun B w _ _ h=>?_
   refine h.makeI (k:=.i64) (n:=286) rfl rfl (by decide) fun A w _ _ h=>?_
   refine h.new fun kb w h=>?_
   have h:St F0 w0 w (qjd kb [.slice s.a s.len s.cap,.slice A.a A.len A.cap,.slice B.a B.len B.cap] :: qmc 1 A (ivs .i64 (List.replicate 286 0)) :: qmc 1 B (ivs .i64 (List.replicate 30 0)) :: ps):=h
   exact qkd.go (A:=A) (B:=B) h hok hL (fin kb A B)
theorem qzp {ls:List Int} {s:Int} (h0:0≤s) (h:inC ls s.toNat):hput ls s=quc ls s.toNat:=by
 unfold hput
 rw [if_pos ⟨h0,by have:=h.1; omega,by have:=h.2; omega⟩]
 rfl
theorem qzg {ls:List Int} (h:okL ls) (s:Nat):(quc ls s).length≤15:=by
 rw [qmi]
 rcases Nat.lt_or_ge s ls.length with e | e
 · have:=(h _ (qde e)).2
   omega
 · rw [List.getD_eq_getElem?_getD,List.getElem?_eq_none e]
   decide
theorem ofLen_x {v:Int} (h1:3≤v) (h2:v≤258):0≤(ofLen v).2.2∧(ofLen v).2.2≤14:=symP_x (qyl h1 h2)
theorem ofDis_x {v:Int} (h1:1≤v) (h2:v≤32768):0≤(ofDis v).2.2∧(ofDis v).2.2≤14:=symP_x (qdk h1 h2)
theorem tkB_len {ll dl:List Int} (h1:okL ll) (h2:okL dl) {t:Tk} (h:tkOk t):(tkB ll dl t).length≤60:=by
 unfold tkB
 have a1:=qzg h1
 have a2:=qzg h2
 split
 · have:=a1 t.1.toNat; omega
 · rename_i g
   have b1:=a1 (ofLen t.2.1).1.toNat
   have b2:=a2 (ofDis t.2.2).1.toNat
   have b3:=ofLen_x (h.2 g).1.1 (h.2 g).1.2
   have b4:=ofDis_x (h.2 g).2.1 (h.2 g).2.2
   simp only [List.length_append,qq]
   omega
theorem tksB_len {ll dl:List Int} (h1:okL ll) (h2:okL dl) (h:∀ t ∈ L,tkOk t):(tksB ll dl L).length≤60 * L.length:=by
 induction L with
 | nil=>exact Nat.le_refl _
 | cons t L ih =>
   have:=tkB_len h1 h2 (h t (by simp))
   have:=ih fun t ht=>h t (by simp [ht])
   unfold tksB at this ⊢
   rw [List.flatMap_cons,List.length_append,List.length_cons]
   omega
theorem tksB_snoc (ll dl:List Int) (L:List Tk) (t:Tk):tksB ll dl (L ++ [t])=tksB ll dl L ++ tkB ll dl t:=by simp [tksB]
theorem qlc.c {kb wb lb db:Nat} {s A B:Sl} {ll dl:List Int} {l:List Bool} {K:Ending→World→Prop} (h:St F0 w0 w (wrL wb l :: ps)) [PkB kb ps [.slice s.a s.len s.cap,.slice A.a A.len A.cap,.slice B.a B.len B.cap] rest] [PkF hcA lb ps ll rest2] [PkF hcA db ps dl rest3]
 [Rdb F0 w0 s ps 3 (tks L)] (hok:∀ t ∈ L,tkOk t) (hL:L.length≤1000000) (hin:∀ t ∈ L,tkIn ll dl t) (hi:inC ll 256) (h1:okL ll) (h2:okL dl) (hl:l.length≤1000000)
 (hk:∀ w',St F0 w0 w' (wrL wb (l ++ (tksB ll dl L ++ quc ll 256)) :: ps)→K (.returned (.tuple ⟨[]⟩)) w') :
 Calls Tryz.prog 209 ⟨[.pointer (some ⟨kb,0,none⟩),.pointer (some ⟨wb,0,none⟩),.pointer (some ⟨lb,0,none⟩),.pointer (some ⟨db,0,none⟩)]⟩ w K:=by
 have hls:=(h.rdb s).1
 rw [qrh] at hls
 refine qnc (qlc.ok _ _ _ _ _ _ ?_)
 unfold qlc
 refine qod ?_
 simp only [qnf,Nat.zero_add]
 refine h.fL (b:=kb) ?_
 unfold qlc.j2
 refine qpg (fun (i:Nat) (i':Int) w'=>i'=i∧i≤L.length∧St F0 w0 w' (wrL wb (l ++ tksB ll dl (L.take i)) :: ps)) (fun i=>L.length - i) 0 ⟨rfl,by omega,by simpa [tksB] using h⟩ ?_
 clear h
 rintro i i' wL I μ ⟨rfl,hi3,h⟩ hnx
 have hbl:=tksB_len (L:=L.take i) h1 h2 (fun t ht=>hok t (List.mem_of_mem_take ht))
 rw [List.length_take] at hbl
 unfold qlc.b1
 refine qxc (fun g=>?_) (fun g=>?_)
 · have g:(i:Int) < (s.len:Int):=g
   have hi2:i < L.length:=by omega
   have htk:=hok _ (List.getElem_mem hi2)
   have hti:=hin _ (List.getElem_mem hi2)
   have et:L.take (i+1)=L.take i ++ [L[i]]:=List.take_succ_eq_append_getElem hi2
   refine h.ltok (s:=s) i rfl hi2 ?_
   refine h.tokN (t:=L[i]) fun nb w h=>?_
   refine h.lA (b:=nb) rfl ?_
   refine qfi.c h htk fun w h=>⟨_,_,_,rfl,?_⟩
   refine h.pcN (p:=(qej L[i]).1) (q:=(qej L[i]).2.1) fun a b w h=>?_
   have h:St F0 w0 w (qjd b [.int .i64 (qej L[i]).2.1.1,.int .i64 (qej L[i]).2.1.2.1,.int .i64 (qej L[i]).2.1.2.2] :: qjd a [.int .i64 (qej L[i]).1.1,.int .i64 (qej L[i]).1.2.1,.int .i64 (qej L[i]).1.2.2] :: qjd nb (tkC L[i]) :: wrL wb (l ++ tksB ll dl (L.take i)) :: ps):=h
   have h:St F0 w0 w (wrL wb (l ++ tksB ll dl (L.take i)) :: qjd b [.int .i64 (qej L[i]).2.1.1,.int .i64 (qej L[i]).2.1.2.1,.int .i64 (qej L[i]).2.1.2.2] :: qjd a [.int .i64 (qej L[i]).1.1,.int .i64 (qej L[i]).1.2.1,.int .i64 (qej L[i]).1.2.2] :: ps):=h.sub
   simp only [qnf,Nat.zero_add]
   refine h.fI (b:=a) ?_
   refine qff.c (cb:=lb) (ls:=ll) h (by rw [List.length_append]; omega) fun w h=>⟨_,rfl,?_⟩
   have hsl:=lit_lt htk
   have h15:=qzg h1
   have h15d:=qzg h2
   unfold qej at h hsl ⊢
   unfold tkIn at hti
   by_cases gz:L[i].2.1=0
   · rw [if_pos gz] at h hsl hti ⊢
     simp only at h hsl hti ⊢
     refine qik (qw (qi (by omega) (by omega)) ?_)
     rw [qzp hsl.1 hti] at h
     refine ⟨⟨by trivial,by trivial,by trivial,by trivial⟩,hnx (i+1) _ _ ⟨by omega,by omega,?_⟩ (by omega)⟩
     rw [et,tksB_snoc,← List.append_assoc]
     unfold tkB
     rw [if_pos gz]
     exact h.sub
   · rw [if_neg gz] at h hsl hti ⊢
     simp only at h hsl hti ⊢
     have x1:=ofLen_x (htk.2 gz).1.1 (htk.2 gz).1.2
     have x2:=ofDis_x (htk.2 gz).2.1 (htk.2 gz).2.2
     have hd:=symP_dis (qdk (htk.2 gz).2.1 (htk.2 gz).2.2)
     rw [qzp hsl.1 hti.1] at h
     refine qum ?_
     refine h.fI (b:=a) (h.fI (b:=a) ?_)
     have b1:=h15 (ofLen L[i].2.1).1.toNat
     have b2:=h15d (ofDis L[i].2.2).1.toNat
     refine qnb.cl h (by simp only [List.length_append]; omega) fun w h=>⟨rfl,?_⟩
     rw [qpk x1.1 (by omega)] at h
     refine h.fI (b:=b) ?_
     refine qff.c (cb:=db) (ls:=dl) h (by simp only [List.length_append,qq]; omega) fun w h=>⟨_,rfl,?_⟩
     rw [qzp hd.1 hti.2] at h
     refine h.fI (b:=b) (h.fI (b:=b) ?_)
     refine qnb.cl h (by simp only [List.length_append,qq]; omega) fun w h=>⟨rfl,?_⟩
     rw [qpk x2.1 (by omega)] at h
     refine qw (qi (by omega) (by omega)) ?_
     refine ⟨⟨by trivial,by trivial,by trivial,by trivial⟩,hnx (i+1) _ _ ⟨by omega,by omega,?_⟩ (by omega)⟩
     rw [et,tksB_snoc]
     unfold tkB
     rw [if_neg gz]
     simp only [List.append_assoc] at h ⊢
     exact h.sub
 · have g:¬ (i:Int) < (s.len:Int):=g
   have:i=L.length:=by omega
   subst this
   rw [List.take_length] at h hbl
   unfold qlc.j1
   refine qff.c (cb:=lb) (ls:=ll) h (by rw [List.length_append]; omega) fun w h=>⟨_,rfl,?_⟩
   rw [qzp (by decide) hi] at h
   rw [List.append_assoc] at h
   exact hk w h
end
end Go.Proofs.YthdmmmfgjmmelaaGreat
namespace Go.Proofs.YthdmmmfgjmmelaaGreat
open Go Go.Proofs
set_option linter.unusedVariables false
set_option linter.unusedSimpArgs false
attribute [local irreducible] apK cpK mkK br
instance rec_pcC:Rec pcC 3:=⟨fun _=>rfl,fun x v hv=>by
 simp [pcC] at hv
 rcases hv with rfl | rfl | rfl <;> trivial,by decide⟩
instance elt_piece:EltR Tryz.prog 307 3 (pcC (0,0,0)):=⟨⟨Tryz.t307,by kernel_rfl,rfl,by decide,by decide⟩,by kernel_rfl,rfl,by decide⟩
theorem fx_in {t:Tk} (h:tkOk t):tkIn qih qme t:=by
 unfold tkIn
 split
 · have:=h.1
   exact qdq (by omega)
 · rename_i g
   have h1:=qwl (qyl (h.2 g).1.1 (h.2 g).1.2)
   have h2:=symP_dis (qdk (h.2 g).2.1 (h.2 g).2.2)
   exact ⟨qdq (by omega),fdist_in (by omega)⟩
section
variable {F0:List Nat} {w0 w:World} {ps rest rest2 rest3:List As} {s:Sl} {xs:List Int}
theorem qob.step {i:Nat} {o:Sl} {out:List Pc} {Q:VWP} {nx1:Sl→Sl→Int→World→Prop} (h:St F0 w0 w (qmc 3 o (out.flatMap pcC) :: ps)) [Rdb F0 w0 s ps 1 (ivs .i64 xs)] (hL:xs.length≤1000000) (hi:i < xs.length) (ho:out.length≤1000000)
 (hk:∀ o' w',o'.len=o.len+1→St F0 w0 w' (qmc 3 o' ((out ++ [(runP xs i).1]).flatMap pcC) :: ps)→nx1 s o' ((i+(runP xs i).2:Nat):Int) w'):qob.j4 s o (i:Int) Q nx1 w:=by
 have hl:=(h.rdb s).1
 rw [qx] at hl
 unfold qob.j4 qob.j5
 refine qpg (fun (n:Nat) (n':Int) w'=>n'=n∧1≤n∧i+n≤xs.length∧(∀ j,j < n→xs.getD (i+j) 0=xs.getD i 0)∧St F0 w0 w' (qmc 3 o (out.flatMap pcC) :: ps)) (fun n=>xs.length - n) 1 ⟨rfl,by decide,by omega,fun j hj=>by rw [show j=0 by omega]; rfl,h⟩ ?_
 clear h
 rintro n n' wL I μ ⟨rfl,hn1,hn2,hsm,h⟩ hin
 have done:∀ w,(i+n < xs.length→xs.getD (i+n) 0 ≠ xs.getD i 0)→St F0 w0 w (qmc 3 o (out.flatMap pcC) :: ps)→qob.j6 s o (i:Int) (n:Int) Q nx1 w:=by
  intro w hstop h
  have hn:=runK_eq hi hn2 hsm hstop
  subst hn
  have fin:∀ (p:Pc) (n2:Nat) (x:Int) (c:Array Value) w,c=⟨pcC p⟩→runP xs i=(p,n2)→x=n2→n2≤1000000→St F0 w0 w (qmc 3 o (out.flatMap pcC) :: ps) →
   lt (⟨World.heapSize w,0,none⟩:Addr) fun a=>lt (World.alloc w (.cells c 307)) fun w1=>rdO w1 (some a) (1 * 3) fun c=>apK Tryz.prog 307 w1 o.a o.len o.cap 1 c fun s20 w21=>qob.j7 s s20 (i:Int) x Q nx1 w21:=by
   rintro p n2 x c w hc hp rfl hn2 h
   refine h.pushR (s:=o) (x:=p) (by omega) hc fun o2 w h2 h=>?_
   unfold qob.j7
   refine qw (show IntKind.i64.wrap ((i:Int)+(n2:Int))=((i+n2:Nat):Int) by rw [qi (by omega) (by omega)]; omega) ?_
   rw [hp] at hk
   exact hk o2 w h2 h
  have hk1:=runK_pos xs i
  unfold qob.j6
  refine h.lx (s:=s) i rfl hi ?_
  unfold runP at fin
  have j10:∀ (b:Bool) w,(b=true ↔ ((0 < i∧xs.getD i 0=xs.getD (i - 1) 0)∧3≤qoj xs i))→¬ (xs.getD i 0=0∧11≤qoj xs i)→¬ (xs.getD i 0=0∧3≤qoj xs i)→St F0 w0 w (qmc 3 o (out.flatMap pcC) :: ps) →
   qob.j10 s o (i:Int) (qoj xs i:Int) b Q nx1 w:=by
   intro b w hb g1 g2 h
   rw [if_neg g1,if_neg g2] at fin
   unfold qob.j10
   refine qqe (fun g=>?_) (fun g=>?_)
   · have g3:=hb.1 g
     rw [if_pos g3] at fin
     refine qw (show (if (6:Int) < (qoj xs i:Int) then (6:Int) else (qoj xs i:Int))=((min (qoj xs i) 6:Nat):Int) by split <;> omega) ?_
     refine qw (qi (by omega) (by omega)) ⟨rfl,?_⟩
     exact fin (16,((min (qoj xs i) 6:Nat):Int) - 3,2) (min (qoj xs i) 6) _ _ w (by kernel_rfl) rfl rfl (by omega) h
   · have g3:¬ ((0 < i∧xs.getD i 0=xs.getD (i - 1) 0)∧3≤qoj xs i):=fun e=>by rw [hb.2 e] at g; cases g
     rw [if_neg g3] at fin
     refine h.lx (s:=s) i rfl hi ⟨rfl,?_⟩
     exact fin (xs.getD i 0,0,0) 1 _ _ w (by kernel_rfl) rfl rfl (by omega) h
  have j9:∀ (b:Bool) w,(b=true ↔ (xs.getD i 0=0∧3≤qoj xs i))→¬ (xs.getD i 0=0∧11≤qoj xs i)→St F0 w0 w (qmc 3 o (out.flatMap pcC) :: ps)→qob.j9 s o (i:Int) (qoj xs i:Int) b Q nx1 w:=by
   intro b w hb g1 h
   unfold qob.j9
   refine qqe (fun g=>?_) (fun g=>?_)
   · have g3:=hb.1 g
     rw [if_neg g1,if_pos g3] at fin
     refine qw (qi (by omega) (by omega)) ⟨rfl,?_⟩
     exact fin (17,(qoj xs i:Int) - 3,3) (qoj xs i) _ _ w (by kernel_rfl) rfl rfl (by omega) h
   · have g3:¬ (xs.getD i 0=0∧3≤qoj xs i):=fun e=>by rw [hb.2 e] at g; cases g
     refine h.drewK fun w h=>?_
     refine qxc (fun g4=>?_) (fun g4=>?_)
     · refine h.lx (s:=s) i rfl hi ?_
       refine qw (show IntKind.i64.wrap ((i:Int) - 1)=((i - 1:Nat):Int) by rw [qi (by omega) (by omega)]; omega) ?_
       refine h.lx (s:=s) (i - 1) rfl (by omega) ?_
       refine qqe (fun g5=>?_) (fun g5=>?_)
       · have g5:xs.getD i 0=xs.getD (i - 1) 0:=by simpa using g5
         exact j10 _ w ⟨fun e=>⟨⟨by omega,g5⟩,by have:=of_decide_eq_true e; omega⟩,fun e=>decide_eq_true (by have:=e.2; omega)⟩ g1 g3 h
       · have g5:¬ xs.getD i 0=xs.getD (i - 1) 0:=by simpa using g5
         exact j10 _ w ⟨fun e=>(by cases e),fun e=>absurd e.1.2 g5⟩ g1 g3 h
     · exact j10 _ w ⟨fun e=>(by cases e),fun e=>absurd e.1.1 (by omega)⟩ g1 g3 h
  have j8:∀ (b:Bool) w,(b=true ↔ (xs.getD i 0=0∧11≤qoj xs i))→St F0 w0 w (qmc 3 o (out.flatMap pcC) :: ps)→qob.j8 s o (i:Int) (qoj xs i:Int) b Q nx1 w:=by
   intro b w hb h
   unfold qob.j8
   refine qqe (fun g=>?_) (fun g=>?_)
   · have g3:=hb.1 g
     rw [if_pos g3] at fin
     refine qw (show (if (138:Int) < (qoj xs i:Int) then (138:Int) else (qoj xs i:Int))=((min (qoj xs i) 138:Nat):Int) by split <;> omega) ?_
     refine qw (qi (by omega) (by omega)) ⟨rfl,?_⟩
     exact fin (18,((min (qoj xs i) 138:Nat):Int) - 11,7) (min (qoj xs i) 138) _ _ w (by kernel_rfl) rfl rfl (by omega) h
   · have g3:¬ (xs.getD i 0=0∧11≤qoj xs i):=fun e=>by rw [hb.2 e] at g; cases g
     refine h.lx (s:=s) i rfl hi ?_
     refine qqe (fun g5=>?_) (fun g5=>?_)
     · have g5:xs.getD i 0=0:=by simpa using g5
       exact j9 _ w ⟨fun e=>⟨g5,by have:=of_decide_eq_true e; omega⟩,fun e=>decide_eq_true (by have:=e.2; omega)⟩ g3 h
     · have g5:¬ xs.getD i 0=0:=by simpa using g5
       exact j9 _ w ⟨fun e=>(by cases e),fun e=>absurd e.1 g5⟩ g3 h
  refine qqe (fun g5=>?_) (fun g5=>?_)
  · have g5:xs.getD i 0=0:=by simpa using g5
    exact j8 _ w ⟨fun e=>⟨g5,by have:=of_decide_eq_true e; omega⟩,fun e=>decide_eq_true (by have:=e.2; omega)⟩ h
  · have g5:¬ xs.getD i 0=0:=by simpa using g5
    exact j8 _ w ⟨fun e=>(by cases e),fun e=>absurd e.1 g5⟩ h
 unfold qob.b2
 refine h.drewK fun w h=>?_
 have e:IntKind.i64.wrap ((i:Int)+(n:Int))=((i+n:Nat):Int):=by rw [qi (by omega) (by omega)]; omega
 refine qw e ?_
 refine qxc (fun g=>?_) (fun g=>?_)
 · refine qw e ?_
   refine h.lx (s:=s) (i+n) rfl (by omega) ?_
   refine h.lx (s:=s) i rfl hi ?_
   refine qqe (fun g2=>?_) (fun g2=>?_)
   · have g2:xs.getD (i+n) 0=xs.getD i 0:=by simpa using g2
     refine qw (qi (by omega) (by omega)) ?_
     exact ⟨⟨rfl,rfl,rfl⟩,hin (n+1) _ _ ⟨by omega,by omega,by omega,fun j hj=>by
      rcases Nat.lt_or_ge j n with hjn | hjn
      · exact hsm j hjn
      · rw [show j=n by omega]; exact g2,h⟩ (by omega)⟩
   · have g2:¬ xs.getD (i+n) 0=xs.getD i 0:=by simpa using g2
     exact done w (fun _=>g2) h
 · exact done w (fun e=>by omega) h
theorem qob.c {K:Ending→World→Prop} (h:St F0 w0 w ps) [Rdb F0 w0 s ps 1 (ivs .i64 xs)] (hL:xs.length≤1000000)
 (hk:∀ t w',t.len=(runsL xs).length→St F0 w0 w' (qmc 3 t ((runsL xs).flatMap pcC) :: ps)→K (.returned (.slice t.a t.len t.cap)) w'):Calls Tryz.prog 212 ⟨[.slice s.a s.len s.cap]⟩ w K:=by
 have hl:=(h.rdb s).1
 rw [qx] at hl
 refine qnc (qob.ok _ _ _ ?_)
 unfold qob qob.j1 qob.j3
 refine qkh (fun (a:Nat × Nat × List Pc) (o:Sl) (i':Int) w'=>i'=a.2.1∧a.2.1≤xs.length∧xs.length≤a.2.1+a.1∧a.2.2.length≤a.2.1∧a.2.2 ++ runsF xs a.1 a.2.1=runsL xs∧o.len=a.2.2.length∧St F0 w0 w' (qmc 3 o (a.2.2.flatMap pcC) :: ps)) (fun a=>xs.length - a.2.1) (xs.length,0,[])
  ⟨rfl,by simp,by simp,by simp,rfl,rfl,h.nil 3⟩ ?_
 clear h
 rintro ⟨f,i,out⟩ o i' wL I μ ⟨rfl,hi,hf,ho,hr,hol,h⟩ hin
 simp only at hi hf ho hr hol h hin ⊢
 unfold qob.b1
 refine qxc (fun g=>?_) (fun g=>?_)
 · have hi2:i < xs.length:=by omega
   obtain ⟨f,rfl⟩:∃ k,f=k+1:=⟨f - 1,by omega⟩
   rw [runsF,if_neg (by omega)] at hr
   have hp:=runP_pos xs i
   have hle:=runP_le hi2
   refine qob.step (o:=o) (out:=out) h hL hi2 (by omega) fun o' w' h1 h=>?_
   refine ⟨rfl,hin (f,i+(runP xs i).2,out ++ [(runP xs i).1]) _ _ _ ⟨rfl,hle,by simp only; omega,by simp only [List.length_append,List.length_singleton]; omega,by rw [List.append_assoc]; exact hr,by simp only [List.length_append,List.length_singleton]; omega,h⟩ (by simp only; omega)⟩
 · have:i=xs.length:=by omega
   subst this
   have e:out=runsL xs:=by
    rw [← hr]
    cases f with
    | zero=>simp [runsF]
    | succ f=>rw [runsF,if_pos (Nat.le_refl _)]; simp
   subst e
   unfold qob.j2
   exact hk o wL hol h
theorem qwd.c {m:Nat} {K:Ending→World→Prop} (h:St F0 w0 w ps) [hr:Rdb F0 w0 s ps 1 (ivs .i64 xs)] (hL:xs.length≤1000000) (hc:s.len≤s.cap)
 (hk:∀ t w',Rdb F0 w0 t ps 1 (ivs .i64 (xs.take (qlh xs m xs.length)))→t.len=qlh xs m xs.length→t.len≤t.cap→St F0 w0 w' ps→K (.returned (.slice t.a t.len t.cap)) w'):Calls Tryz.prog 211 ⟨[.slice s.a s.len s.cap,.int .i64 (m:Int)]⟩ w K:=by
 have hl:=(h.rdb s).1
 rw [qx] at hl
 refine qnc (qwd.ok _ _ _ _ ?_)
 unfold qwd qwd.j1
 refine qpg (fun (n:Nat) (o:Sl) w'=>o.len=n∧n≤xs.length∧o.len≤o.cap∧qlh xs m n=qlh xs m xs.length∧Rdb F0 w0 o ps 1 (ivs .i64 (xs.take n))∧St F0 w0 w' ps) (fun n=>n) xs.length ⟨by omega,Nat.le_refl _,hc,rfl,by rw [List.take_length]; exact hr,h⟩ ?_
 clear h
 rintro n o wL I μ ⟨rfl,hn,hoc,ht,hrd,h⟩ hin
 have done:∀ w,qlh xs m o.len=o.len→St F0 w0 w ps→qwd.j2 o (fun v w'=>K (.returned v) w') w:=by
  intro w e h
  rw [e] at ht
  unfold qwd.j2
  rw [← ht] at hk
  exact hk o w hrd rfl hoc h
 unfold qwd.b1
 refine qxc (fun g=>?_) (fun g=>?_)
 · obtain ⟨k,hk2⟩:∃ k,o.len=k+1:=⟨o.len - 1,by omega⟩
   have e:IntKind.i64.wrap ((o.len:Int) - 1)=(k:Int):=by rw [qi (by omega) (by omega)]; omega
   refine qw e ?_
   have hx:xs.getD k 0=(xs.take o.len).getD k 0:=(qvl (by omega)).symm
   refine h.lx (s:=o) k rfl (by rw [List.length_take]; omega) ?_
   rw [← hx]
   refine qqe (fun g2=>?_) (fun g2=>?_)
   · have g2:xs.getD k 0=0:=by simpa using g2
     refine qw e ?_
     refine qzo (n:=k) rfl (by omega) (qwh ?_)
     have hr2:Rdb F0 w0 ⟨qwf o.a o.cap 0 1,k - 0,o.cap - 0⟩ ps 1 (ivs .i64 (xs.take k)):=hrd.cutAs 0 k (o.cap - 0) (by omega) (by omega) hoc (by
      rw [List.drop_zero,List.take_take]
      congr 1; omega)
     refine ⟨rfl,hin k _ _ ⟨rfl,by omega,by show k - 0≤o.cap - 0; omega,?_,hr2,h⟩ (by omega)⟩
     rw [← ht,hk2,qlh,if_pos ⟨by omega,g2⟩]
   · have g2:¬ xs.getD k 0=0:=by simpa using g2
     refine done wL ?_ h
     rw [hk2,qlh,if_neg fun e=>g2 e.2]
 · refine done wL ?_ h
   cases hm:o.len with
   | zero=>rfl
   | succ k=>rw [qlh,if_neg (by omega)]
def maxF (xs:List Int):Nat→Int
 | 0=>xs.getD 0 0
 | n+1=>if xs.getD (n+1) 0 > maxF xs n then xs.getD (n+1) 0 else maxF xs n
theorem maxF_le (xs:List Int):∀ n j,j≤n→xs.getD j 0≤maxF xs n:=by
 intro n
 induction n with
 | zero=>intro j hj; rw [show j=0 by omega]; exact Int.le_refl _
 | succ n ih =>
   intro j hj
   rw [maxF]
   rcases Nat.lt_or_ge j (n+1) with h | h
   · have:=ih j (by omega)
     split <;> omega
   · rw [show j=n+1 by omega]
     split <;> omega
theorem maxF_in (xs:List Int):∀ n,∃ j,j≤n∧maxF xs n=xs.getD j 0:=by
 intro n
 induction n with
 | zero=>exact ⟨0,Nat.le_refl _,rfl⟩
 | succ n ih =>
   obtain ⟨j,h1,h2⟩:=ih
   rw [maxF]
   split
   · exact ⟨n+1,Nat.le_refl _,rfl⟩
   · exact ⟨j,by omega,h2⟩
theorem qec.c {K:Ending→World→Prop} (h:St F0 w0 w ps) [Rdb F0 w0 s ps 1 (ivs .i64 xs)] (hL:xs.length≤1000000) (h0:1≤xs.length)
 (hk:∀ w',St F0 w0 w' ps→K (.returned (.int .i64 (maxF xs (xs.length - 1)))) w'):Calls Tryz.prog 214 ⟨[.slice s.a s.len s.cap]⟩ w K:=by
 have hl:=(h.rdb s).1
 rw [qx] at hl
 refine qnc (qec.ok _ _ _ ?_)
 unfold qec qec.j1
 refine qxc (fun g=>by omega) (fun g=>?_)
 refine h.lx (s:=s) 0 rfl (by omega) ?_
 unfold qec.j2 qec.j4
 refine qkh (fun (n:Nat) (m':Int) (i':Int) w'=>i'=((n+1:Nat):Int)∧n+1≤xs.length∧m'=maxF xs n∧St F0 w0 w' ps) (fun n=>xs.length - n) 0 ⟨rfl,by omega,rfl,h⟩ ?_
 clear h
 rintro n m' i' wL I μ ⟨rfl,hn,rfl,h⟩ hin
 unfold qec.b1
 refine qxc (fun g=>?_) (fun g=>?_)
 · refine h.lx (s:=s) (n+1) rfl (by omega) ?_
   refine qwh ?_
   refine qw (qi (by omega) (by omega)) ?_
   exact ⟨rfl,hin (n+1) _ _ _ ⟨by omega,by omega,by rw [maxF],h⟩ (by omega)⟩
 · unfold qec.j3
   rw [show xs.length - 1=n by omega] at hk
   exact hk wL h
theorem qof.c {kb:Nat} {A B:Sl} {L:List Tk} {K:Ending→World→Prop} (h:St F0 w0 w ps) [PkB kb ps [.slice s.a s.len s.cap,.slice A.a A.len A.cap,.slice B.a B.len B.cap] rest] [Rdb F0 w0 s ps 3 (tks L)] (hok:∀ t ∈ L,tkOk t) (hL:L.length≤1000000)
 (hk:∀ t w',t.len=((fxB L).length+7) / 8→t.cap=t.len→St F0 w0 w' (rdA 1 t (u8s (bytes (fxB L))) :: ps)→K (.returned (.slice t.a t.len t.cap)) w'):Calls Tryz.prog 132 ⟨[.pointer (some ⟨kb,0,none⟩)]⟩ w K:=by
 refine qnc (qof.ok _ _ _ ?_)
 unfold qof
 refine qhf.c h fun wb w h=>⟨_,rfl,?_⟩
 refine qnb.cl h (by simp) fun w h=>⟨rfl,?_⟩
 rw [show ([] ++ pb 3 3:List Bool)=[true,true,false] by decide +kernel] at h
 refine qbb.c h fun a b w h1 h2 h=>⟨a,b,rfl,?_⟩
 refine qhc.c (s:=a) (ls:=qih) h (fun lb w hn h=>⟨_,_,rfl,?_⟩) (fun w hn _=>absurd flit_new hn)
 refine qhc.c (s:=b) (ls:=qme) h (fun db w hn h=>⟨_,_,rfl,?_⟩) (fun w hn _=>absurd qjq hn)
 have h:St F0 w0 w (wrL wb [true,true,false] :: hcA db qme :: hcA lb qih :: ps):=h.sub
 refine qlc.c (kb:=kb) (wb:=wb) (lb:=lb) (db:=db) (s:=s) (A:=A) (B:=B) (L:=L) (ll:=qih) (dl:=qme) h hok hL (fun t ht=>fx_in (hok t ht)) (qdq (by decide)) qjn.1 qkn.1 (by simp) fun w h=>⟨rfl,?_⟩
 have hb:=tksB_len qjn.1 qkn.1 hok
 have hs:=qzg qjn.1 256
 refine qne.c h (by simp only [List.length_append,List.length_cons,List.length_nil]; omega) fun t w h1 h2 h=>⟨t,rfl,?_⟩
 exact hk t w h1 h2 (St.sub (ps:=rdA 1 t (u8s (bytes (fxB L))) :: wrL wb (fxB L) :: hcA db qme :: hcA lb qih :: ps) h)
end
end Go.Proofs.YthdmmmfgjmmelaaGreat
namespace Go.Proofs.YthdmmmfgjmmelaaGreat
open Go Go.Proofs
set_option linter.unusedVariables false
set_option linter.unusedSimpArgs false
def dA0 (L:List Tk):List Int:=lenP (litC L) 15
def dB0 (L:List Tk):List Int:=lenP (disC L) 15
def dA (L:List Tk):List Int:=(dA0 L).take (qlh (dA0 L) 257 (dA0 L).length)
def dB (L:List Tk):List Int:=(dB0 L).take (qlh (dB0 L) 1 (dB0 L).length)
def dPs (L:List Tk):List Pc:=runsL (dA L ++ dB L)
def dS0 (L:List Tk):List Nat:=(dPs L).map fun p=>p.1.toNat
def dK (L:List Tk):Nat:=((dS0 L).headD 0+1) % 2
def dS (L:List Tk):List Nat:=if maxF (qsl 19 (dS0 L)) 18=(dPs L).length then dS0 L ++ [dK L] else dS0 L
def dC (L:List Tk):List Int:=qsl 19 (dS L)
def dCl (L:List Tk):List Int:=lenP (dC L) 7
def dOc (L:List Tk):List Int:=qxg.map fun s=>(dCl L).getD s.toNat 0
def dN (L:List Tk):Nat:=qlh (dOc L) 4 19
def dynB (L:List Tk):List Bool:=dyB (dA L) (dB L) (dCl L) (dN L) (dPs L) L
theorem dA0_def (L:List Tk):lenP (litC L) (15:Int).toNat=dA0 L:=rfl
theorem dB0_def (L:List Tk):lenP (disC L) (15:Int).toNat=dB0 L:=rfl
theorem dA_def (L:List Tk):(dA0 L).take (qlh (dA0 L) 257 (dA0 L).length)=dA L:=rfl
theorem dB_def (L:List Tk):(dB0 L).take (qlh (dB0 L) 1 (dB0 L).length)=dB L:=rfl
theorem dPs_def (L:List Tk):runsL (dA L ++ dB L)=dPs L:=rfl
theorem dC_def (L:List Tk):qsl 19 (dS L)=dC L:=rfl
theorem dCl_def (L:List Tk):lenP (dC L) (7:Int).toNat=dCl L:=rfl
theorem dN_def (L:List Tk):qlh (dOc L) 4 19=dN L:=rfl
theorem dynB_def (L:List Tk):dyB (dA L) (dB L) (dCl L) (dN L) (dPs L) L=dynB L:=rfl
theorem dS0_at {L:List Tk} {i:Nat} (h:i < (dPs L).length):(dS0 L).take (i+1)=(dS0 L).take i ++ [(dPs L)[i].1.toNat]:=by
 have hl:i < ((dPs L).map fun p=>p.1.toNat).length:=by rw [List.length_map]; exact h
 have:=List.take_succ_eq_append_getElem hl
 rw [List.getElem_map] at this
 exact this
theorem dK_at {L:List Tk} (h:0 < (dPs L).length):dK L=((dPs L)[0].1.toNat+1) % 2:=by
 have:∀ P:List Pc,(h:0 < P.length)→((P.map fun p=>p.1.toNat).headD 0+1) % 2=(P[0].1.toNat+1) % 2:=by
  intro P h
  cases P with
  | nil=>cases h
  | cons p P=>rfl
 exact this _ h
theorem dS_yes {L:List Tk} (h:maxF (qsl 19 (dS0 L)) 18=((dPs L).length:Int)):dS L=dS0 L ++ [dK L]:=if_pos h
theorem dS_no {L:List Tk} (h:¬ maxF (qsl 19 (dS0 L)) 18=((dPs L).length:Int)):dS L=dS0 L:=if_neg h
theorem qrj {xs:List Int} {M:Nat} (h:xs.length≤2 ^ M):(qyd xs).length≤2 ^ M:=Nat.le_trans (qxn xs) h
theorem lenP_in {xs:List Int} {M s:Nat} (h:xs.length≤2 ^ M) (h1:1≤M):inC (lenP xs M) s ↔ s < xs.length∧0 < xs.getD s 0:=by
 unfold inC
 rw [qii]
 refine and_congr_right fun hs=>?_
 rw [qwp hs]
 have:=(lenF_ok (qrj h) h1 hs).2
 omega
theorem lenP_okC {xs:List Int} {M:Nat} (h:xs.length≤2 ^ M) (h1:1≤M) (hM:M≤15):okC (lenP xs M):=⟨lenP_ok (qrj h) h1 hM,(kr_lenP (qrj h) h1 hM).1⟩
section
variable {L:List Tk}
theorem qpj (L:List Tk):(litC L).length=286:=qrd _ _
theorem qqj (L:List Tk):(disC L).length=30:=qrd _ _
theorem dA0_len (L:List Tk):(dA0 L).length=286:=by unfold dA0; rw [qii,qpj]
theorem dB0_len (L:List Tk):(dB0 L).length=30:=by unfold dB0; rw [qii,qqj]
theorem dA0_okC (L:List Tk):okC (dA0 L):=lenP_okC (by rw [qpj]; decide) (by decide) (by decide)
theorem dB0_okC (L:List Tk):okC (dB0 L):=lenP_okC (by rw [qqj]; decide) (by decide) (by decide)
theorem dA0_new (L:List Tk):qji (dA0 L) true=0:=lenP_new (by rw [qpj]; decide) (qrj (by rw [qpj]; decide)) (by decide) (by decide)
theorem dB0_new (L:List Tk):qji (dB0 L) true=0:=lenP_new (by rw [qqj]; decide) (qrj (by rw [qqj]; decide)) (by decide) (by decide)
theorem dA0_in {s:Nat} (h:s < 286) (hs:s ∈ L.map litS ++ [256]):inC (dA0 L) s:=by
 unfold dA0
 rw [lenP_in (by rw [qpj]; decide) (by decide),qpj]
 exact ⟨h,(qdm h).2 hs⟩
theorem dB0_in {s:Nat} (h:s < 30) (hs:s ∈ L.flatMap disS):inC (dB0 L) s:=by
 unfold dB0
 rw [lenP_in (by rw [qqj]; decide) (by decide),qqj]
 exact ⟨h,(qdm h).2 hs⟩
theorem d_tkIn (hok:∀ t ∈ L,tkOk t):∀ t ∈ L,tkIn (dA0 L) (dB0 L) t:=by
 intro t ht
 have h1:=lit_lt (hok t ht)
 have hl:inC (dA0 L) (litS t):=dA0_in (by unfold litS; omega) (List.mem_append_left _ (List.mem_map_of_mem ht))
 unfold litS qej at hl
 unfold tkIn
 by_cases g:t.2.1=0
 · rw [if_pos g] at hl ⊢
   exact hl
 · rw [if_neg g] at hl ⊢
   refine ⟨hl,?_⟩
   have hc:(qej t).2.2=true:=by unfold qej; rw [if_neg g]
   have h2:=dis_lt (hok t ht) hc
   have hm:(qej t).2.1.1.toNat ∈ disS t:=by unfold disS; rw [if_pos hc]; exact List.mem_singleton.2 rfl
   have:=dB0_in (L:=L) (s:=(qej t).2.1.1.toNat) (by omega) (List.mem_flatMap.2 ⟨t,ht,hm⟩)
   unfold qej at this
   rwa [if_neg g] at this
theorem qoq (L:List Tk):okC (dA L)∧qji (dA L) true=0∧∀ s,inC (dA0 L) s→inC (dA L) s∧quc (dA L) s=quc (dA0 L) s:=by
 have:=trim_code (l:=dA0 L) 257 (dA0 L).length (Nat.le_refl _) (by rw [List.take_length]; exact dA0_okC L) (by rw [List.take_length]; exact dA0_new L)
 rw [List.take_length] at this
 exact this
theorem dB_trim (L:List Tk):okC (dB L)∧qji (dB L) true=0∧∀ s,inC (dB0 L) s→inC (dB L) s∧quc (dB L) s=quc (dB0 L) s:=by
 have:=trim_code (l:=dB0 L) 1 (dB0 L).length (Nat.le_refl _) (by rw [List.take_length]; exact dB0_okC L) (by rw [List.take_length]; exact dB0_new L)
 rw [List.take_length] at this
 exact this
theorem dA_len (L:List Tk):257≤(dA L).length∧(dA L).length≤286:=by
 have h1:=trimN_le (dA0 L) 257 (dA0 L).length
 have h2:=trimN_ge (dA0 L) 257 (dA0 L).length (by rw [dA0_len]; decide)
 unfold dA
 rw [List.length_take]
 have:=dA0_len L
 omega
theorem dB_len (L:List Tk):1≤(dB L).length∧(dB L).length≤30:=by
 have h1:=trimN_le (dB0 L) 1 (dB0 L).length
 have h2:=trimN_ge (dB0 L) 1 (dB0 L).length (by rw [dB0_len]; decide)
 unfold dB
 rw [List.length_take]
 have:=dB0_len L
 omega
theorem tk_swap {a a0 b b0:List Int} (hA:∀ s,inC a0 s→inC a s∧quc a s=quc a0 s) (hB:∀ s,inC b0 s→inC b s∧quc b s=quc b0 s) {t:Tk} (h:tkIn a0 b0 t):tkIn a b t∧tkB a b t=tkB a0 b0 t:=by
 unfold tkIn at h
 unfold tkIn tkB
 by_cases g:t.2.1=0
 · rw [if_pos g] at h
   rw [if_pos g,if_pos g,if_pos g]
   exact hA _ h
 · rw [if_neg g] at h
   rw [if_neg g,if_neg g,if_neg g]
   refine ⟨⟨(hA _ h.1).1,(hB _ h.2).1⟩,?_⟩
   rw [(hA _ h.1).2,(hB _ h.2).2]
theorem tks_swap {a a0 b b0:List Int} (hA:∀ s,inC a0 s→inC a s∧quc a s=quc a0 s) (hB:∀ s,inC b0 s→inC b s∧quc b s=quc b0 s):∀ {M:List Tk},(∀ t ∈ M,tkIn a0 b0 t)→(∀ t ∈ M,tkIn a b t)∧tksB a b M=tksB a0 b0 M:=by
 intro M
 induction M with
 | nil=>intro _; exact ⟨fun t ht=>(by cases ht),rfl⟩
 | cons t M ih =>
   intro h
   have h1:=tk_swap hA hB (h t (by simp))
   have h2:=ih fun t ht=>h t (by simp [ht])
   refine ⟨fun u hu=>?_,?_⟩
   · rcases List.mem_cons.1 hu with rfl | hu
     · exact h1.1
     · exact h2.1 u hu
   · unfold tksB at h2 ⊢
     rw [List.flatMap_cons,List.flatMap_cons,h1.2,h2.2]
theorem d_tkB (hok:∀ t ∈ L,tkOk t):(∀ t ∈ L,tkIn (dA L) (dB L) t)∧tksB (dA L) (dB L) L=tksB (dA0 L) (dB0 L) L:=tks_swap (qoq L).2.2 (dB_trim L).2.2 (d_tkIn hok)
theorem d_256 (L:List Tk):inC (dA0 L) 256∧inC (dA L) 256∧quc (dA L) 256=quc (dA0 L) 256:=by
 have h:=dA0_in (L:=L) (s:=256) (by decide) (by simp)
 exact ⟨h,(qoq L).2.2 _ h⟩
theorem qmq (L:List Tk):Runs (dA L ++ dB L) 0 (dPs L):=by
 refine runsL_runs fun x hx=>?_
 rcases List.mem_append.1 hx with h | h
 · have:=(qoq L).1.1 x h; omega
 · have:=(dB_trim L).1.1 x h; omega
theorem d_ps (L:List Tk):∀ s ∈ dS0 L,s < 19:=by
 intro s hs
 obtain ⟨p,hp,rfl⟩:=List.mem_map.1 hs
 have:=(qmq L).ok p hp
 have:=this.1
 have:=((qmq L).ok p hp).2.1
 omega
theorem d_ps_pos (L:List Tk):1≤(dPs L).length:=by
 have h:(dA L ++ dB L).length ≠ 0:=by rw [List.length_append]; have:=dA_len L; omega
 unfold dPs runsL
 obtain ⟨n,hn⟩:∃ n,(dA L ++ dB L).length=n+1:=⟨(dA L ++ dB L).length - 1,by omega⟩
 rw [hn,runsF,if_neg (by omega),List.length_cons]
 omega
theorem qto (L:List Tk):(dPs L).length≤316:=by
 have:=(qmq L).le
 rw [List.length_append] at this
 have:=dA_len L
 have:=dB_len L
 omega
theorem qnq (L:List Tk):(dS0 L).length=(dPs L).length:=List.length_map ..
theorem dS_len (L:List Tk):(dS L).length≤317:=by
 have:=qto L
 have:=qnq L
 unfold dS
 split
 · rw [List.length_append,List.length_singleton]; omega
 · omega
theorem d_head (L:List Tk):(dS0 L).headD 0 ∈ dS0 L:=by
 have h1:=d_ps_pos L
 have h2:=qnq L
 cases h:dS0 L with
 | nil=>rw [h] at h2; simp at h2; omega
 | cons x l=>simp
theorem dS0_sub (L:List Tk):∀ s ∈ dS0 L,s ∈ dS L:=by
 intro s hs
 unfold dS
 split
 · exact List.mem_append_left _ hs
 · exact hs
theorem two_mem {l:List Nat} {a b:Nat} (h1:a ∈ l) (h2:b ∈ l) (h:a ≠ b):2≤l.length:=by
 cases l with
 | nil=>cases h1
 | cons x l =>
   cases l with
   | nil =>
     rw [List.mem_singleton] at h1 h2
     exact absurd (h1.trans h2.symm) h
   | cons y l=>simp
theorem dK_lt (L:List Tk):dK L < 2:=Nat.mod_lt _ (by decide)
theorem qyk (L:List Tk):(dC L).length=19:=qrd _ _
theorem d_two (L:List Tk):2≤(qyd (dC L)).length:=by
 have hh:=d_head L
 have h19:=d_ps L _ hh
 have m1:(dS0 L).headD 0 ∈ qyd (dC L):=qnh.2 ⟨by rw [qyk]; exact h19,(qdm h19).2 (dS0_sub L _ hh)⟩
 by_cases hm:maxF (qsl 19 (dS0 L)) 18=(dPs L).length
 · have hk:=dK_lt L
   have m2:dK L ∈ qyd (dC L):=qnh.2 ⟨by rw [qyk]; omega,(qdm (by omega)).2 (by unfold dS; rw [if_pos hm]; exact List.mem_append_right _ (List.mem_singleton.2 rfl))⟩
   refine two_mem m1 m2 ?_
   unfold dK
   omega
 · by_cases ha:∀ s ∈ dS0 L,(dS0 L).headD 0=s
   · exfalso
     have hc:(dS0 L).count ((dS0 L).headD 0)=(dS0 L).length:=List.count_eq_length.2 ha
     have h1:=maxF_le (qsl 19 (dS0 L)) 18 ((dS0 L).headD 0) (by omega)
     obtain ⟨j,_,h2⟩:=maxF_in (qsl 19 (dS0 L)) 18
     have h3:=qbj (n:=19) (S:=dS0 L) j
     rw [qvo _ h19,hc] at h1
     rw [← h2] at h3
     have:=qnq L
     omega
   · obtain ⟨s,hs,hne⟩:∃ s ∈ dS0 L,(dS0 L).headD 0 ≠ s:=by
      refine Classical.byContradiction fun hno=>ha fun s hs=>Classical.byContradiction fun hne=>hno ⟨s,hs,hne⟩
     have hs19:=d_ps L s hs
     exact two_mem m1 (qnh.2 ⟨by rw [qyk]; exact hs19,(qdm hs19).2 (dS0_sub L s hs)⟩) hne
theorem dCl_len (L:List Tk):(dCl L).length=19:=by unfold dCl; rw [qii,qyk]
theorem dCl_okC (L:List Tk):okC (dCl L):=lenP_okC (by rw [qyk]; decide) (by decide) (by decide)
theorem dCl_new (L:List Tk):qji (dCl L) false=0:=by
 have hl:=qyk L
 obtain ⟨h1,h2⟩:=lenP_chk (xs:=dC L) (M:=7) (by omega) (qrj (by rw [hl]; decide)) (by decide) (by decide)
 have h3:=(kr_lenP (xs:=dC L) (M:=7) (qrj (by rw [hl]; decide)) (by decide) (by decide)).2 (d_two L)
 rw [h3] at h2
 unfold qji dCl
 rw [if_neg (fun e=>e h1),if_neg (by rw [h2]; simp)]
theorem dCl_b (L:List Tk) (j:Nat):0≤(dCl L).getD j 0∧(dCl L).getD j 0 < 8:=by
 rcases Nat.lt_or_ge j 19 with h | h
 · have hj:j < (dC L).length:=by rw [qyk]; exact h
   unfold dCl
   rw [qwp hj]
   have:=(lenF_ok (xs:=dC L) (m:=7) (qrj (by rw [qyk]; decide)) (by decide) hj).1
   omega
 · rw [List.getD_eq_getElem?_getD,List.getElem?_eq_none (by rw [dCl_len]; exact h)]
   decide
theorem dCl_in (L:List Tk):∀ q ∈ dPs L,inC (dCl L) q.1.toNat:=by
 intro q hq
 have hm:q.1.toNat ∈ dS0 L:=List.mem_map.2 ⟨q,hq,rfl⟩
 have h19:=d_ps L _ hm
 unfold dCl
 rw [lenP_in (by rw [qyk]; decide) (by decide),qyk]
 exact ⟨h19,(qdm h19).2 (dS0_sub L _ hm)⟩
theorem dOc_get (L:List Tk) {j:Nat} (h:j < 19):(dOc L).getD j 0=(dCl L).getD (qxg.getD j 0).toNat 0:=by
 have hz:j < qxg.length:=h
 unfold dOc
 simp [List.getD,hz]
theorem dN_b (L:List Tk):4≤dN L∧dN L≤19:=⟨trimN_ge _ _ _ (by decide),trimN_le _ _ _⟩
theorem dynB_ok {xs:List Int} (hb:∀ x ∈ xs,0≤x∧x < 256) (hL:qxf xs 0 L xs.length):Dfl xs (dynB L):=by
 have hok:=hL.tkOk hb
 have h1:=dA_len L
 have h2:=dB_len L
 have h3:=dN_b L
 exact Dfl.dynamic hb hL (d_tkB hok).1 h1.1 h1.2 h2.1 h2.2 (dCl_len L) (dCl_b L) h3.1 h3.2 (fun j hj hj2=>by
  rw [← dOc_get L hj2]
  exact trimN_no _ _ _ _ hj hj2) (dCl_okC L) (dCl_new L) (qmq L) (dCl_in L) (qoq L).1 (dB_trim L).1 (qoq L).2.1 (dB_trim L).2.1 (d_256 L).2.1
end
end Go.Proofs.YthdmmmfgjmmelaaGreat
namespace Go.Proofs.YthdmmmfgjmmelaaGreat
open Go Go.Proofs
set_option linter.unusedVariables false
set_option linter.unusedSimpArgs false
attribute [local irreducible] apK cpK mkK br
theorem pcB_len {cl:List Int} (h:okL cl) {p:Pc} (hp:pcOk p):(pcB cl p).length≤22:=by
 have h1:=qzg h p.1.toNat
 have h2:=hp.2.2
 unfold pcB
 rw [List.length_append,qq]
 omega
theorem pcsB_len {cl:List Int} (h:okL cl):∀ {P:List Pc},(∀ p ∈ P,pcOk p)→(pcsB cl P).length≤22 * P.length:=by
 intro P
 induction P with
 | nil=>intro _; exact Nat.le_refl _
 | cons p P ih =>
   intro hp
   have h1:=pcB_len h (hp p (by simp))
   have h2:=ih fun q hq=>hp q (by simp [hq])
   unfold pcsB at h2 ⊢
   rw [List.flatMap_cons,List.length_append,List.length_cons]
   omega
theorem pcsB_snoc (cl:List Int) (P:List Pc) (p:Pc):pcsB cl (P ++ [p])=pcsB cl P ++ pcB cl p:=by simp [pcsB]
section
variable {F0:List Nat} {w0 w:World} {ps r1 r2 r3 r4:List As} {kb wb lb db cb:Nat} {s A B t11 t15 t19:Sl} {ll dl cl:List Int} {L:List Tk} {P:List Pc} {l:List Bool} {K:Ending→World→Prop}
structure DynOk (ll dl cl:List Int) (L:List Tk) (P:List Pc):Prop where
 tk:∀ t ∈ L,tkOk t
 len:L.length≤1000000
 tin:∀ t ∈ L,tkIn ll dl t
 i256:inC ll 256
 ll:okL ll
 dl:okL dl
 pc:∀ p ∈ P,pcOk p
 pin:∀ p ∈ P,inC cl p.1.toNat
 plen:P.length≤1000
 cl:okL cl
theorem qf.pcs (h:St F0 w0 w (wrL wb l :: ps)) [PkB kb ps [.slice s.a s.len s.cap,.slice A.a A.len A.cap,.slice B.a B.len B.cap] r1] [PkF hcA lb ps ll r2] [PkF hcA db ps dl r3] [PkF hcA cb ps cl r4]
 [Rdb F0 w0 t11 ps 3 (P.flatMap pcC)] [Rdb F0 w0 s ps 3 (tks L)] (o:DynOk ll dl cl L P) (hl:l.length≤10000)
 (hk:∀ t w',t.len=((l ++ (pcsB cl P ++ (tksB ll dl L ++ quc ll 256))).length+7) / 8→t.cap=t.len→St F0 w0 w' (rdA 1 t (u8s (bytes (l ++ (pcsB cl P ++ (tksB ll dl L ++ quc ll 256))))) :: ps)→K (.returned (.slice t.a t.len t.cap)) w') :
 qf.j13 (some ⟨kb,0,none⟩) (some ⟨lb,0,none⟩) (some ⟨db,0,none⟩) t11 (some ⟨cb,0,none⟩) (some ⟨wb,0,none⟩) (fun v w'=>K (.returned v) w') w:=by
 have hpl:P.length=t11.len:=h.rlen (f:=pcC)
 have h15:=o.plen
 unfold qf.j13 qf.j15
 refine qpg (fun (i:Nat) (i':Int) w'=>i'=i∧i≤P.length∧St F0 w0 w' (wrL wb (l ++ pcsB cl (P.take i)) :: ps)) (fun i=>P.length - i) 0 ⟨rfl,by omega,by simpa [pcsB] using h⟩ ?_
 clear h
 rintro i i' wL I μ ⟨rfl,hi,h⟩ hnx
 have hbl:=pcsB_len o.cl (P:=P.take i) (fun p hp=>o.pc p (List.mem_of_mem_take hp))
 rw [List.length_take] at hbl
 unfold qf.b1
 refine qxc (fun g=>?_) (fun g=>?_)
 · have hi2:i < P.length:=by omega
   have hpc:=o.pc _ (List.getElem_mem hi2)
   have hpi:=o.pin _ (List.getElem_mem hi2)
   have et:P.take (i+1)=P.take i ++ [P[i]]:=List.take_succ_eq_append_getElem hi2
   refine h.lr (s:=t11) (f:=pcC) i rfl hi2 ?_
   rw [qjj]
   refine h.new fun a w h=>⟨rfl,?_⟩
   have h:St F0 w0 w (qjd a (pcC (0,0,0)) :: wrL wb (l ++ pcsB cl (P.take i)) :: ps):=h
   refine h.sA (b:=a) (l':=pcC P[i]) rfl rfl (qjh _) fun w h=>?_
   have h:St F0 w0 w (qjd a [.int .i64 P[i].1,.int .i64 P[i].2.1,.int .i64 P[i].2.2] :: wrL wb (l ++ pcsB cl (P.take i)) :: ps):=h
   have h:=h.at1
   simp only [qnf,Nat.zero_add]
   refine h.fI (b:=a) ?_
   refine qff.c (cb:=cb) (ls:=cl) h (by rw [List.length_append]; omega) fun w h=>⟨_,rfl,?_⟩
   rw [qzp hpc.1 hpi] at h
   have hs:=qzg o.cl P[i].1.toNat
   refine h.fI (b:=a) (h.fI (b:=a) ?_)
   refine qnb.cl h (by simp only [List.length_append]; omega) fun w h=>⟨rfl,?_⟩
   rw [qpk hpc.2.2.1 (by have:=hpc.2.2.2; omega)] at h
   refine qw (qi (by omega) (by omega)) ?_
   refine ⟨⟨by trivial,by trivial,by trivial,by trivial,by trivial,by trivial,by trivial⟩,hnx (i+1) _ _ ⟨by omega,by omega,?_⟩ (by omega)⟩
   rw [et,pcsB_snoc]
   unfold pcB
   simp only [List.append_assoc] at h ⊢
   exact h.sub
 · have:i=P.length:=by omega
   subst this
   rw [List.take_length] at h hbl
   unfold qf.j14
   refine qlc.c (kb:=kb) (wb:=wb) (lb:=lb) (db:=db) (s:=s) (A:=A) (B:=B) (L:=L) (ll:=ll) (dl:=dl) h o.tk o.len o.tin o.i256 o.ll o.dl (by rw [List.length_append]; omega) fun w h=>⟨rfl,?_⟩
   have hb:=tksB_len o.ll o.dl o.tk
   have hs:=qzg o.ll 256
   have hlen:=o.len
   rw [List.append_assoc] at h
   refine qne.c h (by simp only [List.length_append]; omega) fun t w h1 h2 h=>⟨t,rfl,?_⟩
   exact hk t w h1 h2 h.sub
theorem qf.cls {n:Nat} (h:St F0 w0 w (wrL wb l :: ps)) [PkB kb ps [.slice s.a s.len s.cap,.slice A.a A.len A.cap,.slice B.a B.len B.cap] r1] [PkF hcA lb ps ll r2] [PkF hcA db ps dl r3] [PkF hcA cb ps cl r4]
 [Rdb F0 w0 t11 ps 3 (P.flatMap pcC)] [Rdb F0 w0 s ps 3 (tks L)] [Rdb F0 w0 t15 ps 1 (ivs .i64 cl)] [Rdb F0 w0 t19 ps 1 (ivs .i64 qxg)] (h19:t19.len≤t19.cap) (hcl:cl.length=19) (hn:n≤19) (o:DynOk ll dl cl L P) (hl:l.length≤1000)
 (hk:∀ t w',t.len=((l ++ ((qxg.take n).flatMap (fun s=>qm (cl.getD s.toNat 0) 3) ++ (pcsB cl P ++ (tksB ll dl L ++ quc ll 256)))).length+7) / 8→t.cap=t.len→St F0 w0 w' (rdA 1 t (u8s (bytes (l ++ ((qxg.take n).flatMap (fun s=>qm (cl.getD s.toNat 0) 3) ++ (pcsB cl P ++ (tksB ll dl L ++ quc ll 256)))))) :: ps)→K (.returned (.slice t.a t.len t.cap)) w') :
 qf.j12 (some ⟨kb,0,none⟩) (some ⟨lb,0,none⟩) (some ⟨db,0,none⟩) t11 t15 (some ⟨cb,0,none⟩) t19 (n:Int) (some ⟨wb,0,none⟩) (fun v w'=>K (.returned v) w') w:=by
 have hl19:=(h.rdb t19).1
 rw [qx,show qxg.length=19 from rfl] at hl19
 unfold qf.j12
 refine qzo (n:=n) rfl (by omega) (qwh ?_)
 haveI:Rdb F0 w0 ⟨qwf t19.a t19.cap 0 1,n - 0,t19.cap - 0⟩ ps 1 (ivs .i64 (qxg.take n)):=St.cutR h.drop t19 0 n _ (by omega) (by omega) h19 rfl
 generalize hq:(⟨qwf t19.a t19.cap 0 1,n - 0,t19.cap - 0⟩:Sl)=q at *
 have hql:q.len=n:=by rw [← hq]; rfl
 have hll:(qxg.take n).length=n:=by rw [List.length_take]; exact Nat.min_eq_left hn
 unfold qf.j16
 refine qpg (fun (i:Nat) (i':Int) w'=>i'=i∧i≤n∧St F0 w0 w' (wrL wb (l ++ ((qxg.take n).take i).flatMap (fun s=>qm (cl.getD s.toNat 0) 3)) :: ps)) (fun i=>n - i) 0 ⟨rfl,by omega,by simpa using h⟩ ?_
 clear h
 rintro i i' wL I μ ⟨rfl,hi,h⟩ hnx
 have hbl:=qgq (S:=(qxg.take n).take i) (f:=fun s=>qm (cl.getD s.toNat 0) 3) (fun s=>qq _ _)
 rw [List.length_take,hll] at hbl
 unfold qf.b2
 refine qxc (fun g=>?_) (fun g=>?_)
 · have hi2:i < n:=by omega
   refine h.lx (s:=q) i rfl (by omega) ?_
   have hz:=zord_lt i (by omega)
   have et:(qxg.take n).take (i+1)=(qxg.take n).take i ++ [qxg.getD i 0]:=by
    rw [← qvl (l:=qxg) hi2]
    exact qrg (by omega)
   rw [qvl hi2]
   refine h.lx (s:=t15) (qxg.getD i 0).toNat (by omega) (by omega) ?_
   refine qnb.cl h (by simp only [List.length_append]; omega) fun w h=>⟨rfl,?_⟩
   rw [qpk (by decide) (by decide),show (3:Int).toNat=3 from rfl] at h
   refine qw (qi (by omega) (by omega)) ?_
   refine ⟨⟨rfl,rfl,rfl,rfl,rfl,rfl,rfl,rfl,rfl⟩,hnx (i+1) _ _ ⟨by omega,by omega,?_⟩ (by omega)⟩
   rw [et,List.flatMap_append]
   rw [List.append_assoc] at h
   simpa using h
 · have:i=n:=by omega
   subst this
   rw [List.take_of_length_le (by omega)] at h hbl
   refine qf.pcs (kb:=kb) (wb:=wb) (lb:=lb) (db:=db) (cb:=cb) (s:=s) (A:=A) (B:=B) (ll:=ll) (dl:=dl) (cl:=cl) (t11:=t11) h o (by rw [List.length_append]; omega) fun t w h1 h2 h=>?_
   simp only [List.append_assoc] at h1 h
   exact hk t w h1 h2 h
theorem qf.hdr {n:Nat} {t3 t5:Sl} (h:St F0 w0 w ps) [PkB kb ps [.slice s.a s.len s.cap,.slice A.a A.len A.cap,.slice B.a B.len B.cap] r1] [PkF hcA lb ps ll r2] [PkF hcA db ps dl r3] [PkF hcA cb ps cl r4]
 [Rdb F0 w0 t11 ps 3 (P.flatMap pcC)] [Rdb F0 w0 s ps 3 (tks L)] [Rdb F0 w0 t15 ps 1 (ivs .i64 cl)] [Rdb F0 w0 t19 ps 1 (ivs .i64 qxg)] (h19:t19.len≤t19.cap) (hcl:cl.length=19) (hn:n≤19) (hn4:4≤n) (o:DynOk ll dl cl L P) {a b:List Int}
 (h3:t3.len=a.length) (h5:t5.len=b.length) (ha:a.length≤286) (hb:b.length≤30) (hab:quc a 256=quc ll 256) (htk:tksB a b L=tksB ll dl L)
 (hk:∀ t w',t.len=((dyB a b cl n P L).length+7) / 8→t.cap=t.len→St F0 w0 w' (rdA 1 t (u8s (bytes (dyB a b cl n P L))) :: ps)→K (.returned (.slice t.a t.len t.cap)) w') :
 qf.j9 (some ⟨kb,0,none⟩) t3 t5 (some ⟨lb,0,none⟩) (some ⟨db,0,none⟩) t11 t15 (some ⟨cb,0,none⟩) t19 (n:Int) (fun v w'=>K (.returned v) w') w:=by
 unfold qf.j9
 refine qhf.c h fun wb w h=>⟨_,rfl,?_⟩
 unfold qf.j10
 refine qnb.cl h (by simp) fun w h=>⟨rfl,?_⟩
 rw [show ([] ++ pb 5 3:List Bool)=[true,false,true] by decide +kernel] at h
 refine qw (qi (by omega) (by omega)) ?_
 refine qw (show IntKind.i64.wrap ((t3.len:Int) - 256 - 1)=(a.length:Int) - 257 by rw [qi (by omega) (by omega)]; omega) ?_
 refine qnb.cl h (by simp) fun w h=>⟨rfl,?_⟩
 rw [qpk (by decide) (by decide),show (5:Int).toNat=5 from rfl] at h
 unfold qf.j11
 refine qw (show IntKind.i64.wrap ((t5.len:Int) - 1)=(b.length:Int) - 1 by rw [qi (by omega) (by omega)]; omega) ?_
 refine qnb.cl h (by simp [qq]) fun w h=>⟨rfl,?_⟩
 rw [qpk (by decide) (by decide),show (5:Int).toNat=5 from rfl] at h
 refine qw (qi (by omega) (by omega)) ?_
 refine qnb.cl h (by simp [qq]) fun w h=>⟨rfl,?_⟩
 rw [qpk (by decide) (by decide),show (4:Int).toNat=4 from rfl] at h
 refine qf.cls (kb:=kb) (wb:=wb) (lb:=lb) (db:=db) (cb:=cb) (s:=s) (A:=A) (B:=B) (ll:=ll) (dl:=dl) (cl:=cl) (t11:=t11) (t15:=t15) (t19:=t19) (P:=P) (L:=L) h h19 hcl hn o (by simp [qq]) fun t w h1 h2 h=>?_
 have e:[true,false,true] ++ qm ((a.length:Int) - 257) 5 ++ qm ((b.length:Int) - 1) 5 ++ qm ((n:Int) - 4) 4 ++ ((qxg.take n).flatMap (fun s=>qm (cl.getD s.toNat 0) 3) ++ (pcsB cl P ++ (tksB ll dl L ++ quc ll 256)))=dyB a b cl n P L:=by
  unfold dyB hdB
  rw [htk,hab]
  simp only [List.append_assoc]
 rw [e] at h1 h
 exact hk t w h1 h2 h
end
end Go.Proofs.YthdmmmfgjmmelaaGreat
namespace Go.Proofs.YthdmmmfgjmmelaaGreat
open Go Go.Proofs
set_option linter.unusedVariables false
set_option linter.unusedSimpArgs false
attribute [local irreducible] apK cpK mkK br dA dB dA0 dB0 dPs dS0 dK dS dC dCl dOc dN dynB lenP qlh runsL maxF
section
variable {F0:List Nat} {w0 w:World} {ps r1:List As} {kb:Nat} {s A B:Sl} {L:List Tk} {K:Ending→World→Prop}
theorem litC_least (hL:L.length≤1000000):leastE (litC L) 15=0:=by
 have hg:goodX (litC L):=qpq (by decide) (by rw [List.length_append,List.length_map,List.length_singleton]; omega)
 have hc:=qxn (litC L)
 rw [qpj] at hc
 unfold leastE
 rw [if_neg (by rintro (e | e | e); exact e hg; omega; omega),if_neg (by show ¬ 32768 < _; omega)]
theorem disC_least (hL:L.length≤1000000):leastE (disC L) 15=0:=by
 have hg:goodX (disC L):=qpq (by decide) (by have:=disS_len L; omega)
 have hc:=qxn (disC L)
 rw [qqj] at hc
 unfold leastE
 rw [if_neg (by rintro (e | e | e); exact e hg; omega; omega),if_neg (by show ¬ 32768 < _; omega)]
theorem dC_least (L:List Tk):leastE (dC L) 7=0:=by
 have hg:goodX (dC L):=by
  rw [← dC_def]
  exact qpq (by decide) (by have:=dS_len L; omega)
 have hc:=qxn (dC L)
 rw [qyk] at hc
 unfold leastE
 rw [if_neg (by rintro (e | e | e); exact e hg; omega; omega),if_neg (by show ¬ 128 < _; omega)]
theorem dyn_ok (hok:∀ t ∈ L,tkOk t) (hL:L.length≤1000000):DynOk (dA0 L) (dB0 L) (dCl L) L (dPs L) :=
 ⟨hok,hL,d_tkIn hok,(d_256 L).1,(dA0_okC L).1,(dB0_okC L).1,(qmq L).ok,dCl_in L,by have:=qto L; omega,(dCl_okC L).1⟩
theorem qf.j8c {qs r2 r3:List As} {lb db:Nat} {ta tb t11 t12:Sl} (hq:∀ (F0:List Nat) (w0 w:World),St F0 w0 w qs→St F0 w0 w ps) [PkB kb qs [.slice s.a s.len s.cap,.slice A.a A.len A.cap,.slice B.a B.len B.cap] r1] [PkF hcA lb qs (dA0 L) r2] [PkF hcA db qs (dB0 L) r3] [Rdb F0 w0 s qs 3 (tks L)]
 (hok:∀ t ∈ L,tkOk t) (hL:L.length≤1000000) (hta:ta.len=(dA L).length) (htb:tb.len=(dB L).length) (h11:t11.len=(dPs L).length)
 (hk:∀ t w',t.len=((dynB L).length+7) / 8→t.cap=t.len→St F0 w0 w' (rdA 1 t (u8s (bytes (dynB L))) :: ps)→K (.returned (.slice t.a t.len t.cap)) w') {cb:Nat} {t15 t19:Sl} (h19:t19.len=19∧t19.cap=19) (h15:t15.len=19)
 (h:St F0 w0 w (rdA 1 t19 (ivs .i64 qxg) :: hcA cb (dCl L) :: qmc 1 t15 (ivs .i64 (dCl L)) :: qmc 1 t12 (ivs .i64 (dC L)) :: qmc 3 t11 ((dPs L).flatMap pcC) :: qs)) :
 qf.j8 (some ⟨kb,0,none⟩) ta tb (some ⟨lb,0,none⟩) (some ⟨db,0,none⟩) t11 t15 (some ⟨cb,0,none⟩) t19 ((19:Nat):Int) (fun v w'=>K (.returned v) w') w:=by
 have la:=dA_len L
 have lb':=dB_len L
 unfold qf.j8
 refine qpg (fun (n:Nat) (n':Int) w'=>n'=n∧n≤19∧4≤n∧qlh (dOc L) 4 n=dN L∧St F0 w0 w' (rdA 1 t19 (ivs .i64 qxg) :: hcA cb (dCl L) :: qmc 1 t15 (ivs .i64 (dCl L)) :: qmc 1 t12 (ivs .i64 (dC L)) :: qmc 3 t11 ((dPs L).flatMap pcC) :: qs)) (fun n=>n) 19 ⟨rfl,Nat.le_refl _,by decide,dN_def L,h⟩ ?_
 clear h
 rintro n n' wL I μ ⟨rfl,hn,hn4,htr,h⟩ hnx
 have done:∀ w,qlh (dOc L) 4 n=n→St F0 w0 w (rdA 1 t19 (ivs .i64 qxg) :: hcA cb (dCl L) :: qmc 1 t15 (ivs .i64 (dCl L)) :: qmc 1 t12 (ivs .i64 (dC L)) :: qmc 3 t11 ((dPs L).flatMap pcC) :: qs)→qf.j9 (some ⟨kb,0,none⟩) ta tb (some ⟨lb,0,none⟩) (some ⟨db,0,none⟩) t11 t15 (some ⟨cb,0,none⟩) t19 (n:Int) (fun v w'=>K (.returned v) w') w:=by
  intro w e h
  rw [e] at htr
  have hd:=d_tkB hok
  refine qf.hdr (kb:=kb) (lb:=lb) (db:=db) (cb:=cb) (s:=s) (A:=A) (B:=B) (ll:=dA0 L) (dl:=dB0 L) (cl:=dCl L) (t11:=t11) (t15:=t15) (t19:=t19) (P:=dPs L) (L:=L) (a:=dA L) (b:=dB L) h (by omega) (dCl_len L) hn hn4 (dyn_ok hok hL) hta htb la.2 lb'.2 (d_256 L).2.2 hd.2 fun t w h1 h2 h=>?_
  rw [htr,dynB_def] at h1 h
  exact hk t w h1 h2 (h.tail fun _ _ _ h=>hq _ _ _ h.drop.drop.drop.drop.drop)
 unfold qf.b3
 refine qxc (fun g=>?_) (fun g=>?_)
 · obtain ⟨k,rfl⟩:∃ k,n=k+1:=⟨n - 1,by omega⟩
   have e:IntKind.i64.wrap (((k+1:Nat):Int) - 1)=(k:Int):=by rw [qi (by omega) (by omega)]; omega
   refine qw e ?_
   refine h.lx (s:=t19) k rfl (by show k < 19; omega) ?_
   have hz:=zord_lt k (by omega)
   refine h.lx (s:=t15) (qxg.getD k 0).toNat (by omega) (by rw [dCl_len]; omega) ?_
   rw [← dOc_get L (show k < 19 by omega)]
   refine qqe (fun g2=>?_) (fun g2=>?_)
   · have g2:(dOc L).getD k 0=0:=by simpa using g2
     refine qw e ?_
     refine ⟨⟨rfl,rfl,rfl,rfl,rfl,rfl,rfl,rfl,rfl⟩,hnx k _ _ ⟨rfl,by omega,by omega,?_,h⟩ (by omega)⟩
     rw [← htr,qlh,if_pos ⟨by omega,g2⟩]
   · have g2:¬ (dOc L).getD k 0=0:=by simpa using g2
     refine done wL ?_ h
     rw [qlh,if_neg fun e=>g2 e.2]
 · refine done wL ?_ h
   obtain ⟨k,rfl⟩:∃ k,n=k+1:=⟨n - 1,by omega⟩
   rw [qlh,if_neg (by omega)]
theorem qf.j6c {qs r2 r3:List As} {lb db:Nat} {ta tb t11 t12:Sl} (hq:∀ (F0:List Nat) (w0 w:World),St F0 w0 w qs→St F0 w0 w ps) [PkB kb qs [.slice s.a s.len s.cap,.slice A.a A.len A.cap,.slice B.a B.len B.cap] r1] [PkF hcA lb qs (dA0 L) r2] [PkF hcA db qs (dB0 L) r3] [Rdb F0 w0 s qs 3 (tks L)]
 (hok:∀ t ∈ L,tkOk t) (hL:L.length≤1000000) (hta:ta.len=(dA L).length) (htb:tb.len=(dB L).length) (h11:t11.len=(dPs L).length)
 (hk:∀ t w',t.len=((dynB L).length+7) / 8→t.cap=t.len→St F0 w0 w' (rdA 1 t (u8s (bytes (dynB L))) :: ps)→K (.returned (.slice t.a t.len t.cap)) w')
 (h:St F0 w0 w (qmc 1 t12 (ivs .i64 (dC L)) :: qmc 3 t11 ((dPs L).flatMap pcC) :: qs)):qf.j6 (some ⟨kb,0,none⟩) ta tb (some ⟨lb,0,none⟩) (some ⟨db,0,none⟩) t11 t12 (fun v w'=>K (.returned v) w') w:=by
 unfold qf.j6
 refine qt.c (s:=t12) (xs:=dC L) (m:=7) h (fun t15 w _ h15 h=>⟨t15,_,rfl,?_⟩) (fun w he _=>absurd (dC_least L) he)
 rw [dCl_def] at h
 rw [qyk] at h15
 refine qhc.c (s:=t15) (ls:=dCl L) h (fun cb w hn h=>⟨_,_,rfl,?_⟩) (fun w hn _=>absurd (dCl_new L) hn)
 unfold qf.j7
 refine h.new fun ob w h=>?_
 have h:St F0 w0 w (qjd ob (ivs .i64 qxg) :: hcA cb (dCl L) :: qmc 1 t15 (ivs .i64 (dCl L)) :: qmc 1 t12 (ivs .i64 (dC L)) :: qmc 3 t11 ((dPs L).flatMap pcC) :: qs):=h
 have h:=h.blkrd (n:=19) rfl
 generalize hob:(⟨some ⟨ob,0,none⟩,19,19⟩:Sl)=t19 at h
 have h19:t19.len=19∧t19.cap=19:=by rw [← hob]; exact ⟨rfl,rfl⟩
 have go:=qf.j8c (kb:=kb) (lb:=lb) (db:=db) (s:=s) (A:=A) (B:=B) (L:=L) (ta:=ta) (tb:=tb) hq hok hL hta htb h11 hk h19 h15 h
 exact go
theorem qf.j5c {qs r2 r3:List As} {lb db:Nat} {ta tb t11 t12:Sl} (hq:∀ (F0:List Nat) (w0 w:World),St F0 w0 w qs→St F0 w0 w ps) [PkB kb qs [.slice s.a s.len s.cap,.slice A.a A.len A.cap,.slice B.a B.len B.cap] r1] [PkF hcA lb qs (dA0 L) r2] [PkF hcA db qs (dB0 L) r3] [Rdb F0 w0 s qs 3 (tks L)]
 (hok:∀ t ∈ L,tkOk t) (hL:L.length≤1000000) (hta:ta.len=(dA L).length) (htb:tb.len=(dB L).length) (h11:t11.len=(dPs L).length)
 (hk:∀ t w',t.len=((dynB L).length+7) / 8→t.cap=t.len→St F0 w0 w' (rdA 1 t (u8s (bytes (dynB L))) :: ps)→K (.returned (.slice t.a t.len t.cap)) w')
 (h:St F0 w0 w (qmc 1 t12 (ivs .i64 (qsl 19 (dS0 L))) :: qmc 3 t11 ((dPs L).flatMap pcC) :: qs)):qf.j5 (some ⟨kb,0,none⟩) ta tb (some ⟨lb,0,none⟩) (some ⟨db,0,none⟩) t11 t12 (fun v w'=>K (.returned v) w') w:=by
 have lp:=qto L
 have lp1:=d_ps_pos L
 have lS:=qnq L
 have hm0:=maxF_in (qsl 19 (dS0 L)) 18
 unfold qf.j5
 refine qec.c (s:=t12) h (by rw [qrd]; decide) (by rw [qrd]; decide) fun w h=>⟨_,rfl,?_⟩
 rw [qrd,show 19 - 1=18 from rfl]
 refine qqe (fun g=>?_) (fun g=>?_)
 · have g:maxF (qsl 19 (dS0 L)) 18=(t11.len:Int):=by simpa using g
   have hdS:=dS_yes (L:=L) (by omega)
   have hpc:=(qmq L).ok _ (List.getElem_mem lp1)
   have hk2:=dK_lt L
   have ek:(dK L:Int)=Int.tmod ((dPs L)[0].1+1) 2:=by
    have:=hpc.1
    have e0:=dK_at (L:=L) (by omega)
    rw [Int.tmod_eq_emod_of_nonneg (by omega)]
    omega
   refine h.lrI (s:=t11) (f:=pcC) (o:=0) 0 rfl lp1 (by decide) rfl ?_
   have:=hpc.1
   have:=hpc.2.1
   refine qw (qi (by omega) (by omega)) ⟨by decide,?_⟩
   have hc1:=qbj (n:=19) (S:=dS0 L) (dK L)
   refine qw ek.symm ?_
   refine h.lx (s:=t12) (dK L) rfl (by rw [qrd]; omega) ?_
   refine qw (qi (by omega) (by omega)) ?_
   refine h.sx (s:=t12) (dK L) rfl (by rw [qrd]; omega) fun w h=>?_
   rw [qrl _ (by omega),← hdS,dC_def] at h
   exact qf.j6c (kb:=kb) (lb:=lb) (db:=db) (s:=s) (A:=A) (B:=B) (L:=L) (ta:=ta) (tb:=tb) hq hok hL hta htb h11 hk h
 · have g:¬ maxF (qsl 19 (dS0 L)) 18=(t11.len:Int):=by simpa using g
   have hdS:=dS_no (L:=L) (by omega)
   rw [← hdS,dC_def] at h
   exact qf.j6c (kb:=kb) (lb:=lb) (db:=db) (s:=s) (A:=A) (B:=B) (L:=L) (ta:=ta) (tb:=tb) hq hok hL hta htb h11 hk h
theorem qf.c (h:St F0 w0 w ps) [PkB kb ps [.slice s.a s.len s.cap,.slice A.a A.len A.cap,.slice B.a B.len B.cap] r1] [Rdb F0 w0 A ps 1 (ivs .i64 (litC L))] [Rdb F0 w0 B ps 1 (ivs .i64 (disC L))] [Rdb F0 w0 s ps 3 (tks L)] (hok:∀ t ∈ L,tkOk t) (hL:L.length≤1000000)
 (hk:∀ t w',t.len=((dynB L).length+7) / 8→t.cap=t.len→St F0 w0 w' (rdA 1 t (u8s (bytes (dynB L))) :: ps)→K (.returned (.slice t.a t.len t.cap)) w'):Calls Tryz.prog 133 ⟨[.pointer (some ⟨kb,0,none⟩)]⟩ w K:=by
 have la:=dA_len L
 have lb':=dB_len L
 have lp:=qto L
 have lp1:=d_ps_pos L
 refine qnc (qf.ok _ _ _ ?_)
 unfold qf
 refine qod ?_
 simp only [qnf,Nat.zero_add]
 refine h.fL (b:=kb) ?_
 refine qt.c (s:=A) (xs:=litC L) (m:=15) h (fun t3 w _ h3 h=>⟨t3,_,rfl,?_⟩) (fun w he _=>absurd (litC_least hL) he)
 rw [dA0_def] at h
 rw [qpj] at h3
 unfold qf.j1
 refine qod ?_
 simp only [qnf,Nat.zero_add]
 refine h.fL (b:=kb) ?_
 refine qt.c (s:=B) (xs:=disC L) (m:=15) h (fun t5 w _ h5 h=>⟨t5,_,rfl,?_⟩) (fun w he _=>absurd (disC_least hL) he)
 rw [dB0_def] at h
 rw [qqj] at h5
 have c5:=h.cap (by decide)
 have c3:=h.drop.cap (by decide)
 refine qhc.c (s:=t3) (ls:=dA0 L) h (fun lb w hn h=>⟨_,_,rfl,?_⟩) (fun w hn _=>absurd (dA0_new L) hn)
 unfold qf.j2
 refine qhc.c (s:=t5) (ls:=dB0 L) h (fun db w hn h=>⟨_,_,rfl,?_⟩) (fun w hn _=>absurd (dB0_new L) hn)
 refine qwd.c (s:=t3) (xs:=dA0 L) (m:=257) h (by rw [dA0_len]; decide) c3 fun ta w ra hta hca h=>⟨ta,rfl,?_⟩
 refine qwd.c (s:=t5) (xs:=dB0 L) (m:=1) h (by rw [dB0_len]; decide) c5 fun tb w rb htb hcb h=>⟨tb,rfl,?_⟩
 rw [dA_def] at ra
 rw [dB_def] at rb
 have hta:ta.len=(dA L).length:=by
  have:=(h.rdb ta).1
  rw [qx] at this; omega
 have htb:tb.len=(dB L).length:=by
  have:=(h.rdb tb).1
  rw [qx] at this; omega
 generalize hps:hcA db (dB0 L) :: hcA lb (dA0 L) :: qmc 1 t5 (ivs .i64 (dB0 L)) :: qmc 1 t3 (ivs .i64 (dA0 L)) :: ps=qs at h ra rb
 have i1:∃ r,PkB kb qs [.slice s.a s.len s.cap,.slice A.a A.len A.cap,.slice B.a B.len B.cap] r:=⟨_,by rw [← hps]; infer_instance⟩
 have i2:∃ r,PkF hcA lb qs (dA0 L) r:=⟨_,by rw [← hps]; infer_instance⟩
 have i3:∃ r,PkF hcA db qs (dB0 L) r:=⟨_,by rw [← hps]; infer_instance⟩
 have i4:Rdb F0 w0 s qs 3 (tks L):=by rw [← hps]; infer_instance
 have hq:∀ (F0:List Nat) (w0 w:World),St F0 w0 w qs→St F0 w0 w ps:=fun F0 w0 w h=>by rw [← hps] at h; exact h.drop.drop.drop.drop
 clear hps
 obtain ⟨r1,i1⟩:=i1
 obtain ⟨r2,i2⟩:=i2
 obtain ⟨r3,i3⟩:=i3
 unfold qf.j3
 refine h.new fun nb w h=>?_
 have h:St F0 w0 w (qjd nb [.slice ta.a ta.len ta.cap,.slice tb.a tb.len tb.cap] :: qs):=h
 refine qdb.c2 (A:=ta) (B:=tb) (xs:=dA L) (ys:=dB L) h (by omega) fun tc w htc h=>⟨tc,rfl,?_⟩
 refine qob.c (s:=tc) (xs:=dA L ++ dB L) h (by rw [List.length_append]; omega) fun t11 w h11 h=>⟨t11,rfl,?_⟩
 rw [dPs_def] at h h11
 have h:St F0 w0 w (qmc 3 t11 ((dPs L).flatMap pcC) :: qs):=h.tail fun _ _ _ h=>h.drop.drop
 refine h.makeI (k:=.i64) (n:=19) rfl rfl (by decide) fun t12 w h12 _ h=>?_
 unfold qf.j4 qf.j17
 have hS:(dS0 L).length=(dPs L).length:=qnq L
 refine qpg (fun (i:Nat) (i':Int) w'=>i'=i∧i≤(dPs L).length∧St F0 w0 w' (qmc 1 t12 (ivs .i64 (qsl 19 ((dS0 L).take i))) :: qmc 3 t11 ((dPs L).flatMap pcC) :: qs)) (fun i=>(dPs L).length - i) 0 ⟨rfl,by omega,by rw [List.take_zero,cntL_nil]; exact h⟩ ?_
 clear h
 rintro i i' wL I μ ⟨rfl,hi,h⟩ hnx
 unfold qf.b4
 refine qxc (fun g=>?_) (fun g=>?_)
 · have hi2:i < (dPs L).length:=by omega
   have hpc:=(qmq L).ok _ (List.getElem_mem hi2)
   have es:=dS0_at hi2
   refine h.lr (s:=t11) (f:=pcC) i rfl hi2 ?_
   generalize (dPs L)[i]=q at hpc es ⊢
   rw [qjj]
   refine h.new fun a w h=>⟨rfl,?_⟩
   have h:St F0 w0 w (qjd a (pcC (0,0,0)) :: qmc 1 t12 (ivs .i64 (qsl 19 ((dS0 L).take i))) :: qmc 3 t11 ((dPs L).flatMap pcC) :: qs):=h
   refine h.sA (b:=a) (l':=pcC q) rfl rfl (qjh _) fun w h=>?_
   have h:St F0 w0 w (qjd a [.int .i64 q.1,.int .i64 q.2.1,.int .i64 q.2.2] :: qmc 1 t12 (ivs .i64 (qsl 19 ((dS0 L).take i))) :: qmc 3 t11 ((dPs L).flatMap pcC) :: qs):=h
   simp only [qnf,Nat.zero_add]
   have h0:=hpc.1
   have h19:=hpc.2.1
   have hc1:=qbj (n:=19) (S:=(dS0 L).take i) q.1.toNat
   rw [List.length_take] at hc1
   refine h.fI (b:=a) ?_
   refine h.lx (s:=t12) q.1.toNat (by omega) (by rw [qrd]; omega) ?_
   refine qw (qi (by omega) (by omega)) ?_
   refine h.sx (s:=t12) q.1.toNat (by omega) (by rw [qrd]; omega) fun w h=>?_
   rw [qrl _ (by omega),← es] at h
   refine qw (qi (by omega) (by omega)) ?_
   exact ⟨⟨by trivial,by trivial,by trivial,by trivial,by trivial,by trivial,by trivial,by trivial,by trivial⟩,hnx (i+1) _ _ ⟨by omega,by omega,h.sub⟩ (by omega)⟩
 · have:i=(dPs L).length:=by omega
   subst this
   rw [List.take_of_length_le (by omega)] at h
   clear hnx
   exact qf.j5c (kb:=kb) (lb:=lb) (db:=db) (s:=s) (A:=A) (B:=B) (L:=L) (ta:=ta) (tb:=tb) hq hok hL hta htb h11 hk h
end
end Go.Proofs.YthdmmmfgjmmelaaGreat
namespace Go.Proofs.YthdmmmfgjmmelaaGreat
open Go Go.Proofs
set_option linter.unusedVariables false
set_option linter.unusedSimpArgs false
attribute [local irreducible] apK cpK mkK br dynB
theorem xor_sub {k:Nat} (h:k < 65536):65535 ^^^ k=65535 - k:=by
 apply Nat.eq_of_testBit_eq
 intro i
 have e1:65535 - k=2 ^ 16 - (k+1):=by omega
 rw [e1,Nat.testBit_two_pow_sub_succ (by omega),Nat.testBit_xor,show (65535:Nat)=2 ^ 16 - 1 from rfl,Nat.testBit_two_pow_sub_one]
 by_cases hi:i < 16
 · simp [hi]
 · have:k.testBit i=false:=Nat.testBit_lt_two_pow (Nat.lt_of_lt_of_le h (Nat.pow_le_pow_right (n:=2) (i:=16) (by decide) (show 16≤i by omega)))
   simp [hi,this]
theorem not_bits {k:Nat} (h:k < 65536):qm (xorV .i64 (-1) (k:Int)) 16=qm ((65535 ^^^ k:Nat):Int) 16:=by
 refine val_inj (by rw [qq,qq]) ?_
 have h1:=qwj (xorV .i64 (-1) (k:Int)) 16
 have h2:=qwj ((65535 ^^^ k:Nat):Int) 16
 rw [xor_sub h] at h2 ⊢
 have e:(BitVec.ofInt 64 (-1) ^^^ BitVec.ofInt 64 (k:Int)).toNat=18446744073709551615 - k:=by
  rw [show BitVec.ofInt 64 (-1)=BitVec.allOnes 64 by decide,BitVec.allOnes_xor,BitVec.toNat_not,BitVec.ofInt_natCast,BitVec.toNat_ofNat,Nat.mod_eq_of_lt (by omega)]
 have hx:xorV .i64 (-1) (k:Int)=IntKind.i64.wrap (((18446744073709551615 - k:Nat)):Int):=by
  show IntKind.i64.wrap (((BitVec.ofInt 64 (-1) ^^^ BitVec.ofInt 64 (k:Int)).toNat:Nat):Int)=_
  rw [e]
 have hw:=wrap_mod .i64 (((18446744073709551615 - k:Nat)):Int)
 rw [← hx,show (2:Int) ^ IntKind.i64.bits=18446744073709551616 by decide] at hw
 rw [show (2:Int) ^ 16=65536 by decide] at h1 h2
 omega
def byN (D:List Bool):Nat:=(D.length+7) / 8
def pickB (D E:List Bool):List Bool:=if byN E < byN D then E else D
def dfB (xs:List Int) (L:List Tk):List Bool:=pickB (pickB (sdB xs) (fxB L)) (dynB L)
theorem pick_or (D E:List Bool):(pickB D E=D ∨ pickB D E=E)∧byN (pickB D E)≤byN D:=by
 unfold pickB
 split
 · exact ⟨Or.inr rfl,by omega⟩
 · exact ⟨Or.inl rfl,Nat.le_refl _⟩
theorem sdB_len (xs:List Int):(sdB xs).length=40+8 * xs.length:=by
 unfold sdB
 simp only [List.length_append,List.length_cons,List.length_nil,List.length_replicate,qq,qmn]
 omega
theorem dfB_len (xs:List Int) (L:List Tk):byN (dfB xs L)≤5+xs.length:=by
 have h1:=(pick_or (sdB xs) (fxB L)).2
 have h2:=(pick_or (pickB (sdB xs) (fxB L)) (dynB L)).2
 have h3:=sdB_len xs
 unfold dfB
 unfold byN at *
 omega
theorem dfB_ok {xs:List Int} {L:List Tk} (hb:∀ x ∈ xs,0≤x∧x < 256) (hl:xs.length < 65536) (hL:qxf xs 0 L xs.length):Dfl xs (dfB xs L):=by
 have h1:=Dfl.stored hb hl
 have h2:=Dfl.fixed hb hL (fun t ht=>fx_in (hL.tkOk hb t ht))
 have h3:=dynB_ok hb hL
 have h4:Dfl xs (pickB (sdB xs) (fxB L)):=by
  rcases (pick_or (sdB xs) (fxB L)).1 with e | e <;> rw [e] <;> assumption
 unfold dfB
 rcases (pick_or (pickB (sdB xs) (fxB L)) (dynB L)).1 with e | e <;> rw [e] <;> assumption
abbrev tkF (xs:List Int) (e:Int):List Tk:=findL xs (looksOf e) xs.length 0
theorem qkp (xs:List Int) (e:Int):qxf xs 0 (tkF xs e) xs.length:=findL_makes xs _ _ _ (by omega) (Nat.zero_le _)
theorem tkF_len (xs:List Int) (e:Int):(tkF xs e).length≤xs.length:=by
 have:=(qkp xs e).le (Nat.zero_le _)
 omega
def qvf (xs:List Int) (e:Int):List Bool:=dfB xs (tkF xs e)
theorem qpo {xs:List Int} (hb:∀ x ∈ xs,0≤x∧x < 256) (hl:xs.length < 65536) (e:Int):Dfl xs (qvf xs e):=dfB_ok hb hl (qkp xs e)
theorem pad_al (l:List Bool) (h:l.length % 8=0):pad l=[]:=by
 unfold pad
 rw [h]; rfl
section
variable {F0:List Nat} {w0 w:World} {ps:List As} {s:Sl} {xs:List Int} {K:Ending→World→Prop}
theorem qhb.c (h:St F0 w0 w ps) [hr:Rdb F0 w0 s ps 1 (u8s xs)] (hb:∀ x ∈ xs,0≤x∧x < 256) (hl:xs.length < 65536) (hc:s.len≤s.cap)
 (hk:∀ t w',t.len=byN (sdB xs)→t.cap=t.len→St F0 w0 w' (rdA 1 t (u8s (bytes (sdB xs))) :: ps)→K (.returned (.slice t.a t.len t.cap)) w'):Calls Tryz.prog 131 ⟨[.slice s.a s.len s.cap]⟩ w K:=by
 have hls:=(h.rdb s).1
 rw [qx] at hls
 refine qnc (qhb.ok _ _ _ ?_)
 unfold qhb qhb.j1
 refine qxc (fun g=>by omega) (fun g=>?_)
 refine qhf.c h fun wb w h=>⟨_,rfl,?_⟩
 unfold qhb.j2 qhb.j4
 refine qkh (fun (f:Bool) (b':Sl) (m':Bool) w'=>m'=f∧(f=true→b'=s∧St F0 w0 w' (wrL wb [] :: ps))∧(f=false→St F0 w0 w' (wrL wb (sdB xs) :: ps))) (fun f=>if f then 1 else 0) true ⟨rfl,fun _=>⟨rfl,h⟩,fun e=>by cases e⟩ ?_
 clear h
 rintro f b' m' wL I μ ⟨rfl,h1,h2⟩ hin
 unfold qhb.b1
 cases m' with
 | false =>
   refine qik ?_
   have h:=h2 rfl
   unfold qhb.j3
   refine qne.c h (by rw [sdB_len]; omega) fun t w h1 h2 h=>⟨t,rfl,?_⟩
   exact hk t w h1 h2 h.sub
 | true =>
   obtain ⟨rfl,h⟩:=h1 rfl
   refine qum ?_
   unfold qhb.j5
   refine qw (show (if (65535:Int) < (b'.len:Int) then (65535:Int) else (b'.len:Int))=(b'.len:Int) by rw [if_neg (by omega)]) ?_
   have ef:decide (((b'.len:Nat):Int) < (b'.len:Int))=false:=decide_eq_false (by omega)
   rw [ef]
   unfold qhb.j6
   refine qik ?_
   unfold qhb.j7
   refine qnb.cl h (by simp) fun w h=>⟨rfl,?_⟩
   rw [show ([] ++ pb 1 3:List Bool)=[true,false,false] by decide +kernel] at h
   refine que.c h (by simp) fun w h=>⟨rfl,?_⟩
   rw [show pad [true,false,false]=List.replicate 5 false by decide +kernel] at h
   unfold qhb.j8
   refine qnb.cl h (by simp) fun w h=>⟨rfl,?_⟩
   rw [qpk (by decide) (by decide),show (16:Int).toNat=16 from rfl] at h
   refine qw (show xorV .i64 (if IntKind.signed .i64 then -1 else IntKind.max .i64) (b'.len:Int)=xorV .i64 (-1) (b'.len:Int) from rfl) ?_
   refine qnb.cl h (by simp [qq]) fun w h=>⟨rfl,?_⟩
   rw [qpk (by decide) (by decide),show (16:Int).toNat=16 from rfl,not_bits (by omega)] at h
   have el:b'.len=xs.length:=by omega
   generalize hP:[true,false,false] ++ List.replicate 5 false ++ qm (b'.len:Int) 16 ++ qm ((65535 ^^^ b'.len:Nat):Int) 16=P at h
   have hPl:P.length=40:=by rw [← hP]; simp [qq]
   have hPs:P ++ bb xs=sdB xs:=by
    rw [← hP,el]
    unfold sdB
    simp only [List.append_assoc]
   unfold qhb.j9
   refine qzo (n:=b'.len) rfl (by omega) (qwh ?_)
   haveI:Rdb F0 w0 ⟨qwf b'.a b'.cap 0 1,b'.len - 0,b'.cap - 0⟩ ps 1 (u8s xs):=hr.cutAs 0 b'.len _ (by omega) (by omega) hc (by rw [List.drop_zero,List.take_of_length_le (by omega)])
   generalize hq:(⟨qwf b'.a b'.cap 0 1,b'.len - 0,b'.cap - 0⟩:Sl)=q at *
   have hql:q.len=xs.length:=by rw [← hq,← el]; rfl
   unfold qhb.j11
   refine qpg (fun (i:Nat) (i':Int) w'=>i'=i∧i≤xs.length∧St F0 w0 w' (wrL wb (P ++ bb (xs.take i)) :: ps)) (fun i=>xs.length - i) 0 ⟨rfl,by omega,by simpa [bb] using h⟩ ?_
   clear h
   rintro i i' wL2 I2 μ2 ⟨rfl,hi,h⟩ hnx
   unfold qhb.b2
   have hbl:=qmn (xs.take i)
   rw [List.length_take] at hbl
   refine qxc (fun g=>?_) (fun g=>?_)
   · have hi2:i < xs.length:=by omega
     refine h.lx (s:=q) i rfl hi2 ?_
     have hx:=hb _ (qde hi2)
     refine qrf.c h (by rw [List.length_append]; omega) hx fun w h=>⟨rfl,?_⟩
     rw [pad_al _ (by rw [List.length_append]; omega),List.append_nil,List.append_assoc,← bb_snoc,← qrg hi2] at h
     refine qw (qi (by omega) (by omega)) ?_
     exact ⟨⟨rfl,rfl,rfl,rfl,rfl,rfl⟩,hnx (i+1) _ _ ⟨by omega,by omega,h⟩ (by omega)⟩
   · have:i=xs.length:=by omega
     subst this
     rw [List.take_length,hPs] at h
     unfold qhb.j10
     refine qzo (n:=b'.len) rfl (by omega) (qwh ?_)
     exact ⟨rfl,hin false _ _ _ ⟨rfl,fun e=>(by cases e),fun _=>h⟩ (by decide)⟩
theorem plain_fixed:plainF Tryz.prog 132=true:=by kernel_rfl
theorem plain_dynamic:plainF Tryz.prog 133=true:=by kernel_rfl
attribute [local irreducible] asFn whenB plainF
def dfI (xs:List Int) (L:List Tk):Nat→List Bool
 | 0=>sdB xs
 | 1=>pickB (sdB xs) (fxB L)
 | _=>dfB xs L
abbrev dfV:List Value:=[.func (.func 132) ⟨[]⟩ ⟨[]⟩,.func (.func 133) ⟨[]⟩ ⟨[]⟩]
theorem qgc.loop {L:List Tk} {kb:Nat} {s' A B out t19:Sl} (h:St F0 w0 w (rdA 1 out (u8s (bytes (sdB xs))) :: rdA 1 t19 dfV :: qjd kb [.slice s'.a s'.len s'.cap,.slice A.a A.len A.cap,.slice B.a B.len B.cap] :: rdA 1 A (ivs .i64 (litC L)) :: rdA 1 B (ivs .i64 (disC L)) :: rdA 3 s' (tks L) :: ps))
 (h19:t19.len=2) (ho1:out.len=byN (sdB xs)) (ho2:out.cap=out.len) (hok:∀ t ∈ L,tkOk t) (hL:L.length≤1000000)
 (hk:∀ t w',t.len=byN (dfB xs L)→t.cap=t.len→St F0 w0 w' (rdA 1 t (u8s (bytes (dfB xs L))) :: ps)→K (.returned (.slice t.a t.len t.cap)) w') :
 qgc.j4 (some ⟨kb,0,none⟩) out t19 2 0 (fun v w'=>K (.returned v) w') w:=by
 unfold qgc.j4
 refine qkh (fun (i:Nat) (o:Sl) (i':Int) w'=>i'=i∧i≤2∧o.len=byN (dfI xs L i)∧o.cap=o.len∧St F0 w0 w' (rdA 1 o (u8s (bytes (dfI xs L i))) :: rdA 1 t19 dfV :: qjd kb [.slice s'.a s'.len s'.cap,.slice A.a A.len A.cap,.slice B.a B.len B.cap] :: rdA 1 A (ivs .i64 (litC L)) :: rdA 1 B (ivs .i64 (disC L)) :: rdA 3 s' (tks L) :: ps)) (fun i=>2 - i) 0 ⟨rfl,by decide,ho1,ho2,h⟩ ?_
 clear h ho1 ho2
 rintro i o i' wL I μ ⟨rfl,hi,ho1,ho2,h⟩ hin
 unfold qgc.b1
 refine qxc (fun g=>?_) (fun g=>?_)
 · have hr:=h.rdb t19
   refine hr.ix (by decide) (by omega) (by omega) fun a ha=>?_
   have ei:((i:Int)).toNat * 1=i:=by omega
   rw [ei]
   have pick:∀ (E:List Bool) (t:Sl) w,dfI xs L (i+1)=pickB (dfI xs L i) E→t.len=byN E→t.cap=t.len→St F0 w0 w (rdA 1 t (u8s (bytes E)) :: rdA 1 o (u8s (bytes (dfI xs L i))) :: rdA 1 t19 dfV :: qjd kb [.slice s'.a s'.len s'.cap,.slice A.a A.len A.cap,.slice B.a B.len B.cap] :: rdA 1 A (ivs .i64 (litC L)) :: rdA 1 B (ivs .i64 (disC L)) :: rdA 3 s' (tks L) :: ps) →
    br (decide ((((t.len:Nat):Int):Int) < ((o.len:Nat):Int))) (lt (IntKind.i64.wrap ((i:Int)+1)) fun x9=>((some ⟨kb,0,none⟩:Option Addr)=some ⟨kb,0,none⟩∧t19=t19∧(2:Int)=2)∧I t x9 w∧μ t x9 w < μ o (i:Int) wL)
     (lt (IntKind.i64.wrap ((i:Int)+1)) fun x9=>((some ⟨kb,0,none⟩:Option Addr)=some ⟨kb,0,none⟩∧t19=t19∧(2:Int)=2)∧I o x9 w∧μ o x9 w < μ o (i:Int) wL):=by
    intro E t w he h1 h2 h
    unfold pickB at he
    refine qxc (fun g2=>?_) (fun g2=>?_)
    · rw [if_pos (by omega)] at he
      refine qw (qi (by omega) (by omega)) ?_
      exact ⟨⟨rfl,rfl,rfl⟩,hin (i+1) _ _ _ ⟨by omega,by omega,by rw [he]; exact h1,h2,by rw [he]; exact h.tail fun _ _ _ h=>h.drop⟩ (by omega)⟩
    · rw [if_neg (by omega)] at he
      refine qw (qi (by omega) (by omega)) ?_
      exact ⟨⟨rfl,rfl,rfl⟩,hin (i+1) _ _ _ ⟨by omega,by omega,by rw [he]; exact ho1,ho2,by rw [he]; exact h.drop⟩ (by omega)⟩
   rcases (show i=0 ∨ i=1 by omega) with rfl | rfl
   · refine ⟨.func (.func 132) ⟨[]⟩ ⟨[]⟩,by rw [hr.cell ha (by decide)]; rfl,?_⟩
     show asFn _ _
     refine asFn_i (f:=132) (first:=⟨[]⟩) (cap:=⟨[]⟩) ?_
     refine whenB_i plain_fixed ?_
     refine Eq.mp (congrArg (fun a=>Calls Tryz.prog 132 a _ _) (show (⟨[.pointer (some ⟨kb,0,none⟩)]⟩:Array Value)=⟨((⟨[]⟩:Array Value).toList ++ [.pointer (some ⟨kb,0,none⟩)]) ++ (⟨[]⟩:Array Value).toList⟩ from rfl)) ?_
     refine qof.c (kb:=kb) (s:=s') (A:=A) (B:=B) (L:=L) h hok hL fun t w h1 h2 h=>⟨t,rfl,?_⟩
     exact pick (fxB L) t w rfl h1 h2 h
   · refine ⟨.func (.func 133) ⟨[]⟩ ⟨[]⟩,by rw [hr.cell ha (by decide)]; rfl,?_⟩
     show asFn _ _
     refine asFn_i (f:=133) (first:=⟨[]⟩) (cap:=⟨[]⟩) ?_
     refine whenB_i plain_dynamic ?_
     refine Eq.mp (congrArg (fun a=>Calls Tryz.prog 133 a _ _) (show (⟨[.pointer (some ⟨kb,0,none⟩)]⟩:Array Value)=⟨((⟨[]⟩:Array Value).toList ++ [.pointer (some ⟨kb,0,none⟩)]) ++ (⟨[]⟩:Array Value).toList⟩ from rfl)) ?_
     refine qf.c (kb:=kb) (s:=s') (A:=A) (B:=B) (L:=L) h hok hL fun t w h1 h2 h=>⟨t,rfl,?_⟩
     exact pick (dynB L) t w rfl h1 h2 h
 · have:i=2:=by omega
   subst this
   unfold qgc.j3
   exact hk o wL ho1 ho2 (h.tail fun _ _ _ h=>h.drop.drop.drop.drop.drop)
theorem qgc.c {e:Int} (h:St F0 w0 w ps) [Rdb F0 w0 s ps 1 (u8s xs)] (hb:∀ x ∈ xs,0≤x∧x < 256) (hl:xs.length < 65536) (hc:s.len≤s.cap)
 (hk:∀ t w',t.len=byN (qvf xs e)→t.cap=t.len→St F0 w0 w' (rdA 1 t (u8s (bytes (qvf xs e))) :: ps)→K (.returned (.slice t.a t.len t.cap)) w'):Calls Tryz.prog 46 ⟨[.slice s.a s.len s.cap,.int .i64 e]⟩ w K:=by
 have hls:=(h.rdb s).1
 rw [qx] at hls
 have htl:=tkF_len xs e
 have hok:=(qkp xs e).tkOk hb
 refine qnc (qgc.ok _ _ _ _ ?_)
 unfold qgc qgc.j1
 refine qxc (fun g=>by omega) (fun g=>?_)
 refine qtc.c (s:=s) h hb hc (by omega) fun s' w h1 h2 h=>⟨s',rfl,?_⟩
 refine qkd.c (s:=s') (L:=tkF xs e) h hok (by omega) fun kb A B w hA hB h=>⟨_,rfl,?_⟩
 refine qhb.c (s:=s) (xs:=xs) h hb hl hc fun out w ho1 ho2 h=>⟨out,rfl,?_⟩
 unfold qgc.j2
 refine h.new fun nb w h=>?_
 have h:St F0 w0 w (qjd nb dfV :: rdA 1 out (u8s (bytes (sdB xs))) :: qjd kb [.slice s'.a s'.len s'.cap,.slice A.a A.len A.cap,.slice B.a B.len B.cap] :: rdA 1 A (ivs .i64 (litC (tkF xs e))) :: rdA 1 B (ivs .i64 (disC (tkF xs e))) :: rdA 3 s' (tks (tkF xs e)) :: ps):=h
 have h:=h.blkrd (n:=2) rfl
 exact qgc.loop (t19:=⟨some ⟨nb,0,none⟩,2,2⟩) h.at1 rfl ho1 ho2 hok (by omega) hk
end
end Go.Proofs.YthdmmmfgjmmelaaGreat
namespace Go.Proofs.YthdmmmfgjmmelaaGreat
open Go Go.Proofs
set_option linter.unusedVariables false
set_option maxRecDepth 100000
def qke  (Q:VWP) (w:World):Prop :=
 lt (⟨World.heapSize w,0,none⟩:Addr) fun a1 =>
 lt (World.alloc w (.cells ⟨[.int .u8 104,.int .u8 101,.int .u8 108,.int .u8 108,.int .u8 111,.int .u8 32,.int .u8 104,.int .u8 101,.int .u8 108,.int .u8 108,.int .u8 111,.int .u8 32,.int .u8 104,.int .u8 101,.int .u8 108,.int .u8 108,.int .u8 111]⟩ 5)) fun w2 =>
 mkStr w2 (some a1) fun w3 =>
 Calls Tryz.prog 45 ⟨[.slice (some a1) 17 17,.int .i64 2]⟩ w3 fun e4 w5 =>
 ∃ r6:Sl,e4=.returned (.slice r6.a r6.len r6.cap) ∧
 Calls Tryz.prog 43 ⟨[.slice r6.a r6.len r6.cap,.int .i64 100]⟩ w5 fun e7 w8 =>
 ∃ r9:Sl,∃ r10:Int,∃ r11:Int,e7=.returned (.tuple ⟨[.slice r9.a r9.len r9.cap,.int .i64 r10,.int .i64 r11]⟩) ∧
 (2:Int) ≠ 0 ∧
 lt (IntKind.i64.wrap (Int.tdiv ((r6.len:Nat):Int) 2)) fun x12 =>
 bd x12 r6.cap fun n13 =>
 lt (⟨qwf r6.a r6.cap 0 1,n13 - 0,r6.cap - 0⟩:Sl) fun s14 =>
 Calls Tryz.prog 43 ⟨[.slice s14.a s14.len s14.cap,.int .i64 100]⟩ w8 fun e15 w16 =>
 ∃ r17:Sl,∃ r18:Int,∃ r19:Int,e15=.returned (.tuple ⟨[.slice r17.a r17.len r17.cap,.int .i64 r18,.int .i64 r19]⟩) ∧
 br (decide ((((r6.len:Nat):Int):Int) > 8)) (
 ixS r6.a r6.len 0 1 fun a20 =>
 ldI .u8 w16 a20 fun x21 =>
 br ((x21:Int) == 120) (
 br ((r11:Int) == 0) (
 br ((r10:Int) == ((r6.len:Nat):Int)) (
 btS w16 r9.a r9.len fun x22 =>
 br (ByteArray.toList x22 == ByteArray.toList ({ data:=#[104,101,108,108,111,32,104,101,108,108,111,32,104,101,108,108,111] })) (
 Q (.bool ((r19:Int) == 3)) w16) (
 Q (.bool false) w16)) (
 Q (.bool false) w16)) (
 Q (.bool false) w16)) (
 Q (.bool false) w16)) (
 Q (.bool false) w16)
theorem qke.ok  (Q:VWP) (w:World) (h:qke  Q w):Calls Tryz.prog 42 ⟨[]⟩ w (Ret Q):=by
 refine qp [.tmp 0] Tryz.func42 rfl rfl rfl rfl ?_
 exact qg qpb _ (Eq.mp (by kernel_rfl) h)
def trovelaw9_ZlibBytes (z_0:Sl) (most_1:Int) (Q:VWP) (w:World):Prop :=
 Calls Tryz.prog 42 ⟨[]⟩ w fun e1 w2 =>
 ∃ r3:Bool,e1=.returned (.bool r3) ∧
 br (!r3) (
 Q (.bool false) w2) (
 br (decide ((((z_0.len:Nat):Int):Int) > 3000)) (
 Q (.bool true) w2) (
 Calls Tryz.prog 43 ⟨[.slice z_0.a z_0.len z_0.cap,.int .i64 most_1]⟩ w2 fun e4 w5 =>
 ∃ r6:Sl,∃ r7:Int,∃ r8:Int,e4=.returned (.tuple ⟨[.slice r6.a r6.len r6.cap,.int .i64 r7,.int .i64 r8]⟩) ∧
 Calls Tryz.prog 44 ⟨[.slice z_0.a z_0.len z_0.cap,.int .i64 most_1]⟩ w5 fun e9 w10 =>
 ∃ r11:Sl,∃ r12:Int,∃ r13:Int,e9=.returned (.tuple ⟨[.slice r11.a r11.len r11.cap,.int .i64 r12,.int .i64 r13]⟩) ∧
 btS w10 r6.a r6.len fun x14 =>
 btS w10 r11.a r11.len fun x15 =>
 br (ByteArray.toList x14 == ByteArray.toList x15) (
 br ((r7:Int) == r12) (
 Q (.bool ((r8:Int) == r13)) w10) (
 Q (.bool false) w10)) (
 Q (.bool false) w10)))
theorem trovelaw9_ZlibBytes.ok (z_0:Sl) (most_1:Int) (Q:VWP) (w:World) (h:trovelaw9_ZlibBytes z_0 most_1 Q w):Calls Tryz.prog 9 ⟨[.slice z_0.a z_0.len z_0.cap,.int .i64 most_1]⟩ w (Ret Q):=by
 refine qp [.tmp 4] Tryz.func9 rfl rfl rfl rfl ?_
 exact qg qpb _ (Eq.mp (by kernel_rfl) h)
def trovelaw9_ZlibTurned (b_0:Sl) (effort_1:Int) (at_2 x_3:Int) (Q:VWP) (w:World):Prop :=
 Calls Tryz.prog 42 ⟨[]⟩ w fun e1 w2 =>
 ∃ r3:Bool,e1=.returned (.bool r3) ∧
 br (!r3) (
 Q (.bool false) w2) (
 br (decide ((((b_0.len:Nat):Int):Int) > 3000)) (
 Q (.bool true) w2) (
 Calls Tryz.prog 45 ⟨[.slice b_0.a b_0.len b_0.cap,.int .i64 effort_1]⟩ w2 fun e4 w5 =>
 ∃ r6:Sl,e4=.returned (.slice r6.a r6.len r6.cap) ∧
 br (decide ((at_2:Int) < 0)) (
 Q (.bool true) w5) (
 br (decide ((at_2:Int) ≥ ((r6.len:Nat):Int))) (
 Q (.bool true) w5) (
 ixS r6.a r6.len at_2 1 fun a7 =>
 ldI .u8 w5 a7 fun x8 =>
 lt (xorV .u8 x8 x_3) fun x9 =>
 ixS r6.a r6.len at_2 1 fun a10 =>
 st w5 a10 (.int .u8 x9) fun w11 =>
 Calls Tryz.prog 43 ⟨[.slice r6.a r6.len r6.cap,.int .i64 3000]⟩ w11 fun e12 w13 =>
 ∃ r14:Sl,∃ r15:Int,∃ r16:Int,e12=.returned (.tuple ⟨[.slice r14.a r14.len r14.cap,.int .i64 r15,.int .i64 r16]⟩) ∧
 Calls Tryz.prog 44 ⟨[.slice r6.a r6.len r6.cap,.int .i64 3000]⟩ w13 fun e17 w18 =>
 ∃ r19:Sl,∃ r20:Int,∃ r21:Int,e17=.returned (.tuple ⟨[.slice r19.a r19.len r19.cap,.int .i64 r20,.int .i64 r21]⟩) ∧
 btS w18 r14.a r14.len fun x22 =>
 btS w18 r19.a r19.len fun x23 =>
 br (ByteArray.toList x22 == ByteArray.toList x23) (
 Q (.bool ((r16:Int) == r21)) w18) (
 Q (.bool false) w18)))))
theorem trovelaw9_ZlibTurned.ok (b_0:Sl) (effort_1:Int) (at_2:Int) (x_3:Int) (Q:VWP) (w:World) (h:trovelaw9_ZlibTurned b_0 effort_1 at_2 x_3 Q w):Calls Tryz.prog 10 ⟨[.slice b_0.a b_0.len b_0.cap,.int .i64 effort_1,.int .i64 at_2,.int .u8 x_3]⟩ w (Ret Q):=by
 refine qp [.tmp 8] Tryz.func10 rfl rfl rfl rfl ?_
 exact qg qpb _ (Eq.mp (by kernel_rfl) h)
def trovelaw9_ZlibBounds (d_0 i_1:Sl) (t2:Int) (Q:VWP) (w:World):Prop :=
 Calls Tryz.prog 42 ⟨[]⟩ w fun e1 w2 =>
 ∃ r3:Bool,e1=.returned (.bool r3) ∧
 br (!r3) (
 Q (.bool false) w2) (
 br (decide ((((d_0.len:Nat):Int):Int) > 3000)) (
 Q (.bool true) w2) (
 br (decide ((((i_1.len:Nat):Int):Int) > 3000)) (
 Q (.bool true) w2) (
 Calls Tryz.prog 45 ⟨[.slice d_0.a d_0.len d_0.cap,.int .i64 t2]⟩ w2 fun e4 w5 =>
 ∃ r6:Sl,e4=.returned (.slice r6.a r6.len r6.cap) ∧
 Calls Tryz.prog 45 ⟨[.slice i_1.a i_1.len i_1.cap,.int .i64 t2]⟩ w5 fun e7 w8 =>
 ∃ r9:Sl,e7=.returned (.slice r9.a r9.len r9.cap) ∧
 lt (⟨World.heapSize w8,0,none⟩:Addr) fun a10 =>
 lt (World.alloc w8 (.cells ⟨[]⟩ 5)) fun w11 =>
 rdO w11 r6.a (r6.len * 1) fun c12 =>
 apK Tryz.prog 5 w11 (some a10) 0 0 r6.len c12 fun s13 w14 =>
 rdO w14 r9.a (r9.len * 1) fun c15 =>
 apK Tryz.prog 5 w14 s13.a s13.len s13.cap r9.len c15 fun s16 w17 =>
 Calls Tryz.prog 43 ⟨[.slice s16.a s16.len s16.cap,.int .i64 ((d_0.len:Nat):Int)]⟩ w17 fun e18 w19 =>
 ∃ r20:Sl,∃ r21:Int,∃ r22:Int,e18=.returned (.tuple ⟨[.slice r20.a r20.len r20.cap,.int .i64 r21,.int .i64 r22]⟩) ∧
 br ((r22:Int) != 0) (
 Q (.bool false) w19) (
 btS w19 r20.a r20.len fun x23 =>
 btS w19 d_0.a d_0.len fun x24 =>
 br (!(ByteArray.toList x23 == ByteArray.toList x24)) (
 Q (.bool false) w19) (
 br ((r21:Int) != ((r6.len:Nat):Int)) (
 Q (.bool false) w19) (
 bd r21 s16.len fun n25 =>
 lt (⟨qwf s16.a s16.cap n25 1,s16.len - n25,s16.cap - n25⟩:Sl) fun s26 =>
 Calls Tryz.prog 43 ⟨[.slice s26.a s26.len s26.cap,.int .i64 ((i_1.len:Nat):Int)]⟩ w19 fun e27 w28 =>
 ∃ r29:Sl,∃ r30:Int,∃ r31:Int,e27=.returned (.tuple ⟨[.slice r29.a r29.len r29.cap,.int .i64 r30,.int .i64 r31]⟩) ∧
 br ((r31:Int) != 0) (
 Q (.bool false) w28) (
 btS w28 r29.a r29.len fun x32 =>
 btS w28 i_1.a i_1.len fun x33 =>
 br (!(ByteArray.toList x32 == ByteArray.toList x33)) (
 Q (.bool false) w28) (
 br ((r30:Int) != ((r9.len:Nat):Int)) (
 Q (.bool false) w28) (
 lt (IntKind.i64.wrap (r21 - 1)) fun x34 =>
 bd x34 s16.cap fun n35 =>
 lt (⟨qwf s16.a s16.cap 0 1,n35 - 0,s16.cap - 0⟩:Sl) fun s36 =>
 Calls Tryz.prog 43 ⟨[.slice s36.a s36.len s36.cap,.int .i64 ((d_0.len:Nat):Int)]⟩ w28 fun e37 w38 =>
 ∃ r39:Sl,∃ r40:Int,∃ r41:Int,e37=.returned (.tuple ⟨[.slice r39.a r39.len r39.cap,.int .i64 r40,.int .i64 r41]⟩) ∧
 lt (IntKind.i64.wrap (r21 - 1)) fun x42 =>
 bd x42 s16.cap fun n43 =>
 lt (⟨qwf s16.a s16.cap 0 1,n43 - 0,s16.cap - 0⟩:Sl) fun s44 =>
 Calls Tryz.prog 44 ⟨[.slice s44.a s44.len s44.cap,.int .i64 ((d_0.len:Nat):Int)]⟩ w38 fun e45 w46 =>
 ∃ r47:Sl,∃ r48:Int,∃ r49:Int,e45=.returned (.tuple ⟨[.slice r47.a r47.len r47.cap,.int .i64 r48,.int .i64 r49]⟩) ∧
 br ((r41:Int) == r49) (
 Q (.bool ((r41:Int) == 3)) w46) (
 Q (.bool false) w46))))))))))
theorem trovelaw9_ZlibBounds.ok (d_0:Sl) (i_1:Sl) (t2:Int) (Q:VWP) (w:World) (h:trovelaw9_ZlibBounds d_0 i_1 t2 Q w):Calls Tryz.prog 11 ⟨[.slice d_0.a d_0.len d_0.cap,.slice i_1.a i_1.len i_1.cap,.int .i64 t2]⟩ w (Ret Q):=by
 refine qp [.tmp 6] Tryz.func11 rfl rfl rfl rfl ?_
 exact qg qpb _ (Eq.mp (by kernel_rfl) h)
def trovelaw9_ZlibBack (d_0:Sl) (i_1:Int) (t2:Sl) (Q:VWP) (w:World):Prop :=
 Calls Tryz.prog 42 ⟨[]⟩ w fun e1 w2 =>
 ∃ r3:Bool,e1=.returned (.bool r3) ∧
 br (!r3) (
 Q (.bool false) w2) (
 br (decide ((((d_0.len:Nat):Int):Int) > 3000)) (
 Q (.bool true) w2) (
 br (decide ((((t2.len:Nat):Int):Int) > 100)) (
 Q (.bool true) w2) (
 Calls Tryz.prog 46 ⟨[.slice d_0.a d_0.len d_0.cap,.int .i64 i_1]⟩ w2 fun e4 w5 =>
 ∃ r6:Sl,e4=.returned (.slice r6.a r6.len r6.cap) ∧
 Calls Tryz.prog 47 ⟨[.slice r6.a r6.len r6.cap,.int .i64 ((d_0.len:Nat):Int)]⟩ w5 fun e7 w8 =>
 ∃ r9:Sl,∃ r10:Int,∃ r11:Int,e7=.returned (.tuple ⟨[.slice r9.a r9.len r9.cap,.int .i64 r10,.int .i64 r11]⟩) ∧
 br ((r11:Int) != 0) (
 Q (.bool false) w8) (
 btS w8 r9.a r9.len fun x12 =>
 btS w8 d_0.a d_0.len fun x13 =>
 br (!(ByteArray.toList x12 == ByteArray.toList x13)) (
 Q (.bool false) w8) (
 br ((r10:Int) != ((r6.len:Nat):Int)) (
 Q (.bool false) w8) (
 Calls Tryz.prog 48 ⟨[.int .i64 ((d_0.len:Nat):Int)]⟩ w8 fun e14 w15 =>
 ∃ r16:Int,e14=.returned (.int .i64 r16) ∧
 lt (IntKind.i64.wrap (r16 - 6)) fun x17 =>
 br (decide ((((r6.len:Nat):Int):Int) > x17)) (
 Q (.bool false) w15) (
 Calls Tryz.prog 45 ⟨[.slice d_0.a d_0.len d_0.cap,.int .i64 i_1]⟩ w15 fun e18 w19 =>
 ∃ r20:Sl,e18=.returned (.slice r20.a r20.len r20.cap) ∧
 lt (⟨World.heapSize w19,0,none⟩:Addr) fun a21 =>
 lt (World.alloc w19 (.cells ⟨[]⟩ 5)) fun w22 =>
 rdO w22 r20.a (r20.len * 1) fun c23 =>
 apK Tryz.prog 5 w22 (some a21) 0 0 r20.len c23 fun s24 w25 =>
 rdO w25 t2.a (t2.len * 1) fun c26 =>
 apK Tryz.prog 5 w25 s24.a s24.len s24.cap t2.len c26 fun s27 w28 =>
 Calls Tryz.prog 44 ⟨[.slice s27.a s27.len s27.cap,.int .i64 ((d_0.len:Nat):Int)]⟩ w28 fun e29 w30 =>
 ∃ r31:Sl,∃ r32:Int,∃ r33:Int,e29=.returned (.tuple ⟨[.slice r31.a r31.len r31.cap,.int .i64 r32,.int .i64 r33]⟩) ∧
 lt (⟨World.heapSize w30,0,none⟩:Addr) fun a34 =>
 lt (World.alloc w30 (.cells ⟨[]⟩ 5)) fun w35 =>
 rdO w35 r20.a (r20.len * 1) fun c36 =>
 apK Tryz.prog 5 w35 (some a34) 0 0 r20.len c36 fun s37 w38 =>
 rdO w38 t2.a (t2.len * 1) fun c39 =>
 apK Tryz.prog 5 w38 s37.a s37.len s37.cap t2.len c39 fun s40 w41 =>
 Calls Tryz.prog 43 ⟨[.slice s40.a s40.len s40.cap,.int .i64 ((d_0.len:Nat):Int)]⟩ w41 fun e42 w43 =>
 ∃ r44:Sl,∃ r45:Int,∃ r46:Int,e42=.returned (.tuple ⟨[.slice r44.a r44.len r44.cap,.int .i64 r45,.int .i64 r46]⟩) ∧
 br ((r33:Int) != 0) (
 Q (.bool false) w43) (
 br ((r46:Int) != 0) (
 Q (.bool false) w43) (
 btS w43 r31.a r31.len fun x47 =>
 btS w43 d_0.a d_0.len fun x48 =>
 br (!(ByteArray.toList x47 == ByteArray.toList x48)) (
 Q (.bool false) w43) (
 btS w43 r44.a r44.len fun x49 =>
 btS w43 d_0.a d_0.len fun x50 =>
 br (!(ByteArray.toList x49 == ByteArray.toList x50)) (
 Q (.bool false) w43) (
 br ((r32:Int) != ((r20.len:Nat):Int)) (
 Q (.bool false) w43) (
 br ((r45:Int) != ((r20.len:Nat):Int)) (
 Q (.bool false) w43) (
 ixS r20.a r20.len 0 1 fun a51 =>
 ldI .u8 w43 a51 fun x52 =>
 br ((x52:Int) != 120) (
 Q (.bool false) w43) (
 Calls Tryz.prog 48 ⟨[.int .i64 ((d_0.len:Nat):Int)]⟩ w43 fun e53 w54 =>
 ∃ r55:Int,e53=.returned (.int .i64 r55) ∧
 br (decide ((((r20.len:Nat):Int):Int) > r55)) (
 Q (.bool false) w54) (
 br ((((d_0.len:Nat):Int):Int) == 0) (
 Q (.bool true) w54) (
 lt (IntKind.i64.wrap (((d_0.len:Nat):Int) - 1)) fun x56 =>
 Calls Tryz.prog 43 ⟨[.slice r20.a r20.len r20.cap,.int .i64 x56]⟩ w54 fun e57 w58 =>
 ∃ r59:Sl,∃ r60:Int,∃ r61:Int,e57=.returned (.tuple ⟨[.slice r59.a r59.len r59.cap,.int .i64 r60,.int .i64 r61]⟩) ∧
 Q (.bool ((r61:Int) == 5)) w58))))))))))))))))
theorem trovelaw9_ZlibBack.ok (d_0:Sl) (i_1:Int) (t2:Sl) (Q:VWP) (w:World) (h:trovelaw9_ZlibBack d_0 i_1 t2 Q w):Calls Tryz.prog 12 ⟨[.slice d_0.a d_0.len d_0.cap,.int .i64 i_1,.slice t2.a t2.len t2.cap]⟩ w (Ret Q):=by
 refine qp [.tmp 6] Tryz.func12 rfl rfl rfl rfl ?_
 exact qg qpb _ (Eq.mp (by kernel_rfl) h)
end Go.Proofs.YthdmmmfgjmmelaaGreat
namespace Go.Proofs.YthdmmmfgjmmelaaGreat
open Go Go.Proofs
set_option linter.unusedVariables false
set_option linter.unusedSimpArgs false
attribute [local irreducible] apK cpK mkK br
def hello:List Int:=[104,101,108,108,111,32,104,101,108,108,111,32,104,101,108,108,111]
set_option maxRecDepth 100000 in
theorem hello_frm:frm hello (qvf hello 2)=[120,156,203,72,205,201,201,87,64,34,1,58,46,6,125]:=by decide +kernel
theorem qbk (xs:List Int) (e:Int):((qvf xs e).length+7) / 8≤5+xs.length:=dfB_len xs (tkF xs e)
attribute [local irreducible] qvf
theorem half_err:(qyc (qm ((866674100427:Nat):Int) (8 * 5)) 100 (0,[],0)).2.2.2=3:=by decide +kernel
theorem half_unp:Unp [120,156,203,72,205,201,201] 100 ([],0,3):=by
 have hbad:¬ hdBad 120 156:=by decide +kernel
 have h:=half_err
 unfold Unp
 rw [if_neg (by decide)]
 have e0:([120,156,203,72,205,201,201]:List Int).getD 0 0=120:=rfl
 have e1:([120,156,203,72,205,201,201]:List Int).getD 1 0=156:=rfl
 have e5:([120,156,203,72,205,201,201]:List Int).length - 2=5:=rfl
 rw [e0,e1,if_neg hbad,if_neg (by decide),e5]
 refine ⟨866674100427,(qyc (qm ((866674100427:Nat):Int) (8 * 5)) 100 (0,[],0)).2,by decide +kernel,⟨0,ZAll.bad (by rw [h]; decide)⟩,?_⟩
 unfold unpR
 rw [if_pos (by rw [h]; decide),h]
section
variable {F0:List Nat} {w0 w:World} {ps:List As} {s:Sl} {xs:List Int} {K:Ending→World→Prop}
theorem qag.c {e:Int} (h:St F0 w0 w ps) [Rdb F0 w0 s ps 1 (u8s xs)] (hb:∀ x ∈ xs,0≤x∧x < 256) (hl:xs.length < 65536) (hc:s.len≤s.cap)
 (hk:∀ t w',t.len=(frm xs (qvf xs e)).length→t.cap=t.len→St F0 w0 w' (rdA 1 t (u8s (frm xs (qvf xs e))) :: ps)→K (.returned (.slice t.a t.len t.cap)) w'):Calls Tryz.prog 45 ⟨[.slice s.a s.len s.cap,.int .i64 e]⟩ w K:=by
 have hls:=(h.rdb s).1
 rw [qx] at hls
 have hpl:(bytes (qvf xs e)).length=((qvf xs e).length+7) / 8:=qdh _
 have hple:=qbk xs e
 refine qnc (qag.ok _ _ _ _ ?_)
 unfold qag
 refine qxc (fun g=>by omega) (fun g=>?_)
 refine h.new fun nb w h=>?_
 have h:St F0 w0 w (qjd nb (u8s [120,156]) :: ps):=h
 have h:=h.ownB (n:=2) rfl
 refine qgc.c (s:=s) (xs:=xs) h hb hl hc fun r w h1 h2 h=>⟨r,rfl,?_⟩
 refine h.appI (s:=⟨some ⟨nb,0,none⟩,2,2⟩) (s2:=r) (by rw [hpl]; show 2+_≤_; omega) fun t w h=>?_
 refine qli.c (s:=s) h hb (by omega) fun w h=>⟨_,rfl,?_⟩
 have ha:=adV_b xs
 refine qw (qi (by omega) (by omega)) ?_
 refine qoi.d (s:=t) (xs:=[120,156] ++ bytes (qvf xs e)) h (by rw [List.length_append,hpl]; show 2+_≤_; omega) fun u w h3 h4 h=>⟨u,rfl,?_⟩
 have ef:[120,156] ++ bytes (qvf xs e) ++ beJ 4 4 (adV xs)=frm xs (qvf xs e):=rfl
 rw [ef] at h
 refine hk u w ?_ h4 h.sub
 rw [h3,qvh,List.length_append,hpl]
 rfl
theorem qgi.c {n:Nat} (h:St F0 w0 w ps) (hn:n≤65535) (hk:K (.returned (.int .i64 ((n+11:Nat):Int))) w):Calls Tryz.prog 48 ⟨[.int .i64 (n:Int)]⟩ w K:=by
 refine qnc (qgi.ok _ _ _ ?_)
 unfold qgi
 refine qw (qi (by omega) (by omega)) ?_
 refine qw (show IntKind.i64.wrap ((n:Int)+65535 - 1)=((n+65534:Nat):Int) by rw [qi (by omega) (by omega)]; omega) ⟨by decide,?_⟩
 refine qw (show IntKind.i64.wrap (Int.tdiv ((n+65534:Nat):Int) 65535)=(((n+65534) / 65535:Nat):Int) by rw [show Int.tdiv ((n+65534:Nat):Int) 65535=(((n+65534) / 65535:Nat):Int) from rfl,qi (by omega) (by omega)]) ?_
 refine qw (show (if (1:Int) > (((n+65534) / 65535:Nat):Int) then (1:Int) else (((n+65534) / 65535:Nat):Int))=1 by split <;> omega) ?_
 refine qw (qi (by decide) (by decide)) ?_
 refine qw (qi (by omega) (by omega)) ?_
 refine qw (show IntKind.i64.wrap ((n:Int)+5 * 1+6)=((n+11:Nat):Int) by rw [qi (by omega) (by omega)]; omega) ?_
 exact hk
theorem qke.c (h:St F0 w0 w ps) (hk:∀ w',St F0 w0 w' ps→K (.returned (.bool true)) w'):Calls Tryz.prog 42 ⟨[]⟩ w K:=by
 have hb:∀ x ∈ hello,0≤x∧x < 256:=by decide
 refine qnc (qke.ok _ _ ?_)
 unfold qke
 refine h.new fun nb w h=>?_
 have h:St F0 w0 w (qjd nb (u8s hello) :: ps):=h
 refine h.str (b:=nb) (n:=17) rfl fun w h=>?_
 refine qag.c (s:=⟨some ⟨nb,0,none⟩,17,17⟩) (xs:=hello) h hb (by decide) (Nat.le_refl _) fun r w hr1 hr2 h=>⟨r,rfl,?_⟩
 have hu:=unp_frm (t:=[]) (most:=100) (qpo hb (by decide) 2) (fun x hx=>by cases hx) (by decide) (by decide)
 rw [List.append_nil] at hu
 rw [hello_frm] at h hr1 hu
 generalize hF:([120,156,203,72,205,201,201,87,64,34,1,58,46,6,125]:List Int)=Fr at h hr1 hu
 have hFl:Fr.length=15:=by rw [← hF]; rfl
 have hFb:∀ x ∈ Fr,0≤x∧x < 256:=by rw [← hF]; decide
 rw [hFl] at hr1 hu
 refine qje.c (s:=r) (xs:=Fr) h hFb (by omega) (by omega) hu fun t w ht htb h=>⟨t,_,_,rfl,?_⟩
 refine ⟨by decide,?_⟩
 refine qw (show IntKind.i64.wrap (Int.tdiv (r.len:Int) 2)=((7:Nat):Int) by rw [hr1]; decide +kernel) ?_
 refine qzo (n:=7) rfl (by omega) (qwh ?_)
 have hcut:(Fr.drop 0).take (7 - 0)=[120,156,203,72,205,201,201]:=by rw [← hF]; rfl
 haveI:=h.cutR r 0 7 (r.cap - 0) (by omega) (by decide) (by omega) hcut
 refine qje.c (s:=⟨qwf r.a r.cap 0 1,7 - 0,r.cap - 0⟩) (xs:=[120,156,203,72,205,201,201]) h (by decide) (by decide) (by show 7 - 0≤r.cap - 0; omega) half_unp fun t2 w _ _ h=>⟨t2,_,_,rfl,?_⟩
 refine qci (by simp; omega) ?_
 refine h.lx (s:=r) 0 rfl (by omega) ?_
 refine qci (by rw [← hF]; rfl) ?_
 refine qci rfl ?_
 refine qci (by rw [hr1]; rfl) ?_
 refine h.bt (s:=t) htb ?_
 refine qci (by decide +kernel) ?_
 exact hk w h.sub
end
end Go.Proofs.YthdmmmfgjmmelaaGreat
namespace Go.Proofs.YthdmmmfgjmmelaaGreat
open Go Go.Proofs
set_option linter.unusedVariables false
set_option linter.unusedSimpArgs false
attribute [local irreducible] apK cpK mkK br qvf
theorem trovelaw9_ZlibBytes.law (s:Sl) (m:Int) (xs:List Int) (W:World) (hr:Rd W 1 s (u8s xs)) (hx:∀ n ∈ xs,(Lit.int .u8 n).wf=true) (hc:s.len≤s.cap) (hm:(Lit.int .i64 m).wf=true) :
 Calls Tryz.prog 9 ⟨[.slice s.a s.len s.cap,.int .i64 m]⟩ W fun e w'=>e=.returned (.bool true)∧Mod [] W w':=by
 have hb:∀ x ∈ xs,0≤x∧x < 256:=fun x h=>wf_u8 (hx x h)
 refine qnc (trovelaw9_ZlibBytes.ok _ _ _ _ ?_)
 unfold trovelaw9_ZlibBytes
 have hl:=hr.1
 rw [qx] at hl
 haveI:∀ ps,Rdb [] W s ps 1 (u8s xs):=fun ps=>Rdb.start hr
 refine qke.c (St.start0 (w:=W)) fun w h=>⟨_,rfl,qik ?_⟩
 refine qxc (fun _=>⟨rfl,h.mod⟩) fun g1=>?_
 obtain ⟨r,hu⟩:=Unp_ex hb m
 refine qje.c (s:=s) (xs:=xs) h hb (by omega) hc hu fun t w ht htb h=>⟨t,_,_,rfl,?_⟩
 refine qce.c (s:=s) (xs:=xs) h hb (by omega) hc hu fun t2 w ht2 _ h=>⟨t2,_,_,rfl,?_⟩
 refine h.bt (s:=t) htb ?_
 refine h.bt (s:=t2) htb ?_
 refine qci (by simp) ?_
 refine qci (by simp) ?_
 exact ⟨by simp,h.mod⟩
theorem trovelaw9_ZlibBounds.law (s t:Sl) (e:Int) (xs ys:List Int) (W:World) (hr:Rd W 1 s (u8s xs)) (hx:∀ n ∈ xs,(Lit.int .u8 n).wf=true) (hc:s.len≤s.cap) (hr2:Rd W 1 t (u8s ys)) (hy:∀ n ∈ ys,(Lit.int .u8 n).wf=true) (hc2:t.len≤t.cap) (he:(Lit.int .i64 e).wf=true) :
 Calls Tryz.prog 11 ⟨[.slice s.a s.len s.cap,.slice t.a t.len t.cap,.int .i64 e]⟩ W fun e w'=>e=.returned (.bool true)∧Mod [] W w':=by
 have hb:∀ x ∈ xs,0≤x∧x < 256:=fun x h=>wf_u8 (hx x h)
 have hb2:∀ x ∈ ys,0≤x∧x < 256:=fun x h=>wf_u8 (hy x h)
 refine qnc (trovelaw9_ZlibBounds.ok _ _ _ _ _ ?_)
 unfold trovelaw9_ZlibBounds
 have hl:=hr.1
 rw [qx] at hl
 have hl2:=hr2.1
 rw [qx] at hl2
 haveI:∀ ps,Rdb [] W s ps 1 (u8s xs):=fun ps=>Rdb.start hr
 haveI:∀ ps,Rdb [] W t ps 1 (u8s ys):=fun ps=>Rdb.start hr2
 refine qke.c (St.start0 (w:=W)) fun w h=>⟨_,rfl,qik ?_⟩
 refine qxc (fun _=>⟨rfl,h.mod⟩) fun g1=>?_
 refine qxc (fun _=>⟨rfl,h.mod⟩) fun g2=>?_
 refine qag.c (s:=s) (xs:=xs) h hb (by omega) hc fun p w hp1 hp2 h=>⟨p,rfl,?_⟩
 refine qag.c (s:=t) (xs:=ys) h hb2 (by omega) hc2 fun q w hq1 hq2 h=>⟨q,rfl,?_⟩
 have hD:=qpo hb (by omega) e
 have hE:=qpo hb2 (by omega) e
 have hpl:=qvh xs (qvf xs e)
 have hql:=qvh ys (qvf ys e)
 have bl1:=qbk xs e
 have bl2:=qbk ys e
 have pb1:=frm_ok xs (qvf xs e)
 have pb2:=frm_ok ys (qvf ys e)
 have u1:=unp_frm (t:=frm ys (qvf ys e)) (most:=((s.len:Nat):Int)) hD pb2 (by omega) (by omega)
 have u2:=unp_frm (t:=[]) (most:=((t.len:Nat):Int)) hE (fun x hx=>by cases hx) (by omega) (by omega)
 have u3:=unp_cut (most:=((s.len:Nat):Int)) hD (by omega) (by omega)
 rw [List.append_nil] at u2
 generalize frm xs (qvf xs e)=P at *
 generalize frm ys (qvf ys e)=Q at *
 refine h.new fun nb w h=>?_
 have h:St [] W w (qjd nb [] :: rdA 1 q (u8s Q) :: rdA 1 p (u8s P) :: []):=h
 have h:St [] W w (qmc 1 ⟨some ⟨nb,0,none⟩,0,0⟩ (u8s []) :: rdA 1 q (u8s Q) :: rdA 1 p (u8s P) :: []):=h.own0
 refine h.appI (s:=⟨some ⟨nb,0,none⟩,0,0⟩) (s2:=p) (by show 0+_≤_; omega) fun a w h=>?_
 refine h.appI (s:=a) (s2:=q) (by rw [List.nil_append]; omega) fun z w h=>?_
 rw [List.nil_append] at h
 have hzc:=h.cap (by decide)
 have hzl:=h.len
 rw [qx,List.length_append] at hzl
 have hPQ:∀ x ∈ P ++ Q,0≤x∧x < 256:=fun x hx=>(List.mem_append.1 hx).elim (pb1 x) (pb2 x)
 refine qje.c (s:=z) (xs:=P ++ Q) h hPQ (by rw [List.length_append]; omega) hzc u1 fun t1 w ht1 _ h=>⟨t1,_,_,rfl,?_⟩
 refine qbi rfl ?_
 refine h.bt (s:=t1) hb ?_
 refine h.bt (s:=s) hb ?_
 refine qbi (by simp) ?_
 refine qbi (by simp; omega) ?_
 refine qzo (n:=P.length) rfl (by omega) (qwh ?_)
 haveI:=h.cutR z P.length z.len (z.cap - P.length) (Nat.le_refl _) (by omega) hzc (show ((P ++ Q).drop P.length).take (z.len - P.length)=Q by rw [List.drop_left' rfl,List.take_of_length_le (by omega)])
 refine qje.c (s:=⟨qwf z.a z.cap P.length 1,z.len - P.length,z.cap - P.length⟩) (xs:=Q) h pb2 (by omega) (by show z.len - P.length≤z.cap - P.length; omega) u2 fun t2 w ht2 _ h=>⟨t2,_,_,rfl,?_⟩
 refine qbi rfl ?_
 refine h.bt (s:=t2) hb2 ?_
 refine h.bt (s:=t) hb2 ?_
 refine qbi (by simp) ?_
 refine qbi (by simp; omega) ?_
 refine qw (show IntKind.i64.wrap ((P.length:Int) - 1)=((P.length - 1:Nat):Int) by rw [qi (by omega) (by omega)]; omega) ?_
 refine qzo (n:=P.length - 1) rfl (by omega) (qwh ?_)
 have hcut:((P ++ Q).drop 0).take (P.length - 1 - 0)=P.take (P.length - 1):=by rw [List.drop_zero,List.take_append_of_le_length (by omega),Nat.sub_zero]
 haveI:=h.cutR z 0 (P.length - 1) (z.cap - 0) (by omega) (by omega) hzc hcut
 have hct:∀ x ∈ P.take (P.length - 1),0≤x∧x < 256:=fun x hx=>pb1 x (List.mem_of_mem_take hx)
 refine qje.c (s:=⟨qwf z.a z.cap 0 1,P.length - 1 - 0,z.cap - 0⟩) (xs:=P.take (P.length - 1)) h hct (by rw [List.length_take]; omega) (by show P.length - 1 - 0≤z.cap - 0; omega) u3 fun t3 w _ _ h=>⟨t3,_,_,rfl,?_⟩
 refine qw (show IntKind.i64.wrap ((P.length:Int) - 1)=((P.length - 1:Nat):Int) by rw [qi (by omega) (by omega)]; omega) ?_
 refine qzo (n:=P.length - 1) rfl (by omega) (qwh ?_)
 haveI:=h.cutR z 0 (P.length - 1) (z.cap - 0) (by omega) (by omega) hzc hcut
 refine qce.c (s:=⟨qwf z.a z.cap 0 1,P.length - 1 - 0,z.cap - 0⟩) (xs:=P.take (P.length - 1)) h hct (by rw [List.length_take]; omega) (by show P.length - 1 - 0≤z.cap - 0; omega) u3 fun t4 w _ _ h=>⟨t4,_,_,rfl,?_⟩
 exact qci rfl ⟨rfl,h.mod⟩
end Go.Proofs.YthdmmmfgjmmelaaGreat
namespace Go.Proofs.YthdmmmfgjmmelaaGreat
open Go Go.Proofs
set_option linter.unusedVariables false
set_option linter.unusedSimpArgs false
attribute [local irreducible] apK cpK mkK br qvf
theorem Dfl.inf {xs:List Int} {D:List Bool} (hD:Dfl xs D) {most:Int} (h0:(xs.length:Int)≤most):∃ V,bytes D=byt V (bytes D).length∧zinf V (bytes D).length most (D.length,xs,0):=by
 obtain ⟨V,hV⟩:=byt_ex (bytes D) (bytes_ok D)
 obtain ⟨r,hr⟩:=qsr (D:=D) (t:=[]) (by rw [List.append_nil]; exact hV.symm)
 exact ⟨V,hV,0,(hD _ r most hr (by omega)).1 h0⟩
theorem trovelaw9_ZlibBack.law (s:Sl) (e:Int) (t:Sl) (xs ys:List Int) (W:World) (hr:Rd W 1 s (u8s xs)) (hx:∀ n ∈ xs,(Lit.int .u8 n).wf=true) (hc:s.len≤s.cap) (he:(Lit.int .i64 e).wf=true) (hr2:Rd W 1 t (u8s ys)) (hy:∀ n ∈ ys,(Lit.int .u8 n).wf=true) (hc2:t.len≤t.cap) :
 Calls Tryz.prog 12 ⟨[.slice s.a s.len s.cap,.int .i64 e,.slice t.a t.len t.cap]⟩ W fun e w'=>e=.returned (.bool true)∧Mod [] W w':=by
 have hb:∀ x ∈ xs,0≤x∧x < 256:=fun x h=>wf_u8 (hx x h)
 have hb2:∀ x ∈ ys,0≤x∧x < 256:=fun x h=>wf_u8 (hy x h)
 refine qnc (trovelaw9_ZlibBack.ok _ _ _ _ _ ?_)
 unfold trovelaw9_ZlibBack
 have hl:=hr.1
 rw [qx] at hl
 have hl2:=hr2.1
 rw [qx] at hl2
 haveI:∀ ps,Rdb [] W s ps 1 (u8s xs):=fun ps=>Rdb.start hr
 haveI:∀ ps,Rdb [] W t ps 1 (u8s ys):=fun ps=>Rdb.start hr2
 refine qke.c (St.start0 (w:=W)) fun w h=>⟨_,rfl,qik ?_⟩
 refine qxc (fun _=>⟨rfl,h.mod⟩) fun g1=>?_
 refine qxc (fun _=>⟨rfl,h.mod⟩) fun g2=>?_
 have hD:=qpo hb (by omega) e
 have bl1:=qbk xs e
 have hbl:=qdh (qvf xs e)
 refine qgc.c (s:=s) (xs:=xs) h hb (by omega) hc fun d w hd1 hd2 h=>⟨d,rfl,?_⟩
 have hd1:d.len=((qvf xs e).length+7) / 8:=hd1
 obtain ⟨V,hV,hz⟩:=hD.inf (most:=((s.len:Nat):Int)) (by omega)
 rw [hV] at h
 refine qtb.c (s:=d) h (by omega) (by omega) (by omega) hz (fun r w _ hr1 _ h=>⟨r,_,_,rfl,?_⟩) (fun w h5 _=>absurd rfl h5)
 refine qbi rfl ?_
 refine h.bt (s:=r) hb ?_
 refine h.bt (s:=s) hb ?_
 refine qbi (by simp) ?_
 refine qbi (by simp only [hd1]; simp) ?_
 rw [← hV] at h
 refine qgi.c (n:=s.len) h (by omega) ⟨_,rfl,?_⟩
 refine qw (show IntKind.i64.wrap (((s.len+11:Nat):Int) - 6)=((s.len+5:Nat):Int) by rw [qi (by omega) (by omega)]; omega) ?_
 refine qxc (fun g=>by omega) fun _=>?_
 refine qag.c (s:=s) (xs:=xs) h hb (by omega) hc fun p w hp1 hp2 h=>⟨p,rfl,?_⟩
 have hpl:=qvh xs (qvf xs e)
 have pb1:=frm_ok xs (qvf xs e)
 have u1:=unp_frm (t:=ys) (most:=((s.len:Nat):Int)) hD hb2 (by omega) (by omega)
 have u2:xs.length ≠ 0→Unp (frm xs (qvf xs e)) ((s.len:Int) - 1) ([],0,5):=fun h0=>by
  have:=unp_long (t:=[]) (most:=(s.len:Int) - 1) hD (fun x hx=>by cases hx) (by omega) (by omega) (by omega)
  rwa [List.append_nil] at this
 have f0:(frm xs (qvf xs e)).getD 0 0=120:=rfl
 have fl:0 < (frm xs (qvf xs e)).length:=by omega
 generalize frm xs (qvf xs e)=P at *
 have h:St [] W w [rdA 1 p (u8s P)]:=h.sub
 have side:∀ w,St [] W w [rdA 1 p (u8s P)]→∀ K:Sl→World→Prop,(∀ z w,z.len=P.length+ys.length→z.len≤z.cap→St [] W w [qmc 1 z (u8s (P ++ ys)),rdA 1 p (u8s P)]→K z w) →
  lt (⟨World.heapSize w,0,none⟩:Addr) fun a21=>lt (World.alloc w (.cells ⟨[]⟩ 5)) fun w22=>rdO w22 p.a (p.len * 1) fun c23=>apK Tryz.prog 5 w22 (some a21) 0 0 p.len c23 fun s24 w25 =>
   rdO w25 t.a (t.len * 1) fun c26=>apK Tryz.prog 5 w25 s24.a s24.len s24.cap t.len c26 K:=by
  intro w h K hk
  refine h.new fun nb w h=>?_
  have h:St [] W w (qjd nb [] :: rdA 1 p (u8s P) :: []):=h
  have h:St [] W w (qmc 1 ⟨some ⟨nb,0,none⟩,0,0⟩ (u8s []) :: rdA 1 p (u8s P) :: []):=h.own0
  refine h.appI (s:=⟨some ⟨nb,0,none⟩,0,0⟩) (s2:=p) (by show 0+_≤_; omega) fun a w h=>?_
  refine h.appI (s:=a) (s2:=t) (by rw [List.nil_append]; omega) fun z w h=>?_
  rw [List.nil_append] at h
  have hzl:=h.len
  rw [qx,List.length_append] at hzl
  exact hk z w (by omega) (h.cap (by decide)) h
 have hPQ:∀ x ∈ P ++ ys,0≤x∧x < 256:=fun x hx=>(List.mem_append.1 hx).elim (pb1 x) (hb2 x)
 refine side w h _ fun z w hz1 hzc h=>?_
 refine qce.c (s:=z) (xs:=P ++ ys) h hPQ (by rw [List.length_append]; omega) hzc u1 fun t1 w ht1 _ h=>⟨t1,_,_,rfl,?_⟩
 refine h.new fun nb w h=>?_
 have h:St [] W w (qjd nb [] :: rdA 1 t1 (u8s xs) :: qmc 1 z (u8s (P ++ ys)) :: rdA 1 p (u8s P) :: []):=h
 have h:St [] W w (qmc 1 ⟨some ⟨nb,0,none⟩,0,0⟩ (u8s []) :: rdA 1 t1 (u8s xs) :: qmc 1 z (u8s (P ++ ys)) :: rdA 1 p (u8s P) :: []):=h.own0
 refine h.appI (s:=⟨some ⟨nb,0,none⟩,0,0⟩) (s2:=p) (by show 0+_≤_; omega) fun a w h=>?_
 refine h.appI (s:=a) (s2:=t) (by rw [List.nil_append]; omega) fun y w h=>?_
 rw [List.nil_append] at h
 have hyc:=h.cap (by decide)
 refine qje.c (s:=y) (xs:=P ++ ys) h hPQ (by rw [List.length_append]; omega) hyc u1 fun t2 w ht2 _ h=>⟨t2,_,_,rfl,?_⟩
 refine qbi rfl (qbi rfl ?_)
 refine h.bt (s:=t1) hb ?_
 refine h.bt (s:=s) hb ?_
 refine qbi (by simp) ?_
 refine h.bt (s:=t2) hb ?_
 refine h.bt (s:=s) hb ?_
 refine qbi (by simp) ?_
 refine qbi (by simp only [hp1]; simp) ?_
 refine qbi (by simp only [hp1]; simp) ?_
 refine h.lx (s:=p) 0 rfl fl ?_
 refine qbi (by rw [f0]; rfl) ?_
 refine qgi.c (n:=s.len) h (by omega) ⟨_,rfl,?_⟩
 refine qxc (fun g=>by omega) fun _=>?_
 refine qqe (fun _=>⟨rfl,h.mod⟩) fun g0=>?_
 have g0:s.len ≠ 0:=by intro e; rw [e] at g0; simp at g0
 refine qw (qi (by omega) (by omega)) ?_
 refine qje.c (s:=p) (xs:=P) h pb1 (by omega) (by omega) (u2 (by omega)) fun t3 w _ _ h=>⟨t3,_,_,rfl,?_⟩
 exact ⟨rfl,h.mod⟩
end Go.Proofs.YthdmmmfgjmmelaaGreat
namespace Go.Proofs.YthdmmmfgjmmelaaGreat
open Go Go.Proofs
set_option linter.unusedVariables false
set_option linter.unusedSimpArgs false
attribute [local irreducible] apK cpK mkK br qvf
section
variable {F0:List Nat} {w0 w:World} {ps:List As} {s:Sl} {xs:List Int} {K:Ending→World→Prop}
theorem qad.o (hc:s.len≤s.cap) (hk:∀ s':Sl,s'.a=s.a→s'.len=s.len→s'.cap=s.len→K (.returned (.slice s'.a s'.len s'.cap)) w):Calls Tryz.prog 79 ⟨[.slice s.a s.len s.cap]⟩ w K:=by
 refine qnc (qad.ok _ _ _ ?_)
 unfold qad
 refine ⟨⟨by omega,by omega⟩,⟨by omega,by omega⟩,qwh ?_⟩
 refine hk ⟨_,_,_⟩ ?_ (by simp) (by simp)
 show qwf s.a _ 0 1=s.a
 unfold qwf
 split
 · rfl
 · cases s.a with
   | none=>rfl
   | some a=>simp [Addr.add]
theorem qve.o {v:Int} {n:Nat} (h:St F0 w0 w ps) (hr:Rd w 1 s (u8s xs)) (hL:xs.length≤1099511627776) (hn:n≤8)
 (hk:∀ (o s':Sl) w',s'.a=o.a→s'.len=o.len→s'.cap=o.len→o.len=xs.length+n→St F0 w0 w' (qmc 1 o (u8s (xs ++ beJ n n v)) :: ps)→K (.returned (.slice s'.a s'.len s'.cap)) w'):Calls Tryz.prog 166 ⟨[.slice s.a s.len s.cap,.int .i64 v,.int .i64 ((8 * n:Nat):Int)]⟩ w K:=by
 refine qnc (qve.ok _ _ _ _ _ ?_)
 unfold qve
 refine qsd.c h hr (by omega) fun s1 w h=>⟨s1,rfl,?_⟩
 unfold qve.j1
 refine qkh (fun (j:Nat) (b':Int) (o':Sl) w=>b'=((8 * (n - j):Nat):Int)∧j≤n∧St F0 w0 w (qmc 1 o' (u8s (xs ++ beJ n j v)) :: ps)) (fun j=>n - j) 0 ⟨rfl,by omega,by simpa [beJ] using h⟩ ?_
 clear h
 rintro j b' o w I μ ⟨rfl,hj,h⟩ hin
 unfold qve.b1
 refine qxc (fun h1=>?_) (fun h1=>?_)
 · refine qw (qi (by omega) (by omega)) ?_
   have e:((8 * (n - j):Nat):Int) - 8=((8 * (n - 1 - j):Nat):Int):=by omega
   rw [e]
   refine ⟨by omega,?_⟩
   refine qw (qnk .i64 _ (show 8 * (n - 1 - j)≤64 by omega)) ?_
   refine qw (qkk _) ?_
   refine h.new fun nb w h=>?_
   refine h.rdB rfl ?_
   refine h.drop.append_u8 (by rw [List.length_append,qjm]; omega) rfl fun s2 w h=>?_
   refine ⟨rfl,hin (j+1) _ _ _ ⟨?_,by omega,?_⟩ (by omega)⟩
   · rw [show n - 1 - j=n - (j+1) by omega]
   · rw [beJ_succ,← List.append_assoc]
     exact h
 · have:j=n:=by omega
   subst this
   have hcap:=h.cap (by decide)
   have hlen:=h.len
   rw [qdg,List.length_append,qjm] at hlen
   unfold qve.j2
   refine qad.o (s:=o) hcap fun s3 ha hs1 hs2=>⟨s3,rfl,hk o s3 w ha hs1 hs2 (by omega) h⟩
theorem qag.o {e:Int} (h:St F0 w0 w ps) [Rdb F0 w0 s ps 1 (u8s xs)] (hb:∀ x ∈ xs,0≤x∧x < 256) (hl:xs.length < 65536) (hc:s.len≤s.cap)
 (hk:∀ (o t:Sl) w',t.a=o.a→t.len=o.len→t.cap=o.len→o.len=(frm xs (qvf xs e)).length→St F0 w0 w' (qmc 1 o (u8s (frm xs (qvf xs e))) :: ps)→K (.returned (.slice t.a t.len t.cap)) w'):Calls Tryz.prog 45 ⟨[.slice s.a s.len s.cap,.int .i64 e]⟩ w K:=by
 have hls:=(h.rdb s).1
 rw [qx] at hls
 have hpl:(bytes (qvf xs e)).length=((qvf xs e).length+7) / 8:=qdh _
 have hple:=qbk xs e
 refine qnc (qag.ok _ _ _ _ ?_)
 unfold qag
 refine qxc (fun g=>by omega) (fun g=>?_)
 refine h.new fun nb w h=>?_
 have h:St F0 w0 w (qjd nb (u8s [120,156]) :: ps):=h
 have h:=h.ownB (n:=2) rfl
 refine qgc.c (s:=s) (xs:=xs) h hb hl hc fun r w h1 h2 h=>⟨r,rfl,?_⟩
 refine h.appI (s:=⟨some ⟨nb,0,none⟩,2,2⟩) (s2:=r) (by rw [hpl]; show 2+_≤_; omega) fun t w h=>?_
 refine qli.c (s:=s) h hb (by omega) fun w h=>⟨_,rfl,?_⟩
 have ha:=adV_b xs
 refine qw (qi (by omega) (by omega)) ?_
 have hpl2:([120,156] ++ bytes (qvf xs e)).length=2+(bytes (qvf xs e)).length:=by rw [List.length_append]; rfl
 refine qnc (qoi.ok _ _ _ _ ?_)
 unfold qoi
 refine qve.o (n:=4) (s:=t) (xs:=[120,156] ++ bytes (qvf xs e)) h (h.rdb t) (by omega) (by decide) fun o u w g1 g2 g3 g4 h=>⟨u,rfl,u,rfl,?_⟩
 have ef:[120,156] ++ bytes (qvf xs e) ++ beJ 4 4 (adV xs)=frm xs (qvf xs e):=rfl
 rw [ef] at h
 refine hk o u w g1 g2 g3 ?_ h.sub
 rw [g4,qvh,hpl2,hpl]
end
theorem trovelaw9_ZlibTurned.law (s:Sl) (e at' x:Int) (xs:List Int) (W:World) (hr:Rd W 1 s (u8s xs)) (hx:∀ n ∈ xs,(Lit.int .u8 n).wf=true) (hc:s.len≤s.cap) (he:(Lit.int .i64 e).wf=true) (ha:(Lit.int .i64 at').wf=true) (hxx:(Lit.int .u8 x).wf=true) :
 Calls Tryz.prog 10 ⟨[.slice s.a s.len s.cap,.int .i64 e,.int .i64 at',.int .u8 x]⟩ W fun e w'=>e=.returned (.bool true)∧Mod [] W w':=by
 have hb:∀ x ∈ xs,0≤x∧x < 256:=fun x h=>wf_u8 (hx x h)
 refine qnc (trovelaw9_ZlibTurned.ok _ _ _ _ _ _ ?_)
 unfold trovelaw9_ZlibTurned
 have hl:=hr.1
 rw [qx] at hl
 haveI:∀ ps,Rdb [] W s ps 1 (u8s xs):=fun ps=>Rdb.start hr
 refine qke.c (St.start0 (w:=W)) fun w h=>⟨_,rfl,qik ?_⟩
 refine qxc (fun _=>⟨rfl,h.mod⟩) fun g1=>?_
 have bl1:=qbk xs e
 have hpl:=qvh xs (qvf xs e)
 have pb1:=frm_ok xs (qvf xs e)
 refine qag.o (s:=s) (xs:=xs) h hb (by omega) hc fun o p w k1 k2 k3 k4 h=>⟨p,rfl,?_⟩
 generalize frm xs (qvf xs e)=P at *
 refine qxc (fun _=>⟨rfl,h.mod⟩) fun g2=>?_
 refine qxc (fun _=>⟨rfl,h.mod⟩) fun g3=>?_
 obtain ⟨i,rfl⟩:∃ i:Nat,at'=i:=⟨at'.toNat,by omega⟩
 have hi:i < P.length:=by omega
 rw [k1,k2]
 refine h.lx (s:=o) i rfl hi ?_
 refine qwh ?_
 refine h.sx (s:=o) i rfl hi fun w h=>?_
 have hxb:=wf_u8 hxx
 have hv:0≤xorV .u8 (P.getD i 0) x∧xorV .u8 (P.getD i 0) x < 256:=by
  unfold xorV
  rw [qkk]
  omega
 have hPb:∀ y ∈ P.set i (xorV .u8 (P.getD i 0) x),0≤y∧y < 256:=by
  intro y hy
  rcases List.mem_or_eq_of_mem_set hy with hy | rfl
  · exact pb1 y hy
  · exact hv
 have hlen:(P.set i (xorV .u8 (P.getD i 0) x)).length=P.length:=List.length_set ..
 generalize P.set i (xorV .u8 (P.getD i 0) x)=R at *
 have hR:=h.ro
 have h:St [] W w [rdA 1 p (u8s R)]:=hR.recap k1 k2
 obtain ⟨r,hu⟩:=Unp_ex hPb 3000
 rw [← k1,← k2]
 refine qje.c (s:=p) (xs:=R) h hPb (by omega) (by omega) hu fun t w ht htb h=>⟨t,_,_,rfl,?_⟩
 refine qce.c (s:=p) (xs:=R) h hPb (by omega) (by omega) hu fun t2 w ht2 _ h=>⟨t2,_,_,rfl,?_⟩
 refine h.bt (s:=t) htb ?_
 refine h.bt (s:=t2) htb ?_
 refine qci (by simp) ?_
 exact ⟨by simp,h.mod⟩
end Go.Proofs.YthdmmmfgjmmelaaGreat
