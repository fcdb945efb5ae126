/- Own texts as one, only what is reached (shake.py). -/
import Derived.Test.YtonmgkkkiejicaaGreatMca
import Derived.Laws.Externs
import Derived.Lib.BytesEntry
import Derived.Lib.ReflectliteSlice
import Derived.Lib.ReflectliteSwap
import Derived.Sort.Statements
import Derived.Test.YtonmgkkkiejicaaGreatProg
set_option linter.unusedSectionVars false
namespace Go.Proofs.YtonmgkkkiejicaaGreat
open Go Go.Proofs
set_option linter.unusedVariables false
set_option linter.unusedSimpArgs false
structure As where
 hd:World→List Nat→Prop
 keep:∀ {w w':World} {F G:List Nat},hd w F→Mod G w w'→(∀ x ∈ F,x ∉ G)→hd w' F
 lt:∀ {w:World} {F:List Nat},hd w F→∀ x ∈ F,x < w.heap.size
def qt (b:Nat) (l:List Value):As where
 hd w F:=Blk w b l∧F=[b]
 keep:=by
  rintro w w' F G ⟨h,rfl⟩ m hd
  exact ⟨h.keep m (hd b (by simp)),rfl⟩
 lt:=by
  rintro w F ⟨h,rfl⟩ x hx
  have:x=b:=by simpa using hx
  subst this; exact h.lt
def qv (sz:Nat) (s:Sl) (cs:List Value):As where
 hd w F:=Own sz w s cs F
 keep:=fun h m hd=>h.keep m hd
 lt:=fun h=>h.lt
def andA (p q:As):As where
 hd w F:=∃ f g,p.hd w f∧q.hd w g∧F=f ++ g∧∀ x ∈ f,x ∉ g
 keep:=by
  rintro w w' F G ⟨f,g,hp,hq,rfl,hd⟩ m hG
  exact ⟨f,g,p.keep hp m (fun x hx=>hG x (by simp [hx])),q.keep hq m (fun x hx=>hG x (by simp [hx])),rfl,hd⟩
 lt:=by
  rintro w F ⟨f,g,hp,hq,rfl,hd⟩ x hx
  rcases List.mem_append.1 hx with hx | hx
  · exact p.lt hp x hx
  · exact q.lt hq x hx
def noA:As where
 hd w F:=F=[]
 keep:=fun h _ _=>h
 lt:=by rintro w F rfl x hx; cases hx
def exA {α:Type} (p:α→As):As where
 hd w F:=∃ a,(p a).hd w F
 keep:=fun ⟨a,h⟩ m hd=>⟨a,(p a).keep h m hd⟩
 lt:=fun ⟨a,h⟩=>(p a).lt h
def ifA (c:Prop) (p:As):As where
 hd w F:=c∧p.hd w F
 keep:=fun ⟨c,h⟩ m hd=>⟨c,p.keep h m hd⟩
 lt:=fun ⟨_,h⟩=>p.lt h
def allA:List As→As
 | []=>noA
 | p :: ps=>andA p (allA ps)
def St (F0:List Nat) (w0 w:World) (ps:List As):Prop:=Mod F0 w0 w∧∃ F,(allA ps).hd w F∧Gr w0.heap.size F0 F
section
variable {F0:List Nat} {w0 w:World} {p q r p':As} {ps:List As}
theorem St.start {F:List Nat} (h:(allA ps).hd w F):St F w w ps:=⟨Mod.refl _ _,F,h,Gr.refl _ _⟩
theorem St.start0:St [] w w []:=⟨Mod.refl _ _,[],rfl,Gr.refl _ _⟩
theorem St.step (h:St F0 w0 w (p :: ps)):∃ f,p.hd w f∧∀ w' f' p',Mod f w w'→Gr w.heap.size f f'→p'.hd w' f'→St F0 w0 w' (p' :: ps):=by
 obtain ⟨m,F,⟨f,g,hp,hg,rfl,hd⟩,hr⟩:=h
 refine ⟨f,hp,fun w' f' p' hm hgr hp'=>⟨m.trans hm fun x hx=>hr x (by simp [hx]),f' ++ g,⟨f',g,hp',(allA ps).keep hg hm (fun x hx h1=>hd x h1 hx),rfl,?_⟩,?_⟩⟩
 · intro x hx h1
   rcases hgr x hx with h2 | h2
   · exact hd x h2 h1
   · have:=(allA ps).lt hg x h1; omega
 · intro x hx
   rcases List.mem_append.1 hx with hx | hx
   · rcases hgr x hx with h2 | h2
     · exact hr x (by simp [h2])
     · have:=m.size; exact Or.inr (by omega)
   · exact hr x (by simp [hx])
theorem St.mp (h:St F0 w0 w (p :: ps)) (hp:∀ F,p.hd w F→p'.hd w F):St F0 w0 w (p' :: ps):=by
 obtain ⟨m,F,⟨f,g,h1,h2⟩,hr⟩:=h
 exact ⟨m,F,⟨f,g,hp f h1,h2⟩,hr⟩
theorem St.skip {w':World} (h:St F0 w0 w ps) (hm:Mod [] w w'):St F0 w0 w' ps:=by
 obtain ⟨m,F,hp,hr⟩:=h
 exact ⟨m.trans hm (by simp),F,(allA ps).keep hp hm (by simp),hr⟩
theorem St.add {w':World} {f':List Nat} (h:St F0 w0 w ps) (hm:Mod [] w w') (hp:p'.hd w' f') (hn:Gr w.heap.size [] f'):St F0 w0 w' (p' :: ps):=by
 obtain ⟨m,F,hF,hr⟩:=h
 refine ⟨m.trans hm (by simp),f' ++ F,⟨f',F,hp,(allA ps).keep hF hm (by simp),rfl,?_⟩,?_⟩
 · intro x hx h1
   rcases hn x hx with h2 | h2
   · cases h2
   · have:=(allA ps).lt hF x h1; omega
 · intro x hx
   rcases List.mem_append.1 hx with hx | hx
   · rcases hn x hx with h2 | h2
     · cases h2
     · have:=m.size; exact Or.inr (by omega)
   · exact hr x hx
theorem St.drop (h:St F0 w0 w (p :: ps)):St F0 w0 w ps:=by
 obtain ⟨m,F,⟨f,g,h1,h2,rfl,h3⟩,hr⟩:=h
 exact ⟨m,g,h2,fun x hx=>hr x (by simp [hx])⟩
theorem Gr.perm {n:Nat} {F0 F F':List Nat} (h:Gr n F0 F) (hp:∀ x ∈ F',x ∈ F):Gr n F0 F':=fun x hx=>h x (hp x hx)
theorem St.at1 (h:St F0 w0 w (p :: q :: ps)):St F0 w0 w (q :: p :: ps):=by
 obtain ⟨m,F,⟨f,g,h1,⟨f',g',h2,h3,rfl,h4⟩,rfl,h5⟩,hr⟩:=h
 refine ⟨m,f' ++ (f ++ g'),⟨f',f ++ g',h2,⟨f,g',h1,h3,rfl,fun x hx h=>h5 x hx (by simp [h])⟩,rfl,?_⟩,hr.perm (by intro x hx; simp at hx ⊢; rcases hx with h | h | h <;> simp [h])⟩
 intro x hx h6
 rcases List.mem_append.1 h6 with h7 | h7
 · exact h5 x h7 (by simp [hx])
 · exact h4 x hx h7
theorem St.tail (h:St F0 w0 w (p :: ps)) {qs:List As} (hq:∀ F0 w0 w,St F0 w0 w ps→St F0 w0 w qs):St F0 w0 w (p :: qs):=by
 obtain ⟨m,F,⟨f,g,h1,h2,rfl,h3⟩,hr⟩:=h
 obtain ⟨_,g',h4,h5⟩:=hq g w w (St.start h2)
 have hg:∀ x ∈ g',x ∈ g:=fun x hx=>(h5 x hx).resolve_right (by have:=(allA qs).lt h4 x hx; omega)
 exact ⟨m,f ++ g',⟨f,g',h1,h4,rfl,fun x hx h=>h3 x hx (hg x h)⟩,hr.perm (by
  intro x hx
  rcases List.mem_append.1 hx with h | h
  · exact List.mem_append_left _ h
  · exact List.mem_append_right _ (hg x h))⟩
theorem St.at2 (h:St F0 w0 w (p :: q :: r :: ps)):St F0 w0 w (r :: p :: q :: ps):=(h.tail (fun _ _ _ k=>k.at1)).at1
theorem St.at3 {s:As} (h:St F0 w0 w (p :: q :: r :: s :: ps)):St F0 w0 w (s :: p :: q :: r :: ps):=(h.tail (fun _ _ _ k=>k.at2)).at1
theorem St.at4 {s t:As} (h:St F0 w0 w (p :: q :: r :: s :: t :: ps)):St F0 w0 w (t :: p :: q :: r :: s :: ps):=(h.tail (fun _ _ _ k=>k.at3)).at1
theorem St.at5 {s t u:As} (h:St F0 w0 w (p :: q :: r :: s :: t :: u :: ps)):St F0 w0 w (u :: p :: q :: r :: s :: t :: ps):=(h.tail (fun _ _ _ k=>k.at4)).at1
theorem St.split (h:St F0 w0 w (andA p q :: ps)):St F0 w0 w (p :: q :: ps):=by
 obtain ⟨m,F,⟨f,g,⟨f1,f2,h1,h2,rfl,h3⟩,h4,rfl,h5⟩,hr⟩:=h
 refine ⟨m,f1 ++ (f2 ++ g),⟨f1,f2 ++ g,h1,⟨f2,g,h2,h4,rfl,fun x hx=>h5 x (by simp [hx])⟩,rfl,?_⟩,by simpa using hr⟩
 intro x hx h
 rcases List.mem_append.1 h with h | h
 · exact h3 x hx h
 · exact h5 x (by simp [hx]) h
theorem St.join (h:St F0 w0 w (p :: q :: ps)):St F0 w0 w (andA p q :: ps):=by
 obtain ⟨m,F,⟨f,g,h1,⟨f',g',h2,h3,rfl,h4⟩,rfl,h5⟩,hr⟩:=h
 refine ⟨m,f ++ f' ++ g',⟨f ++ f',g',⟨f,f',h1,h2,rfl,fun x hx h=>h5 x hx (by simp [h])⟩,h3,rfl,?_⟩,by simpa using hr⟩
 intro x hx h
 rcases List.mem_append.1 hx with hx | hx
 · exact h5 x hx (by simp [h])
 · exact h4 x hx h
theorem St.exI {α:Type} {p:α→As} (a:α) (h:St F0 w0 w (p a :: ps)):St F0 w0 w (exA p :: ps):=h.mp fun _ h=>⟨a,h⟩
theorem St.exE {α:Type} {p:α→As} (h:St F0 w0 w (exA p :: ps)):∃ a,St F0 w0 w (p a :: ps):=by
 obtain ⟨m,F,⟨f,g,⟨a,h1⟩,h2⟩,hr⟩:=h
 exact ⟨a,m,F,⟨f,g,h1,h2⟩,hr⟩
theorem St.ifI {c:Prop} (hc:c) (h:St F0 w0 w (p :: ps)):St F0 w0 w (ifA c p :: ps):=h.mp fun _ h=>⟨hc,h⟩
theorem St.ifE {c:Prop} (h:St F0 w0 w (ifA c p :: ps)):c∧St F0 w0 w (p :: ps):=by
 obtain ⟨m,F,⟨f,g,⟨hc,h1⟩,h2⟩,hr⟩:=h
 exact ⟨hc,m,F,⟨f,g,h1,h2⟩,hr⟩
theorem St.get (h:St F0 w0 w (p :: ps)):∃ F,p.hd w F:=by
 obtain ⟨f,hp,_⟩:=h.step
 exact ⟨f,hp⟩
theorem St.mod (h:St F0 w0 w ps):Mod F0 w0 w:=h.1
variable {b o:Nat} {l:List Value}
theorem St.blk (h:St F0 w0 w (qt b l :: ps)):Blk w b l:=by
 obtain ⟨F,hb,_⟩:=h.get; exact hb
theorem St.blk1 (h:St F0 w0 w (p :: qt b l :: ps)):Blk w b l:=h.drop.blk
theorem St.drew (h:St F0 w0 w ps):St F0 w0 w.drew ps:=h.skip (Mod.drew w)
theorem St.drewK {K:World→Prop} (h:St F0 w0 w ps) (hk:∀ w',St F0 w0 w' ps→K w'):lt w.drew K:=hk _ h.drew
theorem St.st {v:Value} {K:World→Prop} (h:St F0 w0 w (qt b l :: ps)) (ho:o < l.length) (hs:qec v) (hk:∀ w',St F0 w0 w' (qt b (l.set o v) :: ps)→K w'):st w ⟨b,o,none⟩ v K:=by
 obtain ⟨f,⟨hb,rfl⟩,hst⟩:=h.step
 exact hb.st ho hs fun w' hm hb'=>hk w' (hst w' [b] _ hm (Gr.refl _ _) ⟨hb',rfl⟩)
theorem St.stA {cs:Array Value} {K:World→Prop} (h:St F0 w0 w (qt b l :: ps)) (ho:o+cs.size≤l.length) (hs:∀ v ∈ cs,qec v) (hk:∀ w',St F0 w0 w' (qt b (l.take o ++ cs.toList ++ l.drop (o+cs.size)) :: ps)→K w'):stA w ⟨b,o,none⟩ cs K:=by
 obtain ⟨f,⟨hb,rfl⟩,hst⟩:=h.step
 exact stA_blk hb ho hs fun w' hm hb'=>hk w' (hst w' [b] _ hm (Gr.refl _ _) ⟨hb',rfl⟩)
theorem St.new {t:TypeId} {cs:Array Value} {K:Addr→World→Prop} (h:St F0 w0 w ps) (hk:∀ nb w',St F0 w0 w' (qt nb cs.toList :: ps)→K ⟨nb,0,none⟩ w') :
 lt (⟨World.heapSize w,0,none⟩:Addr) fun a=>lt (World.alloc w (.cells cs t)) fun w'=>K a w':=by
 refine hk w.heap.size _ ?_
 exact h.add (Mod.alloc _ _) ⟨Blk.new w cs.toList t,rfl⟩ (fun x hx=>Or.inr (by have:x=w.heap.size:=(by simpa using hx); omega))
theorem St.newM {t:TypeId} {cs:Array Value} {K:Addr→World→Prop} (h:St F0 w0 w ps) (hk:∀ nb w',Mod [] w w'→St F0 w0 w' (qt nb cs.toList :: ps)→K ⟨nb,0,none⟩ w') :
 lt (⟨World.heapSize w,0,none⟩:Addr) fun a=>lt (World.alloc w (.cells cs t)) fun w'=>K a w':=by
 refine hk w.heap.size _ (Mod.alloc _ _) ?_
 exact h.add (Mod.alloc _ _) ⟨Blk.new w cs.toList t,rfl⟩ (fun x hx=>Or.inr (by have:x=w.heap.size:=(by simpa using hx); omega))
theorem St.own {sz:Nat} {s:Sl} {cs:List Value} (h:St F0 w0 w (qv sz s cs :: ps)):∃ F,Own sz w s cs F:=h.get
theorem St.len {sz:Nat} {s:Sl} {cs:List Value} (h:St F0 w0 w (qv sz s cs :: ps)):cs.length=s.len * sz:=by
 obtain ⟨F,ho⟩:=h.own; exact ho.len
theorem St.append {P:Program} {elem:TypeId} {i:TypeInfo} {sz m:Nat} {s:Sl} {cs:List Value} {new:Array Value} {K:Sl→World→Prop}
 (hi:P.info? elem=some i) (hsz:i.size=sz) (hsz0:0 < sz) (hz:(zc P elem).size=sz) (hb0:i.bytes ≠ 0) (hb:(2 * (s.len+m)+1024) * i.bytes≤281474976710656)
 (h:St F0 w0 w (qv sz s cs :: ps)) (hn:new.size=m * sz) (hst:∀ v ∈ new,qec v)
 (hk:∀ s' w',St F0 w0 w' (qv sz s' (cs ++ new.toList) :: ps)→s'.len=s.len+m→K s' w') :
 apK P elem w s.a s.len s.cap m new K:=by
 obtain ⟨f,ho,hstep⟩:=h.step
 exact Own.append hi hsz hsz0 hz hb0 (by rw [show (2:Nat) ^ 48=281474976710656 from rfl]; exact hb) ho hn hst fun s' w' F' ho' hm hg hl=>hk s' w' (hstep w' F' _ hm hg ho') hl
end
theorem least_ex {p:Nat→Prop} (h:∃ n,p n):∃ n,p n∧∀ k,p k→n≤k:=by
 obtain ⟨n,hn⟩:=h
 induction n using Nat.strongRecOn with
 | ind n ih =>
   by_cases hk:∃ k,k < n∧p k
   · obtain ⟨k,h1,h2⟩:=hk
     exact ih k h1 h2
   · exact ⟨n,hn,fun k hp=>by
      rcases Nat.lt_or_ge k n with h1 | h1
      · exact absurd ⟨k,h1,hp⟩ hk
      · exact h1⟩
open Classical in
noncomputable def least (p:Nat→Prop):Nat:=if h:∃ n,p n then (least_ex h).choose else 0
theorem qum {p:Nat→Prop} (h:∃ n,p n):p (least p)∧∀ k,p k→least p≤k:=by
 unfold least
 rw [dif_pos h]
 exact (least_ex h).choose_spec
theorem qeh {σ α:Type} {C:(σ→Prop)→(σ→Nat)→σ→Prop} {s:σ} (Inv:α→σ→Prop) (m:α→Nat) (a:α) (h:Inv a s)
 (hb:∀ a s I μ,Inv a s→(∀ a' s',Inv a' s'→m a' < m a→I s'∧μ s' < μ s)→C I μ s):∃ I μ,I s∧∀ s,I s→C I μ s:=by
 refine ⟨fun s=>∃ a,Inv a s,fun s=>least fun n=>∃ a,Inv a s∧m a=n,⟨a,h⟩,?_⟩
 rintro s ⟨a,ha⟩
 have hex:∃ n,∃ a,Inv a s∧m a=n:=⟨_,a,ha,rfl⟩
 obtain ⟨⟨a1,h1,h2⟩,_⟩:=qum hex
 refine hb a1 s _ _ h1 fun a' s' h' hlt=>⟨⟨a',h'⟩,?_⟩
 have hex':∃ n,∃ a,Inv a s'∧m a=n:=⟨_,a',h',rfl⟩
 have:=(qum hex').2 _ ⟨a',h',rfl⟩
 omega
theorem loop0 {α:Type} {C:(World→Prop)→(World→Nat)→World→Prop} {w:World} (Inv:α→World→Prop) (m:α→Nat) (a:α) (h:Inv a w)
 (hb:∀ a w I μ,Inv a w→(∀ a' w',Inv a' w'→m a' < m a→I w'∧μ w' < μ w)→C I μ w):∃ I μ,I w∧∀ w,I w→C I μ w :=
 qeh Inv m a h hb
theorem qud {α A:Type} {C:(A→World→Prop)→(A→World→Nat)→A→World→Prop} {x:A} {w:World} (Inv:α→A→World→Prop) (m:α→Nat) (a:α) (h:Inv a x w)
 (hb:∀ a x w I μ,Inv a x w→(∀ a' x' w',Inv a' x' w'→m a' < m a→I x' w'∧μ x' w' < μ x w)→C I μ x w):∃ I μ,I x w∧∀ x w,I x w→C I μ x w:=by
 obtain ⟨I,μ,h1,h2⟩:=qeh (σ:=A × World) (C:=fun I μ s=>C (fun x w=>I (x,w)) (fun x w=>μ (x,w)) s.1 s.2) (s:=(x,w)) (fun a s=>Inv a s.1 s.2) m a h
  (fun a s I μ hi hn=>hb a s.1 s.2 _ _ hi fun a' x' w'=>hn a' (x',w'))
 exact ⟨fun x w=>I (x,w),fun x w=>μ (x,w),h1,fun x w hI=>h2 (x,w) hI⟩
theorem loop2 {α A B:Type} {C:(A→B→World→Prop)→(A→B→World→Nat)→A→B→World→Prop} {x:A} {y:B} {w:World} (Inv:α→A→B→World→Prop) (m:α→Nat) (a:α) (h:Inv a x y w)
 (hb:∀ a x y w I μ,Inv a x y w→(∀ a' x' y' w',Inv a' x' y' w'→m a' < m a→I x' y' w'∧μ x' y' w' < μ x y w)→C I μ x y w):∃ I μ,I x y w∧∀ x y w,I x y w→C I μ x y w:=by
 obtain ⟨I,μ,h1,h2⟩:=qeh (σ:=A × B × World) (C:=fun I μ s=>C (fun x y w=>I (x,y,w)) (fun x y w=>μ (x,y,w)) s.1 s.2.1 s.2.2) (s:=(x,y,w)) (fun a s=>Inv a s.1 s.2.1 s.2.2) m a h
  (fun a s I μ hi hn=>hb a s.1 s.2.1 s.2.2 _ _ hi fun a' x' y' w'=>hn a' (x',y',w'))
 exact ⟨fun x y w=>I (x,y,w),fun x y w=>μ (x,y,w),h1,fun x y w hI=>h2 (x,y,w) hI⟩
theorem loop3 {α A B D:Type} {C:(A→B→D→World→Prop)→(A→B→D→World→Nat)→A→B→D→World→Prop} {x:A} {y:B} {z:D} {w:World} (Inv:α→A→B→D→World→Prop) (m:α→Nat) (a:α) (h:Inv a x y z w)
 (hb:∀ a x y z w I μ,Inv a x y z w→(∀ a' x' y' z' w',Inv a' x' y' z' w'→m a' < m a→I x' y' z' w'∧μ x' y' z' w' < μ x y z w)→C I μ x y z w):∃ I μ,I x y z w∧∀ x y z w,I x y z w→C I μ x y z w:=by
 obtain ⟨I,μ,h1,h2⟩:=qeh (σ:=A × B × D × World) (C:=fun I μ s=>C (fun x y z w=>I (x,y,z,w)) (fun x y z w=>μ (x,y,z,w)) s.1 s.2.1 s.2.2.1 s.2.2.2) (s:=(x,y,z,w)) (fun a s=>Inv a s.1 s.2.1 s.2.2.1 s.2.2.2) m a h
  (fun a s I μ hi hn=>hb a s.1 s.2.1 s.2.2.1 s.2.2.2 _ _ hi fun a' x' y' z' w'=>hn a' (x',y',z',w'))
 exact ⟨fun x y z w=>I (x,y,z,w),fun x y z w=>μ (x,y,z,w),h1,fun x y z w hI=>h2 (x,y,z,w) hI⟩
theorem loop4 {α A B D E:Type} {C:(A→B→D→E→World→Prop)→(A→B→D→E→World→Nat)→A→B→D→E→World→Prop} {x:A} {y:B} {z:D} {u:E} {w:World} (Inv:α→A→B→D→E→World→Prop) (m:α→Nat) (a:α) (h:Inv a x y z u w)
 (hb:∀ a x y z u w I μ,Inv a x y z u w→(∀ a' x' y' z' u' w',Inv a' x' y' z' u' w'→m a' < m a→I x' y' z' u' w'∧μ x' y' z' u' w' < μ x y z u w)→C I μ x y z u w):∃ I μ,I x y z u w∧∀ x y z u w,I x y z u w→C I μ x y z u w:=by
 obtain ⟨I,μ,h1,h2⟩:=qeh (σ:=A × B × D × E × World) (C:=fun I μ s=>C (fun x y z u w=>I (x,y,z,u,w)) (fun x y z u w=>μ (x,y,z,u,w)) s.1 s.2.1 s.2.2.1 s.2.2.2.1 s.2.2.2.2) (s:=(x,y,z,u,w)) (fun a s=>Inv a s.1 s.2.1 s.2.2.1 s.2.2.2.1 s.2.2.2.2) m a h
  (fun a s I μ hi hn=>hb a s.1 s.2.1 s.2.2.1 s.2.2.2.1 s.2.2.2.2 _ _ hi fun a' x' y' z' u' w'=>hn a' (x',y',z',u',w'))
 exact ⟨fun x y z u w=>I (x,y,z,u,w),fun x y z u w=>μ (x,y,z,u,w),h1,fun x y z u w hI=>h2 (x,y,z,u,w) hI⟩
theorem qsb {P:Program} {k:Nat} {args:Array Value} {w:World} {K:Ending→World→Prop} (h:Calls P k args w (Ret fun v w'=>K (.returned v) w')):Calls P k args w K :=
 h.mono fun e w' ⟨v,he,hq⟩=>he ▸ hq
end Go.Proofs.YtonmgkkkiejicaaGreat
namespace Go.Proofs.YtonmgkkkiejicaaGreat
open Go Go.Proofs
set_option linter.unusedVariables false
set_option maxRecDepth 100000
def qhc (s_0:Sl) (Q:VWP) (w:World):Prop :=
 br (Option.isNone s_0.a) (
 Q (.slice none 0 0) w) (
 nw w ⟨[]⟩ 5 fun a1 w2 =>
 rdO w2 s_0.a (s_0.len * 1) fun c3 =>
 apK Tryz.prog 5 w2 (some a1) 0 0 s_0.len c3 fun s4 w5 =>
 Q (sV s4) w5)
theorem qhc.ok (s_0:Sl) (Q:VWP) (w:World) (h:qhc s_0 Q w):Calls Tryz.prog 90 ⟨[sV s_0]⟩ w (Ret Q) :=
 qvb [.tmp 2] qkd Tryz.func90 rfl rfl rfl rfl .lf (by kernel_rfl) h
def qzb (s_0:Sl) (Q:VWP) (w:World):Prop :=
 bd (s_0.len:Int) s_0.cap fun n1 =>
 bd (s_0.len:Int) n1 fun n2 =>
 lt (⟨qfe s_0.a n1 0 1,n2 - 0,n1 - 0⟩:Sl) fun s3 =>
 Q (sV s3) w
theorem qzb.ok (s_0:Sl) (Q:VWP) (w:World) (h:qzb s_0 Q w):Calls Tryz.prog 28 ⟨[sV s_0]⟩ w (Ret Q) :=
 qvb [.tmp 2] qkd Tryz.func28 rfl rfl rfl rfl .lf (by kernel_rfl) h
end Go.Proofs.YtonmgkkkiejicaaGreat
namespace Go.Proofs.YtonmgkkkiejicaaGreat
open Go Go.Proofs
set_option linter.unusedVariables false
set_option linter.unusedSimpArgs false
attribute [local irreducible] apK cpK mkK
def byt (V k:Nat):List Int:=(List.range k).map fun i=>((V / 2 ^ (8 * i) % 256:Nat):Int)
abbrev u8s (l:List Int):List Value:=l.map (Value.int .u8)
theorem u8s_append (a b:List Int):u8s (a ++ b)=u8s a ++ u8s b:=by simp [u8s]
theorem qeb (a:List Int):(u8s a).length=a.length:=by simp [u8s]
theorem info_u8:Tryz.prog.info? 5=some Tryz.t5:=by kernel_rfl
theorem zc_u8:zc Tryz.prog 5=#[.int .u8 0]:=by kernel_rfl
section
variable {F0:List Nat} {w0 w:World} {ps:List As}
theorem St.rdB {b k:Nat} {l:List Value} {K:Array Value→Prop} (h:St F0 w0 w (qt b l :: ps)) (hk:k=l.length) (hK:K ⟨l⟩):rdO w (some ⟨b,0,none⟩) k K:=by
 subst hk
 refine ⟨⟨l⟩,rfl,fun i hi=>?_,hK⟩
 rw [qmb,h.blk.cell,Nat.zero_add]
 simp
theorem St.append_u8 {s:Sl} {xs:List Int} {c:Array Value} {x:Int} {K:Sl→World→Prop} (h:St F0 w0 w (qv 1 s (u8s xs) :: ps)) (hlen:xs.length≤35184372088832) (hc:c=⟨[.int .u8 x]⟩)
 (hk:∀ s' w',St F0 w0 w' (qv 1 s' (u8s (xs ++ [x])) :: ps)→K s' w'):apK Tryz.prog 5 w s.a s.len s.cap 1 c K:=by
 subst hc
 have hl:=h.len
 rw [qeb] at hl
 have h1:(Tryz.t5).size=1:=rfl
 have h2:(Tryz.t5).bytes=1:=rfl
 have h4:(zc Tryz.prog 5).size=1:=by rw [zc_u8]; rfl
 have h5:(Tryz.t5).bytes ≠ 0:=by rw [h2]; decide
 have h6:(⟨[.int .u8 x]⟩:Array Value).size=1 * 1:=rfl
 have h7:∀ v ∈ (⟨[.int .u8 x]⟩:Array Value),qec v:=by simp [qec]
 refine St.append (i:=Tryz.t5) (sz:=1) (m:=1) info_u8 h1 (by decide) h4 h5 (by rw [h2]; omega) h h6 h7 ?_
 intro s' w' ho _
 refine hk s' w' ?_
 rw [u8s_append]
 exact ho
end
section
variable {F0:List Nat} {w0 w:World} {ps:List As}
end
end Go.Proofs.YtonmgkkkiejicaaGreat
namespace Go.Proofs.YtonmgkkkiejicaaGreat
open Go Go.Proofs
set_option linter.unusedVariables false
set_option linter.unusedSimpArgs false
attribute [local irreducible] apK cpK mkK
def Rd (w:World) (sz:Nat) (s:Sl) (cs:List Value):Prop:=cs.length=s.len * sz∧∀ i,i < cs.length→∃ a,s.a=some a∧w.cell? (a.add i)=cs[i]?
theorem Own.rd {sz:Nat} {w:World} {s:Sl} {cs:List Value} {F:List Nat} (h:Own sz w s cs F):Rd w sz s cs:=by
 refine ⟨h.len,fun i hi=>?_⟩
 obtain ⟨ob,h1,h2⟩:=h.cell hi
 exact ⟨⟨ob,0,none⟩,h1,by rw [qmb,Nat.zero_add]; exact h2⟩
theorem Rd.rdO {sz k:Nat} {w:World} {s:Sl} {cs:List Value} {K:Array Value→Prop} (h:Rd w sz s cs) (hk:k=cs.length) (hK:K ⟨cs⟩):rdO w s.a k K:=by
 subst hk
 obtain ⟨h1,h2⟩:=h
 cases e:s.a with
 | none =>
   cases cs with
   | nil=>exact ⟨rfl,hK⟩
   | cons c cs =>
     obtain ⟨a,ha,_⟩:=h2 0 (by simp)
     rw [e] at ha; cases ha
 | some a =>
   refine ⟨⟨cs⟩,rfl,fun i hi=>?_,hK⟩
   obtain ⟨a',ha,hc⟩:=h2 i hi
   rw [e] at ha; cases ha
   rw [hc]; simp
theorem Rd.ix {sz:Nat} {w:World} {s:Sl} {cs:List Value} {i:Int} {K:Addr→Prop} (h:Rd w sz s cs) (hsz:0 < sz) (h0:0≤i) (h1:i < s.len) (hk:∀ a,s.a=some a→K (a.add (i.toNat * sz))):ixS s.a s.len i sz K:=by
 have hl:=h.1
 have:i.toNat * sz < cs.length:=by
  rw [hl]
  exact Nat.mul_lt_mul_of_pos_right (by omega) hsz
 obtain ⟨a,ha,_⟩:=h.2 _ this
 unfold ixS
 rw [ha]
 exact ⟨⟨h0,h1⟩,hk a ha⟩
theorem Rd.cell {sz:Nat} {w:World} {s:Sl} {cs:List Value} (h:Rd w sz s cs) {a:Addr} (ha:s.a=some a) {i:Nat} (hi:i < cs.length):w.cell? (a.add i)=cs[i]?:=by
 obtain ⟨a',ha',hc⟩:=h.2 i hi
 rw [ha] at ha'; cases ha'
 exact hc
theorem qke (a:Addr) (i j:Nat):(a.add i).add j=a.add (i+j):=by
 obtain ⟨b,o,p⟩:=a
 cases p with
 | none=>rw [qmb,qmb,qmb,Nat.add_assoc]
 | some p =>
   unfold Addr.add
   by_cases hi:i=0
   · by_cases hj:j=0
     · simp [hi,hj]
     · simp [hi,hj]
   · by_cases hj:j=0
     · simp [hi,hj]
     · simp [hi,hj,Nat.add_assoc]
theorem ldI_c {k:IntKind} {w:World} {a:Addr} {n:Int} {K:Int→Prop} (hc:w.cell? a=some (.int k n)) (hk:K n):ldI k w a K:=⟨n,hc,hk⟩
theorem ldL_c {w:World} {a:Addr} {n:Sl} {K:Sl→Prop} (hc:w.cell? a=some (.slice n.a n.len n.cap)) (hk:K n):ldL w a K:=⟨n,hc,hk⟩
theorem Rd.ldI {k:IntKind} {sz:Nat} {w:World} {s:Sl} {cs:List Value} {a:Addr} {i:Nat} {n:Int} {K:Int→Prop} (h:Rd w sz s cs) (ha:s.a=some a) (hv:cs[i]?=some (.int k n)) (hk:K n):ldI k w (a.add i) K:=by
 refine ⟨n,?_,hk⟩
 have hi:i < cs.length:=by
  rcases Nat.lt_or_ge i cs.length with h1 | h1
  · exact h1
  · rw [List.getElem?_eq_none h1] at hv; cases hv
 rw [h.cell ha hi]; exact hv
theorem Rd.ldB {sz:Nat} {w:World} {s:Sl} {cs:List Value} {a:Addr} {i:Nat} {n:Bool} {K:Bool→Prop} (h:Rd w sz s cs) (ha:s.a=some a) (hv:cs[i]?=some (.bool n)) (hk:K n):ldB w (a.add i) K:=by
 refine ⟨n,?_,hk⟩
 have hi:i < cs.length:=by
  rcases Nat.lt_or_ge i cs.length with h1 | h1
  · exact h1
  · rw [List.getElem?_eq_none h1] at hv; cases hv
 rw [h.cell ha hi]; exact hv
theorem cell_lt {w:World} {a:Addr} {v:Value} (h:w.cell? a=some v):a.block < w.heap.size:=by
 unfold World.cell? at h
 rcases Nat.lt_or_ge a.block w.heap.size with h1 | h1
 · exact h1
 · have:w.heap[a.block]?=none:=Array.getElem?_eq_none h1
   simp [this] at h
theorem add_block (a:Addr) (i:Nat):(a.add i).block=a.block:=by unfold Addr.add; split <;> rfl
theorem cell_congr {w w':World} {a:Addr} (h:w'.heap[a.block]?=w.heap[a.block]?):w'.cell? a=w.cell? a:=by
 unfold World.cell?
 rw [h]
theorem Rd.keep {sz:Nat} {w w':World} {s:Sl} {cs:List Value} {G:List Nat} (h:Rd w sz s cs) (m:Mod G w w') (hG:∀ a,s.a=some a→a.block ∉ G):Rd w' sz s cs:=by
 refine ⟨h.1,fun i hi=>?_⟩
 obtain ⟨a,ha,hc⟩:=h.2 i hi
 refine ⟨a,ha,?_⟩
 rw [← hc]
 rw [List.getElem?_eq_getElem hi] at hc
 have hlt:=cell_lt hc
 rw [add_block] at hlt
 apply cell_congr
 rw [add_block]
 exact m.frame _ hlt (hG a ha)
def RBlk (w:World) (b:Nat) (l:List Value):Prop:=∃ t f,w.heap[b]?=some (.cells ⟨l⟩ t f)
theorem Blk.rb {w:World} {b:Nat} {l:List Value} (h:Blk w b l):RBlk w b l:=by
 obtain ⟨t,h⟩:=h
 exact ⟨t,_,h⟩
theorem RBlk.lt {w:World} {b:Nat} {l:List Value} (h:RBlk w b l):b < w.heap.size:=by
 obtain ⟨t,f,h⟩:=h
 exact (Array.getElem?_eq_some_iff.1 h).1
theorem RBlk.keep {F:List Nat} {w w':World} {b:Nat} {l:List Value} (h:RBlk w b l) (m:Mod F w w') (hb:b ∉ F):RBlk w' b l:=by
 have hl:=h.lt
 obtain ⟨t,f,h⟩:=h
 exact ⟨t,f,by rw [m.frame b hl hb]; exact h⟩
theorem RBlk.cell {w:World} {b:Nat} {l:List Value} (h:RBlk w b l) (o:Nat):w.cell? ⟨b,o,none⟩=l[o]?:=by
 obtain ⟨t,f,h⟩:=h
 simp [World.cell?,h]
def rdA (sz:Nat) (s:Sl) (cs:List Value):As where
 hd w F:=cs.length=s.len * sz∧((cs=[]∧F=[]) ∨ ∃ b o l,s.a=some ⟨b,o,none⟩∧RBlk w b l∧F=[b]∧∀ i,i < cs.length→l[o+i]?=cs[i]?)
 keep:=by
  rintro w w' F G ⟨hl,h⟩ m hd
  refine ⟨hl,?_⟩
  rcases h with h | ⟨b,o,l,h1,h2,rfl,h3⟩
  · exact Or.inl h
  · exact Or.inr ⟨b,o,l,h1,h2.keep m (hd b (by simp)),rfl,h3⟩
 lt:=by
  rintro w F ⟨hl,⟨_,rfl⟩ | ⟨b,o,l,h1,h2,rfl,h3⟩⟩ x hx
  · cases hx
  · have:x=b:=by simpa using hx
    subst this; exact h2.lt
section
variable {F0:List Nat} {w0 w:World} {p:As} {ps:List As} {sz:Nat} {s:Sl} {cs:List Value}
theorem St.rd (h:St F0 w0 w (rdA sz s cs :: ps)):Rd w sz s cs:=by
 obtain ⟨F,hl,⟨rfl,rfl⟩ | ⟨b,o,l,h1,h2,rfl,h3⟩⟩:=h.get
 · exact ⟨hl,fun i hi=>by simp at hi⟩
 · refine ⟨hl,fun i hi=>⟨_,h1,?_⟩⟩
   rw [qmb,h2.cell]
   exact h3 i hi
theorem St.ord (h:St F0 w0 w (qv sz s cs :: ps)):Rd w sz s cs:=by
 obtain ⟨F,h⟩:=h.own; exact h.rd
theorem Own.ro {F:List Nat} (h:Own sz w s cs F):∃ F',(rdA sz s cs).hd w F'∧∀ x ∈ F',x ∈ F:=by
 refine ⟨F,⟨h.len,?_⟩,fun _ h=>h⟩
 rcases h with ⟨_,h1,h2⟩ | ⟨ob,rest,h1,hb,_,_,rfl⟩
 · exact Or.inl ⟨h1,h2⟩
 · exact Or.inr ⟨ob,0,cs ++ rest,h1,hb.rb,rfl,fun i hi=>by rw [Nat.zero_add,List.getElem?_append_left hi]⟩
theorem St.ro (h:St F0 w0 w (qv sz s cs :: ps)):St F0 w0 w (rdA sz s cs :: ps):=by
 refine h.mp fun F h=>?_
 refine ⟨Own.len h,?_⟩
 rcases h with ⟨_,h1,h2⟩ | ⟨ob,rest,h1,hb,_,_,rfl⟩
 · exact Or.inl ⟨h1,h2⟩
 · exact Or.inr ⟨ob,0,cs ++ rest,h1,hb.rb,rfl,fun i hi=>by rw [Nat.zero_add,List.getElem?_append_left hi]⟩
theorem St.recap {s':Sl} (h:St F0 w0 w (rdA sz s cs :: ps)) (ha:s'.a=s.a) (hl:s'.len=s.len):St F0 w0 w (rdA sz s' cs :: ps):=by
 refine h.mp fun F h=>?_
 unfold rdA at h ⊢
 simp only at h ⊢
 rw [ha,hl]; exact h
end
theorem mkStr_i {F0:List Nat} {w0 w:World} {ps:List As} {b n:Nat} {l:List Value} {K:World→Prop} (h:St F0 w0 w (qt b l :: ps)) (hn:l.length=n) (hk:∀ w',St F0 w0 w' (rdA 1 ⟨some ⟨b,0,none⟩,n,n⟩ l :: ps)→K w'):mkStr w (some ⟨b,0,none⟩) K:=by
 obtain ⟨f,⟨hb,rfl⟩,hstep⟩:=h.step
 obtain ⟨t,hs⟩:=hb.shape
 have e:w.freeze ⟨b,l.length,none⟩ 1={ w with heap:=w.heap.modify b fun
  | .cells c elem (lo,hi)=>.cells c elem (if (lo == hi)=true then (l.length,l.length+1) else (min lo l.length,max hi (l.length+1)))
  | o=>o }:=rfl
 refine ⟨t,l.length,hs,hk _ (hstep _ [b] _ ?_ (Gr.refl _ _) ⟨by simp [hn],Or.inr ⟨b,0,l,rfl,?_,rfl,fun i hi=>by rw [Nat.zero_add]⟩⟩)⟩
 · rw [e]
   refine ⟨rfl,rfl,rfl,by simp,fun x hx hF=>?_⟩
   simp only [Array.getElem?_modify]
   rw [if_neg]
   intro h
   exact hF (by simp [h])
 · obtain ⟨t,hb⟩:=hb
   refine ⟨t,(l.length,l.length+1),?_⟩
   rw [e]
   simp only [Array.getElem?_modify,if_true,hb,Option.map_some]
   rfl
def val:List Bool→Nat
 | []=>0
 | b :: l=>b.toNat+2 * val l
def bt (v:Int) (i:Nat):Bool:=v / 2 ^ i % 2 == 1
def bitsOf (v:Int) (n:Nat):List Bool:=(List.range n).map (bt v)
def pb (v n:Int):List Bool:=if 0≤n∧n≤24 then bitsOf v n.toNat else []
end Go.Proofs.YtonmgkkkiejicaaGreat
namespace Go.Proofs.YtonmgkkkiejicaaGreat
open Go Go.Proofs
set_option linter.unusedVariables false
set_option linter.unusedSimpArgs false
attribute [local irreducible] apK cpK mkK
theorem orV_comm (k:IntKind) (a b:Int):orV k a b=orV k b a:=by unfold orV; rw [BitVec.or_comm]
section
variable {F0:List Nat} {w0 w:World} {ps:List As}
theorem St.nil (sz:Nat) (h:St F0 w0 w ps):St F0 w0 w (qv sz ⟨none,0,0⟩ [] :: ps) :=
 h.add (f':=[]) (Mod.refl _ _) (Or.inl ⟨rfl,rfl,rfl⟩) (Gr.refl _ _)
theorem qhc.c {s:Sl} {xs:List Int} {K:Ending→World→Prop} (h:St F0 w0 w ps) (hr:Rd w 1 s (u8s xs)) (hlen:xs.length≤35184372088832)
 (hk:∀ s' w',St F0 w0 w' (qv 1 s' (u8s xs) :: ps)→K (.returned (.slice s'.a s'.len s'.cap)) w'):Calls Tryz.prog 90 ⟨[.slice s.a s.len s.cap]⟩ w K:=by
 refine qsb (qhc.ok _ _ _ ?_)
 unfold qhc
 have hl:=hr.1
 rw [qeb] at hl
 refine qmd (fun h1=>?_) (fun h1=>?_)
 · have hx:xs=[]:=by
    cases xs with
    | nil=>rfl
    | cons x xs =>
      obtain ⟨a,ha,_⟩:=hr.2 0 (by simp [u8s])
      rw [ha] at h1; cases h1
   subst hx
   exact hk ⟨none,0,0⟩ w (h.nil 1)
 · refine h.newM fun nb w1 hm h=>?_
   have hr1:=hr.keep hm (by simp)
   refine hr1.rdO (by rw [hr1.1]) ?_
   have h1:(Tryz.t5).size=1:=rfl
   have h2:(Tryz.t5).bytes=1:=rfl
   have h4:(zc Tryz.prog 5).size=1:=by rw [zc_u8]; rfl
   have h5:(Tryz.t5).bytes ≠ 0:=by rw [h2]; decide
   have h:St F0 w0 w1 (qv 1 ⟨some ⟨nb,0,none⟩,0,0⟩ [] :: ps):=by
    refine h.mp ?_
    rintro F ⟨hb,rfl⟩
    exact Or.inr ⟨nb,[],rfl,hb,rfl,rfl,rfl⟩
   refine St.append (i:=Tryz.t5) (sz:=1) (m:=s.len) (s:=⟨some ⟨nb,0,none⟩,0,0⟩) info_u8 h1 (by decide) h4 h5 (by rw [h2]; show (2 * (0+s.len)+1024) * 1≤_; omega) h (by
    show (u8s xs).length=_
    exact hr.1) (by
    intro v hv
    have hv:v ∈ u8s xs:=by simpa using hv
    obtain ⟨n,_,rfl⟩:=List.mem_map.1 hv
    trivial) fun s' w' h _=>hk s' w' h
def bytes (l:List Bool):List Int:=byt (val l) ((l.length+7) / 8)
theorem qzb.c {s:Sl} {cs:List Value} {K:Ending→World→Prop} (h:St F0 w0 w (rdA 1 s cs :: ps)) (hc:s.len≤s.cap)
 (hk:∀ s':Sl,s'.len=s.len→s'.cap=s.len→St F0 w0 w (rdA 1 s' cs :: ps)→K (.returned (.slice s'.a s'.len s'.cap)) w):Calls Tryz.prog 28 ⟨[.slice s.a s.len s.cap]⟩ w K:=by
 refine qsb (qzb.ok _ _ _ ?_)
 unfold qzb
 refine ⟨⟨by omega,by omega⟩,⟨by omega,by omega⟩,qjc ?_⟩
 refine hk ⟨_,_,_⟩ (by simp) (by simp) (h.recap ?_ (by simp))
 show qfe s.a _ 0 1=s.a
 unfold qfe
 split
 · rfl
 · cases s.a with
   | none=>rfl
   | some a=>simp [Addr.add]
theorem St.cap {sz:Nat} {s:Sl} {cs:List Value} (hsz:0 < sz) (h:St F0 w0 w (qv sz s cs :: ps)):s.len≤s.cap:=by
 obtain ⟨F,ho⟩:=h.own
 rcases ho with ⟨rfl,_,_⟩ | ⟨ob,rest,_,_,h2,h3,_⟩
 · exact Nat.le_refl 0
 · rw [List.length_append] at h3
   have:s.len * sz≤s.cap * sz:=by omega
   exact Nat.le_of_mul_le_mul_right this hsz
end
end Go.Proofs.YtonmgkkkiejicaaGreat
namespace Go.Proofs.YtonmgkkkiejicaaGreat
open Go Go.Proofs
set_option linter.unusedVariables false
set_option linter.unusedSimpArgs false
attribute [local irreducible] apK cpK mkK
def u8 (xs:List Int):List UInt8:=xs.map fun x=>UInt8.ofNat x.toNat
theorem Rd.btS {w:World} {s:Sl} {xs:List Int} {K:ByteArray→Prop} (h:Rd w 1 s (u8s xs)) (hx:∀ x ∈ xs,0≤x∧x < 256) (hk:K ⟨⟨u8 xs⟩⟩):btS w s.a s.len K:=by
 have hl:=h.1
 rw [qeb,Nat.mul_one] at hl
 unfold Go.Proofs.YtonmgkkkiejicaaGreat.btS
 cases e:s.a with
 | none =>
   cases xs with
   | nil=>exact hk
   | cons x xs =>
     obtain ⟨a,ha,_⟩:=h.2 0 (by simp [u8s])
     rw [e] at ha; cases ha
 | some a =>
   refine ⟨u8 xs,by simp [u8,hl],fun j hj=>?_,hk⟩
   rw [h.cell e (by rw [qeb]; omega)]
   have hj':j < xs.length:=by omega
   simp only [u8s,u8,List.getElem?_map,List.getElem?_eq_getElem hj',Option.map_some]
   have:=hx _ (List.getElem_mem hj')
   congr 2
   rw [UInt8.toNat_ofNat']
   omega
section
variable {F0:List Nat} {w0 w:World} {ps:List As}
end
end Go.Proofs.YtonmgkkkiejicaaGreat
namespace Go.Proofs.YtonmgkkkiejicaaGreat
open Go Go.Proofs
set_option linter.unusedVariables false
set_option linter.unusedSimpArgs false
attribute [local irreducible] apK cpK mkK
theorem wf_u8 {n:Int} (h:(Lit.int .u8 n).wf=true):0≤n∧n < 256:=by
 have h:IntKind.u8.min≤n∧n≤IntKind.u8.max:=by simpa [Lit.wf] using h
 have h1:IntKind.u8.min=0:=rfl
 have h2:IntKind.u8.max=255:=rfl
 omega
section
variable {F0:List Nat} {w0 w:World} {ps:List As}
end
end Go.Proofs.YtonmgkkkiejicaaGreat
namespace Go.Proofs.YtonmgkkkiejicaaGreat
open Go Go.Proofs
set_option linter.unusedVariables false
set_option linter.unusedSimpArgs false
attribute [local irreducible] apK cpK mkK
theorem wrap_uns {k:IntKind} (hk:k.signed=false) (x:Int):k.wrap x=x % 2 ^ k.bits:=by
 simp [IntKind.wrap,hk]
theorem wrap_unat {k:IntKind} (hk:k.signed=false) {n:Nat} (h:n < 2 ^ k.bits):k.wrap (n:Int)=n:=by
 rw [wrap_uns hk]
 exact Int.emod_eq_of_lt (by omega) (by exact_mod_cast h)
theorem orV_unat {k:IntKind} (hk:k.signed=false) {a b:Nat} (ha:a < 2 ^ k.bits) (hb:b < 2 ^ k.bits):orV k (a:Int) (b:Int)=((a ||| b:Nat):Int):=by
 unfold orV
 rw [BitVec.toNat_or,qsg _ _ ha,qsg _ _ hb]
 exact wrap_unat hk (Nat.or_lt_two_pow ha hb)
theorem orV_uadd {k:IntKind} (hk:k.signed=false) {a b:Nat} {t:Nat} (ha:a < 2 ^ t) (hs:a+b * 2 ^ t < 2 ^ k.bits):orV k (a:Int) ((b:Int) * 2 ^ t)=(a:Int)+(b:Int) * 2 ^ t:=by
 have e:(b:Int) * 2 ^ t=((b * 2 ^ t:Nat):Int):=by simp
 rw [e,orV_unat hk (by omega) (by omega),Nat.or_comm]
 have:=Nat.two_pow_add_eq_or_of_lt ha b
 rw [Nat.mul_comm b,← this]
 simp
 omega
theorem shlV_u {k:IntKind} (hk:k.signed=false) {x:Nat} {t:Nat} (ht:t≤k.bits) (hs:x * 2 ^ t < 2 ^ k.bits):shlV k (x:Int) (t:Int)=(x:Int) * 2 ^ t:=by
 unfold shlV
 rw [Int.toNat_natCast,Nat.min_eq_left ht]
 have e:(x:Int) * 2 ^ t=((x * 2 ^ t:Nat):Int):=by simp
 rw [e,wrap_unat hk hs]
section
variable {F0:List Nat} {w0 w:World} {ps:List As}
theorem St.append1 {P:Program} {e:TypeId} {i:TypeInfo} {z v:Value} {s:Sl} {cs:List Value} {c:Array Value} {K:Sl→World→Prop}
 (hi:P.info? e=some i) (hsz:i.size=1) (hz:zc P e=#[z]) (hb0:i.bytes ≠ 0) (hb:i.bytes≤16)
 (h:St F0 w0 w (qv 1 s cs :: ps)) (hlen:cs.length≤1099511627776) (hc:c=⟨[v]⟩) (hv:qec v)
 (hk:∀ s' w',St F0 w0 w' (qv 1 s' (cs ++ [v]) :: ps)→K s' w'):apK P e w s.a s.len s.cap 1 c K:=by
 subst hc
 have hl:=h.len
 refine St.append (i:=i) (sz:=1) (m:=1) hi hsz (by decide) (by rw [hz]; rfl) hb0 ?_ h (by rfl) (by simpa using hv) (fun s' w' h _=>hk s' w' h)
 refine Nat.le_trans (Nat.mul_le_mul_left _ hb) ?_
 have hl2:s.len≤1099511627776:=by omega
 clear hk h
 generalize s.len=n at hl2
 omega
theorem St.setO {sz:Nat} {s:Sl} {cs:List Value} {i:Nat} {v:Value} {a:Addr} {K:World→Prop} (h:St F0 w0 w (qv sz s cs :: ps)) (ha:s.a=some a) (hi:i < cs.length) (hs:qec v)
 (hk:∀ w',St F0 w0 w' (qv sz s (cs.set i v) :: ps)→K w'):Go.Proofs.YtonmgkkkiejicaaGreat.st w (a.add i) v K:=by
 obtain ⟨f,ho,hstep⟩:=h.step
 rcases ho with ⟨rfl,rfl,_⟩ | ⟨ob,rest,h1,hb,h2,h3,rfl⟩
 · simp at hi
 · rw [h1] at ha
   cases ha
   rw [qmb,Nat.zero_add]
   refine hb.st (by rw [List.length_append]; omega) hs fun w' hm hb'=>hk w' (hstep w' [ob] _ hm (Gr.refl _ _) (Or.inr ⟨ob,rest,h1,?_,by simpa using h2,by simpa using h3,rfl⟩))
   rw [List.set_append_left _ _ hi] at hb'
   exact hb'
theorem repL_one (n:Nat) (z:Value):qmg n [z]=List.replicate n z:=by
 induction n with
 | zero=>rfl
 | succ n ih=>rw [qmg,ih,List.replicate_succ]; rfl
theorem St.make1 {P:Program} {e:TypeId} {z:Value} {n:Nat} {l c:Int} {K:Sl→World→Prop} (hz:zc P e=#[z]) (hl:l=n) (hc:c=n) (hn:n≤1099511627776) (hb:P.bytesOf e≤16) (h:St F0 w0 w ps)
 (hk:∀ s w',s.len=n→s.cap=n→St F0 w0 w' (qv 1 s (List.replicate n z) :: ps)→K s w'):mkK P e w l c K:=by
 subst hl hc
 unfold mkK
 refine ⟨⟨by omega,by omega,by omega,?_⟩,?_⟩
 · have:P.bytesOf e * n≤16 * n:=Nat.mul_le_mul_right _ hb
   have e2:((P.bytesOf e:Int) * (n:Int))=((P.bytesOf e * n:Nat):Int):=by simp
   rw [e2]
   have:((P.bytesOf e * n:Nat):Int)≤((16 * n:Nat):Int):=by exact_mod_cast this
   have h3:(2:Int) ^ 48=281474976710656:=by decide
   omega
 · refine hk ⟨newAt w,_,_⟩ _ (by simp) (by simp) ?_
   rw [hz]
   refine h.add (f':=[w.heap.size]) (Mod.alloc _ _) (Or.inr ⟨w.heap.size,[],rfl,?_,by simp,by simp,rfl⟩) (fun x hx=>Or.inr (by have:x=w.heap.size:=(by simpa using hx); omega))
   have:=Blk.new w (qmg ((n:Int)).toNat #[z].toList) e
   rw [List.append_nil]
   rw [Int.toNat_natCast] at this ⊢
   rw [show (#[z]:Array Value).toList=[z] from rfl,repL_one] at this ⊢
   exact this
end
section
variable {F0:List Nat} {w0 w:World} {ps:List As}
theorem u8s_set (xs:List Int) (i:Nat) (v:Int):(u8s xs).set i (.int .u8 v)=u8s (xs.set i v):=by
 unfold u8s
 rw [List.map_set]
end
end Go.Proofs.YtonmgkkkiejicaaGreat
namespace Go.Proofs.YtonmgkkkiejicaaGreat
open Go Go.Proofs
set_option linter.unusedVariables false
set_option linter.unusedSimpArgs false
attribute [local irreducible] apK cpK mkK
class PkA (p:As) (ps:List As) (rest:outParam (List As)):Prop where
 pk:∀ {F0:List Nat} {w0 w:World},St F0 w0 w ps→St F0 w0 w (p :: rest)
instance PkA.tl {p q:As} {ps rest:List As} [i:PkA p ps rest]:PkA p (q :: ps) (q :: rest):=⟨fun h=>(h.tail fun _ _ _ h=>i.pk h).at1⟩
instance PkA.hd {p:As} {ps:List As}:PkA p (p :: ps) ps:=⟨id⟩
class PkB (b:Nat) (ps:List As) (l:outParam (List Value)) (rest:outParam (List As)):Prop where
 pk:∀ {F0:List Nat} {w0 w:World},St F0 w0 w ps→St F0 w0 w (qt b l :: rest)
instance PkB.tl {b:Nat} {l:List Value} {q:As} {ps rest:List As} [i:PkB b ps l rest]:PkB b (q :: ps) l (q :: rest):=⟨fun h=>(h.tail fun _ _ _ h=>i.pk h).at1⟩
instance PkB.hd {b:Nat} {l:List Value} {ps:List As}:PkB b (qt b l :: ps) l ps:=⟨id⟩
class PkO (s:Sl) (ps:List As) (sz:outParam Nat) (cs:outParam (List Value)) (rest:outParam (List As)):Prop where
 pk:∀ {F0:List Nat} {w0 w:World},St F0 w0 w ps→St F0 w0 w (qv sz s cs :: rest)
instance PkO.tl {s:Sl} {sz:Nat} {cs:List Value} {q:As} {ps rest:List As} [i:PkO s ps sz cs rest]:PkO s (q :: ps) sz cs (q :: rest):=⟨fun h=>(h.tail fun _ _ _ h=>i.pk h).at1⟩
instance PkO.hd {s:Sl} {sz:Nat} {cs:List Value} {ps:List As}:PkO s (qv sz s cs :: ps) sz cs ps:=⟨id⟩
class Sub (ps qs:List As):Prop where
 sub:∀ {F0:List Nat} {w0 w:World},St F0 w0 w ps→St F0 w0 w qs
instance (priority:=100) Sub.dr {q:As} {ps qs:List As} [i:Sub ps qs]:Sub (q :: ps) qs:=⟨fun h=>i.sub h.drop⟩
instance (priority:=500) Sub.cons {p:As} {ps rest qs:List As} [i:PkA p ps rest] [j:Sub rest qs]:Sub ps (p :: qs):=⟨fun h=>(i.pk h).tail fun _ _ _ h=>j.sub h⟩
instance (priority:=2000) Sub.refl {ps:List As}:Sub ps ps:=⟨id⟩
instance (priority:=3000) Sub.nil {ps:List As}:Sub ps []:=⟨fun h=>⟨h.1,[],rfl,fun x hx=>by cases hx⟩⟩
class Rdb (F0:List Nat) (w0:World) (s:Sl) (ps:List As) (sz:outParam Nat) (cs:outParam (List Value)):Prop where
 rd:∀ {w:World},St F0 w0 w ps→Rd w sz s cs
instance Rdb.tl {F0:List Nat} {w0:World} {s:Sl} {q:As} {ps:List As} {sz:Nat} {cs:List Value} [i:Rdb F0 w0 s ps sz cs]:Rdb F0 w0 s (q :: ps) sz cs:=⟨fun h=>i.rd h.drop⟩
instance Rdb.own {F0:List Nat} {w0:World} {s:Sl} {ps:List As} {sz:Nat} {cs:List Value}:Rdb F0 w0 s (qv sz s cs :: ps) sz cs:=⟨fun h=>h.ord⟩
instance Rdb.rdo {F0:List Nat} {w0:World} {s:Sl} {ps:List As} {sz:Nat} {cs:List Value}:Rdb F0 w0 s (rdA sz s cs :: ps) sz cs:=⟨fun h=>h.rd⟩
theorem Rdb.nil {F0:List Nat} {w0:World} {ps:List As} (n:Nat):Rdb F0 w0 ⟨none,0,n⟩ ps 1 []:=⟨fun h=>⟨rfl,fun i hi=>by simp at hi⟩⟩
theorem Rdb.start {w0:World} {s:Sl} {ps:List As} {sz:Nat} {cs:List Value} (h:Rd w0 sz s cs):Rdb [] w0 s ps sz cs:=⟨fun k=>h.keep k.mod (by simp)⟩
theorem Rd.cut {w:World} {sz n m:Nat} {s:Sl} {cs:List Value} (h:Rd w sz s cs) (hsz:0 < sz) (hm:m≤s.len) (hn:n≤m) (hc:s.len≤s.cap) (c':Nat):Rd w sz ⟨qfe s.a s.cap n sz,m - n,c'⟩ ((cs.drop (n * sz)).take ((m - n) * sz)):=by
 have hl:=h.1
 have hms:m * sz≤s.len * sz:=Nat.mul_le_mul_right _ hm
 have hns:(m - n) * sz=m * sz - n * sz:=Nat.sub_mul _ _ _
 have hnm:n * sz≤m * sz:=Nat.mul_le_mul_right _ hn
 refine ⟨by rw [List.length_take,List.length_drop,hl]; show _=(m - n) * sz; omega,fun i hi=>?_⟩
 rw [List.length_take,List.length_drop,hl] at hi
 have hne:¬ s.cap=n:=by
  intro e
  have:m - n=0:=by omega
  rw [this] at hi
  simp at hi
 obtain ⟨a,ha,hcell⟩:=h.2 (n * sz+i) (by omega)
 refine ⟨a.add (n * sz),?_,?_⟩
 · show qfe s.a s.cap n sz=_
   unfold qfe
   rw [if_neg hne,ha]
   rfl
 · rw [qke,hcell,List.getElem?_take,if_pos (by omega),List.getElem?_drop]
class GetL (l:List Value) (o:Nat) (v:outParam Value):Prop where
 get:l[o]?=some v
instance GetL.z {v:Value} {l:List Value}:GetL (v :: l) 0 v:=⟨rfl⟩
instance GetL.s {v u:Value} {l:List Value} {n:Nat} [i:GetL l n v]:GetL (u :: l) (n+1) v:=⟨by simpa using i.get⟩
class SetL (l:List Value) (o:Nat) (v:Value) (l':outParam (List Value)):Prop where
 set:l.set o v=l'
 lt:o < l.length
instance SetL.z {v u:Value} {l:List Value}:SetL (u :: l) 0 v (v :: l):=⟨rfl,by simp⟩
instance SetL.s {v u:Value} {l l':List Value} {n:Nat} [i:SetL l n v l']:SetL (u :: l) (n+1) v (u :: l'):=⟨by simp [i.set],by have:=i.lt; simp; omega⟩
section
variable {F0:List Nat} {w0 w:World} {ps qs rest:List As} {b o:Nat} {l l':List Value}
theorem St.sub [i:Sub ps qs] (h:St F0 w0 w ps):St F0 w0 w qs:=i.sub h
theorem St.toB (b:Nat) [i:PkB b ps l rest] (h:St F0 w0 w ps):St F0 w0 w (qt b l :: rest):=i.pk h
theorem St.toO (s:Sl) {sz:Nat} {cs:List Value} [i:PkO s ps sz cs rest] (h:St F0 w0 w ps):St F0 w0 w (qv sz s cs :: rest):=i.pk h
theorem St.rdb (s:Sl) {sz:Nat} {cs:List Value} [i:Rdb F0 w0 s ps sz cs] (h:St F0 w0 w ps):Rd w sz s cs:=i.rd h
theorem St.fI {k:IntKind} {n:Int} {K:Int→Prop} (h:St F0 w0 w ps) [PkB b ps l rest] [g:GetL l o (.int k n)] (hk:K n):ldI k w ⟨b,o,none⟩ K:=(h.toB b).blk.ldI g.get hk
theorem St.fB {n:Bool} {K:Bool→Prop} (h:St F0 w0 w ps) [PkB b ps l rest] [g:GetL l o (.bool n)] (hk:K n):ldB w ⟨b,o,none⟩ K:=(h.toB b).blk.ldB g.get hk
theorem St.fL {a:Option Addr} {n c:Nat} {K:Sl→Prop} (h:St F0 w0 w ps) [PkB b ps l rest] [g:GetL l o (.slice a n c)] (hk:K ⟨a,n,c⟩):ldL w ⟨b,o,none⟩ K:=(h.toB b).blk.ldL (n:=⟨a,n,c⟩) g.get hk
theorem St.fst {v:Value} {K:World→Prop} (h:St F0 w0 w ps) [PkB b ps l rest] [g:SetL l o v l'] (hs:qec v) (hk:∀ w',St F0 w0 w' (qt b l' :: rest)→K w'):Go.Proofs.YtonmgkkkiejicaaGreat.st w ⟨b,o,none⟩ v K :=
 (h.toB b).st g.lt hs fun w' h=>hk w' (by rw [g.set] at h; exact h)
abbrev ivs (k:IntKind) (l:List Int):List Value:=l.map (Value.int k)
theorem qw (k:IntKind) (l:List Int):(ivs k l).length=l.length:=by simp [ivs]
theorem qmi {k:IntKind} {l:List Int} {i:Nat} (h:i < l.length):(ivs k l)[i]?=some (.int k (l.getD i 0)):=by
 simp [ivs,h,List.getD,List.getElem?_eq_getElem h]
theorem qxl (k:IntKind) (l:List Int) (i:Nat) (v:Int):(ivs k l).set i (.int k v)=ivs k (l.set i v):=by
 unfold ivs; rw [List.map_set]
theorem qvd {k:IntKind} {l:List Int}:∀ v ∈ (⟨ivs k l⟩:Array Value),qec v:=by
 intro v hv
 have hv:v ∈ ivs k l:=by simpa using hv
 obtain ⟨n,_,rfl⟩:=List.mem_map.1 hv
 trivial
theorem qyl (k:IntKind) (l m:List Int):ivs k l ++ ivs k m=ivs k (l ++ m):=by simp [ivs]
theorem ivs_take (k:IntKind) (l:List Int) (n:Nat):(ivs k l).take n=ivs k (l.take n):=by simp [ivs,List.map_take]
theorem ivs_drop (k:IntKind) (l:List Int) (n:Nat):(ivs k l).drop n=ivs k (l.drop n):=by simp [ivs,List.map_drop]
theorem ivs_rep (k:IntKind) (n:Nat) (v:Int):List.replicate n (Value.int k v)=ivs k (List.replicate n v):=by simp [ivs]
theorem ivs_inj {k:IntKind} {l m:List Int} (h:ivs k l=ivs k m):l=m:=by
 unfold ivs at h
 exact (List.map_inj_right (fun a b h=>by injection h)).1 h
theorem Rd.at {k:IntKind} {s:Sl} {zs:List Int} {i:Int} {K:Int→Prop} (h:Rd w 1 s (ivs k zs)) (j:Nat) (hi:i=j) (hj:j < zs.length) (hk:K (zs.getD j 0)):ixS s.a s.len i 1 fun a=>Go.Proofs.YtonmgkkkiejicaaGreat.ldI k w a K:=by
 subst hi
 have hl:=h.1
 rw [qw] at hl
 refine h.ix (by decide) (by omega) (by omega) fun a ha=>?_
 rw [show ((j:Int)).toNat * 1=j by omega]
 exact h.ldI ha (qmi hj) hk
theorem St.lx {k:IntKind} {s:Sl} {zs:List Int} {i:Int} {K:Int→Prop} (h:St F0 w0 w ps) [Rdb F0 w0 s ps 1 (ivs k zs)] (j:Nat) (hi:i=j) (hj:j < zs.length) (hk:K (zs.getD j 0)):ixS s.a s.len i 1 fun a=>Go.Proofs.YtonmgkkkiejicaaGreat.ldI k w a K :=
 (h.rdb s).at j hi hj hk
theorem St.sx {k:IntKind} {s:Sl} {zs:List Int} {i v:Int} {K:World→Prop} (h:St F0 w0 w ps) [PkO s ps 1 (ivs k zs) rest] (j:Nat) (hi:i=j) (hj:j < zs.length) (hk:∀ w',St F0 w0 w' (qv 1 s (ivs k (zs.set j v)) :: rest)→K w'):ixS s.a s.len i 1 fun a=>Go.Proofs.YtonmgkkkiejicaaGreat.st w a (.int k v) K:=by
 subst hi
 have h:=h.toO s
 have hr:=h.ord
 have hl:=hr.1
 rw [qw] at hl
 refine hr.ix (by decide) (by omega) (by omega) fun a ha=>?_
 rw [show ((j:Int)).toNat * 1=j by omega]
 refine h.setO ha (by rw [qw]; exact hj) trivial fun w h=>hk w ?_
 rw [qxl] at h
 exact h
theorem qwl {b o n sz:Nat} {i:Int} {K:Addr→Prop} (h0:0≤i) (h1:i < (n:Int)) (hk:K ⟨b,o+i.toNat * sz,none⟩):ixA ⟨b,o,none⟩ n i sz K:=by
 unfold ixA
 rw [qmb]
 exact ⟨⟨h0,h1⟩,hk⟩
theorem St.la {k:IntKind} {n:Nat} {zs:List Int} {i:Int} {K:Int→Prop} (h:St F0 w0 w ps) [PkB b ps (ivs k zs) rest] (j:Nat) (hi:i=j) (hn:zs.length=n) (hj:j < n) (hk:K (zs.getD j 0)):ixA ⟨b,0,none⟩ n i 1 fun a=>Go.Proofs.YtonmgkkkiejicaaGreat.ldI k w a K:=by
 subst hi
 refine qwl (by omega) (by omega) ?_
 refine (h.toB b).blk.ldI ?_ hk
 rw [show 0+((j:Int)).toNat * 1=j by omega]
 exact qmi (by omega)
theorem St.sa {k:IntKind} {n:Nat} {zs:List Int} {i v:Int} {K:World→Prop} (h:St F0 w0 w ps) [PkB b ps (ivs k zs) rest] (j:Nat) (hi:i=j) (hn:zs.length=n) (hj:j < n) (hk:∀ w',St F0 w0 w' (qt b (ivs k (zs.set j v)) :: rest)→K w'):ixA ⟨b,0,none⟩ n i 1 fun a=>Go.Proofs.YtonmgkkkiejicaaGreat.st w a (.int k v) K:=by
 subst hi
 refine qwl (by omega) (by omega) ?_
 rw [show 0+((j:Int)).toNat * 1=j by omega]
 refine (h.toB b).st (by rw [qw]; omega) trivial fun w h=>hk w ?_
 rw [qxl] at h
 exact h
theorem St.lA {n:Nat} {K:Array Value→Prop} (h:St F0 w0 w ps) [PkB b ps l rest] (hl:l.length=n) (hk:K ⟨l⟩):ldA w ⟨b,0,none⟩ n K :=
 (h.toB b).blk.ldA (cs:=⟨l⟩) hl (fun j hj=>by rw [Nat.zero_add]; simp) hk
theorem St.sA {n:Nat} {K:World→Prop} (h:St F0 w0 w ps) [PkB b ps l rest] (hl:l.length=n) (hl':l'.length=n) (hs:∀ v ∈ (⟨l'⟩:Array Value),qec v) (hk:∀ w',St F0 w0 w' (qt b l' :: rest)→K w'):Go.Proofs.YtonmgkkkiejicaaGreat.stA w ⟨b,0,none⟩ ⟨l'⟩ K:=by
 refine (h.toB b).stA (o:=0) (by show 0+l'.length≤l.length; omega) hs fun w' h=>hk w' ?_
 have e:l.take 0 ++ (⟨l'⟩:Array Value).toList ++ l.drop (0+(⟨l'⟩:Array Value).size)=l':=by
  rw [List.take_zero,List.nil_append,List.drop_eq_nil_of_le (by show l.length≤0+l'.length; omega),List.append_nil]
 rwa [e] at h
end
end Go.Proofs.YtonmgkkkiejicaaGreat
namespace Go.Proofs.YtonmgkkkiejicaaGreat
open Go Go.Proofs
set_option linter.unusedVariables false
set_option linter.unusedSimpArgs false
attribute [local irreducible] apK cpK mkK
class PkF {α:Type} (f:Nat→α→As) (b:Nat) (ps:List As) (x:outParam α) (rest:outParam (List As)):Prop where
 pk:∀ {F0:List Nat} {w0 w:World},St F0 w0 w ps→St F0 w0 w (f b x :: rest)
instance PkF.tl {α:Type} {f:Nat→α→As} {b:Nat} {x:α} {q:As} {ps rest:List As} [i:PkF f b ps x rest]:PkF f b (q :: ps) x (q :: rest):=⟨fun h=>(h.tail fun _ _ _ h=>i.pk h).at1⟩
instance PkF.hd {α:Type} {f:Nat→α→As} {b:Nat} {x:α} {ps:List As}:PkF f b (f b x :: ps) x ps:=⟨id⟩
theorem St.toF {α:Type} (f:Nat→α→As) (b:Nat) {F0:List Nat} {w0 w:World} {ps rest:List As} {x:α} [i:PkF f b ps x rest] (h:St F0 w0 w ps):St F0 w0 w (f b x :: rest):=i.pk h
theorem eqA_i {k:IntKind} {n:Nat} {xs ys:List Int} {K:Bool→Prop} (h1:xs.length=n) (h2:ys.length=n) (hk:K (xs == ys)):eqA k n ⟨ivs k xs⟩ ⟨ivs k ys⟩ K:=⟨xs,ys,rfl,rfl,h1,h2,hk⟩
theorem eqA_s {k:IntKind} {n:Nat} {xs:List Int} {K:Bool→Prop} (h1:xs.length=n) (hk:K true):eqA k n ⟨ivs k xs⟩ ⟨ivs k xs⟩ K:=eqA_i h1 h1 (by simpa using hk)
theorem qck {b:Bool} {A B:Prop} (hb:b=true) (h:A):br b A B:=by subst hb; exact h
theorem qxg {b:Bool} {A B:Prop} (hb:b=false) (h:B):br b A B:=by subst hb; exact h
theorem qnj {i:Int} {y n:Nat} {K:Nat→Prop} (hn:i=n) (h:n≤y) (hk:K n):bd i y K:=by subst hn; exact ⟨⟨by omega,by omega⟩,by rw [Int.toNat_natCast]; exact hk⟩
class Elt (P:Program) (e:TypeId) (z:outParam Value):Prop where
 info:∃ i,P.info? e=some i∧i.size=1∧i.bytes ≠ 0∧i.bytes≤16
 zc:Go.Proofs.YtonmgkkkiejicaaGreat.zc P e=#[z]
theorem Elt.bytes {P:Program} {e:TypeId} {z:Value} [h:Elt P e z]:P.bytesOf e≤16:=by
 obtain ⟨i,h1,_,_,h4⟩:=h.info
 simp [Program.bytesOf,h1,h4]
instance elt_u8:Elt Tryz.prog 5 (.int .u8 0):=⟨⟨Tryz.t5,by kernel_rfl,rfl,by decide,by decide⟩,by kernel_rfl⟩
instance elt_u32:Elt Tryz.prog 40 (.int .u32 0):=⟨⟨Tryz.t40,by kernel_rfl,rfl,by decide,by decide⟩,by kernel_rfl⟩
instance elt_int:Elt Tryz.prog 3 (.int .i64 0):=⟨⟨Tryz.t3,by kernel_rfl,rfl,by decide,by decide⟩,by kernel_rfl⟩
instance elt_bool:Elt Tryz.prog 4 (.bool false):=⟨⟨Tryz.t4,by kernel_rfl,rfl,by decide,by decide⟩,by kernel_rfl⟩
section
variable {F0:List Nat} {w0 w:World} {ps rest:List As} {P:Program} {e:TypeId} {z:Value} {s:Sl} {cs:List Value}
theorem St.push {v:Value} {K:Sl→World→Prop} [he:Elt P e z] (h:St F0 w0 w ps) [PkO s ps 1 cs rest] (hlen:cs.length≤1099511627776) (hv:qec v)
 (hk:∀ s' w',St F0 w0 w' (qv 1 s' (cs ++ [v]) :: rest)→K s' w') :
 lt (⟨World.heapSize w,0,none⟩:Addr) fun a=>lt (World.alloc w (.cells ⟨[v]⟩ e)) fun w1=>rdO w1 (some a) (1 * 1) fun c=>apK P e w1 s.a s.len s.cap 1 c K:=by
 refine (h.toO s).new fun nb w h=>?_
 refine h.rdB rfl ?_
 obtain ⟨i,h1,h2,h3,h4⟩:=he.info
 exact h.drop.append1 h1 h2 he.zc h3 h4 hlen rfl hv hk
theorem St.pushI {k:IntKind} {zs:List Int} {x:Int} {K:Sl→World→Prop} [he:Elt P e z] (h:St F0 w0 w ps) [PkO s ps 1 (ivs k zs) rest] (hlen:zs.length≤1099511627776)
 (hk:∀ s' w',St F0 w0 w' (qv 1 s' (ivs k (zs ++ [x])) :: rest)→K s' w') :
 lt (⟨World.heapSize w,0,none⟩:Addr) fun a=>lt (World.alloc w (.cells ⟨[.int k x]⟩ e)) fun w1=>rdO w1 (some a) (1 * 1) fun c=>apK P e w1 s.a s.len s.cap 1 c K :=
 h.push (by rw [qw]; exact hlen) trivial fun s' w h=>hk s' w (by rw [← qyl]; exact h)
theorem St.app {n:Nat} {cs2:List Value} {c:Array Value} {K:Sl→World→Prop} [he:Elt P e z] (h:St F0 w0 w ps) [PkO s ps 1 cs rest] (hc:c=⟨cs2⟩) (hn:cs2.length=n) (hlen:cs.length+n≤1099511627776) (hv:∀ v ∈ (⟨cs2⟩:Array Value),qec v)
 (hk:∀ s' w',St F0 w0 w' (qv 1 s' (cs ++ cs2) :: rest)→K s' w'):apK P e w s.a s.len s.cap n c K:=by
 subst hc
 obtain ⟨i,h1,h2,h3,h4⟩:=he.info
 have h:=h.toO s
 have hl:=h.len
 refine St.append (i:=i) (sz:=1) (m:=n) h1 h2 (by decide) (by rw [he.zc]; rfl) h3 ?_ h (by show cs2.length=n * 1; omega) hv (fun s' w' h _=>hk s' w' h)
 refine Nat.le_trans (Nat.mul_le_mul_left _ h4) ?_
 have hl2:s.len+n≤1099511627776:=by omega
 clear hk h
 generalize s.len+n=m at hl2
 omega
theorem St.appI {k:IntKind} {s2:Sl} {zs ys:List Int} {K:Sl→World→Prop} [he:Elt P e z] (h:St F0 w0 w ps) [PkO s ps 1 (ivs k zs) rest] [Rdb F0 w0 s2 ps 1 (ivs k ys)] (hlen:zs.length+ys.length≤1099511627776)
 (hk:∀ s' w',St F0 w0 w' (qv 1 s' (ivs k (zs ++ ys)) :: rest)→K s' w'):rdO w s2.a (s2.len * 1) fun c=>apK P e w s.a s.len s.cap s2.len c K:=by
 have hr:=h.rdb s2
 have hl:=hr.1
 rw [qw] at hl
 refine hr.rdO (by rw [qw]; omega) ?_
 exact h.app (cs:=ivs k zs) (cs2:=ivs k ys) rfl (by rw [qw]; omega) (by rw [qw]; omega) qvd fun s' w h=>hk s' w (by rw [← qyl]; exact h)
theorem St.own0 {nb:Nat} (h:St F0 w0 w (qt nb [] :: ps)):St F0 w0 w (qv 1 ⟨some ⟨nb,0,none⟩,0,0⟩ [] :: ps):=by
 refine h.mp ?_
 rintro F ⟨hb,rfl⟩
 exact Or.inr ⟨nb,[],rfl,hb,rfl,rfl,rfl⟩
theorem St.clone {k:IntKind} {s2:Sl} {ys:List Int} {K:Sl→World→Prop} [he:Elt P e z] (h:St F0 w0 w ps) [Rdb F0 w0 s2 ps 1 (ivs k ys)] (hlen:ys.length≤1099511627776)
 (hk:∀ s' w',St F0 w0 w' (qv 1 s' (ivs k ys) :: ps)→K s' w') :
 lt (⟨World.heapSize w,0,none⟩:Addr) fun a=>lt (World.alloc w (.cells ⟨[]⟩ e)) fun w1=>rdO w1 s2.a (s2.len * 1) fun c=>apK P e w1 (some a) 0 0 s2.len c K:=by
 refine h.new fun nb w h=>?_
 have h:=h.own0
 exact St.appI (s:=⟨some ⟨nb,0,none⟩,0,0⟩) (zs:=[]) (k:=k) (ys:=ys) h (by simpa using hlen) fun s' w h=>hk s' w h
theorem St.make {n:Nat} {l c:Int} {K:Sl→World→Prop} [he:Elt P e z] (h:St F0 w0 w ps) (hl:l=n) (hc:c=n) (hn:n≤1099511627776)
 (hk:∀ s w',s.len=n→s.cap=n→St F0 w0 w' (qv 1 s (List.replicate n z) :: ps)→K s w'):mkK P e w l c K :=
 St.make1 he.zc hl hc hn he.bytes h hk
theorem St.makeI {k:IntKind} {n:Nat} {l c:Int} {K:Sl→World→Prop} [he:Elt P e (.int k 0)] (h:St F0 w0 w ps) (hl:l=n) (hc:c=n) (hn:n≤1099511627776)
 (hk:∀ s w',s.len=n→s.cap=n→St F0 w0 w' (qv 1 s (ivs k (List.replicate n 0)) :: ps)→K s w'):mkK P e w l c K :=
 h.make hl hc hn fun s w h1 h2 h=>hk s w h1 h2 (by rw [← ivs_rep]; exact h)
theorem St.bt {s:Sl} {xs:List Int} {K:ByteArray→Prop} (h:St F0 w0 w ps) [Rdb F0 w0 s ps 1 (ivs .u8 xs)] (hx:∀ x ∈ xs,0≤x∧x < 256) (hk:K ⟨⟨u8 xs⟩⟩):btS w s.a s.len K :=
 (h.rdb s).btS hx hk
theorem Rdb.cut {k:IntKind} {xs:List Int} (hr:Rdb F0 w0 s ps 1 (ivs k xs)) (n m c':Nat) (hm:m≤s.len) (hn:n≤m) (hc:s.len≤s.cap):Rdb F0 w0 ⟨qfe s.a s.cap n 1,m - n,c'⟩ ps 1 (ivs k ((xs.drop n).take (m - n))):=⟨fun h=>by
 have:=(hr.rd h).cut (n:=n) (m:=m) (by decide) hm hn hc c'
 rw [Nat.mul_one,Nat.mul_one,ivs_drop,ivs_take] at this
 exact this⟩
theorem Rdb.cutAs {k:IntKind} {xs ys:List Int} (hr:Rdb F0 w0 s ps 1 (ivs k xs)) (n m c':Nat) (hm:m≤s.len) (hn:n≤m) (hc:s.len≤s.cap) (e:(xs.drop n).take (m - n)=ys):Rdb F0 w0 ⟨qfe s.a s.cap n 1,m - n,c'⟩ ps 1 (ivs k ys):=e ▸ hr.cut n m c' hm hn hc
theorem St.cutR {k:IntKind} {xs ys:List Int} (h:St F0 w0 w ps) (s:Sl) [hr:Rdb F0 w0 s ps 1 (ivs k xs)] (n m c':Nat) (hm:m≤s.len) (hn:n≤m) (hc:s.len≤s.cap) (e:(xs.drop n).take (m - n)=ys):Rdb F0 w0 ⟨qfe s.a s.cap n 1,m - n,c'⟩ ps 1 (ivs k ys):=hr.cutAs n m c' hm hn hc e
theorem St.str {b n:Nat} {l:List Value} {K:World→Prop} (h:St F0 w0 w ps) [PkB b ps l rest] (hn:l.length=n) (hk:∀ w',St F0 w0 w' (rdA 1 ⟨some ⟨b,0,none⟩,n,n⟩ l :: rest)→K w'):mkStr w (some ⟨b,0,none⟩) K :=
 mkStr_i (h.toB b) hn hk
end
end Go.Proofs.YtonmgkkkiejicaaGreat
namespace Go.Proofs.YtonmgkkkiejicaaGreat
open Go Go.Proofs
set_option linter.unusedVariables false
set_option linter.unusedSimpArgs false
section
variable {F0:List Nat} {w0 w:World} {ps rest:List As} {P:Program} {e:TypeId} {z:Value} {s s2:Sl}
theorem St.appF {k:IntKind} {zs ys:List Int} {K:Sl→World→Prop} [he:Elt P e z] (h:St F0 w0 w ps) [Rdb F0 w0 s ps 1 (ivs k zs)] [Rdb F0 w0 s2 ps 1 (ivs k ys)] (hc:s.cap=s.len) (hy:0 < ys.length) (hlen:zs.length+ys.length≤1099511627776)
 (hk:∀ s' w',St F0 w0 w' (qv 1 s' (ivs k (zs ++ ys)) :: ps)→K s' w'):rdO w s2.a (s2.len * 1) fun c=>apK P e w s.a s.len s.cap s2.len c K:=by
 have hr:=h.rdb s
 have hr2:=h.rdb s2
 have hl:=hr.1
 have hl2:=hr2.1
 rw [qw] at hl hl2
 refine hr2.rdO (by rw [qw]; omega) ?_
 obtain ⟨i,h1,h2,h3,h4⟩:=he.info
 have hbo:P.bytesOf e=i.bytes:=by simp [Program.bytesOf,h1]
 unfold apK withSz
 simp only [h1,h2]
 rw [if_neg (by omega)]
 refine ⟨⟨?_,by rw [hbo]; exact h3⟩,?_⟩
 · rw [hbo]
   have:=next_le (s.len+s2.len) s.cap (by omega) (by omega)
   refine Nat.le_trans (Nat.mul_le_mul this h4) ?_
   rw [show (2:Nat) ^ 48=281474976710656 from rfl]
   omega
 · refine hr.rdO (by rw [qw]; omega) fun c hcc=>?_
   have hbl:=Blk.new w.drew (ivs k zs ++ ivs k ys ++ qmg (c - (s.len+s2.len)) (zc P e).toList) e
   have e1:((⟨ivs k zs⟩:Array Value) ++ (⟨ivs k ys⟩:Array Value) ++ ⟨qmg (c - (s.len+s2.len)) (zc P e).toList⟩)=⟨ivs k zs ++ ivs k ys ++ qmg (c - (s.len+s2.len)) (zc P e).toList⟩:=by
    apply Array.ext'
    simp
   rw [e1]
   refine hk _ _ (h.add (f':=[w.heap.size]) (((Mod.drew w).trans (Mod.alloc w.drew _) (fun _ hx=>by cases hx)).mono (fun _ hx=>by cases hx)) ?_ ?_)
   · rw [← qyl]
     refine Or.inr ⟨w.heap.size,_,rfl,hbl,?_,?_,rfl⟩
     · show _=(s.len+s2.len) * 1
       rw [List.length_append,qw,qw]; omega
     · show _=c * 1
       rw [List.length_append,List.length_append,qw,qw,qde,he.zc]
       show _+(c - (s.len+s2.len)) * 1=_
       omega
   · intro x hx
     have:x=w.heap.size:=by simpa using hx
     exact Or.inr (by omega)
end
section
variable {F0:List Nat} {w0 w:World} {ps rest:List As} {b o:Nat} {l l':List Value}
theorem add0 (b o:Nat):Addr.add ⟨b,0,none⟩ o=⟨b,o,none⟩:=by rw [qmb,Nat.zero_add]
theorem St.gI {k:IntKind} {n:Int} {K:Int→Prop} (h:St F0 w0 w ps) [PkB b ps l rest] [g:GetL l o (.int k n)] (hk:K n):ldI k w (Addr.add ⟨b,0,none⟩ o) K:=by rw [add0]; exact (h.toB b).blk.ldI g.get hk
theorem St.gB {n:Bool} {K:Bool→Prop} (h:St F0 w0 w ps) [PkB b ps l rest] [g:GetL l o (.bool n)] (hk:K n):ldB w (Addr.add ⟨b,0,none⟩ o) K:=by rw [add0]; exact (h.toB b).blk.ldB g.get hk
end
theorem Blk.rdAt {w:World} {b o n c:Nat} {l:List Value} (h:Blk w b l) (hn:o+n≤l.length):Rd w 1 ⟨some ⟨b,o,none⟩,n,c⟩ ((l.drop o).take n):=by
 refine ⟨by rw [List.length_take,List.length_drop]; show _=n * 1; omega,fun i hi=>⟨⟨b,o,none⟩,rfl,?_⟩⟩
 rw [List.length_take,List.length_drop] at hi
 rw [qmb,h.rb.cell,List.getElem?_take,if_pos (by omega),List.getElem?_drop]
end Go.Proofs.YtonmgkkkiejicaaGreat
namespace Go.Proofs.YtonmgkkkiejicaaGreat
open Go Go.Proofs
set_option linter.unusedVariables false
set_option linter.unusedSimpArgs false
theorem toList_loop (bs:ByteArray):∀ (k i:Nat) (r:List UInt8),bs.size - i=k→ByteArray.toList.loop bs i r=r.reverse ++ bs.data.toList.drop i:=by
 intro k
 induction k with
 | zero =>
   intro i r h
   rw [ByteArray.toList.loop,if_neg (by omega),List.drop_eq_nil_of_le,List.append_nil]
   show bs.data.toList.length≤i
   have:bs.size=bs.data.toList.length:=by rw [Array.length_toList]; rfl
   omega
 | succ k ih =>
   intro i r h
   have hs:bs.size=bs.data.toList.length:=by rw [Array.length_toList]; rfl
   rw [ByteArray.toList.loop,if_pos (by omega),ih _ _ (by omega),List.drop_eq_getElem_cons (show i < bs.data.toList.length by omega)]
   rw [List.reverse_cons,List.append_assoc]
   congr 1
   show bs.get! i :: _=_
   congr 1
   have h1:i < bs.data.size:=by have:bs.data.toList.length=bs.data.size:=Array.length_toList; omega
   have:bs.get! i=bs.data[i]!:=rfl
   rw [this,getElem!_pos bs.data i h1]
   rfl
theorem toList_mk (l:List UInt8):ByteArray.toList ⟨⟨l⟩⟩=l:=by
 unfold ByteArray.toList
 rw [toList_loop _ _ 0 [] rfl]
 rfl
theorem u8_inj:∀ {xs ys:List Int},(∀ x ∈ xs,0≤x∧x < 256)→(∀ x ∈ ys,0≤x∧x < 256)→u8 xs=u8 ys→xs=ys:=by
 intro xs
 induction xs with
 | nil=>intro ys _ _ h; cases ys with
   | nil=>rfl
   | cons y ys=>cases h
 | cons x xs ih =>
   intro ys hx hy h
   cases ys with
   | nil=>cases h
   | cons y ys =>
     simp only [u8,List.map_cons,List.cons.injEq] at h
     have e:=congrArg UInt8.toNat h.1
     rw [UInt8.toNat_ofNat',UInt8.toNat_ofNat'] at e
     have h1:=hx x (by simp)
     have h2:=hy y (by simp)
     rw [ih (fun z hz=>hx z (by simp [hz])) (fun z hz=>hy z (by simp [hz])) h.2]
     congr 1
     omega
theorem u8_beq {xs ys:List Int} (hx:∀ x ∈ xs,0≤x∧x < 256) (hy:∀ x ∈ ys,0≤x∧x < 256):(ByteArray.toList ⟨⟨u8 xs⟩⟩ == ByteArray.toList ⟨⟨u8 ys⟩⟩)=(xs == ys):=by
 rw [toList_mk,toList_mk]
 by_cases h:xs=ys
 · subst h; simp
 · have:¬ u8 xs=u8 ys:=fun e=>h (u8_inj hx hy e)
   rw [beq_eq_false_iff_ne.2 this,beq_eq_false_iff_ne.2 h]
end Go.Proofs.YtonmgkkkiejicaaGreat
namespace Go.Proofs.YtonmgkkkiejicaaGreat
open Go Go.Proofs
set_option linter.unusedVariables false
set_option linter.unusedSimpArgs false
attribute [local irreducible] apK cpK mkK br
def cmpI:List Int→List Int→Int
 | [],[]=>0
 | [],_ :: _=>-1
 | _ :: _,[]=>1
 | x :: a,y :: b=>if x < y then -1 else if y < x then 1 else cmpI a b
def ltI (a b:List Int):Bool:=decide (cmpI a b < 0)
theorem cmpI_self:∀ a,cmpI a a=0
 | []=>rfl
 | x :: a=>by rw [cmpI,if_neg (by omega),if_neg (by omega),cmpI_self a]
theorem cmpI_neg:∀ (a b:List Int),cmpI b a = - cmpI a b
 | [],[]=>rfl
 | [],_ :: _=>rfl
 | _ :: _,[]=>rfl
 | x :: a,y :: b=>by
   rw [cmpI,cmpI]
   by_cases h1:x < y
   · rw [if_neg (by omega),if_pos h1,if_pos h1]; rfl
   · by_cases h2:y < x
     · rw [if_pos h2,if_neg h1,if_pos h2]
     · rw [if_neg h2,if_neg h1,if_neg h1,if_neg h2,cmpI_neg a b]
theorem qym:∀ {a b c:List Int},cmpI a b < 0→cmpI b c < 0→cmpI a c < 0
 | [],[],_,h,_=>by simp [cmpI] at h
 | [],_ :: _,[],_,h=>by simp [cmpI] at h
 | [],_ :: _,_ :: _,_,_=>by simp [cmpI]
 | _ :: _,[],_,h,_=>by simp [cmpI] at h
 | _ :: _,_ :: _,[],_,h=>by simp [cmpI] at h
 | x :: a,y :: b,z :: c,h1,h2=>by
   rw [cmpI] at h1 h2 ⊢
   split at h1
   · split at h2
     · rw [if_pos (by omega)]; decide
     · split at h2
       · omega
       · rw [if_pos (by omega)]; decide
   · split at h1
     · omega
     · split at h2
       · rw [if_pos (by omega)]; decide
       · split at h2
         · omega
         · rw [if_neg (by omega),if_neg (by omega)]
           exact qym h1 h2
theorem qzd (a:List Int):ltI a a=false:=by simp [ltI,cmpI_self]
theorem qki {a b c:List Int} (h1:ltI a b=true) (h2:ltI b c=true):ltI a c=true:=by
 simp only [ltI,decide_eq_true_eq] at *
 exact qym h1 h2
theorem qvl {a b:List Int} (h1:ltI a b=true):ltI b a=false:=by
 simp only [ltI,decide_eq_true_eq,decide_eq_false_iff_not] at *
 rw [cmpI_neg]; omega
theorem u8_byte {x:Int} (h:0≤x∧x < 256):x.toNat.toUInt8.toNat=x.toNat:=by
 rw [Nat.toUInt8,UInt8.toNat_ofNat']
 omega
theorem qzm:∀ {a b:List Int},(∀ x ∈ a,0≤x∧x < 256)→(∀ x ∈ b,0≤x∧x < 256)→Lib.compareBytes (Lib.bytesOf a) (Lib.bytesOf b)=cmpI a b
 | [],[],_,_=>rfl
 | [],_ :: _,_,_=>rfl
 | _ :: _,[],_,_=>rfl
 | x :: a,y :: b,ha,hb=>by
   have hx:=ha x (by simp)
   have hy:=hb y (by simp)
   have ih:=qzm (a:=a) (b:=b) (fun z hz=>ha z (by simp [hz])) (fun z hz=>hb z (by simp [hz]))
   have e1:=u8_byte hx
   have e2:=u8_byte hy
   have l1:(x.toNat.toUInt8 < y.toNat.toUInt8) ↔ x < y:=by rw [UInt8.lt_iff_toNat_lt,e1,e2]; omega
   have l2:(y.toNat.toUInt8 < x.toNat.toUInt8) ↔ y < x:=by rw [UInt8.lt_iff_toNat_lt,e1,e2]; omega
   have l3:(x.toNat.toUInt8=y.toNat.toUInt8) ↔ x=y:=by rw [← UInt8.toNat_inj,e1,e2]; omega
   rw [cmpI,← ih]
   show Lib.compareBytes (x.toNat.toUInt8 :: Lib.bytesOf a) (y.toNat.toUInt8 :: Lib.bytesOf b)=_
   rw [Lib.compareBytes]
   simp only [l1,l2,l3,gt_iff_lt]
theorem qhm {P:Program} {w:World} {s:Sl} {xs:List Int} (h:Rd w 1 s (u8s xs)):(Extern.Bytes.bytesOf (.slice s.a s.len s.cap)).run P w=.ok ⟨(Lib.bytesOf xs).toArray⟩ w:=by
 have hl:=h.1
 rw [qw,Nat.mul_one] at hl
 cases ha:s.a with
 | none =>
   have:xs=[]:=by
    cases xs with
    | nil=>rfl
    | cons x xs =>
      obtain ⟨a,h1,_⟩:=h.2 0 (by simp [ivs])
      rw [ha] at h1; cases h1
   subst this
   rfl
 | some a =>
   have:=Lib.run_loadBytesX (P:=P) w xs a .empty fun j x hj=>by
    have hjl:j < xs.length:=(List.getElem?_eq_some_iff.1 hj).1
    rw [h.cell ha (by rw [qw]; exact hjl)]
    simp [ivs,hj]
   rw [hl] at this
   show (Extern.Bytes.loadBytes a s.len .empty).run P w=_
   rw [this]
   congr 1
   apply ByteArray.ext
   simp
section
variable {F0:List Nat} {w0 w:World} {ps rest:List As} {s t:Sl} {xs ys:List Int} {K:Ending→World→Prop}
theorem cmp_run {P:Program} {a b:Value} {x y:ByteArray} (ha:(Extern.Bytes.bytesOf a).run P w=.ok x w) (hb:(Extern.Bytes.bytesOf b).run P w=.ok y w) :
 (Extern.BytealgCompare.compare #[a,b]).run P w=.ok (.int .i64 (Extern.BytealgCompare.cmp x y)) w:=by
 change Sem.run P (do
  let x ← Extern.Bytes.bytesOf a
  let y ← Extern.Bytes.bytesOf b
  pure (goInt (Extern.BytealgCompare.cmp x y))) w=_
 simp only [Sem.run_bind,ha,hb,Result.andThen_ok,Sem.run_pure]
 rfl
theorem qye.c (h:St F0 w0 w ps) [Rdb F0 w0 s ps 1 (u8s xs)] [Rdb F0 w0 t ps 1 (u8s ys)] (hx:∀ x ∈ xs,0≤x∧x < 256) (hy:∀ x ∈ ys,0≤x∧x < 256)
 (hk:K (.returned (.int .i64 (cmpI xs ys))) w):Calls Tryz.prog 97 ⟨[sV s,sV t]⟩ w K:=by
 refine qsb (qye.ok _ _ _ _ ?_)
 unfold qye
 refine ⟨cmpI xs ys,w,?_,hk⟩
 unfold cfR
 rw [run_callFunc_extern (fn:=Tryz.f109) (e:=Extern.BytealgCompare.compare) (by kernel_rfl) (by kernel_rfl) (by kernel_rfl) (by kernel_rfl) (by kernel_rfl)]
 have h1:=qhm (P:=Tryz.prog) (h.rdb s)
 have h2:=qhm (P:=Tryz.prog) (h.rdb t)
 rw [cmp_run h1 h2,Lib.cmp_eq,qzm hx hy]
 rfl
end
end Go.Proofs.YtonmgkkkiejicaaGreat
namespace Go.Proofs.YtonmgkkkiejicaaGreat
open Go Go.Proofs
set_option linter.unusedVariables false
set_option linter.unusedSimpArgs false
attribute [local irreducible] apK cpK mkK br
class Rec {α:Type} (f:α→List Value) (sz:outParam Nat):Prop where
 len:∀ x,(f x).length=sz
 sto:∀ x,∀ v ∈ f x,qec v
 pos:0 < sz
class EltR (P:Program) (e:TypeId) (sz:outParam Nat) (z:outParam (List Value)):Prop where
 info:∃ i,P.info? e=some i∧i.size=sz∧i.bytes ≠ 0∧i.bytes≤1024
 zc:Go.Proofs.YtonmgkkkiejicaaGreat.zc P e=⟨z⟩
 len:z.length=sz
 pos:0 < sz
section
variable {α:Type} {f:α→List Value} {sz:Nat}
theorem qrg (x:α) (L:List α):(x :: L).flatMap f=f x ++ L.flatMap f:=rfl
theorem qef (L M:List α):(L ++ M).flatMap f=L.flatMap f ++ M.flatMap f:=List.flatMap_append
theorem qci (x:α):[x].flatMap f=f x:=by simp
theorem qed [i:Rec f sz] (L:List α):(L.flatMap f).length=L.length * sz:=by
 induction L with
 | nil=>simp
 | cons x L ih=>rw [qrg,List.length_append,ih,i.len,List.length_cons,Nat.add_mul]; omega
theorem rws_sto [i:Rec f sz] (L:List α):∀ v ∈ (⟨L.flatMap f⟩:Array Value),qec v:=by
 intro v hv
 have hv:v ∈ L.flatMap f:=by simpa using hv
 obtain ⟨x,_,hx⟩:=List.mem_flatMap.1 hv
 exact i.sto x v hx
theorem rws_get [i:Rec f sz]:∀ {L:List α} {j o:Nat} (hj:j < L.length),o < sz→(L.flatMap f)[j * sz+o]?=(f L[j])[o]?:=by
 intro L
 induction L with
 | nil=>intro j o hj; simp at hj
 | cons x L ih =>
   intro j o hj ho
   rw [qrg]
   cases j with
   | zero=>rw [Nat.zero_mul,Nat.zero_add,List.getElem?_append_left (by rw [i.len]; exact ho)]; rfl
   | succ j =>
     rw [List.getElem?_append_right (by rw [i.len,Nat.add_mul]; omega),i.len,show (j+1) * sz+o - sz=j * sz+o by rw [Nat.add_mul]; omega,ih (by simpa using hj) ho]
     rfl
theorem rws_take [i:Rec f sz]:∀ (L:List α) (n:Nat),(L.flatMap f).take (n * sz)=(L.take n).flatMap f:=by
 intro L
 induction L with
 | nil=>intro n; simp
 | cons x L ih =>
   intro n
   cases n with
   | zero=>simp
   | succ n =>
     rw [List.take_succ_cons,qrg,qrg,← ih n,List.take_append,List.take_of_length_le (by rw [i.len,Nat.add_mul]; omega),i.len,show (n+1) * sz - sz=n * sz by rw [Nat.add_mul]; omega]
theorem rws_drop [i:Rec f sz]:∀ (L:List α) (n:Nat),(L.flatMap f).drop (n * sz)=(L.drop n).flatMap f:=by
 intro L
 induction L with
 | nil=>intro n; simp
 | cons x L ih =>
   intro n
   cases n with
   | zero=>simp
   | succ n =>
     rw [List.drop_succ_cons,qrg,← ih n,List.drop_append,List.drop_eq_nil_of_le (by rw [i.len,Nat.add_mul]; omega),i.len,show (n+1) * sz - sz=n * sz by rw [Nat.add_mul]; omega,List.nil_append]
end
section
variable {F0:List Nat} {w0 w:World} {ps rest:List As} {P:Program} {e:TypeId} {α:Type} {f:α→List Value} {sz:Nat} {z:List Value} {s:Sl} {L:List α}
theorem Rd.rcell [i:Rec f sz] (h:Rd w sz s (L.flatMap f)) {a0:Addr} (ha:s.a=some a0) {j o:Nat} (hj:j < L.length) (ho:o < sz):w.cell? ((a0.add (j * sz)).add o)=(f L[j])[o]?:=by
 have hb:(j+1) * sz≤L.length * sz:=Nat.mul_le_mul_right _ hj
 rw [Nat.add_mul,Nat.one_mul] at hb
 rw [qke,h.cell ha (by rw [qed]; omega),rws_get hj ho]
theorem St.rix [i:Rec f sz] (h:St F0 w0 w ps) [Rdb F0 w0 s ps sz (L.flatMap f)] {n:Int} {K:Addr→Prop} (j:Nat) (hi:n=j) (hj:j < L.length) (hk:∀ a0,s.a=some a0→K (a0.add (j * sz))):ixS s.a s.len n sz K:=by
 subst hi
 have hr:=h.rdb s
 have hl:=hr.1
 rw [qed] at hl
 have:=Nat.eq_of_mul_eq_mul_right i.pos hl
 refine hr.ix i.pos (by omega) (by omega) fun a ha=>?_
 rw [Int.toNat_natCast]
 exact hk a ha
theorem St.rlen [i:Rec f sz] (h:St F0 w0 w ps) [Rdb F0 w0 s ps sz (L.flatMap f)]:L.length=s.len:=by
 have hl:=(h.rdb s).1
 rw [qed] at hl
 exact Nat.eq_of_mul_eq_mul_right i.pos hl
theorem Rd.rI {k:IntKind} [i:Rec f sz] (h:Rd w sz s (L.flatMap f)) {a0:Addr} {v:Int} {K:Int→Prop} (ha:s.a=some a0) {j o:Nat} (hj:j < L.length) (ho:o < sz) (hv:(f L[j])[o]?=some (.int k v)) (hk:K v):Go.Proofs.YtonmgkkkiejicaaGreat.ldI k w ((a0.add (j * sz)).add o) K :=
 ldI_c (by rw [h.rcell ha hj ho]; exact hv) hk
theorem Rd.rL [i:Rec f sz] (h:Rd w sz s (L.flatMap f)) {a0:Addr} {v:Sl} {K:Sl→Prop} (ha:s.a=some a0) {j o:Nat} (hj:j < L.length) (ho:o < sz) (hv:(f L[j])[o]?=some (.slice v.a v.len v.cap)) (hk:K v):Go.Proofs.YtonmgkkkiejicaaGreat.ldL w ((a0.add (j * sz)).add o) K :=
 ldL_c (by rw [h.rcell ha hj ho]; exact hv) hk
theorem Rd.rA [i:Rec f sz] (h:Rd w sz s (L.flatMap f)) {a0:Addr} {K:Array Value→Prop} (ha:s.a=some a0) {j:Nat} (hj:j < L.length) (hk:K ⟨f L[j]⟩):Go.Proofs.YtonmgkkkiejicaaGreat.ldA w (a0.add (j * sz)) sz K:=by
 refine ⟨⟨f L[j]⟩,i.len _,fun o ho=>?_,hk⟩
 rw [h.rcell ha hj ho]
 simp
theorem St.lr [i:Rec f sz] (h:St F0 w0 w ps) [Rdb F0 w0 s ps sz (L.flatMap f)] {n:Int} {K:Array Value→Prop} (j:Nat) (hi:n=j) (hj:j < L.length) (hk:K ⟨f L[j]⟩):ixS s.a s.len n sz fun a=>ldA w a sz K :=
 h.rix j hi hj fun a0 ha=>(h.rdb s).rA ha hj hk
theorem rec_room {b n:Nat} (hb:b≤1024) (hn:n≤1000000000):(2 * n+1024) * b≤281474976710656:=by
 refine Nat.le_trans (Nat.mul_le_mul_left _ hb) ?_
 omega
theorem St.pushR [i:Rec f sz] [he:EltR P e sz z] (h:St F0 w0 w ps) [PkO s ps sz (L.flatMap f) rest] {x:α} {c:Array Value} {K:Sl→World→Prop} (hlen:L.length≤999999999) (hc:c=⟨f x⟩)
 (hk:∀ s' w',s'.len=s.len+1→St F0 w0 w' (qv sz s' ((L ++ [x]).flatMap f) :: rest)→K s' w') :
 lt (⟨World.heapSize w,0,none⟩:Addr) fun a=>lt (World.alloc w (.cells c e)) fun w1=>rdO w1 (some a) (1 * sz) fun c=>apK P e w1 s.a s.len s.cap 1 c K:=by
 subst hc
 refine (h.toO s).new fun nb w h=>?_
 have h:St F0 w0 w (qt nb (f x) :: qv sz s (L.flatMap f) :: rest):=h
 refine h.rdB (by rw [i.len,Nat.one_mul]) ?_
 have h:=h.drop
 have hl:=h.len
 rw [qed] at hl
 have hl:=Nat.eq_of_mul_eq_mul_right i.pos hl
 obtain ⟨t,h1,h2,h3,h4⟩:=he.info
 refine St.append (i:=t) (sz:=sz) (m:=1) h1 h2 i.pos (by rw [he.zc]; exact he.len) h3 (rec_room h4 (by omega)) h (by show (f x).length=_; rw [i.len,Nat.one_mul]) (fun v hv=>i.sto x v (by simpa using hv)) fun s' w' h hl'=>hk s' w' hl' (by rw [qef,qci]; exact h)
theorem St.appR [i:Rec f sz] [he:EltR P e sz z] (h:St F0 w0 w ps) [PkO s ps sz (L.flatMap f) rest] {s2:Sl} {M:List α} [Rdb F0 w0 s2 ps sz (M.flatMap f)] {K:Sl→World→Prop} (hlen:L.length+M.length≤999999999)
 (hk:∀ s' w',s'.len=s.len+M.length→St F0 w0 w' (qv sz s' ((L ++ M).flatMap f) :: rest)→K s' w') :
 rdO w s2.a (s2.len * sz) fun c=>apK P e w s.a s.len s.cap s2.len c K:=by
 have hr:=h.rdb s2
 have hl:=hr.1
 refine hr.rdO hl.symm ?_
 rw [qed] at hl
 have hl:=Nat.eq_of_mul_eq_mul_right i.pos hl
 have h:=h.toO s
 have hl2:=h.len
 rw [qed] at hl2
 have hl2:=Nat.eq_of_mul_eq_mul_right i.pos hl2
 obtain ⟨t,h1,h2,h3,h4⟩:=he.info
 refine St.append (i:=t) (sz:=sz) (m:=s2.len) h1 h2 i.pos (by rw [he.zc]; exact he.len) h3 (rec_room h4 (by omega)) h (by show (M.flatMap f).length=_; rw [qed,hl]) (rws_sto M) fun s' w' h hl'=>hk s' w' (by omega) (by rw [qef]; exact h)
theorem St.ownBR {nb n:Nat} {l:List Value} (h:St F0 w0 w (qt nb l :: ps)) (hn:l.length=n * sz):St F0 w0 w (qv sz ⟨some ⟨nb,0,none⟩,n,n⟩ l :: ps):=by
 refine h.mp ?_
 rintro F ⟨hb,rfl⟩
 exact Or.inr ⟨nb,[],rfl,by simpa using hb,hn,by simpa using hn,rfl⟩
theorem St.cloneR [i:Rec f sz] [he:EltR P e sz z] (h:St F0 w0 w ps) {s2:Sl} {M:List α} [Rdb F0 w0 s2 ps sz (M.flatMap f)] {K:Sl→World→Prop} (hlen:M.length≤999999999)
 (hk:∀ s' w',s'.len=M.length→St F0 w0 w' (qv sz s' (M.flatMap f) :: ps)→K s' w') :
 lt (⟨World.heapSize w,0,none⟩:Addr) fun a=>lt (World.alloc w (.cells ⟨[]⟩ e)) fun w1=>rdO w1 s2.a (s2.len * sz) fun c=>apK P e w1 (some a) 0 0 s2.len c K:=by
 refine h.new fun nb w h=>?_
 have h:St F0 w0 w (qt nb [] :: ps):=h
 have h:St F0 w0 w (qv sz ⟨some ⟨nb,0,none⟩,0,0⟩ (([]:List α).flatMap f) :: ps):=h.ownBR (n:=0) (by simp)
 exact St.appR (s:=⟨some ⟨nb,0,none⟩,0,0⟩) (L:=([]:List α)) h (by simpa using hlen) fun s' w' h1 h=>hk s' w' (by simpa using h1) (by simpa using h)
theorem St.isnil [i:Rec f sz] (h:St F0 w0 w ps) [Rdb F0 w0 s ps sz (L.flatMap f)] (hn:s.a=none):L=[]:=by
 have hr:=h.rdb s
 cases L with
 | nil=>rfl
 | cons x L =>
   exfalso
   obtain ⟨a,ha,_⟩:=hr.2 0 (by rw [qed,List.length_cons,Nat.add_mul]; have:=i.pos; omega)
   rw [hn] at ha
   cases ha
theorem St.setR [i:Rec f sz] {b:Nat} {l:List Value} {x:α} {K:World→Prop} (h:St F0 w0 w (qt b l :: ps)) (hl:l.length=sz) (hk:∀ w',St F0 w0 w' (qt b (f x) :: ps)→K w'):Go.Proofs.YtonmgkkkiejicaaGreat.stA w ⟨b,0,none⟩ ⟨f x⟩ K :=
 h.sA (b:=b) hl (i.len x) (fun v hv=>i.sto x v (by simpa using hv)) hk
end
end Go.Proofs.YtonmgkkkiejicaaGreat
namespace Go.Proofs.YtonmgkkkiejicaaGreat
open Go Go.Proofs Go.Sort
set_option linter.unusedVariables false
set_option linter.unusedSimpArgs false
attribute [local irreducible] apK cpK mkK br
section
variable {F0:List Nat} {w0 w:World} {ps rest:List As} {α:Type} [Inhabited α] {f:α→List Value} {sz:Nat} {s:Sl} {d:Array α}
theorem arrN_get {d:Array α} {j:Nat} (hj:j < d.size):d.toList[j]'(by simpa using hj)=d[j]!:=by simp [hj]
theorem St.lD [i:Rec f sz] (h:St F0 w0 w ps) [Rdb F0 w0 s ps sz (d.toList.flatMap f)] {n:Int} {K:Array Value→Prop} (j:Nat) (hi:n=j) (hj:j < d.size) (hk:K ⟨f d[j]!⟩):ixS s.a s.len n sz fun a=>ldA w a sz K:=by
 refine h.lr (s:=s) (L:=d.toList) j hi (by simpa using hj) ?_
 rw [arrN_get hj]
 exact hk
theorem St.sD [r:Rec f sz] (h:St F0 w0 w (qv sz s (d.toList.flatMap f) :: ps)) {n:Int} {x:α} {K:World→Prop} (j:Nat) (hi:n=j) (hj:j < d.size) (hk:∀ w',St F0 w0 w' (qv sz s ((d.setIfInBounds j x).toList.flatMap f) :: ps)→K w') :
 ixS s.a s.len n sz fun a=>(⟨f x⟩:Array Value).size=sz∧Go.Proofs.YtonmgkkkiejicaaGreat.stA w a ⟨f x⟩ K:=by
 subst hi
 have hj':j < d.toList.length:=by simpa using hj
 have hl:=h.len
 rw [qed] at hl
 have hp:=r.pos
 have hsl:=Nat.eq_of_mul_eq_mul_right hp hl
 obtain ⟨F,ho,hst⟩:=h.step
 have hle:(j+1) * sz≤d.toList.length * sz:=Nat.mul_le_mul_right _ hj'
 rw [Nat.add_mul,Nat.one_mul] at hle
 rcases ho with ⟨rfl,hnil,_⟩ | ⟨ob,rs,h1,hb,h2,h3,rfl⟩
 · simp only at hsl; omega
 · unfold ixS
   rw [h1]
   refine ⟨⟨by omega,by omega⟩,r.len x,?_⟩
   rw [qmb,Nat.zero_add,Int.toNat_natCast]
   have hx:(⟨f x⟩:Array Value).size=sz:=r.len x
   have e:d.toList.set j x=d.toList.take j ++ (x :: d.toList.drop (j+1)):=by rw [List.set_eq_take_append_cons_drop,if_pos hj']
   have e2:(d.setIfInBounds j x).toList.flatMap f=(d.toList.flatMap f).take (j * sz) ++ (f x ++ (d.toList.flatMap f).drop ((j+1) * sz)):=by
    rw [Array.toList_setIfInBounds,e,qef,qrg,rws_take,rws_drop]
   have hlen:((d.setIfInBounds j x).toList.flatMap f).length=s.len * sz:=by rw [qed,Array.toList_setIfInBounds,List.length_set,hsl]
   refine stA_blk hb ?_ (fun v hv=>r.sto x v (by simpa using hv)) fun w' hm hb'=>hk w' (hst w' [ob] _ hm (Gr.refl _ _) (Or.inr ⟨ob,rs,h1,?_,hlen,?_,rfl⟩))
   · rw [hx,List.length_append,qed]; omega
   · rw [hx,List.take_append_of_le_length (by rw [qed]; omega),List.drop_append_of_le_length (by rw [qed]; omega)] at hb'
     rw [e2,Nat.add_mul,Nat.one_mul]
     simpa [List.append_assoc] using hb'
   · rw [List.length_append,hlen,← h3,List.length_append,qed,hsl]
theorem St.swap [r:Rec f sz] (h:St F0 w0 w (qv sz s (d.toList.flatMap f) :: ps)) {n1 n2 n3 n4:Int} {K:World→Prop} (i j:Nat) (e1:n1=j) (e2:n2=i) (e3:n3=i) (e4:n4=j) (hi:i < d.size) (hj:j < d.size)
 (hk:∀ w',St F0 w0 w' (qv sz s ((swp d i j).toList.flatMap f) :: ps)→K w') :
 ixS s.a s.len n1 sz fun a=>ldA w a sz fun c=>ixS s.a s.len n2 sz fun a2=>ldA w a2 sz fun c2=>ixS s.a s.len n3 sz fun a3=>c.size=sz∧Go.Proofs.YtonmgkkkiejicaaGreat.stA w a3 c fun w1=>ixS s.a s.len n4 sz fun a4=>c2.size=sz∧Go.Proofs.YtonmgkkkiejicaaGreat.stA w1 a4 c2 K:=by
 refine h.lD (s:=s) j e1 hj ?_
 refine h.lD (s:=s) i e2 hi ?_
 refine h.sD i e3 hi fun w h=>?_
 exact h.sD j e4 (by simpa using hj) fun w h=>hk w h
end
structure Nd where
 id:List Int
 tree:List Int
 hid:id.length=20
 htr:tree.length=20
 bid:∀ x ∈ id,0≤x∧x < 256
 btr:∀ x ∈ tree,0≤x∧x < 256
 par:Sl
 date:Int
def z20:List Int:=List.replicate 20 0
instance:Inhabited Nd:=⟨⟨z20,z20,rfl,rfl,by decide,by decide,⟨none,0,0⟩,0⟩⟩
def ndC (n:Nd):List Value:=ivs .u8 n.id ++ (ivs .u8 n.tree ++ [.slice n.par.a n.par.len n.par.cap,.int .i64 n.date])
theorem ndC_len (n:Nd):(ndC n).length=42:=by simp [ndC,n.hid,n.htr]
instance:Rec ndC 42 where
 len:=ndC_len
 pos:=by decide
 sto n v hv:=by
  unfold ndC at hv
  rcases List.mem_append.1 hv with hv | hv
  · exact qvd v (by simpa using hv)
  · rcases List.mem_append.1 hv with hv | hv
    · exact qvd v (by simpa using hv)
    · simp at hv; rcases hv with rfl | rfl <;> trivial
def ltN (x y:Nd):Bool:=ltI x.id y.id
section
variable {F0:List Nat} {w0 w:World} {ps rest:List As} {K:Ending→World→Prop}
end
end Go.Proofs.YtonmgkkkiejicaaGreat
namespace Go.Proofs.YtonmgkkkiejicaaGreat
open Go Go.Proofs
set_option linter.unusedVariables false
set_option linter.unusedSimpArgs false
theorem spl_go (off:Nat):∀ (cs:List Value) (j:Nat) (a:Array Value),off+j+cs.length≤a.size →
 ((cs.zipIdx j).foldl (fun (a:Array Value) (x:Value × Nat)=>a.setIfInBounds (off+x.2) x.1) a).toList=a.toList.take (off+j) ++ cs ++ a.toList.drop (off+j+cs.length):=by
 intro cs
 induction cs with
 | nil=>intro j a h; simp
 | cons c cs ih =>
   intro j a h
   rw [List.length_cons] at h
   rw [List.zipIdx_cons,List.foldl_cons,ih (j+1) _ (by simp; omega)]
   have e:(a.setIfInBounds (off+j) c).toList=a.toList.set (off+j) c:=by simp
   rw [e]
   have ht:(a.toList.set (off+j) c).take (off+(j+1))=a.toList.take (off+j) ++ [c]:=by
    rw [show off+(j+1)=(off+j)+1 by omega,List.take_add_one,List.take_set_of_le (Nat.le_refl _)]
    congr 1
    rw [List.getElem?_set_self (by simp; omega)]
    rfl
   have hd:(a.toList.set (off+j) c).drop (off+(j+1)+cs.length)=a.toList.drop (off+j+(c :: cs).length):=by
    rw [List.drop_set_of_lt (by omega),List.length_cons]
    congr 1
    omega
   rw [ht,hd,List.append_assoc,List.append_assoc,List.append_assoc]
   rfl
theorem spl_eq (l:List Value) (off:Nat) (cs:List Value) (h:off+cs.length≤l.length):spl l off ⟨cs⟩=l.take off ++ cs ++ l.drop (off+cs.length):=by
 have:=spl_go off cs 0 ⟨l⟩ (by simpa using h)
 unfold spl
 rw [Nat.add_zero] at this
 rw [← this]
 simp
theorem qvg {l cs:List Value} (h:cs.length=l.length):spl l 0 ⟨cs⟩=cs:=by
 rw [spl_eq l 0 cs (by omega),List.take_zero,List.nil_append,List.drop_eq_nil_of_le (by omega),List.append_nil]
end Go.Proofs.YtonmgkkkiejicaaGreat
namespace Go.Proofs.YtonmgkkkiejicaaGreat
open Go Go.Proofs
set_option linter.unusedVariables false
set_option maxRecDepth 100000
def qtg (i_0 k_1:Int) (p2:Addr) (Q:VWP) (w:World):Prop :=
 lt (World.drew w) fun w1 =>
 ldL w1 p2 fun x2 =>
 ixS x2.a x2.len i_0 2 fun a3 =>
 ldS w1 (Addr.add a3 0) fun x4 =>
 ldL w1 p2 fun x5 =>
 ixS x5.a x5.len k_1 2 fun a6 =>
 ldS w1 (Addr.add a6 0) fun x7 =>
 Q (.bool (Op.bytesLess (ByteArray.toList x4) (ByteArray.toList x7))) w1
theorem qtg.ok (i_0:Int) (k_1:Int) (p2:Addr) (Q:VWP) (w:World) (h:qtg i_0 k_1 p2 Q w):Calls Tryz.prog 20 ⟨[.int .i64 i_0,.int .i64 k_1,.pointer (some p2)]⟩ w (Ret Q) :=
 qvb [.tmp 5] qkd Tryz.func20 rfl rfl rfl rfl .lf (by kernel_rfl) h
def qnb.b1 (a_1 b_2 n_3:Int) (data_4:Addr) (i_8:Int) (Q:VWP) (nx1:Int→Int→Int→Addr→Int→WP) (w:World):Prop :=
 br (decide (i_8 < n_3)) (
 ldV w (Addr.add data_4 1) fun x1 =>
 lt (IntKind.i64.wrap (a_1+i_8)) fun x2 =>
 lt (IntKind.i64.wrap (b_2+i_8)) fun x3 =>
 cv0 Tryz.prog x1 [.int .i64 x2,.int .i64 x3] w fun w4 =>
 lt (IntKind.i64.wrap (i_8+1)) fun x5 =>
 nx1 a_1 b_2 n_3 data_4 x5 w4) (
 Q (.tuple ⟨[]⟩) w)
def qnb.l1 (a_1 b_2 n_3:Int) (data_4:Addr) (i_8:Int) (Q:VWP) (w:World):Prop :=
 ∃ (I:Int→WP) (μ:Int→World→Nat),I i_8 w∧∀ i_8:Int,∀ w:World,I i_8 w→qnb.b1 a_1 b_2 n_3 data_4 i_8 Q (fun a_1' b_2' n_3' data_4' i_8' w'=>(a_1'=a_1∧b_2'=b_2∧n_3'=n_3∧data_4'=data_4)∧I i_8' w'∧μ i_8' w' < μ i_8 w) w
def qnb.j1 (a_1 b_2 n_3:Int) (data_4:Addr) (i_8:Int) (Q:VWP) (w:World):Prop :=
 qnb.l1 a_1 b_2 n_3 data_4 i_8 Q w
def qnb (data_0:(Array Value)) (a_1 b_2 n_3:Int) (Q:VWP) (w:World):Prop :=
 nw w data_0 125 fun a6 w7 =>
 qnb.j1 a_1 b_2 n_3 a6 0 Q w7
theorem qnb.ok (data_0:(Array Value)) (a_1:Int) (b_2:Int) (n_3:Int) (Q:VWP) (w:World) (h:qnb data_0 a_1 b_2 n_3 Q w):Calls Tryz.prog 110 ⟨[.agg data_0,.int .i64 a_1,.int .i64 b_2,.int .i64 n_3]⟩ w (Ret Q) :=
 qvb [] qkd Tryz.func110 rfl rfl rfl rfl (.pr 1 [sI 1,sI 2,sI 3,sA 4,sI 8] (fun a b c d e w=>qnb.j1 a b c d e Q w) (.bk (.lo [sI 1,sI 2,sI 3,sA 4] [sI 8] (fun a b c d e w=>qnb.l1 a b c d e Q w) (fun nx1 a b c d e w=>qnb.b1 a b c d e Q nx1 w) fun nx1=>.lf))) (by kernel_rfl) h
def qgb.j3 (m_2:Int) (data_4:Addr) (i_8:Int) (Q:VWP) (w:World):Prop :=
 ldA w data_4 2 fun c1 =>
 lt (IntKind.i64.wrap (m_2 - i_8)) fun x2 =>
 ct_ 110 [.agg c1,.int .i64 x2,.int .i64 m_2,.int .i64 i_8] w fun w4 =>
 Q (.tuple ⟨[]⟩) w4
def qgb.b1 (m_2:Int) (data_4:Addr) (i_8 j_9:Int) (Q:VWP) (nx1:Int→Addr→Int→Int→WP) (w:World):Prop :=
 br (i_8 != j_9) (
 br (decide (i_8 > j_9)) (
 ldA w data_4 2 fun c5 =>
 lt (IntKind.i64.wrap (m_2 - i_8)) fun x6 =>
 ct_ 110 [.agg c5,.int .i64 x6,.int .i64 m_2,.int .i64 j_9] w fun w8 =>
 lt (IntKind.i64.wrap (i_8 - j_9)) fun x9 =>
 nx1 m_2 data_4 x9 j_9 w8) (
 ldA w data_4 2 fun c10 =>
 lt (IntKind.i64.wrap (m_2 - i_8)) fun x11 =>
 lt (IntKind.i64.wrap (m_2+j_9)) fun x12 =>
 lt (IntKind.i64.wrap (x12 - i_8)) fun x13 =>
 ct_ 110 [.agg c10,.int .i64 x11,.int .i64 x13,.int .i64 i_8] w fun w15 =>
 lt (IntKind.i64.wrap (j_9 - i_8)) fun x16 =>
 nx1 m_2 data_4 i_8 x16 w15)) (
 qgb.j3 m_2 data_4 i_8 Q w)
def qgb.l1 (m_2:Int) (data_4:Addr) (i_8 j_9:Int) (Q:VWP) (w:World):Prop :=
 ∃ (I:Int→Int→WP) (μ:Int→Int→World→Nat),I i_8 j_9 w∧∀ i_8:Int,∀ j_9:Int,∀ w:World,I i_8 j_9 w→qgb.b1 m_2 data_4 i_8 j_9 Q (fun m_2' data_4' i_8' j_9' w'=>(m_2'=m_2∧data_4'=data_4)∧I i_8' j_9' w'∧μ i_8' j_9' w' < μ i_8 j_9 w) w
def qgb.j2 (m_2:Int) (data_4:Addr) (i_8 j_9:Int) (Q:VWP) (w:World):Prop :=
 qgb.l1 m_2 data_4 i_8 j_9 Q w
def qgb.j1 (a_1 m_2 b_3:Int) (data_4:Addr) (Q:VWP) (w:World):Prop :=
 lt (IntKind.i64.wrap (m_2 - a_1)) fun x17 =>
 lt (IntKind.i64.wrap (b_3 - m_2)) fun x18 =>
 qgb.j2 m_2 data_4 x17 x18 Q w
def qgb (data_0:(Array Value)) (a_1 m_2 b_3:Int) (Q:VWP) (w:World):Prop :=
 nw w data_0 125 fun a19 w20 =>
 qgb.j1 a_1 m_2 b_3 a19 Q w20
theorem qgb.ok (data_0:(Array Value)) (a_1:Int) (m_2:Int) (b_3:Int) (Q:VWP) (w:World) (h:qgb data_0 a_1 m_2 b_3 Q w):Calls Tryz.prog 101 ⟨[.agg data_0,.int .i64 a_1,.int .i64 m_2,.int .i64 b_3]⟩ w (Ret Q) :=
 qvb [] qkd Tryz.func101 rfl rfl rfl rfl (.sq [sI 1,sI 2,sI 3,sA 4] (fun a b c d w=>qgb.j1 a b c d Q w) .lf (.pr 1 [sI 2,sA 4,sI 8,sI 9] (fun a b c d w=>qgb.j2 a b c d Q w) (.sq [sI 2,sA 4,sI 8] (fun a b c w=>qgb.j3 a b c Q w) (.bk (.lo [sI 2,sA 4] [sI 8,sI 9] (fun a b c d w=>qgb.l1 a b c d Q w) (fun nx1 a b c d w=>qgb.b1 a b c d Q nx1 w) fun nx1=>.lf)) .lf))) (by kernel_rfl) h
def qj.j3 (a_1 b_2:Int) (data_3:Addr) (i_6:Int) (Q:VWP) (nx1:Int→Int→Addr→Int→WP) (w:World):Prop :=
 lt (IntKind.i64.wrap (i_6+1)) fun x1 =>
 nx1 a_1 b_2 data_3 x1 w
def qj.b2 (a_1 b_2:Int) (data_3:Addr) (i_6 j_7:Int) (Q:VWP) (nx1:Int→Int→Addr→Int→WP) (nx2:Int→Int→Addr→Int→Int→WP) (w:World):Prop :=
 br (decide (j_7 > a_1)) (
 ldV w (Addr.add data_3 0) fun x2 =>
 lt (IntKind.i64.wrap (j_7 - 1)) fun x3 =>
 cvB Tryz.prog x2 [.int .i64 j_7,.int .i64 x3] w fun r5 w4 =>
 br r5 (
 ldV w4 (Addr.add data_3 1) fun x6 =>
 lt (IntKind.i64.wrap (j_7 - 1)) fun x7 =>
 cv0 Tryz.prog x6 [.int .i64 j_7,.int .i64 x7] w4 fun w8 =>
 lt (IntKind.i64.wrap (j_7 - 1)) fun x9 =>
 nx2 a_1 b_2 data_3 i_6 x9 w8) (
 qj.j3 a_1 b_2 data_3 i_6 Q nx1 w4)) (
 qj.j3 a_1 b_2 data_3 i_6 Q nx1 w)
def qj.l2 (a_1 b_2:Int) (data_3:Addr) (i_6 j_7:Int) (Q:VWP) (nx1:Int→Int→Addr→Int→WP) (w:World):Prop :=
 ∃ (I:Int→WP) (μ:Int→World→Nat),I j_7 w∧∀ j_7:Int,∀ w:World,I j_7 w→qj.b2 a_1 b_2 data_3 i_6 j_7 Q nx1 (fun a_1' b_2' data_3' i_6' j_7' w'=>(a_1'=a_1∧b_2'=b_2∧data_3'=data_3∧i_6'=i_6)∧I j_7' w'∧μ j_7' w' < μ j_7 w) w
def qj.j4 (a_1 b_2:Int) (data_3:Addr) (i_6 j_7:Int) (Q:VWP) (nx1:Int→Int→Addr→Int→WP) (w:World):Prop :=
 qj.l2 a_1 b_2 data_3 i_6 j_7 Q nx1 w
def qj.j2 (a_1 b_2:Int) (data_3:Addr) (i_6:Int) (Q:VWP) (nx1:Int→Int→Addr→Int→WP) (w:World):Prop :=
 qj.j4 a_1 b_2 data_3 i_6 i_6 Q nx1 w
def qj.b1 (a_1 b_2:Int) (data_3:Addr) (i_6:Int) (Q:VWP) (nx1:Int→Int→Addr→Int→WP) (w:World):Prop :=
 br (decide (i_6 < b_2)) (
 qj.j2 a_1 b_2 data_3 i_6 Q nx1 w) (
 Q (.tuple ⟨[]⟩) w)
def qj.l1 (a_1 b_2:Int) (data_3:Addr) (i_6:Int) (Q:VWP) (w:World):Prop :=
 ∃ (I:Int→WP) (μ:Int→World→Nat),I i_6 w∧∀ i_6:Int,∀ w:World,I i_6 w→qj.b1 a_1 b_2 data_3 i_6 Q (fun a_1' b_2' data_3' i_6' w'=>(a_1'=a_1∧b_2'=b_2∧data_3'=data_3)∧I i_6' w'∧μ i_6' w' < μ i_6 w) w
def qj.j1 (a_1 b_2:Int) (data_3:Addr) (i_6:Int) (Q:VWP) (w:World):Prop :=
 qj.l1 a_1 b_2 data_3 i_6 Q w
def qj (data_0:(Array Value)) (a_1 b_2:Int) (Q:VWP) (w:World):Prop :=
 nw w data_0 125 fun a10 w11 =>
 lt (IntKind.i64.wrap (a_1+1)) fun x12 =>
 qj.j1 a_1 b_2 a10 x12 Q w11
theorem qj.ok (data_0:(Array Value)) (a_1:Int) (b_2:Int) (Q:VWP) (w:World) (h:qj data_0 a_1 b_2 Q w):Calls Tryz.prog 83 ⟨[.agg data_0,.int .i64 a_1,.int .i64 b_2]⟩ w (Ret Q) :=
 qvb [] qkd Tryz.func83 rfl rfl rfl rfl (.pr 1 [sI 1,sI 2,sA 3,sI 6] (fun a b c d w=>qj.j1 a b c d Q w) (.bk (.lo [sI 1,sI 2,sA 3] [sI 6] (fun a b c d w=>qj.l1 a b c d Q w) (fun nx1 a b c d w=>qj.b1 a b c d Q nx1 w) fun nx1=>(.sq [sI 1,sI 2,sA 3,sI 6] (fun a b c d w=>qj.j2 a b c d Q nx1 w) .lf (.sq [sI 1,sI 2,sA 3,sI 6] (fun a b c d w=>qj.j3 a b c d Q nx1 w) (.bk (.sq [sI 1,sI 2,sA 3,sI 6,sI 7] (fun a b c d e w=>qj.j4 a b c d e Q nx1 w) .lf (.bk (.lo [sI 1,sI 2,sA 3,sI 6] [sI 7] (fun a b c d e w=>qj.l2 a b c d e Q nx1 w) (fun nx2 a b c d e w=>qj.b2 a b c d e Q nx1 nx2 w) fun nx2=>.lf)))) .lf))))) (by kernel_rfl) h
def qd.j9 (t3:Int) (t4:Addr) (t16 t22:Int) (Q:VWP) (w:World):Prop :=
 br (decide (t16 < t22)) (
 br (decide (t22 < t3)) (
 ldA w t4 2 fun c1 =>
 ct_ 84 [.agg c1,.int .i64 t16,.int .i64 t22,.int .i64 t3] w fun w3 =>
 Q (.tuple ⟨[]⟩) w3) (
 Q (.tuple ⟨[]⟩) w)) (
 Q (.tuple ⟨[]⟩) w)
def qd.j8 (i_1 t3:Int) (t4:Addr) (t16 t18 t22:Int) (Q:VWP) (w:World):Prop :=
 br (decide (i_1 < t18)) (
 br (decide (t18 < t16)) (
 ldA w t4 2 fun c4 =>
 ct_ 84 [.agg c4,.int .i64 i_1,.int .i64 t18,.int .i64 t16] w fun w6 =>
 qd.j9 t3 t4 t16 t22 Q w6) (
 qd.j9 t3 t4 t16 t22 Q w)) (
 qd.j9 t3 t4 t16 t22 Q w)
def qd.j7 (i_1 t2 t3:Int) (t4:Addr) (t16 t17 t18:Int) (Q:VWP) (w:World):Prop :=
 lt (IntKind.i64.wrap (t17 - t18)) fun x7 =>
 br (decide (t18 < t2)) (
 br (decide (t2 < x7)) (
 ldA w t4 2 fun c8 =>
 ct_ 101 [.agg c8,.int .i64 t18,.int .i64 t2,.int .i64 x7] w fun w10 =>
 qd.j8 i_1 t3 t4 t16 t18 x7 Q w10) (
 qd.j8 i_1 t3 t4 t16 t18 x7 Q w)) (
 qd.j8 i_1 t3 t4 t16 t18 x7 Q w)
def qd.b1 (i_1 t2 t3:Int) (t4:Addr) (t16 t17 t20 t18 t19:Int) (Q:VWP) (nx1:Int→Int→Int→Addr→Int→Int→Int→Int→Int→WP) (w:World):Prop :=
 br (decide (t18 < t19)) (
 lt (IntKind.i64.wrap (t18+t19)) fun x11 =>
 lt (IntKind.u64.wrap x11) fun x12 =>
 (0:Int)≤1 ∧
 lt (shrV .u64 x12 1) fun x13 =>
 lt (IntKind.i64.wrap x13) fun x14 =>
 ldV w (Addr.add t4 0) fun x15 =>
 lt (IntKind.i64.wrap (t20 - x14)) fun x16 =>
 cvB Tryz.prog x15 [.int .i64 x16,.int .i64 x14] w fun r18 w17 =>
 br (!r18) (
 lt (IntKind.i64.wrap (x14+1)) fun x19 =>
 nx1 i_1 t2 t3 t4 t16 t17 t20 x19 t19 w17) (
 nx1 i_1 t2 t3 t4 t16 t17 t20 t18 x14 w17)) (
 qd.j7 i_1 t2 t3 t4 t16 t17 t18 Q w)
def qd.l1 (i_1 t2 t3:Int) (t4:Addr) (t16 t17 t20 t18 t19:Int) (Q:VWP) (w:World):Prop :=
 ∃ (I:Int→Int→WP) (μ:Int→Int→World→Nat),I t18 t19 w∧∀ t18:Int,∀ t19:Int,∀ w:World,I t18 t19 w→qd.b1 i_1 t2 t3 t4 t16 t17 t20 t18 t19 Q (fun i_1' t2' t3' t4' t16' t17' t20' t18' t19' w'=>(i_1'=i_1∧t2'=t2∧t3'=t3∧t4'=t4∧t16'=t16∧t17'=t17∧t20'=t20)∧I t18' t19' w'∧μ t18' t19' w' < μ t18 t19 w) w
def qd.j6 (i_1 t2 t3:Int) (t4:Addr) (t16 t17 t18 t19 t20:Int) (Q:VWP) (w:World):Prop :=
 qd.l1 i_1 t2 t3 t4 t16 t17 t20 t18 t19 Q w
def qd.j5 (i_1 t2 t3:Int) (t4:Addr) (t16 t17 t18 t19:Int) (Q:VWP) (w:World):Prop :=
 lt (IntKind.i64.wrap (t17 - 1)) fun x20 =>
 qd.j6 i_1 t2 t3 t4 t16 t17 t18 t19 x20 Q w
def qd.j4 (i_1 t2 t3:Int) (t4:Addr) (t16 t17:Int) (Q:VWP) (w:World):Prop :=
 br (decide (t2 > t16)) (
 lt (IntKind.i64.wrap (t17 - t3)) fun x21 =>
 qd.j5 i_1 t2 t3 t4 t16 t17 x21 t16 Q w) (
 qd.j5 i_1 t2 t3 t4 t16 t17 i_1 t2 Q w)
def qd.j3 (i_1 t2 t3:Int) (t4:Addr) (Q:VWP) (w:World):Prop :=
 lt (IntKind.i64.wrap (i_1+t3)) fun x22 =>
 lt (IntKind.u64.wrap x22) fun x23 =>
 (0:Int)≤1 ∧
 lt (shrV .u64 x23 1) fun x24 =>
 lt (IntKind.i64.wrap x24) fun x25 =>
 lt (IntKind.i64.wrap (x25+t2)) fun x26 =>
 qd.j4 i_1 t2 t3 t4 x25 x26 Q w
def qd.j13  (Q:VWP) (w:World):Prop :=
 Q (.tuple ⟨[]⟩) w
def qd.b2 (t4:Addr) (t12:Int) (t15:Int) (Q:VWP) (nx2:Addr→Int→Int→WP) (w:World):Prop :=
 br (decide (t15 > t12)) (
 ldV w (Addr.add t4 1) fun x27 =>
 lt (IntKind.i64.wrap (t15 - 1)) fun x28 =>
 cv0 Tryz.prog x27 [.int .i64 t15,.int .i64 x28] w fun w29 =>
 lt (IntKind.i64.wrap (t15 - 1)) fun x30 =>
 nx2 t4 t12 x30 w29) (
 qd.j13 Q w)
def qd.l2 (t4:Addr) (t12:Int) (t15:Int) (Q:VWP) (w:World):Prop :=
 ∃ (I:Int→WP) (μ:Int→World→Nat),I t15 w∧∀ t15:Int,∀ w:World,I t15 w→qd.b2 t4 t12 t15 Q (fun t4' t12' t15' w'=>(t4'=t4∧t12'=t12)∧I t15' w'∧μ t15' w' < μ t15 w) w
def qd.j14 (t4:Addr) (t12:Int) (t15:Int) (Q:VWP) (w:World):Prop :=
 qd.l2 t4 t12 t15 Q w
def qd.j12 (t2:Int) (t4:Addr) (t12:Int) (Q:VWP) (w:World):Prop :=
 qd.j14 t4 t12 t2 Q w
def qd.b3 (t2:Int) (t4:Addr) (t12 t13:Int) (Q:VWP) (nx3:Int→Addr→Int→Int→WP) (w:World):Prop :=
 br (decide (t12 < t13)) (
 lt (IntKind.i64.wrap (t12+t13)) fun x31 =>
 lt (IntKind.u64.wrap x31) fun x32 =>
 (0:Int)≤1 ∧
 lt (shrV .u64 x32 1) fun x33 =>
 lt (IntKind.i64.wrap x33) fun x34 =>
 ldV w (Addr.add t4 0) fun x35 =>
 cvB Tryz.prog x35 [.int .i64 t2,.int .i64 x34] w fun r37 w36 =>
 br (!r37) (
 lt (IntKind.i64.wrap (x34+1)) fun x38 =>
 nx3 t2 t4 x38 t13 w36) (
 nx3 t2 t4 t12 x34 w36)) (
 qd.j12 t2 t4 t12 Q w)
def qd.l3 (t2:Int) (t4:Addr) (t12 t13:Int) (Q:VWP) (w:World):Prop :=
 ∃ (I:Int→Int→WP) (μ:Int→Int→World→Nat),I t12 t13 w∧∀ t12:Int,∀ t13:Int,∀ w:World,I t12 t13 w→qd.b3 t2 t4 t12 t13 Q (fun t2' t4' t12' t13' w'=>(t2'=t2∧t4'=t4)∧I t12' t13' w'∧μ t12' t13' w' < μ t12 t13 w) w
def qd.j11 (t2:Int) (t4:Addr) (t12 t13:Int) (Q:VWP) (w:World):Prop :=
 qd.l3 t2 t4 t12 t13 Q w
def qd.j10 (i_1 t2 t3:Int) (t4:Addr) (t62:Bool) (Q:VWP) (w:World):Prop :=
 br t62 (
 qd.j11 t2 t4 i_1 t2 Q w) (
 qd.j3 i_1 t2 t3 t4 Q w)
def qd.j2 (i_1 t2 t3:Int) (t4:Addr) (Q:VWP) (w:World):Prop :=
 lt (IntKind.i64.wrap (t3 - t2)) fun x39 =>
 qd.j10 i_1 t2 t3 t4 (x39 == 1) Q w
def qd.j18  (Q:VWP) (w:World):Prop :=
 Q (.tuple ⟨[]⟩) w
def qd.b4 (t4:Addr) (t8:Int) (t11:Int) (Q:VWP) (nx4:Addr→Int→Int→WP) (w:World):Prop :=
 lt (IntKind.i64.wrap (t8 - 1)) fun x40 =>
 br (decide (t11 < x40)) (
 ldV w (Addr.add t4 1) fun x41 =>
 lt (IntKind.i64.wrap (t11+1)) fun x42 =>
 cv0 Tryz.prog x41 [.int .i64 t11,.int .i64 x42] w fun w43 =>
 lt (IntKind.i64.wrap (t11+1)) fun x44 =>
 nx4 t4 t8 x44 w43) (
 qd.j18 Q w)
def qd.l4 (t4:Addr) (t8:Int) (t11:Int) (Q:VWP) (w:World):Prop :=
 ∃ (I:Int→WP) (μ:Int→World→Nat),I t11 w∧∀ t11:Int,∀ w:World,I t11 w→qd.b4 t4 t8 t11 Q (fun t4' t8' t11' w'=>(t4'=t4∧t8'=t8)∧I t11' w'∧μ t11' w' < μ t11 w) w
def qd.j19 (t4:Addr) (t8:Int) (t11:Int) (Q:VWP) (w:World):Prop :=
 qd.l4 t4 t8 t11 Q w
def qd.j17 (i_1:Int) (t4:Addr) (t8:Int) (Q:VWP) (w:World):Prop :=
 qd.j19 t4 t8 i_1 Q w
def qd.b5 (i_1:Int) (t4:Addr) (t8 t9:Int) (Q:VWP) (nx5:Int→Addr→Int→Int→WP) (w:World):Prop :=
 br (decide (t8 < t9)) (
 lt (IntKind.i64.wrap (t8+t9)) fun x45 =>
 lt (IntKind.u64.wrap x45) fun x46 =>
 (0:Int)≤1 ∧
 lt (shrV .u64 x46 1) fun x47 =>
 lt (IntKind.i64.wrap x47) fun x48 =>
 ldV w (Addr.add t4 0) fun x49 =>
 cvB Tryz.prog x49 [.int .i64 x48,.int .i64 i_1] w fun r51 w50 =>
 br r51 (
 lt (IntKind.i64.wrap (x48+1)) fun x52 =>
 nx5 i_1 t4 x52 t9 w50) (
 nx5 i_1 t4 t8 x48 w50)) (
 qd.j17 i_1 t4 t8 Q w)
def qd.l5 (i_1:Int) (t4:Addr) (t8 t9:Int) (Q:VWP) (w:World):Prop :=
 ∃ (I:Int→Int→WP) (μ:Int→Int→World→Nat),I t8 t9 w∧∀ t8:Int,∀ t9:Int,∀ w:World,I t8 t9 w→qd.b5 i_1 t4 t8 t9 Q (fun i_1' t4' t8' t9' w'=>(i_1'=i_1∧t4'=t4)∧I t8' t9' w'∧μ t8' t9' w' < μ t8 t9 w) w
def qd.j16 (i_1:Int) (t4:Addr) (t8 t9:Int) (Q:VWP) (w:World):Prop :=
 qd.l5 i_1 t4 t8 t9 Q w
def qd.j15 (i_1 t2 t3:Int) (t4:Addr) (t26:Bool) (Q:VWP) (w:World):Prop :=
 br t26 (
 qd.j16 i_1 t4 t2 t3 Q w) (
 qd.j2 i_1 t2 t3 t4 Q w)
def qd.j1 (i_1 t2 t3:Int) (t4:Addr) (Q:VWP) (w:World):Prop :=
 lt (IntKind.i64.wrap (t2 - i_1)) fun x53 =>
 qd.j15 i_1 t2 t3 t4 (x53 == 1) Q w
def qd (d_0:(Array Value)) (i_1 t2 t3:Int) (Q:VWP) (w:World):Prop :=
 nw w d_0 125 fun a54 w55 =>
 qd.j1 i_1 t2 t3 a54 Q w55
theorem qd.ok (d_0:(Array Value)) (i_1:Int) (t2:Int) (t3:Int) (Q:VWP) (w:World) (h:qd d_0 i_1 t2 t3 Q w):Calls Tryz.prog 84 ⟨[.agg d_0,.int .i64 i_1,.int .i64 t2,.int .i64 t3]⟩ w (Ret Q) :=
 qvb [] qkd Tryz.func84 rfl rfl rfl rfl (.sq [sI 1,sI 2,sI 3,sA 4] (fun a b c d w=>qd.j1 a b c d Q w) .lf (.sq [sI 1,sI 2,sI 3,sA 4] (fun a b c d w=>qd.j2 a b c d Q w) (.sq [sI 1,sI 2,sI 3,sA 4,sB 26] (fun a b c d e w=>qd.j15 a b c d e Q w) .lf (.cd (.pr 1 [sI 1,sA 4,sI 8,sI 9] (fun a b c d w=>qd.j16 a b c d Q w) (.sq [sI 1,sA 4,sI 8] (fun a b c w=>qd.j17 a b c Q w) (.bk (.lo [sI 1,sA 4] [sI 8,sI 9] (fun a b c d w=>qd.l5 a b c d Q w) (fun nx5 a b c d w=>qd.b5 a b c d Q nx5 w) fun nx5=>.lf)) (.sq [] (fun  w=>qd.j18 Q w) (.sq [sA 4,sI 8,sI 11] (fun a b c w=>qd.j19 a b c Q w) .lf (.bk (.lo [sA 4,sI 8] [sI 11] (fun a b c w=>qd.l4 a b c Q w) (fun nx4 a b c w=>qd.b4 a b c Q nx4 w) fun nx4=>.lf))) .lf))) .lf)) (.sq [sI 1,sI 2,sI 3,sA 4] (fun a b c d w=>qd.j3 a b c d Q w) (.sq [sI 1,sI 2,sI 3,sA 4,sB 62] (fun a b c d e w=>qd.j10 a b c d e Q w) .lf (.cd (.pr 1 [sI 2,sA 4,sI 12,sI 13] (fun a b c d w=>qd.j11 a b c d Q w) (.sq [sI 2,sA 4,sI 12] (fun a b c w=>qd.j12 a b c Q w) (.bk (.lo [sI 2,sA 4] [sI 12,sI 13] (fun a b c d w=>qd.l3 a b c d Q w) (fun nx3 a b c d w=>qd.b3 a b c d Q nx3 w) fun nx3=>.lf)) (.sq [] (fun  w=>qd.j13 Q w) (.sq [sA 4,sI 12,sI 15] (fun a b c w=>qd.j14 a b c Q w) .lf (.bk (.lo [sA 4,sI 12] [sI 15] (fun a b c w=>qd.l2 a b c Q w) (fun nx2 a b c w=>qd.b2 a b c Q nx2 w) fun nx2=>.lf))) .lf))) .lf)) (.pr 1 [sI 1,sI 2,sI 3,sA 4,sI 16,sI 17] (fun a b c d e f w=>qd.j4 a b c d e f Q w) (.pr 1 [sI 1,sI 2,sI 3,sA 4,sI 16,sI 17,sI 18,sI 19] (fun a b c d e f g h w=>qd.j5 a b c d e f g h Q w) (.sq [sI 1,sI 2,sI 3,sA 4,sI 16,sI 17,sI 18,sI 19,sI 20] (fun a b c d e f g h i w=>qd.j6 a b c d e f g h i Q w) .lf (.sq [sI 1,sI 2,sI 3,sA 4,sI 16,sI 17,sI 18] (fun a b c d e f g w=>qd.j7 a b c d e f g Q w) (.bk (.lo [sI 1,sI 2,sI 3,sA 4,sI 16,sI 17,sI 20] [sI 18,sI 19] (fun a b c d e f g h i w=>qd.l1 a b c d e f g h i Q w) (fun nx1 a b c d e f g h i w=>qd.b1 a b c d e f g h i Q nx1 w) fun nx1=>.lf)) (.pr 1 [sI 1,sI 3,sA 4,sI 16,sI 18,sI 22] (fun a b c d e f w=>qd.j8 a b c d e f Q w) (.sq [sI 3,sA 4,sI 16,sI 22] (fun a b c d w=>qd.j9 a b c d Q w) .lf .lf))))))))) (by kernel_rfl) h
def qk.j7 (n_1:Int) (data_2:Addr) (blockSize_4 a_5:Int) (Q:VWP) (nx1:Int→Addr→Int→WP) (w:World):Prop :=
 lt (IntKind.i64.wrap (a_5+blockSize_4)) fun x1 =>
 br (decide (x1 < n_1)) (
 ldA w data_2 2 fun c2 =>
 ct_ 84 [.agg c2,.int .i64 a_5,.int .i64 x1,.int .i64 n_1] w fun w4 =>
 lt (IntKind.i64.wrap (blockSize_4 * 2)) fun x5 =>
 nx1 n_1 data_2 x5 w4) (
 lt (IntKind.i64.wrap (blockSize_4 * 2)) fun x6 =>
 nx1 n_1 data_2 x6 w)
def qk.b2 (n_1:Int) (data_2:Addr) (blockSize_4 a_5 b_6:Int) (Q:VWP) (nx1:Int→Addr→Int→WP) (nx2:Int→Addr→Int→Int→Int→WP) (w:World):Prop :=
 br (decide (b_6≤n_1)) (
 ldA w data_2 2 fun c7 =>
 lt (IntKind.i64.wrap (a_5+blockSize_4)) fun x8 =>
 ct_ 84 [.agg c7,.int .i64 a_5,.int .i64 x8,.int .i64 b_6] w fun w10 =>
 lt (IntKind.i64.wrap (2 * blockSize_4)) fun x11 =>
 lt (IntKind.i64.wrap (b_6+x11)) fun x12 =>
 nx2 n_1 data_2 blockSize_4 b_6 x12 w10) (
 qk.j7 n_1 data_2 blockSize_4 a_5 Q nx1 w)
def qk.l2 (n_1:Int) (data_2:Addr) (blockSize_4 a_5 b_6:Int) (Q:VWP) (nx1:Int→Addr→Int→WP) (w:World):Prop :=
 ∃ (I:Int→Int→WP) (μ:Int→Int→World→Nat),I a_5 b_6 w∧∀ a_5:Int,∀ b_6:Int,∀ w:World,I a_5 b_6 w→qk.b2 n_1 data_2 blockSize_4 a_5 b_6 Q nx1 (fun n_1' data_2' blockSize_4' a_5' b_6' w'=>(n_1'=n_1∧data_2'=data_2∧blockSize_4'=blockSize_4)∧I a_5' b_6' w'∧μ a_5' b_6' w' < μ a_5 b_6 w) w
def qk.j6 (n_1:Int) (data_2:Addr) (blockSize_4 a_5 b_6:Int) (Q:VWP) (nx1:Int→Addr→Int→WP) (w:World):Prop :=
 qk.l2 n_1 data_2 blockSize_4 a_5 b_6 Q nx1 w
def qk.j5 (n_1:Int) (data_2:Addr) (blockSize_4:Int) (Q:VWP) (nx1:Int→Addr→Int→WP) (w:World):Prop :=
 lt (IntKind.i64.wrap (2 * blockSize_4)) fun x13 =>
 qk.j6 n_1 data_2 blockSize_4 0 x13 Q nx1 w
def qk.b1 (n_1:Int) (data_2:Addr) (blockSize_4:Int) (Q:VWP) (nx1:Int→Addr→Int→WP) (w:World):Prop :=
 br (decide (blockSize_4 < n_1)) (
 qk.j5 n_1 data_2 blockSize_4 Q nx1 w) (
 Q (.tuple ⟨[]⟩) w)
def qk.l1 (n_1:Int) (data_2:Addr) (blockSize_4:Int) (Q:VWP) (w:World):Prop :=
 ∃ (I:Int→WP) (μ:Int→World→Nat),I blockSize_4 w∧∀ blockSize_4:Int,∀ w:World,I blockSize_4 w→qk.b1 n_1 data_2 blockSize_4 Q (fun n_1' data_2' blockSize_4' w'=>(n_1'=n_1∧data_2'=data_2)∧I blockSize_4' w'∧μ blockSize_4' w' < μ blockSize_4 w) w
def qk.j4 (n_1:Int) (data_2:Addr) (blockSize_4:Int) (Q:VWP) (w:World):Prop :=
 qk.l1 n_1 data_2 blockSize_4 Q w
def qk.j3 (n_1:Int) (data_2:Addr) (blockSize_4 a_5:Int) (Q:VWP) (w:World):Prop :=
 ldA w data_2 2 fun c14 =>
 ct_ 83 [.agg c14,.int .i64 a_5,.int .i64 n_1] w fun w16 =>
 qk.j4 n_1 data_2 blockSize_4 Q w16
def qk.b3 (n_1:Int) (data_2:Addr) (blockSize_4 a_5 b_6:Int) (Q:VWP) (nx3:Int→Addr→Int→Int→Int→WP) (w:World):Prop :=
 br (decide (b_6≤n_1)) (
 ldA w data_2 2 fun c17 =>
 ct_ 83 [.agg c17,.int .i64 a_5,.int .i64 b_6] w fun w19 =>
 lt (IntKind.i64.wrap (b_6+blockSize_4)) fun x20 =>
 nx3 n_1 data_2 blockSize_4 b_6 x20 w19) (
 qk.j3 n_1 data_2 blockSize_4 a_5 Q w)
def qk.l3 (n_1:Int) (data_2:Addr) (blockSize_4 a_5 b_6:Int) (Q:VWP) (w:World):Prop :=
 ∃ (I:Int→Int→WP) (μ:Int→Int→World→Nat),I a_5 b_6 w∧∀ a_5:Int,∀ b_6:Int,∀ w:World,I a_5 b_6 w→qk.b3 n_1 data_2 blockSize_4 a_5 b_6 Q (fun n_1' data_2' blockSize_4' a_5' b_6' w'=>(n_1'=n_1∧data_2'=data_2∧blockSize_4'=blockSize_4)∧I a_5' b_6' w'∧μ a_5' b_6' w' < μ a_5 b_6 w) w
def qk.j2 (n_1:Int) (data_2:Addr) (blockSize_4 a_5 b_6:Int) (Q:VWP) (w:World):Prop :=
 qk.l3 n_1 data_2 blockSize_4 a_5 b_6 Q w
def qk.j1 (n_1:Int) (data_2:Addr) (Q:VWP) (w:World):Prop :=
 qk.j2 n_1 data_2 20 0 20 Q w
def qk (data_0:(Array Value)) (n_1:Int) (Q:VWP) (w:World):Prop :=
 nw w data_0 125 fun a21 w22 =>
 qk.j1 n_1 a21 Q w22
theorem qk.ok (data_0:(Array Value)) (n_1:Int) (Q:VWP) (w:World) (h:qk data_0 n_1 Q w):Calls Tryz.prog 47 ⟨[.agg data_0,.int .i64 n_1]⟩ w (Ret Q) :=
 qvb [] qkd Tryz.func47 rfl rfl rfl rfl (.sq [sI 1,sA 2] (fun a b w=>qk.j1 a b Q w) .lf (.pr 1 [sI 1,sA 2,sI 4,sI 5,sI 6] (fun a b c d e w=>qk.j2 a b c d e Q w) (.sq [sI 1,sA 2,sI 4,sI 5] (fun a b c d w=>qk.j3 a b c d Q w) (.bk (.lo [sI 1,sA 2,sI 4] [sI 5,sI 6] (fun a b c d e w=>qk.l3 a b c d e Q w) (fun nx3 a b c d e w=>qk.b3 a b c d e Q nx3 w) fun nx3=>.lf)) (.sq [sI 1,sA 2,sI 4] (fun a b c w=>qk.j4 a b c Q w) .lf (.bk (.lo [sI 1,sA 2] [sI 4] (fun a b c w=>qk.l1 a b c Q w) (fun nx1 a b c w=>qk.b1 a b c Q nx1 w) fun nx1=>(.sq [sI 1,sA 2,sI 4] (fun a b c w=>qk.j5 a b c Q nx1 w) .lf (.bk (.sq [sI 1,sA 2,sI 4,sI 5,sI 6] (fun a b c d e w=>qk.j6 a b c d e Q nx1 w) .lf (.sq [sI 1,sA 2,sI 4,sI 5] (fun a b c d w=>qk.j7 a b c d Q nx1 w) (.bk (.lo [sI 1,sA 2,sI 4] [sI 5,sI 6] (fun a b c d e w=>qk.l2 a b c d e Q nx1 w) (fun nx2 a b c d e w=>qk.b2 a b c d e Q nx1 nx2 w) fun nx2=>.lf)) .lf)))))))))) (by kernel_rfl) h
def qwc.j1 (less_1:OAd) (rv_4:Addr) (swap_5:(Nat × Array Value)) (Q:VWP) (w:World):Prop :=
 ldA w rv_4 3 fun c1 =>
 ∃ r4:Int,∃ w3:World,cfR Tryz.prog 48 [.agg c1] w (.int .i64 r4) w3 ∧
 ct_ 47 [.agg ⟨[.func (.func 20) ⟨[]⟩ ⟨[.pointer less_1]⟩,.func (.func swap_5.1) ⟨[]⟩ swap_5.2]⟩,.int .i64 r4] w3 fun w6 =>
 Q (.tuple ⟨[]⟩) w6
def qwc (x_0:(Nat × Value)) (cap1:OAd) (Q:VWP) (w:World):Prop :=
 ∃ r9:(Array Value),∃ w8:World,cfR Tryz.prog 45 [.iface x_0.1 x_0.2] w (.agg r9) w8 ∧
 nw w8 (zc Tryz.prog 119) 119 fun a10 w11 =>
 (r9).size=3 ∧
 stA w11 a10 r9 fun w12 =>
 ∃ r15:Value,∃ w14:World,cfR Tryz.prog 46 [.iface x_0.1 x_0.2] w12 (r15) w14 ∧
 asN r15 fun f16 =>
 qwc.j1 cap1 a10 f16 Q w14
theorem qwc.ok (x_0:(Nat × Value)) (cap1:OAd) (Q:VWP) (w:World) (h:qwc x_0 cap1 Q w):Calls Tryz.prog 19 ⟨[.iface x_0.1 x_0.2,.func (.func 20) ⟨[]⟩ ⟨[.pointer cap1]⟩]⟩ w (Ret Q) :=
 qvb [] qkd Tryz.func19 rfl rfl rfl rfl (.pr 1 [(1,.c2 20),sA 4,(5,.N)] (fun a b c w=>qwc.j1 a b c Q w) .lf) (by kernel_rfl) h
end Go.Proofs.YtonmgkkkiejicaaGreat
namespace Go.Proofs.YtonmgkkkiejicaaGreat
open Go Go.Proofs
set_option linter.unusedVariables false
set_option linter.unusedSimpArgs false
attribute [local irreducible] apK cpK mkK br
abbrev Mk:=ByteArray × Sl
def mkC (x:Mk):List Value:=[.string x.1,.slice x.2.a x.2.len x.2.cap]
instance:Inhabited Mk:=⟨⟨⟨[]⟩⟩,⟨none,0,0⟩⟩
instance rec_mk:Rec mkC 2 where
 len _:=rfl
 pos:=by decide
 sto x v hv:=by
  have hv:v ∈ mkC x:=by simpa using hv
  simp [mkC] at hv
  rcases hv with rfl | rfl <;> trivial
instance elt_mk:EltR Tryz.prog 46 2 (mkC (⟨⟨[]⟩⟩,⟨none,0,0⟩)):=⟨⟨Tryz.t46,by kernel_rfl,rfl,by decide,by decide⟩,by kernel_rfl,rfl,by decide⟩
theorem qei (b:Nat):∀ (vs:List Value) (w:World) (o i:Nat),putAll w ⟨b,o,none⟩ vs i=w.setCells b (o+i) vs:=by
 intro vs
 induction vs with
 | nil=>intro w o i; rfl
 | cons v vs ih =>
   intro w o i
   show putAll (w.setCell (Addr.add ⟨b,o,none⟩ i) v) ⟨b,o,none⟩ vs (i+1)=(w.setCell ⟨b,o+i,none⟩ v).setCells b (o+i+1) vs
   rw [ih,qmb]
   rfl
def ltB (a b:ByteArray):Bool:=Op.bytesLess a.toList b.toList
section
variable {F0:List Nat} {w0 w:World} {ps rest:List As} {s:Sl} {L:List Mk} {x:Mk}
theorem St.sE {α:Type} [Inhabited α] {f:α→List Value} {sz:Nat} [r:Rec f sz] {L:List α} (h:St F0 w0 w (qv sz s (L.flatMap f) :: ps)) {n:Int} {x:α} {K:World→Prop} (j:Nat) (hi:n=j) (hj:j < L.length) (hk:∀ w',St F0 w0 w' (qv sz s ((L.set j x).flatMap f) :: ps)→K w') :
 ixS s.a s.len n sz fun a=>(⟨f x⟩:Array Value).size=sz∧Go.Proofs.YtonmgkkkiejicaaGreat.stA w a ⟨f x⟩ K :=
 St.sD (d:=L.toArray) (by simpa using h) j hi (by simpa using hj) fun w' h'=>hk w' (by simpa using h')
theorem St.mswap (h:St F0 w0 w (qv 2 s (L.flatMap mkC) :: ps)) {i j:Nat} (hi:i < L.length) (hj:j < L.length) {K:World→Prop} (hk:∀ w',St F0 w0 w' (qv 2 s (((L.set i L[j]).set j L[i]).flatMap mkC) :: ps)→K w') :
 ∃ w',cfR Tryz.prog 82 [.int .i64 i,.int .i64 j,.slice s.a s.len s.cap,typeHandle Tryz.prog 46] w (.tuple ⟨[]⟩) w'∧K w':=by
 have hl:=h.rlen (s:=s) (f:=mkC) (L:=L)
 have H:ixS s.a s.len (i:Int) 2 fun a=>(⟨mkC L[j]⟩:Array Value).size=2∧Go.Proofs.YtonmgkkkiejicaaGreat.stA w a ⟨mkC L[j]⟩ fun w1=>ixS s.a s.len (j:Int) 2 fun b=>(⟨mkC L[i]⟩:Array Value).size=2∧Go.Proofs.YtonmgkkkiejicaaGreat.stA w1 b ⟨mkC L[i]⟩ K :=
  h.sE i rfl hi fun w1 h1=>h1.sE j rfl (by rw [List.length_set]; exact hj) fun w2 h2=>hk w2 h2
 have hr:=h.rdb s
 obtain ⟨f,ho,_⟩:=h.step
 rcases ho with ⟨rfl,hnil,_⟩ | ⟨ob,rs,h1,hb,h2,h3,rfl⟩
 · simp only at hl; omega
 · unfold ixS at H
   rw [h1] at H
   obtain ⟨_,_,H⟩:=H
   obtain ⟨c1,_,H⟩:=H
   obtain ⟨_,_,c2,_,H⟩:=H
   rw [qmb,qmb,qei,qei] at H
   rw [qmb] at c1 c2
   refine ⟨_,?_,H⟩
   unfold cfR
   rw [run_callFunc_extern (fn:=Tryz.f82) (e:=Extern.ReflectliteSwapper.swap false) (by kernel_rfl) (by kernel_rfl) (by kernel_rfl) (by kernel_rfl) (by kernel_rfl)]
   have cc:∀ q (hq:q < L.length) k v,(mkC L[q])[k]?=some v→w.cell? ⟨ob,0+q * 2+k,none⟩=some v:=fun q hq k v hv=>by
    have:=hr.rcell (f:=mkC) (L:=L) (j:=q) (o:=k) h1 hq (by have:=(List.getElem?_eq_some_iff.1 hv).1; exact this)
    rw [qmb,qmb] at this
    rw [this]
    exact hv
   have:=Lib.run_swap_cells (P:=Tryz.prog) false 46 Tryz.t46 (by kernel_rfl) (fun w=>by kernel_rfl) ob 0 s.len s.cap i j (by omega) (by omega) (mkC L[i]) (mkC L[j]) rfl rfl (by simp [mkC,Value.oneCell']) (by simp [mkC,Value.oneCell']) w (cc i hi) (cc j hj)
    (fun k hk=>?_) (fun k hk=>?_)
   · rw [h1]
     show Result.andThen (Sem.run _ (Extern.ReflectliteSwapper.swap false #[.int .i64 i,.int .i64 j,.slice (some ⟨ob,0,none⟩) s.len s.cap,typeHandle Tryz.prog 46]) w) _=_
     rw [this]
     rfl
   · have:=(c1 k (by exact hk)).2
     rw [qmb] at this
     exact this
   · have:=(c2 k (by exact hk)).2
     rw [qmb,qei,World.frozen?_setCells,qmb] at this
     exact this
end
end Go.Proofs.YtonmgkkkiejicaaGreat
namespace Go.Proofs.YtonmgkkkiejicaaGreat
set_option linter.unusedVariables false
set_option linter.unusedSimpArgs false
section
variable {α:Type} {k:α→Int}
def mrg (k:α→Int):List α→List α→List α
 | [],ys=>ys
 | x :: xs,[]=>x :: xs
 | x :: xs,y :: ys=>if k y < k x then y :: mrg k (x :: xs) ys else x :: mrg k xs (y :: ys)
termination_by xs ys=>xs.length+ys.length
theorem qze (ys:List α):mrg k [] ys=ys:=by unfold mrg; rfl
theorem qxe (xs:List α):mrg k xs []=xs:=by
 cases xs with
 | nil=>exact qze _
 | cons x xs=>unfold mrg; rfl
theorem qme (x y:α) (xs ys:List α):mrg k (x :: xs) (y :: ys)=if k y < k x then y :: mrg k (x :: xs) ys else x :: mrg k xs (y :: ys):=by
 conv=>lhs; unfold mrg
theorem mrg_length:∀ (n:Nat) (xs ys:List α),xs.length+ys.length=n→(mrg k xs ys).length=n:=by
 intro n
 induction n with
 | zero =>
   intro xs ys h
   have h1:xs=[]:=List.length_eq_zero_iff.1 (by omega)
   have h2:ys=[]:=List.length_eq_zero_iff.1 (by omega)
   subst h1; subst h2
   rw [qze]; rfl
 | succ n ih =>
   intro xs ys h
   cases xs with
   | nil=>rw [qze]; simpa using h
   | cons x xs =>
     cases ys with
     | nil=>rw [qxe]; simpa using h
     | cons y ys =>
       simp only [List.length_cons] at h
       rw [qme]
       split
       · rw [List.length_cons,ih _ _ (by simp only [List.length_cons]; omega)]
       · rw [List.length_cons,ih _ _ (by simp only [List.length_cons]; omega)]
def srt (k:α→Int) (l:List α):Prop:=l.Pairwise fun a b=>k a≤k b
theorem mrg_cut:∀ (n:Nat) (A1 A2 B1 B2:List α),A1.length+B1.length=n→(∀ a ∈ A2,∀ b ∈ B1,k b < k a)→(∀ a ∈ A1,∀ b ∈ B2,k a≤k b)→mrg k (A1 ++ A2) (B1 ++ B2)=mrg k A1 B1 ++ mrg k A2 B2:=by
 intro n
 induction n with
 | zero =>
   intro A1 A2 B1 B2 h _ _
   have h1:A1=[]:=List.length_eq_zero_iff.1 (by omega)
   have h2:B1=[]:=List.length_eq_zero_iff.1 (by omega)
   subst h1; subst h2
   rw [qze]; rfl
 | succ n ih =>
   intro A1 A2 B1 B2 h hA hB
   cases A1 with
   | nil =>
     rw [qze,List.nil_append]
     cases B1 with
     | nil=>rfl
     | cons b B1 =>
       cases A2 with
       | nil=>rw [qze,qze]
       | cons a A2 =>
         rw [List.cons_append,qme,if_pos (hA a (by simp) b (by simp))]
         have:=ih [] (a :: A2) B1 B2 (by simp only [List.length_cons,List.length_nil] at h ⊢; omega) (fun a ha b hb=>hA a ha b (by simp [hb])) (by simp)
         rw [List.nil_append,qze] at this
         rw [this]; rfl
   | cons a A1 =>
     cases B1 with
     | nil =>
       rw [qxe,List.nil_append]
       cases B2 with
       | nil=>rw [qxe,qxe]
       | cons b B2 =>
         have hab:=hB a (by simp) b (by simp)
         rw [List.cons_append,qme,if_neg (by omega)]
         have:=ih A1 A2 [] (b :: B2) (by simp only [List.length_cons,List.length_nil] at h ⊢; omega) (by simp) (fun a ha b hb=>hB a (by simp [ha]) b hb)
         rw [List.nil_append,qxe] at this
         rw [this]; rfl
     | cons b B1 =>
       rw [List.cons_append,List.cons_append,qme,qme]
       simp only [List.length_cons] at h
       split
       · have:=ih (a :: A1) A2 B1 B2 (by simp only [List.length_cons]; omega) (fun a ha b hb=>hA a ha b (by simp [hb])) hB
         rw [List.cons_append] at this
         rw [this]; rfl
       · have:=ih A1 A2 (b :: B1) B2 (by simp only [List.length_cons]; omega) hA (fun a ha b hb=>hB a (by simp [ha]) b hb)
         rw [List.cons_append] at this
         rw [this]; rfl
theorem mrg_left (A B:List α) (h:∀ a ∈ A,∀ b ∈ B,k a≤k b):mrg k A B=A ++ B:=by
 have:=mrg_cut (k:=k) _ A [] [] B rfl (by simp) h
 rw [List.append_nil,List.nil_append,qxe,qze] at this
 exact this
def insR (k:α→Int) (x:α):List α→List α
 | []=>[x]
 | y :: l=>if k x < k y then x :: y :: l else y :: insR k x l
def qad (k:α→Int) (l:List α):List α:=l.foldl (fun a x=>insR k x a) []
theorem qyg (l:List α) (x:α):qad k (l ++ [x])=insR k x (qad k l):=by simp [qad]
theorem insR_perm (x:α) (l:List α):(insR k x l).Perm (x :: l):=by
 induction l with
 | nil=>exact List.Perm.refl _
 | cons y l ih =>
   rw [insR]
   split
   · exact List.Perm.refl _
   · exact (List.Perm.cons y ih).trans (List.Perm.swap x y l)
theorem insR_srt {x:α} {l:List α} (h:srt k l):srt k (insR k x l):=by
 induction l with
 | nil=>exact List.pairwise_singleton _ _
 | cons y l ih =>
   rw [insR]
   have h':=List.pairwise_cons.1 h
   split
   · rename_i hlt
     refine List.pairwise_cons.2 ⟨fun z hz=>?_,h⟩
     rcases List.mem_cons.1 hz with rfl | hz
     · omega
     · have:=h'.1 z hz; omega
   · rename_i hlt
     refine List.pairwise_cons.2 ⟨fun z hz=>?_,ih h'.2⟩
     have:=(insR_perm (k:=k) x l).mem_iff.1 hz
     rcases List.mem_cons.1 this with rfl | hz
     · omega
     · exact h'.1 z hz
theorem snoc_rec {Q:List α→Prop} (h0:Q []) (h1:∀ l x,Q l→Q (l ++ [x])) (l:List α):Q l:=by
 have:∀ n (l:List α),l.length=n→Q l:=by
  intro n
  induction n with
  | zero=>intro l h; rw [List.length_eq_zero_iff.1 h]; exact h0
  | succ n ih =>
    intro l h
    have hne:l ≠ []:=by intro e; subst e; simp at h
    rw [← List.dropLast_concat_getLast hne]
    exact h1 _ _ (ih _ (by rw [List.length_dropLast]; omega))
 exact this _ l rfl
theorem qag (l:List α):srt k (qad k l):=snoc_rec (Q:=fun l=>srt k (qad k l)) List.Pairwise.nil (fun l x h=>by rw [qyg]; exact insR_srt h) l
theorem qzg (l:List α):(qad k l).Perm l:=snoc_rec (Q:=fun l=>(qad k l).Perm l) (List.Perm.refl _) (fun l x h=>by
 rw [qyg]
 exact (insR_perm x _).trans ((List.Perm.cons x h).trans (List.perm_append_comm (l₁:=[x]) (l₂:=l)))) l
theorem qac (l:List α):(qad k l).length=l.length:=(qzg l).length_eq
theorem insR_mrg (x:α):∀ (n:Nat) (A B:List α),A.length+B.length=n→srt k A→srt k B→insR k x (mrg k A B)=mrg k A (insR k x B):=by
 intro n
 induction n with
 | zero =>
   intro A B h _ _
   have h1:A=[]:=List.length_eq_zero_iff.1 (by omega)
   subst h1
   rw [qze,qze]
 | succ n ih =>
   intro A B h hA hB
   cases A with
   | nil=>rw [qze,qze]
   | cons a A =>
     have hA':=List.pairwise_cons.1 hA
     cases B with
     | nil =>
       rw [qxe]
       show (if k x < k a then x :: a :: A else a :: insR k x A)=mrg k (a :: A) [x]
       rw [qme]
       split
       · rw [qxe]
       · have:=ih A [] (by simp only [List.length_cons,List.length_nil] at h ⊢; omega) hA'.2 List.Pairwise.nil
         rw [qxe] at this
         rw [this]; rfl
     | cons b B =>
       have hB':=List.pairwise_cons.1 hB
       simp only [List.length_cons] at h
       rw [qme]
       by_cases h1:k b < k a
       · rw [if_pos h1]
         show (if k x < k b then x :: b :: mrg k (a :: A) B else b :: insR k x (mrg k (a :: A) B))=_
         show _=mrg k (a :: A) (if k x < k b then x :: b :: B else b :: insR k x B)
         by_cases h2:k x < k b
         · rw [if_pos h2,if_pos h2,qme,if_pos (by omega),qme,if_pos h1]
         · rw [if_neg h2,if_neg h2,qme,if_pos h1,ih (a :: A) B (by simp only [List.length_cons]; omega) hA hB'.2]
       · rw [if_neg h1]
         show (if k x < k a then x :: a :: mrg k A (b :: B) else a :: insR k x (mrg k A (b :: B)))=_
         by_cases h2:k x < k a
         · rw [if_pos h2]
           have h3:k x < k b:=by omega
           show _=mrg k (a :: A) (if k x < k b then x :: b :: B else b :: insR k x B)
           rw [if_pos h3,qme,if_pos h2,qme,if_neg h1]
         · rw [if_neg h2,ih A (b :: B) (by simp only [List.length_cons]; omega) hA'.2 hB]
           show a :: mrg k A (if k x < k b then x :: b :: B else b :: insR k x B)=mrg k (a :: A) (if k x < k b then x :: b :: B else b :: insR k x B)
           by_cases h3:k x < k b
           · rw [if_pos h3,qme,if_neg h2]
           · rw [if_neg h3,qme,if_neg h1]
theorem qsk (A B:List α):qad k (A ++ B)=mrg k (qad k A) (qad k B):=snoc_rec (Q:=fun B=>qad k (A ++ B)=mrg k (qad k A) (qad k B)) (by rw [List.append_nil]; exact (qxe _).symm) (fun B x h=>by
 rw [← List.append_assoc,qyg,qyg,h,insR_mrg x _ _ _ rfl (qag A) (qag B)]) B
def bsort (k:α→Int) (c:Nat):Nat→List α→List α
 | 0,l=>qad k l
 | f+1,l=>if l.length≤c then qad k l else qad k (l.take c) ++ bsort k c f (l.drop c)
end
end Go.Proofs.YtonmgkkkiejicaaGreat
namespace Go.Proofs.YtonmgkkkiejicaaGreat
open Go Go.Proofs
set_option linter.unusedVariables false
set_option linter.unusedSimpArgs false
attribute [local irreducible] apK cpK mkK br
def mks (L:List Mk):List Value:=L.flatMap mkC
noncomputable def lessV (lb:Nat):Value:=.func (.func 20) ⟨[]⟩ ⟨[.pointer (some ⟨lb,0,none⟩)]⟩
noncomputable def swapV (s:Sl):Value:=.func (.func 82) ⟨[]⟩ ⟨[.slice s.a s.len s.cap,typeHandle Tryz.prog 46]⟩
noncomputable def dtV (lb:Nat) (s:Sl):List Value:=[lessV lb,swapV s]
theorem plain_less:plainF Tryz.prog 20=true:=by kernel_rfl
theorem qsm:plainF Tryz.prog 82=false:=by kernel_rfl
theorem Blk.ldVo {w:World} {b:Nat} {l:List Value} {o:Nat} {v:Value} {X:Value→Prop} (h:Blk w b l) (hv:l[o]?=some v) (hk:X v):ldV w (Addr.add ⟨b,0,none⟩ o) X:=⟨v,by rw [qmb,h.cell,Nat.zero_add]; exact hv,hk⟩
theorem sw_list {A M B:List Mk} {x y:Mk}:∀ (hi:A.length < (A ++ x :: (M ++ y :: B)).length) (hj:A.length+1+M.length < (A ++ x :: (M ++ y :: B)).length),
 ((A ++ x :: (M ++ y :: B)).set A.length ((A ++ x :: (M ++ y :: B))[A.length+1+M.length])).set (A.length+1+M.length) ((A ++ x :: (M ++ y :: B))[A.length])=A ++ y :: (M ++ x :: B):=by
 intro hi hj
 have e1:(A ++ x :: (M ++ y :: B))[A.length]=x:=by simp
 have e2:(A ++ x :: (M ++ y :: B))[A.length+1+M.length]=y:=by
  rw [List.getElem_append_right (by omega)]
  have:A.length+1+M.length - A.length=M.length+1:=by omega
  simp only [this,List.getElem_cons_succ]
  simp
 rw [e1,e2,List.set_append_right _ _ (Nat.le_refl _),Nat.sub_self,List.set_cons_zero,List.set_append_right _ _ (by omega),show A.length+1+M.length - A.length=M.length+1 by omega,List.set_cons_succ,List.set_append_right _ _ (Nat.le_refl _),Nat.sub_self,List.set_cons_zero]
theorem sw_list' {A M B:List Mk} {x y:Mk}:∀ (hi:A.length < (A ++ x :: (M ++ y :: B)).length) (hj:A.length+1+M.length < (A ++ x :: (M ++ y :: B)).length),
 ((A ++ x :: (M ++ y :: B)).set (A.length+1+M.length) ((A ++ x :: (M ++ y :: B))[A.length])).set A.length ((A ++ x :: (M ++ y :: B))[A.length+1+M.length])=A ++ y :: (M ++ x :: B):=by
 intro hi hj
 rw [List.set_comm _ _ (by omega)]
 exact sw_list hi hj
section
variable {F0:List Nat} {w0 w:World} {ps rest:List As} {s:Sl} {D A M B:List Mk} {x y:Mk} {lb:Nat}
theorem midx_less.c {K:Ending→World→Prop} {i j:Nat} (h:St F0 w0 w ps) [PkB lb ps [.slice s.a s.len s.cap] rest] [Rdb F0 w0 s ps 2 (mks D)] (hi:i < D.length) (hj:j < D.length) (hk:∀ w',St F0 w0 w' ps→K (.returned (.bool (ltB D[i].1 D[j].1))) w') :
 Calls Tryz.prog 20 ⟨[.int .i64 i,.int .i64 j,.pointer (some ⟨lb,0,none⟩)]⟩ w K:=by
 refine qsb (qtg.ok _ _ _ _ _ ?_)
 unfold qtg
 refine h.drewK fun w h=>?_
 have iR:Rdb F0 w0 s ps 2 (D.flatMap mkC):=‹Rdb F0 w0 s ps 2 (mks D)›
 have hS:∀ {q:Nat} {Z:ByteArray→Prop} (hq:q < D.length),Z D[q].1→ixS s.a s.len (q:Int) 2 fun a=>ldS w (Addr.add a 0) Z:=fun {q Z} hq hz=>by
  refine h.rix (f:=mkC) (L:=D) q rfl hq fun a0 ha=>⟨D[q].1,?_,hz⟩
  have:=(h.rdb s).rcell (f:=mkC) (L:=D) (j:=q) (o:=0) ha hq (by decide)
  rw [this]
  rfl
 refine (h.toB lb).blk.ldL (n:=s) rfl ?_
 refine hS hi ?_
 refine (h.toB lb).blk.ldL (n:=s) rfl ?_
 refine hS hj ?_
 exact hk w h
theorem mless {a b:Int} {i j:Nat} {Z:Bool→World→Prop} (h:St F0 w0 w ps) [PkB lb ps [.slice s.a s.len s.cap] rest] [Rdb F0 w0 s ps 2 (mks D)] (ha:a=i) (hb:b=j) (hi:i < D.length) (hj:j < D.length) (hk:∀ w',St F0 w0 w' ps→Z (ltB D[i].1 D[j].1) w') :
 cvB Tryz.prog (lessV lb) [.int .i64 a,.int .i64 b] w Z:=by
 subst ha hb
 unfold cvB lessV
 simp only [plain_less]
 refine midx_less.c (s:=s) (D:=D) h hi hj fun w h=>⟨_,rfl,hk w h⟩
theorem mswp {a b:Int} {Z:World→Prop} (h:St F0 w0 w (qv 2 s (mks (A ++ x :: (M ++ y :: B))) :: ps)) (ha:a=A.length) (hb:b=((A.length+1+M.length:Nat):Int)) (hk:∀ w',St F0 w0 w' (qv 2 s (mks (A ++ y :: (M ++ x :: B))) :: ps)→Z w') :
 cv0 Tryz.prog (swapV s) [.int .i64 a,.int .i64 b] w Z:=by
 subst ha hb
 unfold cv0 swapV
 simp only [qsm]
 have h1:A.length < (A ++ x :: (M ++ y :: B)).length:=by simp
 have h2:A.length+1+M.length < (A ++ x :: (M ++ y :: B)).length:=by simp; omega
 refine St.mswap (L:=A ++ x :: (M ++ y :: B)) (i:=A.length) (j:=A.length+1+M.length) h h1 h2 fun w' h'=>hk w' ?_
 rw [sw_list h1 h2] at h'
 exact h'
theorem mswp' {a b:Int} {Z:World→Prop} (h:St F0 w0 w (qv 2 s (mks (A ++ x :: (M ++ y :: B))) :: ps)) (ha:a=A.length) (hb:b=((A.length+1+M.length:Nat):Int)) (hk:∀ w',St F0 w0 w' (qv 2 s (mks (A ++ y :: (M ++ x :: B))) :: ps)→Z w') :
 cv0 Tryz.prog (swapV s) [.int .i64 b,.int .i64 a] w Z:=by
 subst ha hb
 unfold cv0 swapV
 simp only [qsm]
 have h1:A.length < (A ++ x :: (M ++ y :: B)).length:=by simp
 have h2:A.length+1+M.length < (A ++ x :: (M ++ y :: B)).length:=by simp; omega
 refine St.mswap (L:=A ++ x :: (M ++ y :: B)) (i:=A.length+1+M.length) (j:=A.length) h h2 h1 fun w' h'=>hk w' ?_
 rw [sw_list' h1 h2] at h'
 exact h'
theorem mswapRange.c {P X M Y S:List Mk} {n:Nat} {K:Ending→World→Prop} (h:St F0 w0 w (qv 2 s (mks (P ++ X ++ M ++ Y ++ S)) :: ps)) (hX:X.length=n) (hY:Y.length=n) (hlen:(P ++ X ++ M ++ Y ++ S).length≤1000000)
 (hk:∀ w',St F0 w0 w' (qv 2 s (mks (P ++ Y ++ M ++ X ++ S)) :: ps)→K (.returned (.tuple ⟨[]⟩)) w') :
 Calls Tryz.prog 110 ⟨[.agg ⟨dtV lb s⟩,.int .i64 (P.length:Int),.int .i64 ((P.length+X.length+M.length:Nat):Int),.int .i64 (n:Int)]⟩ w K:=by
 refine qsb (qnb.ok _ _ _ _ _ _ ?_)
 unfold qnb
 refine h.new fun db w h=>?_
 have h:St F0 w0 w (qv 2 s (mks (P ++ X ++ M ++ Y ++ S)) :: qt db (dtV lb s) :: ps):=by
  have h0:St F0 w0 w (qt db (dtV lb s) :: qv 2 s (mks (P ++ X ++ M ++ Y ++ S)) :: ps):=h
  exact h0.sub
 unfold qnb.j1
 simp only [List.length_append] at hlen
 refine qud (fun (i:Nat) (i':Int) w'=>i'=i∧i≤n∧St F0 w0 w' (qv 2 s (mks (P ++ (Y.take i ++ X.drop i) ++ M ++ (X.take i ++ Y.drop i) ++ S)) :: qt db (dtV lb s) :: ps)) (fun i=>n - i) 0 ⟨rfl,by omega,by simpa using h⟩ ?_
 clear h
 rintro i i' wL I μ ⟨rfl,hi,h⟩ hin
 unfold qnb.b1
 refine qsc (fun g=>?_) (fun g=>?_)
 · have hiX:i < X.length:=by omega
   have hiY:i < Y.length:=by omega
   have eX:X.drop i=X[i] :: X.drop (i+1):=List.drop_eq_getElem_cons hiX
   have eY:Y.drop i=Y[i] :: Y.drop (i+1):=List.drop_eq_getElem_cons hiY
   have l1:(Y.take i).length=i:=by rw [List.length_take]; omega
   have l2:(X.take i).length=i:=by rw [List.length_take]; omega
   have l3:(X.drop (i+1)).length=X.length - (i+1):=List.length_drop
   refine (h.toB db).blk.ldVo (o:=1) (v:=swapV s) rfl ?_
   with_reducible refine qx (e':=((P.length+i:Nat):Int)) (by rw [qh (by omega) (by omega)]; omega) ?_
   with_reducible refine qx (e':=((P.length+X.length+M.length+i:Nat):Int)) (by rw [qh (by omega) (by omega)]; omega) ?_
   have h':St F0 w0 wL (qv 2 s (mks ((P ++ Y.take i) ++ X[i] :: ((X.drop (i+1) ++ M ++ X.take i) ++ Y[i] :: (Y.drop (i+1) ++ S)))) :: qt db (dtV lb s) :: ps):=by
    rw [eX,eY] at h
    simp only [List.append_assoc,List.cons_append] at h ⊢
    exact h
   with_reducible refine mswp (A:=P ++ Y.take i) (M:=X.drop (i+1) ++ M ++ X.take i) (B:=Y.drop (i+1) ++ S) (x:=X[i]) (y:=Y[i]) h' (by rw [List.length_append,l1]) (by simp only [List.length_append,l1,l2,l3]; omega) fun w h=>?_
   refine qx (qh (by omega) (by omega)) ?_
   refine ⟨⟨rfl,rfl,rfl,rfl⟩,hin (i+1) _ _ ⟨by omega,by omega,?_⟩ (by omega)⟩
   rw [List.take_succ_eq_append_getElem hiY,List.take_succ_eq_append_getElem hiX]
   simp only [List.append_assoc,List.cons_append,List.nil_append] at h ⊢
   exact h
 · have:i=n:=by omega
   subst this
   rw [List.take_of_length_le (by omega),List.drop_of_length_le (by omega),List.take_of_length_le (by omega),List.drop_of_length_le (by omega),List.append_nil,List.append_nil] at h
   exact hk wL h.sub
end
end Go.Proofs.YtonmgkkkiejicaaGreat
namespace Go.Proofs.YtonmgkkkiejicaaGreat
open Go Go.Proofs
set_option linter.unusedVariables false
set_option linter.unusedSimpArgs false
attribute [local irreducible] apK cpK mkK br
theorem qmj (lb:Nat) (s:Sl):(dtV lb s).length=2:=rfl
theorem dt_0 (lb:Nat) (s:Sl):(dtV lb s)[0]?=some (lessV lb):=rfl
theorem dt_1 (lb:Nat) (s:Sl):(dtV lb s)[1]?=some (swapV s):=rfl
attribute [local irreducible] lessV swapV dtV
section
variable {F0:List Nat} {w0 w:World} {ps rest:List As} {s:Sl} {lb:Nat}
theorem mswapRange.d {P X M Y S:List Mk} {n:Nat} {a b c:Int} {K:Ending→World→Prop} (h:St F0 w0 w (qv 2 s (mks (P ++ X ++ M ++ Y ++ S)) :: ps)) (hX:X.length=n) (hY:Y.length=n) (hlen:(P ++ X ++ M ++ Y ++ S).length≤1000000) (ha:a=P.length) (hb:b=((P.length+X.length+M.length:Nat):Int)) (hc:c=n)
 (hk:∀ w',St F0 w0 w' (qv 2 s (mks (P ++ Y ++ M ++ X ++ S)) :: ps)→K (.returned (.tuple ⟨[]⟩)) w') :
 Calls Tryz.prog 110 ⟨[.agg ⟨dtV lb s⟩,.int .i64 a,.int .i64 b,.int .i64 c]⟩ w K:=by
 subst ha hb hc
 exact mswapRange.c h hX hY hlen hk
theorem mrotate.c {P A B S:List Mk} {a b c:Int} {K:Ending→World→Prop} (h:St F0 w0 w (qv 2 s (mks (P ++ A ++ B ++ S)) :: ps)) (hA:0 < A.length) (hB:0 < B.length) (hlen:(P ++ A ++ B ++ S).length≤1000000) (ha:a=P.length) (hb:b=((P.length+A.length:Nat):Int)) (hc:c=((P.length+A.length+B.length:Nat):Int))
 (hk:∀ w',St F0 w0 w' (qv 2 s (mks (P ++ B ++ A ++ S)) :: ps)→K (.returned (.tuple ⟨[]⟩)) w') :
 Calls Tryz.prog 101 ⟨[.agg ⟨dtV lb s⟩,.int .i64 a,.int .i64 b,.int .i64 c]⟩ w K:=by
 subst ha hb hc
 simp only [List.length_append] at hlen
 refine qsb (qgb.ok _ _ _ _ _ _ ?_)
 unfold qgb
 refine h.new fun db w h=>?_
 have h:St F0 w0 w (qv 2 s (mks (P ++ A ++ B ++ S)) :: qt db (dtV lb s) :: ps):=by
  have h0:St F0 w0 w (qt db (dtV lb s) :: qv 2 s (mks (P ++ A ++ B ++ S)) :: ps):=h
  exact h0.sub
 unfold qgb.j1
 refine qx (show IntKind.i64.wrap (((P.length+A.length:Nat):Int) - (P.length:Int))=(A.length:Int) by rw [qh (by omega) (by omega)]; omega) ?_
 refine qx (show IntKind.i64.wrap (((P.length+A.length+B.length:Nat):Int) - ((P.length+A.length:Nat):Int))=(B.length:Int) by rw [qh (by omega) (by omega)]; omega) ?_
 unfold qgb.j2
 generalize hT:P ++ B ++ A ++ S=T at hk
 generalize hM:P.length+A.length=M
 refine loop2 (fun (a:List Mk × List Mk × List Mk × List Mk) (i j:Int) w'=>i=(a.2.1.length:Int)∧j=(a.2.2.1.length:Int)∧a.1.length+a.2.1.length=M∧0 < a.2.1.length∧0 < a.2.2.1.length∧a.1.length+a.2.1.length+a.2.2.1.length+a.2.2.2.length≤1000000 ∧
  a.1 ++ a.2.2.1 ++ a.2.1 ++ a.2.2.2=T∧St F0 w0 w' (qv 2 s (mks (a.1 ++ a.2.1 ++ a.2.2.1 ++ a.2.2.2)) :: qt db (dtV lb s) :: ps)) (fun a=>a.2.1.length+a.2.2.1.length) (P,A,B,S) ⟨rfl,rfl,hM,hA,hB,by simp only; omega,hT,h⟩ ?_
 clear h hA hB hT hM hlen
 rintro ⟨P,A,B,S⟩ i j wL I μ ⟨rfl,rfl,hM,hA,hB,hlen,hT,h⟩ hin
 simp only at hM hA hB hlen hT h hin ⊢
 unfold qgb.b1
 refine qmd (fun g=>?_) (fun g=>?_)
 · have g:¬ (A.length:Int)=(B.length:Int):=by simpa using g
   refine qsc (fun g2=>?_) (fun g2=>?_)
   · refine h.lA (b:=db) (qmj _ _) ?_
     refine qx (show IntKind.i64.wrap ((M:Int) - (A.length:Int))=(P.length:Int) by rw [qh (by omega) (by omega)]; omega) ?_
     have l1:(A.take B.length).length=B.length:=by rw [List.length_take]; omega
     have l2:(A.drop B.length).length=A.length - B.length:=List.length_drop
     have h':St F0 w0 wL (qv 2 s (mks (P ++ A.take B.length ++ A.drop B.length ++ B ++ S)) :: qt db (dtV lb s) :: ps):=by rw [List.append_assoc P,List.take_append_drop]; exact h
     refine mswapRange.d (n:=B.length) h' l1 rfl (by simp only [List.length_append,l1,l2]; omega) rfl (by rw [l1,l2]; omega) rfl fun w h=>⟨rfl,?_⟩
     refine qx (show IntKind.i64.wrap ((A.length:Int) - (B.length:Int))=((A.drop B.length).length:Int) by rw [qh (by omega) (by omega),l2]; omega) ?_
     refine ⟨⟨rfl,rfl⟩,hin (P ++ B,A.drop B.length,A.take B.length,S) _ _ _ ⟨rfl,by rw [l1],by simp only [List.length_append]; omega,by simp only; omega,by simp only; omega,by simp only [List.length_append]; omega,?_,h⟩ (by simp only; omega)⟩
     simp only
     rw [← hT,List.append_assoc (P ++ B) (A.take _),List.take_append_drop]
   · refine h.lA (b:=db) (qmj _ _) ?_
     refine qx (show IntKind.i64.wrap ((M:Int) - (A.length:Int))=(P.length:Int) by rw [qh (by omega) (by omega)]; omega) ?_
     refine qx (qh (by omega) (by omega)) ?_
     refine qx (show IntKind.i64.wrap ((M:Int)+(B.length:Int) - (A.length:Int))=((P.length+A.length+(B.length - A.length):Nat):Int) by rw [qh (by omega) (by omega)]; omega) ?_
     have l1:(B.take (B.length - A.length)).length=B.length - A.length:=by rw [List.length_take]; omega
     have l2:(B.drop (B.length - A.length)).length=A.length:=by rw [List.length_drop]; omega
     have h':St F0 w0 wL (qv 2 s (mks (P ++ A ++ B.take (B.length - A.length) ++ B.drop (B.length - A.length) ++ S)) :: qt db (dtV lb s) :: ps):=by rw [List.append_assoc (P ++ A),List.take_append_drop]; exact h
     refine mswapRange.d (n:=A.length) h' rfl l2 (by simp only [List.length_append,l1,l2]; omega) rfl (by rw [l1]) rfl fun w h=>⟨rfl,?_⟩
     refine qx (show IntKind.i64.wrap ((B.length:Int) - (A.length:Int))=((B.take (B.length - A.length)).length:Int) by rw [qh (by omega) (by omega),l1]; omega) ?_
     refine ⟨⟨rfl,rfl⟩,hin (P,B.drop (B.length - A.length),B.take (B.length - A.length),A ++ S) _ _ _ ⟨by rw [l2],rfl,by simp only; omega,by simp only; omega,by simp only; omega,by simp only [List.length_append]; omega,?_,by simpa using h⟩ (by simp only; omega)⟩
     simp only
     rw [← hT,List.append_assoc P (B.take _),List.take_append_drop]
     simp only [List.append_assoc]
 · have g:(A.length:Int)=(B.length:Int):=by simpa using g
   unfold qgb.j3
   refine h.lA (b:=db) (qmj _ _) ?_
   refine qx (show IntKind.i64.wrap ((M:Int) - (A.length:Int))=(P.length:Int) by rw [qh (by omega) (by omega)]; omega) ?_
   have h':St F0 w0 wL (qv 2 s (mks (P ++ A ++ [] ++ B ++ S)) :: qt db (dtV lb s) :: ps):=by rw [List.append_nil]; exact h
   refine mswapRange.d (n:=A.length) h' rfl (by omega) (by simp only [List.length_append,List.length_nil]; omega) rfl (by rw [List.length_nil]; omega) rfl fun w h=>⟨rfl,hk w ?_⟩
   have h2:St F0 w0 w (qv 2 s (mks (P ++ B ++ [] ++ A ++ S)) :: ps):=h.sub
   rw [← hT]
   simpa using h2
end
end Go.Proofs.YtonmgkkkiejicaaGreat
namespace Go.Proofs.YtonmgkkkiejicaaGreat
open Go Go.Proofs
set_option linter.unusedVariables false
set_option linter.unusedSimpArgs false
attribute [local irreducible] apK cpK mkK br lessV swapV dtV
theorem insM_at {α:Type} {k:α→Int} {x:α}:∀ {T1 T2:List α},(∀ y ∈ T1,¬ k x < k y)→(∀ y ∈ T2,k x < k y)→insR k x (T1 ++ T2)=T1 ++ x :: T2:=by
 intro T1
 induction T1 with
 | nil =>
   intro T2 _ h2
   cases T2 with
   | nil=>rfl
   | cons y T2 =>
     show insR k x (y :: T2)=_
     rw [insR,if_pos (h2 y (by simp))]; rfl
 | cons y T1 ih =>
   intro T2 h1 h2
   rw [List.cons_append,insR,if_neg (h1 y (by simp)),ih (fun z hz=>h1 z (by simp [hz])) h2]; rfl
def KeyM (wt:Mk→Int) (X:List Mk):Prop:=∀ x ∈ X,∀ y ∈ X,ltB x.1 y.1=decide (wt x < wt y)
theorem KeyM.sub {wt:Mk→Int} {X Y:List Mk} (h:KeyM wt X) (hs:∀ x ∈ Y,x ∈ X):KeyM wt Y:=fun x hx y hy=>h x (hs x hx) y (hs y hy)
section
variable {F0:List Nat} {w0 w:World} {ps rest:List As} {s:Sl} {lb:Nat} {wt:Mk→Int}
theorem minsertion.c {P X S:List Mk} {a b:Int} {K:Ending→World→Prop} (h:St F0 w0 w (qv 2 s (mks (P ++ X ++ S)) :: ps)) [PkB lb ps [.slice s.a s.len s.cap] rest] (hkey:KeyM wt X) (hlen:(P ++ X ++ S).length≤1000000) (ha:a=P.length) (hb:b=((P.length+X.length:Nat):Int))
 (hk:∀ w',St F0 w0 w' (qv 2 s (mks (P ++ qad wt X ++ S)) :: ps)→K (.returned (.tuple ⟨[]⟩)) w') :
 Calls Tryz.prog 83 ⟨[.agg ⟨dtV lb s⟩,.int .i64 a,.int .i64 b]⟩ w K:=by
 subst ha hb
 simp only [List.length_append] at hlen
 refine qsb (qj.ok _ _ _ _ _ ?_)
 unfold qj
 refine h.new fun db w h=>?_
 have h:St F0 w0 w (qv 2 s (mks (P ++ X ++ S)) :: qt db (dtV lb s) :: ps):=by
  have h0:St F0 w0 w (qt db (dtV lb s) :: qv 2 s (mks (P ++ X ++ S)) :: ps):=h
  exact h0.sub
 refine qx (show IntKind.i64.wrap ((P.length:Int)+1)=((P.length+1:Nat):Int) by rw [qh (by omega) (by omega)]; omega) ?_
 unfold qj.j1
 have e1:qad wt (X.take 1) ++ X.drop 1=X:=by
  cases X with
  | nil=>rfl
  | cons x X=>rfl
 refine qud (fun (c:Nat) (i':Int) w'=>i'=((P.length+c:Nat):Int)∧1≤c∧c≤X.length+1∧St F0 w0 w' (qv 2 s (mks (P ++ (qad wt (X.take c) ++ X.drop c) ++ S)) :: qt db (dtV lb s) :: ps)) (fun c=>X.length+1 - c) 1 ⟨rfl,by omega,by omega,by rw [e1]; exact h⟩ ?_
 clear h e1
 rintro c i' wL I μ ⟨rfl,hc1,hc2,h⟩ hin
 unfold qj.b1
 refine qsc (fun g=>?_) (fun g=>?_)
 · have hcX:c < X.length:=by omega
   have eX:X.drop c=X[c] :: X.drop (c+1):=List.drop_eq_getElem_cons hcX
   have lS:(qad wt (X.take c)).length=c:=by rw [qac,List.length_take]; omega
   have hS:=qag (k:=wt) (X.take c)
   have hTX:∀ y ∈ qad wt (X.take c),y ∈ X:=fun y hy=>List.mem_of_mem_take ((qzg (X.take c)).mem_iff.1 hy)
   have hxX:X[c] ∈ X:=List.getElem_mem hcX
   have hnx:qad wt (X.take (c+1))=insR wt X[c] (qad wt (X.take c)):=by rw [List.take_succ_eq_append_getElem hcX,qyg]
   rw [eX] at h
   generalize X[c]=x at h hnx hxX
   generalize qad wt (X.take c)=T at h hnx lS hS hTX
   unfold qj.j2 qj.j4
   have h0:St F0 w0 wL (qv 2 s (mks (P ++ T ++ x :: ([] ++ (X.drop (c+1) ++ S)))) :: qt db (dtV lb s) :: ps):=by
    simp only [List.append_assoc,List.cons_append,List.nil_append] at h ⊢
    exact h
   have done:∀ (T1 T2:List Mk) (w:World),T1 ++ T2=T→(∀ y ∈ T1,¬ wt x < wt y)→(∀ y ∈ T2,wt x < wt y)→St F0 w0 w (qv 2 s (mks (P ++ T1 ++ x :: (T2 ++ (X.drop (c+1) ++ S)))) :: qt db (dtV lb s) :: ps) →
    qj.j3 (P.length:Int) ((P.length+X.length:Nat):Int) ⟨db,0,none⟩ ((P.length+c:Nat):Int) (fun v w'=>K (.returned v) w') (fun a' b' d' i' w'=>(a'=(P.length:Int)∧b'=((P.length+X.length:Nat):Int)∧d'=⟨db,0,none⟩)∧I i' w'∧μ i' w' < μ ((P.length+c:Nat):Int) wL) w:=by
    intro T1 T2 w hT h1 h2 h
    unfold qj.j3
    refine qx (show IntKind.i64.wrap (((P.length+c:Nat):Int)+1)=((P.length+(c+1):Nat):Int) by rw [qh (by omega) (by omega)]; omega) ?_
    refine ⟨⟨rfl,rfl,rfl⟩,hin (c+1) _ _ ⟨rfl,by omega,by omega,?_⟩ (by omega)⟩
    rw [hnx,← hT,insM_at h1 h2]
    simp only [List.append_assoc,List.cons_append] at h ⊢
    exact h
   refine qud (fun (a:List Mk × List Mk) (j':Int) w'=>j'=((P.length+a.1.length:Nat):Int)∧a.1 ++ a.2=T∧(∀ y ∈ a.2,wt x < wt y)∧St F0 w0 w' (qv 2 s (mks (P ++ a.1 ++ x :: (a.2 ++ (X.drop (c+1) ++ S)))) :: qt db (dtV lb s) :: ps)) (fun a=>a.1.length) (T,[]) ⟨by rw [lS],List.append_nil _,by simp,h0⟩ ?_
   clear h h0
   rintro ⟨T1,T2⟩ j' w2 I2 μ2 ⟨rfl,hT,h2,h⟩ hin2
   simp only at hT h2 h hin2 ⊢
   have lT:T1.length+T2.length=c:=by rw [← lS,← hT,List.length_append]
   unfold qj.b2
   refine qsc (fun g1=>?_) (fun g1=>?_)
   · have hne:T1 ≠ []:=by intro e; subst e; simp at g1
     obtain ⟨T0,y,rfl⟩:∃ T0 y,T1=T0 ++ [y]:=⟨T1.dropLast,T1.getLast hne,(List.dropLast_concat_getLast hne).symm⟩
     rw [List.length_append,List.length_singleton] at lT
     have eD:P ++ (T0 ++ [y]) ++ x :: (T2 ++ (X.drop (c+1) ++ S))=(P ++ T0) ++ y :: ([] ++ x :: (T2 ++ (X.drop (c+1) ++ S))):=by simp only [List.append_assoc,List.cons_append,List.nil_append]
     have ejy:IntKind.i64.wrap (((P.length+(T0 ++ [y]).length:Nat):Int) - 1)=((P ++ T0).length:Int):=by rw [List.length_append,List.length_append,List.length_singleton,qh (by omega) (by omega)]; omega
     have ejx:((P.length+(T0 ++ [y]).length:Nat):Int)=(((P ++ T0).length+1+([]:List Mk).length:Nat):Int):=by rw [List.length_append,List.length_append,List.length_singleton,List.length_nil]; omega
     have hyX:y ∈ X:=hTX y (by rw [← hT]; simp)
     rw [eD] at h
     refine (h.toB db).blk.ldVo (dt_0 lb s) ?_
     refine qx ejy ?_
     have hg1:((P ++ T0) ++ y :: ([] ++ x :: (T2 ++ (X.drop (c+1) ++ S))))[(P ++ T0).length+1+([]:List Mk).length]'(by simp; omega)=x:=by
      rw [List.getElem_append_right (by omega)]
      have:(P ++ T0).length+1+([]:List Mk).length - (P ++ T0).length=1:=by simp only [List.length_nil]; omega
      simp only [this,List.nil_append,List.getElem_cons_succ,List.getElem_cons_zero]
     have hg2:((P ++ T0) ++ y :: ([] ++ x :: (T2 ++ (X.drop (c+1) ++ S))))[(P ++ T0).length]'(by simp)=y:=by
      rw [List.getElem_append_right (Nat.le_refl _)]
      simp only [Nat.sub_self,List.getElem_cons_zero]
     refine mless (s:=s) (D:=(P ++ T0) ++ y :: ([] ++ x :: (T2 ++ (X.drop (c+1) ++ S)))) h ejx rfl (by simp; omega) (by simp) fun w h=>?_
     rw [hg1,hg2,hkey x hxX y hyX]
     refine qsc (fun g2=>?_) (fun g2=>?_)
     · refine (h.toB db).blk.ldVo (dt_1 lb s) ?_
       refine qx ejy ?_
       refine mswp' h rfl ejx fun w h=>?_
       refine qx (ejy.trans (show ((P ++ T0).length:Int)=((P.length+T0.length:Nat):Int) by rw [List.length_append])) ?_
       refine ⟨⟨rfl,rfl,rfl,rfl⟩,hin2 (T0,y :: T2) _ _ ⟨rfl,by rw [← hT]; simp,?_,?_⟩ (by simp)⟩
       · intro z hz
         rcases List.mem_cons.1 hz with rfl | hz
         · exact g2
         · exact h2 z hz
       · simp only [List.append_assoc,List.cons_append,List.nil_append] at h ⊢
         exact h
     · rw [← eD] at h
       refine done (T0 ++ [y]) T2 w hT ?_ h2 h
       intro z hz
       rw [← hT] at hS
       have hS:=(List.pairwise_append.1 (List.pairwise_append.1 hS).1).2.2
       rcases List.mem_append.1 hz with hz | hz
       · have:=hS z hz y (by simp)
         omega
       · rw [List.mem_singleton.1 hz]; exact g2
   · have hne:T1=[]:=by
      cases T1 with
      | nil=>rfl
      | cons y T1=>exfalso; simp only [List.length_cons] at g1; omega
     subst hne
     exact done [] T2 _ hT (by simp) h2 h
 · refine hk wL ?_
   rw [List.take_of_length_le (by omega),List.drop_of_length_le (by omega),List.append_nil] at h
   exact h.sub
end
end Go.Proofs.YtonmgkkkiejicaaGreat
namespace Go.Proofs.YtonmgkkkiejicaaGreat
open Go Go.Proofs
set_option linter.unusedVariables false
set_option linter.unusedSimpArgs false
attribute [local irreducible] apK cpK mkK br
abbrev Pk:=Int × Sl
section
variable {F0:List Nat} {w0 w:World} {ps rest:List As} {D A B:List Pk} {x y:Pk} {s:Sl}
end
end Go.Proofs.YtonmgkkkiejicaaGreat
namespace Go.Proofs.YtonmgkkkiejicaaGreat
open Go Go.Proofs
set_option linter.unusedVariables false
set_option linter.unusedSimpArgs false
attribute [local irreducible] apK cpK mkK br
def wt (x:Pk):Int:=x.1
section
variable {F0:List Nat} {w0 w:World} {ps rest:List As} {s:Sl}
end
end Go.Proofs.YtonmgkkkiejicaaGreat
namespace Go.Proofs.YtonmgkkkiejicaaGreat
open Go Go.Proofs
set_option linter.unusedVariables false
set_option linter.unusedSimpArgs false
attribute [local irreducible] apK cpK mkK br
theorem srt_take {α:Type} {k:α→Int} {l:List α} (h:srt k l) (n:Nat):srt k (l.take n):=List.Pairwise.sublist (List.take_sublist n l) h
theorem srt_drop {α:Type} {k:α→Int} {l:List α} (h:srt k l) (n:Nat):srt k (l.drop n):=List.Pairwise.sublist (List.drop_sublist n l) h
theorem qtk {α:Type} {k:α→Int} {l:List α} (h:srt k l) {i j:Nat} (hij:i≤j) (hj:j < l.length):k (l[i]'(by omega))≤k l[j]:=by
 rcases Nat.eq_or_lt_of_le hij with e | e
 · subst e; exact Int.le_refl _
 · exact List.pairwise_iff_getElem.1 h i j (by omega) hj e
theorem qsh {α:Type} {l:List α} {n:Nat} {x:α} (h:x ∈ l.take n):∃ i,∃ (hi:i < l.length),i < n∧l[i]=x:=by
 obtain ⟨i,hi,e⟩:=List.mem_iff_getElem.1 h
 rw [List.length_take] at hi
 exact ⟨i,by omega,by omega,by rw [← e,List.getElem_take]⟩
theorem quh {α:Type} {l:List α} {n:Nat} {x:α} (h:x ∈ l.drop n):∃ i,∃ (hi:i < l.length),n≤i∧l[i]=x:=by
 obtain ⟨i,hi,e⟩:=List.mem_iff_getElem.1 h
 rw [List.length_drop] at hi
 exact ⟨n+i,by omega,by omega,by rw [← e,List.getElem_drop]⟩
theorem half_i {lo hi:Nat} {K:Int→Prop} (h:lo+hi < 4611686018427387904) (hk:K (((lo+hi) / 2:Nat):Int)) :
 lt (IntKind.i64.wrap ((lo:Int)+(hi:Int))) fun x8=>lt (IntKind.u64.wrap x8) fun x9=>(0:Int)≤1∧lt (shrV .u64 x9 1) fun x10=>lt (IntKind.i64.wrap x10) fun x11=>K x11:=by
 refine qx (qh (by omega) (by omega)) ?_
 have e1:IntKind.u64.wrap ((lo:Int)+hi)=(lo:Int)+hi:=by
  have e:∀ x,IntKind.u64.wrap x=x % 18446744073709551616:=fun x=>by simp [IntKind.wrap,IntKind.bits,IntKind.signed]
  rw [e]; omega
 refine qx e1 ⟨by decide,?_⟩
 have e2:shrV .u64 ((lo:Int)+hi) 1=(((lo+hi) / 2:Nat):Int):=by
  unfold shrV
  have:((lo:Int)+(hi:Int))=((lo+hi:Nat):Int):=by omega
  rw [this]
  show Int.fdiv ((lo+hi:Nat):Int) 2=_
  rw [Int.fdiv_eq_ediv_of_nonneg _ (by decide)]
  omega
 refine qx e2 ?_
 exact qx (qh (by omega) (by omega)) hk
section
variable {F0:List Nat} {w0 w:World} {ps rest:List As} {s:Sl}
end
end Go.Proofs.YtonmgkkkiejicaaGreat
namespace Go.Proofs.YtonmgkkkiejicaaGreat
open Go Go.Proofs
set_option linter.unusedVariables false
set_option linter.unusedSimpArgs false
attribute [local irreducible] apK cpK mkK br lessV swapV dtV
theorem gtA {α:Type} {P A B S:List α} {i:Nat} (h:i < A.length) (h2:P.length+i < (P ++ A ++ B ++ S).length):(P ++ A ++ B ++ S)[P.length+i]=A[i]:=by
 simp only [List.append_assoc]
 rw [List.getElem_append_right (by omega)]
 simp [List.getElem_append_left,h]
theorem gtB {α:Type} {P A B S:List α} {i:Nat} (h:i < B.length) (h2:P.length+A.length+i < (P ++ A ++ B ++ S).length):(P ++ A ++ B ++ S)[P.length+A.length+i]=B[i]:=by
 have e:P ++ A ++ B ++ S=(P ++ A) ++ B ++ [] ++ S:=by simp
 have h3:(P ++ A).length+i < ((P ++ A) ++ B ++ [] ++ S).length:=by simp only [List.length_append] at h2 ⊢; simp; omega
 have:=gtA (P:=P ++ A) (A:=B) (B:=[]) (S:=S) h h3
 rw [← this]
 congr 1
 simp
section
variable {F0:List Nat} {w0 w:World} {ps r1 r2:List As} {s:Sl} {lb db:Nat} {wt:Mk→Int}
theorem mup.c {P B1 R:List Mk} {x:Mk} {b:Int} {K:Ending→World→Prop} (h:St F0 w0 w (qv 2 s (mks (P ++ x :: (B1 ++ R))) :: ps)) [PkB db ps (dtV lb s) r1] (hlen:(P ++ x :: (B1 ++ R)).length≤1000000) (hb:b=((P.length+1+B1.length:Nat):Int))
 (hk:∀ w',St F0 w0 w' (qv 2 s (mks (P ++ B1 ++ x :: R)) :: ps)→K (.returned (.tuple ⟨[]⟩)) w') :
 qd.j17 (P.length:Int) ⟨db,0,none⟩ b (fun v w'=>K (.returned v) w') w:=by
 subst hb
 simp only [List.length_append,List.length_cons] at hlen
 unfold qd.j17 qd.j19
 refine qud (fun (c:Nat) (k':Int) w'=>k'=((P.length+c:Nat):Int)∧c≤B1.length∧St F0 w0 w' (qv 2 s (mks (P ++ B1.take c ++ x :: (B1.drop c ++ R))) :: ps)) (fun c=>B1.length - c) 0 ⟨by simp,by omega,by simpa using h⟩ ?_
 clear h
 rintro c k' wL I μ ⟨rfl,hc,h⟩ hin
 unfold qd.b4
 refine qx (qh (by omega) (by omega)) ?_
 refine qsc (fun g=>?_) (fun g=>?_)
 · have hcB:c < B1.length:=by omega
   have eB:B1.drop c=B1[c] :: B1.drop (c+1):=List.drop_eq_getElem_cons hcB
   have lT:(B1.take c).length=c:=by rw [List.length_take]; omega
   rw [eB] at h
   refine (h.toB db).blk.ldVo (dt_1 lb s) ?_
   have e1:IntKind.i64.wrap (((P.length+c:Nat):Int)+1)=(((P ++ B1.take c).length+1+([]:List Mk).length:Nat):Int):=by rw [List.length_append,lT,List.length_nil,qh (by omega) (by omega)]; omega
   have e2:((P.length+c:Nat):Int)=((P ++ B1.take c).length:Int):=by rw [@List.length_append _ P,lT]
   refine qx e1 ?_
   have h':St F0 w0 wL (qv 2 s (mks (P ++ B1.take c ++ x :: ([] ++ B1[c] :: (B1.drop (c+1) ++ R)))) :: ps):=h
   refine mswp h' e2 rfl fun w h=>?_
   refine qx (show IntKind.i64.wrap (((P.length+c:Nat):Int)+1)=((P.length+(c+1):Nat):Int) by rw [qh (by omega) (by omega)]; omega) ?_
   refine ⟨⟨rfl,rfl⟩,hin (c+1) _ _ ⟨rfl,by omega,?_⟩ (by omega)⟩
   rw [List.take_succ_eq_append_getElem hcB]
   simp only [List.append_assoc,List.cons_append,List.nil_append] at h ⊢
   exact h
 · have:c=B1.length:=by omega
   subst this
   rw [List.take_length,List.drop_length,List.nil_append] at h
   unfold qd.j18
   exact hk wL h
theorem mdown.c {P A2 R:List Mk} {y:Mk} {a b:Int} {K:Ending→World→Prop} (h:St F0 w0 w (qv 2 s (mks (P ++ A2 ++ y :: R)) :: ps)) [PkB db ps (dtV lb s) r1] (hlen:(P ++ A2 ++ y :: R).length≤1000000) (ha:a=((P.length+A2.length:Nat):Int)) (hb:b=P.length)
 (hk:∀ w',St F0 w0 w' (qv 2 s (mks (P ++ y :: (A2 ++ R))) :: ps)→K (.returned (.tuple ⟨[]⟩)) w') :
 qd.j12 a ⟨db,0,none⟩ b (fun v w'=>K (.returned v) w') w:=by
 subst ha hb
 simp only [List.length_append,List.length_cons] at hlen
 unfold qd.j12 qd.j14
 refine qud (fun (a:List Mk × List Mk) (k':Int) w'=>k'=((P.length+a.1.length:Nat):Int)∧a.1 ++ a.2=A2∧St F0 w0 w' (qv 2 s (mks (P ++ a.1 ++ y :: (a.2 ++ R))) :: ps)) (fun a=>a.1.length) (A2,[]) ⟨rfl,by simp,by simpa using h⟩ ?_
 clear h
 rintro ⟨T1,T2⟩ k' wL I μ ⟨rfl,hT,h⟩ hin
 simp only at hT h hin ⊢
 have lT:T1.length+T2.length=A2.length:=by rw [← hT,List.length_append]
 unfold qd.b2
 refine qsc (fun g=>?_) (fun g=>?_)
 · have hne:T1 ≠ []:=by intro e; subst e; simp at g
   obtain ⟨T0,z,rfl⟩:∃ T0 z,T1=T0 ++ [z]:=⟨T1.dropLast,T1.getLast hne,(List.dropLast_concat_getLast hne).symm⟩
   rw [List.length_append,List.length_singleton] at lT
   refine (h.toB db).blk.ldVo (dt_1 lb s) ?_
   have e1:IntKind.i64.wrap (((P.length+(T0 ++ [z]).length:Nat):Int) - 1)=((P ++ T0).length:Int):=by rw [List.length_append,List.length_append,List.length_singleton,qh (by omega) (by omega)]; omega
   have e2:((P.length+(T0 ++ [z]).length:Nat):Int)=(((P ++ T0).length+1+([]:List Mk).length:Nat):Int):=by rw [List.length_append,List.length_append,List.length_singleton,List.length_nil]; omega
   refine qx e1 ?_
   have h':St F0 w0 wL (qv 2 s (mks ((P ++ T0) ++ z :: ([] ++ y :: (T2 ++ R)))) :: ps):=by
    simp only [List.append_assoc,List.cons_append,List.nil_append] at h ⊢
    exact h
   refine mswp' h' rfl e2 fun w h=>?_
   refine qx (e1.trans (show ((P ++ T0).length:Int)=((P.length+T0.length:Nat):Int) by rw [List.length_append])) ?_
   refine ⟨⟨rfl,rfl⟩,hin (T0,z :: T2) _ _ ⟨rfl,by rw [← hT]; simp,?_⟩ (by simp)⟩
   simp only [List.append_assoc,List.cons_append,List.nil_append] at h ⊢
   exact h
 · have hne:T1=[]:=by
    cases T1 with
    | nil=>rfl
    | cons z T1=>exfalso; simp only [List.length_cons] at g; omega
   subst hne
   rw [List.nil_append] at hT
   subst hT
   rw [List.append_nil] at h
   unfold qd.j13
   exact hk wL h
theorem mone.c {P B S:List Mk} {x:Mk} {a b:Int} {K:Ending→World→Prop} (h:St F0 w0 w (qv 2 s (mks (P ++ [x] ++ B ++ S)) :: ps)) [PkB db ps (dtV lb s) r1] [PkB lb ps [.slice s.a s.len s.cap] r2] (hkey:KeyM wt ([x] ++ B)) (hB:srt wt B) (hlen:(P ++ [x] ++ B ++ S).length≤1000000) (ha:a=((P.length+1:Nat):Int)) (hb:b=((P.length+1+B.length:Nat):Int))
 (hk:∀ w',St F0 w0 w' (qv 2 s (mks (P ++ mrg wt [x] B ++ S)) :: ps)→K (.returned (.tuple ⟨[]⟩)) w') :
 qd.j16 (P.length:Int) ⟨db,0,none⟩ a b (fun v w'=>K (.returned v) w') w:=by
 subst ha hb
 have hlen2:=hlen
 simp only [List.length_append,List.length_singleton] at hlen
 unfold qd.j16
 refine loop2 (fun (a:Nat × Nat) (i j:Int) w'=>i=((P.length+1+a.1:Nat):Int)∧j=((P.length+1+a.2:Nat):Int)∧a.1≤a.2∧a.2≤B.length∧(∀ y ∈ B.take a.1,wt y < wt x)∧(∀ y ∈ B.drop a.2,¬ wt y < wt x)∧St F0 w0 w' (qv 2 s (mks (P ++ [x] ++ B ++ S)) :: ps)) (fun a=>a.2 - a.1) (0,B.length) ⟨rfl,rfl,by simp,by simp,by simp,by simp,h⟩ ?_
 clear h
 rintro ⟨lo,hi⟩ i j wL I μ ⟨rfl,rfl,hlh,hhB,h1,h2,h⟩ hin
 simp only at hlh hhB h1 h2 h hin ⊢
 unfold qd.b5
 refine qsc (fun g=>?_) (fun g=>?_)
 · refine half_i (by omega) ?_
   obtain ⟨q,hq⟩:∃ q,(P.length+1+lo+(P.length+1+hi)) / 2=P.length+1+q:=⟨(lo+hi) / 2,by omega⟩
   rw [hq]
   have hqB:q < B.length:=by omega
   refine (h.toB db).blk.ldVo (dt_0 lb s) ?_
   have eg:=gtB (P:=P) (A:=[x]) (B:=B) (S:=S) hqB (by simp only [List.length_append,List.length_singleton]; omega)
   simp only [List.length_singleton] at eg
   have eg2:=gtA (P:=P) (A:=[x]) (B:=B) (S:=S) (i:=0) (by simp) (by simp only [List.length_append,List.length_singleton]; omega)
   simp only [Nat.add_zero,List.getElem_cons_zero] at eg2
   refine mless (s:=s) (D:=P ++ [x] ++ B ++ S) (i:=P.length+1+q) (j:=P.length) h rfl rfl (by simp only [List.length_append,List.length_singleton]; omega) (by simp only [List.length_append,List.length_singleton]; omega) fun w h=>?_
   rw [eg,eg2,hkey B[q] (by simp) x (by simp)]
   refine qsc (fun g2=>?_) (fun g2=>?_)
   · refine qx (show IntKind.i64.wrap (((P.length+1+q:Nat):Int)+1)=((P.length+1+(q+1):Nat):Int) by rw [qh (by omega) (by omega)]; omega) ?_
     refine ⟨⟨rfl,rfl⟩,hin (q+1,hi) _ _ _ ⟨rfl,rfl,by simp only; omega,hhB,?_,h2,h⟩ (by simp only; omega)⟩
     intro y hy
     obtain ⟨i,hi1,hi2,rfl⟩:=qsh hy
     have:=qtk hB (show i≤q by omega) hqB
     omega
   · refine ⟨⟨rfl,rfl⟩,hin (lo,q) _ _ _ ⟨rfl,rfl,by simp only; omega,by simp only; omega,h1,?_,h⟩ (by simp only; omega)⟩
     intro y hy
     obtain ⟨i,hi1,hi2,rfl⟩:=quh hy
     have:=qtk hB (show q≤i by omega) hi1
     omega
 · have:lo=hi:=by omega
   subst this
   have lT:(B.take lo).length=lo:=by rw [List.length_take]; omega
   refine mup.c (P:=P) (B1:=B.take lo) (R:=B.drop lo ++ S) (x:=x) (K:=K) (s:=s) (by
    rw [← List.append_assoc (B.take lo),List.take_append_drop]
    simpa using h) (by rw [← List.append_assoc (B.take lo),List.take_append_drop]; simpa using hlen2) (by rw [lT]) fun w h=>hk w (by
     have e:=mrg_cut (k:=wt) _ [] [x] (B.take lo) (B.drop lo) rfl (by intro a ha b hb; rw [List.mem_singleton.1 ha]; exact h1 b hb) (by simp)
     rw [List.nil_append,List.take_append_drop,qze,mrg_left [x] (B.drop lo) (by intro a ha b hb; rw [List.mem_singleton.1 ha]; have:=h2 b hb; omega)] at e
     rw [e]
     simpa using h)
theorem mlast.c {P A S:List Mk} {y:Mk} {a b c:Int} {K:Ending→World→Prop} (h:St F0 w0 w (qv 2 s (mks (P ++ A ++ [y] ++ S)) :: ps)) [PkB db ps (dtV lb s) r1] [PkB lb ps [.slice s.a s.len s.cap] r2] (hkey:KeyM wt (A ++ [y])) (hA:srt wt A) (hlen:(P ++ A ++ [y] ++ S).length≤1000000) (ha:a=((P.length+A.length:Nat):Int)) (hb:b=P.length) (hc:c=((P.length+A.length:Nat):Int))
 (hk:∀ w',St F0 w0 w' (qv 2 s (mks (P ++ mrg wt A [y] ++ S)) :: ps)→K (.returned (.tuple ⟨[]⟩)) w') :
 qd.j11 a ⟨db,0,none⟩ b c (fun v w'=>K (.returned v) w') w:=by
 subst ha hb hc
 have hlen2:=hlen
 simp only [List.length_append,List.length_singleton] at hlen
 unfold qd.j11
 refine loop2 (fun (a:Nat × Nat) (i j:Int) w'=>i=((P.length+a.1:Nat):Int)∧j=((P.length+a.2:Nat):Int)∧a.1≤a.2∧a.2≤A.length∧(∀ z ∈ A.take a.1,¬ wt y < wt z)∧(∀ z ∈ A.drop a.2,wt y < wt z)∧St F0 w0 w' (qv 2 s (mks (P ++ A ++ [y] ++ S)) :: ps)) (fun a=>a.2 - a.1) (0,A.length) ⟨by simp,rfl,by simp,by simp,by simp,by simp,h⟩ ?_
 clear h
 rintro ⟨lo,hi⟩ i j wL I μ ⟨rfl,rfl,hlh,hhA,h1,h2,h⟩ hin
 simp only at hlh hhA h1 h2 h hin ⊢
 unfold qd.b3
 refine qsc (fun g=>?_) (fun g=>?_)
 · refine half_i (by omega) ?_
   obtain ⟨q,hq⟩:∃ q,(P.length+lo+(P.length+hi)) / 2=P.length+q:=⟨(lo+hi) / 2,by omega⟩
   rw [hq]
   have hqA:q < A.length:=by omega
   refine (h.toB db).blk.ldVo (dt_0 lb s) ?_
   have eg:=gtB (P:=P) (A:=A) (B:=[y]) (S:=S) (i:=0) (by simp) (by simp only [List.length_append,List.length_singleton]; omega)
   simp only [Nat.add_zero,List.getElem_cons_zero] at eg
   refine mless (s:=s) (D:=P ++ A ++ [y] ++ S) (i:=P.length+A.length) (j:=P.length+q) h rfl rfl (by simp only [List.length_append,List.length_singleton]; omega) (by simp only [List.length_append,List.length_singleton]; omega) fun w h=>?_
   rw [eg,gtA (P:=P) (A:=A) (B:=[y]) (S:=S) hqA,hkey y (by simp) A[q] (by simp)]
   refine qmd (fun g2=>?_) (fun g2=>?_)
   · have g2:¬ wt y < wt A[q]:=by simpa using g2
     refine qx (show IntKind.i64.wrap (((P.length+q:Nat):Int)+1)=((P.length+(q+1):Nat):Int) by rw [qh (by omega) (by omega)]; omega) ?_
     refine ⟨⟨rfl,rfl⟩,hin (q+1,hi) _ _ _ ⟨rfl,rfl,by simp only; omega,hhA,?_,h2,h⟩ (by simp only; omega)⟩
     intro z hz
     obtain ⟨i,hi1,hi2,rfl⟩:=qsh hz
     have:=qtk hA (show i≤q by omega) hqA
     omega
   · have g2:wt y < wt A[q]:=by simpa using g2
     refine ⟨⟨rfl,rfl⟩,hin (lo,q) _ _ _ ⟨rfl,rfl,by simp only; omega,by simp only; omega,h1,?_,h⟩ (by simp only; omega)⟩
     intro z hz
     obtain ⟨i,hi1,hi2,rfl⟩:=quh hz
     have:=qtk hA (show q≤i by omega) hi1
     omega
 · have:lo=hi:=by omega
   subst this
   have lT:(A.take lo).length=lo:=by rw [List.length_take]; omega
   have lD:(A.drop lo).length=A.length - lo:=List.length_drop
   refine mdown.c (P:=P ++ A.take lo) (A2:=A.drop lo) (R:=S) (y:=y) (K:=K) (s:=s) (by
    rw [List.append_assoc P,List.take_append_drop]
    simpa using h) (by rw [List.append_assoc P,List.take_append_drop]; simpa using hlen2) (by rw [List.length_append,lT,lD]; omega) (by rw [List.length_append,lT]) fun w h=>hk w (by
     have e:=mrg_cut (k:=wt) _ (A.take lo) (A.drop lo) [y] [] rfl (by intro a ha b hb; rw [List.mem_singleton.1 hb]; exact h2 a ha) (by simp)
     rw [List.append_nil,List.take_append_drop,qxe,mrg_left (A.take lo) [y] (by intro a ha b hb; rw [List.mem_singleton.1 hb]; have:=h1 a ha; omega)] at e
     rw [e]
     simpa using h)
end
end Go.Proofs.YtonmgkkkiejicaaGreat
namespace Go.Proofs.YtonmgkkkiejicaaGreat
open Go Go.Proofs
set_option linter.unusedVariables false
set_option linter.unusedSimpArgs false
attribute [local irreducible] apK cpK mkK br lessV swapV dtV
theorem msymMerge.c {wt:Mk→Int}:∀ (n:Nat) {F0:List Nat} {w0 w:World} {ps r:List As} {s:Sl} {lb:Nat} {P A B S:List Mk} {a m b:Int} {K:Ending→World→Prop} [PkB lb ps [.slice s.a s.len s.cap] r],A.length+B.length≤n→St F0 w0 w (qv 2 s (mks (P ++ A ++ B ++ S)) :: ps)→KeyM wt (A ++ B)→srt wt A→srt wt B→0 < A.length→0 < B.length→(P ++ A ++ B ++ S).length≤1000000 →
 a=P.length→m=((P.length+A.length:Nat):Int)→b=((P.length+A.length+B.length:Nat):Int) →
 (∀ w',St F0 w0 w' (qv 2 s (mks (P ++ mrg wt A B ++ S)) :: ps)→K (.returned (.tuple ⟨[]⟩)) w') →
 Calls Tryz.prog 84 ⟨[.agg ⟨dtV lb s⟩,.int .i64 a,.int .i64 m,.int .i64 b]⟩ w K:=by
 intro n
 induction n with
 | zero=>intro F0 w0 w ps r s lb P A B S a m b K _ hn _ _ _ _ hA0 _ _ _ _ _ _; omega
 | succ n ih =>
   intro F0 w0 w ps r s lb P A B S a m b K iL hn h hkey hA hB hA0 hB0 hlen2 ha hm0 hb hk
   subst ha hm0 hb
   have hlen:=hlen2
   simp only [List.length_append] at hlen
   refine qsb (qd.ok _ _ _ _ _ _ ?_)
   unfold qd
   refine h.new fun db w h=>?_
   have h:St F0 w0 w (qv 2 s (mks (P ++ A ++ B ++ S)) :: qt db (dtV lb s) :: ps):=by
    have h0:St F0 w0 w (qt db (dtV lb s) :: qv 2 s (mks (P ++ A ++ B ++ S)) :: ps):=h
    exact h0.sub
   have hk:∀ w',St F0 w0 w' (qv 2 s (mks (P ++ mrg wt A B ++ S)) :: qt db (dtV lb s) :: ps)→K (.returned (.tuple ⟨[]⟩)) w':=fun w' h'=>hk w' h'.sub
   unfold qd.j1
   refine qx (show IntKind.i64.wrap (((P.length+A.length:Nat):Int) - (P.length:Int))=(A.length:Int) by rw [qh (by omega) (by omega)]; omega) ?_
   unfold qd.j15
   refine qmd (fun g=>?_) (fun g=>?_)
   · have g:(A.length:Int)=1:=by simpa using g
     obtain ⟨x,rfl⟩:∃ x,A=[x]:=List.length_eq_one_iff.1 (by omega)
     exact mone.c (lb:=lb) h hkey hB hlen2 rfl rfl hk
   have gA:¬ (A.length:Int)=1:=by simpa using g
   unfold qd.j2
   refine qx (show IntKind.i64.wrap (((P.length+A.length+B.length:Nat):Int) - ((P.length+A.length:Nat):Int))=(B.length:Int) by rw [qh (by omega) (by omega)]; omega) ?_
   unfold qd.j10
   refine qmd (fun g=>?_) (fun g=>?_)
   · have g:(B.length:Int)=1:=by simpa using g
     obtain ⟨y,rfl⟩:∃ y,B=[y]:=List.length_eq_one_iff.1 (by omega)
     exact mlast.c (lb:=lb) h hkey hA hlen2 rfl rfl rfl hk
   have gB:¬ (B.length:Int)=1:=by simpa using g
   unfold qd.j3
   refine half_i (by omega) ?_
   obtain ⟨md,hmd⟩:∃ md,(A.length+B.length) / 2=md:=⟨_,rfl⟩
   rw [show (P.length+(P.length+A.length+B.length)) / 2=P.length+md by omega]
   refine qx (show IntKind.i64.wrap (((P.length+md:Nat):Int)+((P.length+A.length:Nat):Int))=((P.length+md+(P.length+A.length):Nat):Int) by rw [qh (by omega) (by omega)]; omega) ?_
   have j6:∀ (t:Nat) (w:World),t≤A.length→t≤md→md - t≤B.length→(∀ (h1:t < A.length) (h2:0 < md - t) (h3:md - t - 1 < B.length),wt B[md - t - 1] < wt A[t])→(∀ (h1:0 < t) (h2:md - t < B.length) (h3:t - 1 < A.length),¬ wt B[md - t] < wt A[t - 1])→St F0 w0 w (qv 2 s (mks (P ++ A ++ B ++ S)) :: qt db (dtV lb s) :: ps) →
    qd.j7 (P.length:Int) ((P.length+A.length:Nat):Int) ((P.length+A.length+B.length:Nat):Int) ⟨db,0,none⟩ ((P.length+md:Nat):Int) ((P.length+md+(P.length+A.length):Nat):Int) ((P.length+t:Nat):Int) (fun v w'=>K (.returned v) w') w:=by
    intro t w ht1 ht2 ht3 hlt hge h
    have lA1:(A.take t).length=t:=by rw [List.length_take]; omega
    have lA2:(A.drop t).length=A.length - t:=List.length_drop
    have lB1:(B.take (md - t)).length=md - t:=by rw [List.length_take]; omega
    have lB2:(B.drop (md - t)).length=B.length - (md - t):=List.length_drop
    have c1:∀ a ∈ A.drop t,∀ b ∈ B.take (md - t),wt b < wt a:=by
     intro a ha b hb
     obtain ⟨i,hi1,hi2,rfl⟩:=quh ha
     obtain ⟨j,hj1,hj2,rfl⟩:=qsh hb
     have h1:=hlt (by omega) (by omega) (by omega)
     have h2:=qtk hA (show t≤i by omega) hi1
     have h3:=qtk hB (show j≤md - t - 1 by omega) (by omega)
     omega
    have c2:∀ a ∈ A.take t,∀ b ∈ B.drop (md - t),wt a≤wt b:=by
     intro a ha b hb
     obtain ⟨i,hi1,hi2,rfl⟩:=qsh ha
     obtain ⟨j,hj1,hj2,rfl⟩:=quh hb
     have h1:=hge (by omega) (by omega) (by omega)
     have h2:=qtk hA (show i≤t - 1 by omega) (by omega)
     have h3:=qtk hB (show md - t≤j by omega) hj1
     omega
    have hm:=mrg_cut (k:=wt) _ (A.take t) (A.drop t) (B.take (md - t)) (B.drop (md - t)) rfl c1 c2
    rw [List.take_append_drop,List.take_append_drop] at hm
    rw [hm] at hk
    have hA1:=srt_take hA t
    have hA2:=srt_drop hA t
    have hB1:=srt_take hB (md - t)
    have hB2:=srt_drop hB (md - t)
    have hsA:A=A.take t ++ A.drop t:=(List.take_append_drop t A).symm
    have hsB:B=B.take (md - t) ++ B.drop (md - t):=(List.take_append_drop (md - t) B).symm
    have hAl:A.length=(A.take t).length+(A.drop t).length:=by rw [lA1,lA2]; omega
    have hBl:B.length=(B.take (md - t)).length+(B.drop (md - t)).length:=by rw [lB1,lB2]; omega
    have h:St F0 w0 w (qv 2 s (mks (P ++ (A.take t ++ A.drop t) ++ (B.take (md - t) ++ B.drop (md - t)) ++ S)) :: qt db (dtV lb s) :: ps):=by rw [List.take_append_drop,List.take_append_drop]; exact h
    have hk1:KeyM wt (A.take t ++ B.take (md - t)):=hkey.sub fun x hx=>(List.mem_append.1 hx).elim (fun e=>List.mem_append_left _ (List.mem_of_mem_take e)) fun e=>List.mem_append_right _ (List.mem_of_mem_take e)
    have hk2:KeyM wt (A.drop t ++ B.drop (md - t)):=hkey.sub fun x hx=>(List.mem_append.1 hx).elim (fun e=>List.mem_append_left _ (List.mem_of_mem_drop e)) fun e=>List.mem_append_right _ (List.mem_of_mem_drop e)
    clear hm c1 c2 hlt hge hsA hsB hA hB
    generalize A.take t=A1 at *
    generalize A.drop t=A2 at *
    generalize B.take (md - t)=B1 at *
    generalize B.drop (md - t)=B2 at *
    have j8:∀ (C:List Mk) (w:World),C.length=A1.length+B1.length→C=mrg wt A1 B1→St F0 w0 w (qv 2 s (mks (P ++ C ++ A2 ++ B2 ++ S)) :: qt db (dtV lb s) :: ps)→qd.j9 ((P.length+A.length+B.length:Nat):Int) ⟨db,0,none⟩ ((P.length+md:Nat):Int) ((P.length+A.length+(md - t):Nat):Int) (fun v w'=>K (.returned v) w') w:=by
     intro C w hC hCe h
     subst hCe
     have fin:(A2=[] ∨ B2=[])→K (.returned (.tuple ⟨[]⟩)) w:=by
      intro e
      refine hk w ?_
      have:mrg wt A2 B2=A2 ++ B2:=by
       rcases e with e | e
       · subst e; rw [qze]; rfl
       · subst e; rw [qxe,List.append_nil]
      rw [this]
      simp only [List.append_assoc] at h ⊢
      exact h
     unfold qd.j9
     refine qsc (fun g1=>?_) (fun g1=>fin (Or.inl (List.length_eq_zero_iff.1 (by omega))))
     refine qsc (fun g2=>?_) (fun g2=>fin (Or.inr (List.length_eq_zero_iff.1 (by omega))))
     refine h.lA (b:=db) (qmj _ _) ?_
     refine ih (P:=P ++ mrg wt A1 B1) (A:=A2) (B:=B2) (S:=S) (by omega) h hk2 hA2 hB2 (by omega) (by omega) (by simp only [List.length_append,hC]; omega) (by rw [List.length_append,hC]; omega) (by rw [List.length_append,hC]; omega) (by rw [List.length_append,hC]; omega) fun w h=>⟨rfl,hk w (by simp only [List.append_assoc] at h ⊢; exact h)⟩
    have j7:∀ (w:World),St F0 w0 w (qv 2 s (mks (P ++ A1 ++ B1 ++ (A2 ++ B2 ++ S))) :: qt db (dtV lb s) :: ps)→qd.j8 (P.length:Int) ((P.length+A.length+B.length:Nat):Int) ⟨db,0,none⟩ ((P.length+md:Nat):Int) ((P.length+t:Nat):Int) ((P.length+A.length+(md - t):Nat):Int) (fun v w'=>K (.returned v) w') w:=by
     intro w h
     have fin:(A1=[] ∨ B1=[])→qd.j9 ((P.length+A.length+B.length:Nat):Int) ⟨db,0,none⟩ ((P.length+md:Nat):Int) ((P.length+A.length+(md - t):Nat):Int) (fun v w'=>K (.returned v) w') w:=by
      intro e
      have:mrg wt A1 B1=A1 ++ B1:=by
       rcases e with e | e
       · subst e; rw [qze]; rfl
       · subst e; rw [qxe,List.append_nil]
      refine j8 (A1 ++ B1) w (by rw [List.length_append]) this.symm ?_
      simp only [List.append_assoc] at h ⊢
      exact h
     unfold qd.j8
     refine qsc (fun g1=>?_) (fun g1=>fin (Or.inl (List.length_eq_zero_iff.1 (by omega))))
     refine qsc (fun g2=>?_) (fun g2=>fin (Or.inr (List.length_eq_zero_iff.1 (by omega))))
     refine h.lA (b:=db) (qmj _ _) ?_
     refine ih (P:=P) (A:=A1) (B:=B1) (S:=A2 ++ B2 ++ S) (by omega) h hk1 hA1 hB1 (by omega) (by omega) (by simp only [List.length_append]; omega) rfl (by omega) (by omega) fun w h=>⟨rfl,j8 _ w (mrg_length _ _ _ rfl) rfl (by simp only [List.append_assoc] at h ⊢; exact h)⟩
    have same:(A2=[] ∨ B1=[])→St F0 w0 w (qv 2 s (mks (P ++ A1 ++ B1 ++ (A2 ++ B2 ++ S))) :: qt db (dtV lb s) :: ps):=by
     intro e
     rcases e with e | e
     · subst e
       simp only [List.append_assoc,List.append_nil,List.nil_append] at h ⊢
       exact h
     · subst e
       simp only [List.append_assoc,List.append_nil,List.nil_append] at h ⊢
       exact h
    unfold qd.j7
    refine qx (show IntKind.i64.wrap (((P.length+md+(P.length+A.length):Nat):Int) - ((P.length+t:Nat):Int))=((P.length+A.length+(md - t):Nat):Int) by rw [qh (by omega) (by omega)]; omega) ?_
    refine qsc (fun g1=>?_) (fun g1=>j7 w (same (Or.inl (List.length_eq_zero_iff.1 (by omega)))))
    refine qsc (fun g2=>?_) (fun g2=>j7 w (same (Or.inr (List.length_eq_zero_iff.1 (by omega)))))
    refine h.lA (b:=db) (qmj _ _) ?_
    refine mrotate.c (P:=P ++ A1) (A:=A2) (B:=B1) (S:=B2 ++ S) (by simp only [List.append_assoc] at h ⊢; exact h) (by omega) (by omega) (by simp only [List.length_append]; omega) (by rw [List.length_append]; omega) (by rw [List.length_append]; omega) (by rw [List.length_append]; omega) fun w h=>⟨rfl,j7 w (by simp only [List.append_assoc] at h ⊢; exact h)⟩
   have j4:∀ (lo0 hi0:Nat),lo0≤hi0→hi0≤md→hi0≤A.length→md - lo0≤B.length→(hi0=md ∨ hi0=A.length)→(lo0=0 ∨ md - lo0=B.length) →
    qd.j5 (P.length:Int) ((P.length+A.length:Nat):Int) ((P.length+A.length+B.length:Nat):Int) ⟨db,0,none⟩ ((P.length+md:Nat):Int) ((P.length+md+(P.length+A.length):Nat):Int) ((P.length+lo0:Nat):Int) ((P.length+hi0:Nat):Int) (fun v w'=>K (.returned v) w') w:=by
    intro lo0 hi0 h1 h2 h3 h4 h5 h6
    unfold qd.j5
    refine qx (show IntKind.i64.wrap (((P.length+md+(P.length+A.length):Nat):Int) - 1)=((P.length+md+(P.length+A.length) - 1:Nat):Int) by rw [qh (by omega) (by omega)]; omega) ?_
    unfold qd.j6
    refine loop2 (fun (a:Nat × Nat) (i j:Int) w'=>i=((P.length+a.1:Nat):Int)∧j=((P.length+a.2:Nat):Int)∧lo0≤a.1∧a.1≤a.2∧a.2≤hi0∧(a.1=lo0 ∨ ∀ (h2:md - a.1 < B.length) (h3:a.1 - 1 < A.length),¬ wt B[md - a.1] < wt A[a.1 - 1])∧(a.2=hi0 ∨ ∀ (h2:md - a.2 - 1 < B.length) (h3:a.2 < A.length),wt B[md - a.2 - 1] < wt A[a.2])∧St F0 w0 w' (qv 2 s (mks (P ++ A ++ B ++ S)) :: qt db (dtV lb s) :: ps)) (fun a=>a.2 - a.1) (lo0,hi0) ⟨rfl,rfl,Nat.le_refl _,h1,Nat.le_refl _,Or.inl rfl,Or.inl rfl,h⟩ ?_
    clear h
    rintro ⟨lo,hi⟩ i j wL I μ ⟨rfl,rfl,hl0,hlh,hh0,hq1,hq2,h⟩ hin
    simp only at hl0 hlh hh0 hq1 hq2 h hin ⊢
    unfold qd.b1
    refine qsc (fun g=>?_) (fun g=>?_)
    · refine half_i (by omega) ?_
      obtain ⟨q,hq⟩:∃ q,(P.length+lo+(P.length+hi)) / 2=P.length+q:=⟨(lo+hi) / 2,by omega⟩
      rw [hq]
      have hqA:q < A.length:=by omega
      have hqB:md - 1 - q < B.length:=by omega
      refine (h.toB db).blk.ldVo (dt_0 lb s) ?_
      refine qx (show IntKind.i64.wrap (((P.length+md+(P.length+A.length) - 1:Nat):Int) - ((P.length+q:Nat):Int))=((P.length+A.length+(md - 1 - q):Nat):Int) by rw [qh (by omega) (by omega)]; omega) ?_
      refine mless (s:=s) (D:=P ++ A ++ B ++ S) (i:=P.length+A.length+(md - 1 - q)) (j:=P.length+q) h rfl rfl (by simp only [List.length_append]; omega) (by simp only [List.length_append]; omega) fun w h=>?_
      rw [gtB (P:=P) (A:=A) (B:=B) (S:=S) hqB,gtA (P:=P) (A:=A) (B:=B) (S:=S) hqA,hkey B[md - 1 - q] (by simp) A[q] (by simp)]
      refine qmd (fun g2=>?_) (fun g2=>?_)
      · have g2:¬ wt B[md - 1 - q] < wt A[q]:=by simpa using g2
        refine qx (show IntKind.i64.wrap (((P.length+q:Nat):Int)+1)=((P.length+(q+1):Nat):Int) by rw [qh (by omega) (by omega)]; omega) ?_
        refine ⟨⟨rfl,rfl,rfl,rfl,rfl,rfl,rfl⟩,hin (q+1,hi) _ _ _ ⟨rfl,rfl,by simp only; omega,by simp only; omega,hh0,Or.inr fun k1 k2 e=>g2 ?_,hq2,h⟩ (by simp only; omega)⟩
        simp only [Nat.add_sub_cancel,show md - (q+1)=md - 1 - q by omega] at e
        exact e
      · have g2:wt B[md - 1 - q] < wt A[q]:=by simpa using g2
        refine ⟨⟨rfl,rfl,rfl,rfl,rfl,rfl,rfl⟩,hin (lo,q) _ _ _ ⟨rfl,rfl,hl0,by simp only; omega,by simp only; omega,hq1,Or.inr fun k1 k2=>?_,h⟩ (by simp only; omega)⟩
        simp only [show md - q - 1=md - 1 - q by omega]
        exact g2
    · have:lo=hi:=by omega
      subst this
      refine j6 lo wL (by omega) (by omega) (by omega) (fun k1 k2 k3=>?_) (fun k1 k2 k3=>?_) h
      · rcases hq2 with e | e
        · exfalso; omega
        · exact e k3 k1
      · rcases hq1 with e | e
        · exfalso; omega
        · exact e k2 k3
   unfold qd.j4
   refine qsc (fun g=>?_) (fun g=>?_)
   · refine qx (show IntKind.i64.wrap (((P.length+md+(P.length+A.length):Nat):Int) - ((P.length+A.length+B.length:Nat):Int))=((P.length+(md - B.length):Nat):Int) by rw [qh (by omega) (by omega)]; omega) ?_
     exact j4 (md - B.length) md (by omega) (by omega) (by omega) (by omega) (Or.inl rfl) (Or.inr (by omega))
   · have:=j4 0 A.length (by omega) (by omega) (by omega) (by omega) (Or.inr rfl) (Or.inl rfl)
     exact this
end Go.Proofs.YtonmgkkkiejicaaGreat
namespace Go.Proofs.YtonmgkkkiejicaaGreat
open Go Go.Proofs
set_option linter.unusedVariables false
set_option linter.unusedSimpArgs false
attribute [local irreducible] apK cpK mkK br lessV swapV dtV
theorem bsrt_fuel {wt:Mk→Int} {c:Nat} (hc:0 < c):∀ (f g:Nat) (l:List Mk),l.length≤f→l.length≤g→bsort wt c f l=bsort wt c g l:=by
 intro f
 induction f with
 | zero =>
   intro g l h1 h2
   cases g with
   | zero=>rfl
   | succ g=>rw [bsort,bsort,if_pos (by omega)]
 | succ f ih =>
   intro g l h1 h2
   cases g with
   | zero=>rw [bsort,bsort,if_pos (by omega)]
   | succ g =>
     rw [bsort,bsort]
     split
     · rfl
     · rw [ih g (l.drop c) (by rw [List.length_drop]; omega) (by rw [List.length_drop]; omega)]
def sbM (wt:Mk→Int) (c:Nat) (l:List Mk):List Mk:=bsort wt c l.length l
theorem qpl {wt:Mk→Int} {c:Nat} {l:List Mk} (h:l.length≤c):sbM wt c l=qad wt l:=by
 unfold sbM
 cases hl:l.length with
 | zero=>rfl
 | succ f=>rw [bsort,if_pos h]
theorem qql {wt:Mk→Int} {c:Nat} {l:List Mk} (hc:0 < c) (h:c≤l.length):sbM wt c l=qad wt (l.take c) ++ sbM wt c (l.drop c):=by
 rcases Nat.eq_or_lt_of_le h with e | e
 · have h2:l.drop c=[]:=List.drop_of_length_le (by omega)
   rw [qpl (by omega),h2,List.take_of_length_le (by omega),qpl (by simp)]
   exact (List.append_nil _).symm
 · unfold sbM
   cases hl:l.length with
   | zero=>omega
   | succ f =>
     rw [bsort,if_neg (by omega),bsrt_fuel hc f (l.drop c).length _ (by rw [List.length_drop]; omega) (Nat.le_refl _)]
theorem KeyM.srt {wt:Mk→Int} {X A B:List Mk} (h:KeyM wt X) (hA:∀ x ∈ A,x ∈ X) (hB:∀ x ∈ B,x ∈ X):KeyM wt (qad wt A ++ qad wt B):=h.sub fun x hx=>(List.mem_append.1 hx).elim (fun e=>hA x ((qzg A).mem_iff.1 e)) fun e=>hB x ((qzg B).mem_iff.1 e)
section
variable {F0:List Nat} {w0 w:World} {ps rest:List As} {s:Sl} {lb:Nat} {wt:Mk→Int}
theorem mstable.c {L:List Mk} {n:Int} {K:Ending→World→Prop} (h:St F0 w0 w (qv 2 s (mks L) :: ps)) [PkB lb ps [.slice s.a s.len s.cap] rest] (hkey:KeyM wt L) (hlen:L.length≤1000000) (hn:n=L.length)
 (hk:∀ w',St F0 w0 w' (qv 2 s (mks (qad wt L)) :: ps)→K (.returned (.tuple ⟨[]⟩)) w') :
 Calls Tryz.prog 47 ⟨[.agg ⟨dtV lb s⟩,.int .i64 n]⟩ w K:=by
 subst hn
 refine qsb (qk.ok _ _ _ _ ?_)
 unfold qk
 refine h.new fun db w h=>?_
 have h:St F0 w0 w (qv 2 s (mks L) :: qt db (dtV lb s) :: ps):=by
  have h0:St F0 w0 w (qt db (dtV lb s) :: qv 2 s (mks L) :: ps):=h
  exact h0.sub
 have hk:∀ w',St F0 w0 w' (qv 2 s (mks (qad wt L)) :: qt db (dtV lb s) :: ps)→K (.returned (.tuple ⟨[]⟩)) w':=fun w' h'=>hk w' h'.sub
 unfold qk.j1 qk.j2
 have j3:∀ w,St F0 w0 w (qv 2 s (mks (sbM wt 20 L)) :: qt db (dtV lb s) :: ps)→qk.j4 (L.length:Int) ⟨db,0,none⟩ 20 (fun v w'=>K (.returned v) w') w:=by
  intro w h
  unfold qk.j4
  refine qud (fun (c:Nat) (b:Int) w'=>b=(c:Int)∧0 < c∧c≤2000000∧St F0 w0 w' (qv 2 s (mks (sbM wt c L)) :: qt db (dtV lb s) :: ps)) (fun c=>L.length - c) 20 ⟨rfl,by decide,by decide,h⟩ ?_
  clear h
  rintro c b wL I μ ⟨rfl,hc0,hc1,h⟩ hin
  unfold qk.b1
  refine qsc (fun g=>?_) (fun g=>?_)
  · unfold qk.j5 qk.j6
    refine qx (show IntKind.i64.wrap (2 * (c:Int))=((0+2 * c:Nat):Int) by rw [qh (by omega) (by omega)]; omega) ?_
    refine loop2 (fun (a:List Mk × List Mk) (x y:Int) w'=>x=(a.1.length:Int)∧y=((a.1.length+2 * c:Nat):Int)∧a.1.length+a.2.length=L.length∧(∀ x ∈ a.2,x ∈ L)∧a.1 ++ sbM wt (2 * c) a.2=sbM wt (2 * c) L∧St F0 w0 w' (qv 2 s (mks (a.1 ++ sbM wt c a.2)) :: qt db (dtV lb s) :: ps)) (fun a=>a.2.length) ([],L) ⟨rfl,by simp,by simp,fun x hx=>hx,rfl,h⟩ ?_
    clear h
    rintro ⟨R,Y⟩ x y w2 I2 μ2 ⟨rfl,rfl,hl,hmm,hT,h⟩ hin2
    simp only at hl hmm hT h hin2 ⊢
    unfold qk.b2
    refine qsc (fun g2=>?_) (fun g2=>?_)
    · have hY:2 * c≤Y.length:=by omega
      have l1:(Y.take c).length=c:=by rw [List.length_take]; omega
      have l2:((Y.drop c).take c).length=c:=by rw [List.length_take,List.length_drop]; omega
      have e1:sbM wt c Y=qad wt (Y.take c) ++ (qad wt ((Y.drop c).take c) ++ sbM wt c (Y.drop (2 * c))):=by
       rw [qql hc0 (by omega),qql hc0 (l:=Y.drop c) (by rw [List.length_drop]; omega),List.drop_drop,show c+c=2 * c by omega]
      have e2:mrg wt (qad wt (Y.take c)) (qad wt ((Y.drop c).take c))=qad wt (Y.take (2 * c)):=by
       rw [← qsk]
       congr 1
       rw [show 2 * c=c+c by omega,List.take_add]
      rw [e1] at h
      refine h.lA (b:=db) (qmj _ _) ?_
      refine qx (show IntKind.i64.wrap ((R.length:Int)+(c:Int))=((R.length+c:Nat):Int) by rw [qh (by omega) (by omega)]; omega) ?_
      have hS:(sbM wt c (Y.drop (2 * c))).length≤1000000→True:=fun _=>trivial
      have hlT:(R ++ qad wt (Y.take c) ++ qad wt ((Y.drop c).take c) ++ sbM wt c (Y.drop (2 * c))).length=L.length:=by
       have hsl:∀ (f:Nat) (l:List Mk),(bsort wt c f l).length=l.length:=by
        intro f
        induction f with
        | zero=>intro l; exact qac l
        | succ f ih =>
          intro l
          rw [bsort]
          split
          · exact qac l
          · rw [List.length_append,qac,ih,List.length_take,List.length_drop]; omega
       simp only [List.length_append,qac,l1,l2]
       unfold sbM
       rw [hsl,List.length_drop]; omega
      refine msymMerge.c (wt:=wt) _ (P:=R) (A:=qad wt (Y.take c)) (B:=qad wt ((Y.drop c).take c)) (S:=sbM wt c (Y.drop (2 * c))) (Nat.le_refl _) (by simp only [List.append_assoc] at h ⊢; exact h) (hkey.srt (fun x hx=>hmm x (List.mem_of_mem_take hx)) fun x hx=>hmm x (List.mem_of_mem_drop (List.mem_of_mem_take hx))) (qag _) (qag _) (by rw [qac]; omega) (by rw [qac]; omega) (by rw [hlT]; exact hlen) rfl (by rw [qac,l1]) (by rw [qac,qac,l1,l2]; omega) fun w h=>⟨rfl,?_⟩
      have lR:(R ++ qad wt (Y.take (2 * c))).length=R.length+2 * c:=by rw [List.length_append,qac,List.length_take]; omega
      refine qx (qh (by omega) (by omega)) ?_
      refine qx (qh (by omega) (by omega)) ?_
      refine ⟨⟨rfl,rfl,rfl⟩,hin2 (R ++ qad wt (Y.take (2 * c)),Y.drop (2 * c)) _ _ _ ⟨by rw [lR],by rw [lR]; omega,by rw [lR,List.length_drop]; omega,fun x hx=>hmm x (List.mem_of_mem_drop hx),?_,by rw [← e2]; exact h⟩ (by rw [List.length_drop]; omega)⟩
      rw [← hT,qql (by omega) hY,List.append_assoc]
    · have hY:Y.length < 2 * c:=by omega
      have nx:∀ w,St F0 w0 w (qv 2 s (mks (R ++ qad wt Y)) :: qt db (dtV lb s) :: ps)→lt (IntKind.i64.wrap ((c:Int) * 2)) fun x4=>(((L.length:Int)=(L.length:Int)∧(⟨db,0,none⟩:Addr)=⟨db,0,none⟩)∧I x4 w∧μ x4 w < μ (c:Int) wL):=by
       intro w h
       refine qx (show IntKind.i64.wrap ((c:Int) * 2)=((2 * c:Nat):Int) by rw [qh (by omega) (by omega)]; omega) ?_
       refine ⟨⟨rfl,rfl⟩,hin (2 * c) _ _ ⟨rfl,by omega,by omega,?_⟩ (by omega)⟩
       rw [← hT,qpl (by omega)]
       exact h
      unfold qk.j7
      refine qx (show IntKind.i64.wrap ((R.length:Int)+(c:Int))=((R.length+c:Nat):Int) by rw [qh (by omega) (by omega)]; omega) ?_
      refine qsc (fun g3=>?_) (fun g3=>?_)
      · have l1:(Y.take c).length=c:=by rw [List.length_take]; omega
        have l2:(Y.drop c).length=Y.length - c:=List.length_drop
        rw [qql hc0 (by omega),qpl (l:=Y.drop c) (by omega)] at h
        have e2:mrg wt (qad wt (Y.take c)) (qad wt (Y.drop c))=qad wt Y:=by rw [← qsk,List.take_append_drop]
        refine h.lA (b:=db) (qmj _ _) ?_
        refine msymMerge.c (wt:=wt) _ (P:=R) (A:=qad wt (Y.take c)) (B:=qad wt (Y.drop c)) (S:=[]) (Nat.le_refl _) (by simp only [List.append_assoc,List.append_nil] at h ⊢; exact h) (hkey.srt (fun x hx=>hmm x (List.mem_of_mem_take hx)) fun x hx=>hmm x (List.mem_of_mem_drop hx)) (qag _) (qag _) (by rw [qac]; omega) (by rw [qac]; omega) (by simp only [List.length_append,qac,List.length_nil]; omega) rfl (by rw [qac,l1]) (by rw [qac,qac,l1,l2]; omega) fun w h=>⟨rfl,nx w (by rw [e2,List.append_nil] at h; exact h)⟩
      · rw [qpl (by omega)] at h
        exact nx w2 h
  · refine hk wL ?_
    rw [qpl (by omega)] at h
    exact h
 refine loop2 (fun (a:List Mk × List Mk) (x y:Int) w'=>x=(a.1.length:Int)∧y=((a.1.length+20:Nat):Int)∧a.1.length+a.2.length=L.length∧(∀ x ∈ a.2,x ∈ L)∧a.1 ++ sbM wt 20 a.2=sbM wt 20 L∧St F0 w0 w' (qv 2 s (mks (a.1 ++ a.2)) :: qt db (dtV lb s) :: ps)) (fun a=>a.2.length) ([],L) ⟨rfl,rfl,by simp,fun x hx=>hx,rfl,h⟩ ?_
 clear h
 rintro ⟨R,Y⟩ x y w2 I2 μ2 ⟨rfl,rfl,hl,hmm,hT,h⟩ hin2
 simp only at hl hmm hT h hin2 ⊢
 unfold qk.b3
 refine qsc (fun g2=>?_) (fun g2=>?_)
 · have hY:20≤Y.length:=by omega
   have l1:(Y.take 20).length=20:=by rw [List.length_take]; omega
   have l2:(Y.drop 20).length=Y.length - 20:=List.length_drop
   refine h.lA (b:=db) (qmj _ _) ?_
   refine minsertion.c (wt:=wt) (P:=R) (X:=Y.take 20) (S:=Y.drop 20) (by rw [List.append_assoc,List.take_append_drop]; exact h) (hkey.sub fun x hx=>hmm x (List.mem_of_mem_take hx)) (by simp only [List.length_append,l1,l2]; omega) rfl (by rw [l1]) fun w h=>⟨rfl,?_⟩
   have lR:(R ++ qad wt (Y.take 20)).length=R.length+20:=by rw [List.length_append,qac,l1]
   refine qx (qh (by omega) (by omega)) ?_
   refine ⟨⟨rfl,rfl,rfl⟩,hin2 (R ++ qad wt (Y.take 20),Y.drop 20) _ _ _ ⟨by rw [lR],by rw [lR]; omega,by rw [lR,l2]; omega,fun x hx=>hmm x (List.mem_of_mem_drop hx),?_,h⟩ (by rw [l2]; omega)⟩
   rw [← hT,qql (by decide) hY,List.append_assoc]
 · unfold qk.j3
   refine h.lA (b:=db) (qmj _ _) ?_
   refine minsertion.c (wt:=wt) (P:=R) (X:=Y) (S:=[]) (by rw [List.append_nil]; exact h) (hkey.sub fun x hx=>hmm x hx) (by simp only [List.length_append,List.length_nil]; omega) rfl (by omega) fun w h=>⟨rfl,j3 w (by rw [← hT,qpl (by omega)]; rw [List.append_nil] at h; exact h)⟩
end
end Go.Proofs.YtonmgkkkiejicaaGreat
namespace Go.Proofs.YtonmgkkkiejicaaGreat
open Go Go.Proofs
set_option linter.unusedVariables false
set_option linter.unusedSimpArgs false
attribute [local irreducible] apK cpK mkK br lessV
section
variable {F0:List Nat} {w0 w:World} {ps rest:List As} {s:Sl} {lb:Nat} {wt:Mk→Int} {L:List Mk} {x y:Value}
theorem minsertion.tiny {n:Nat} {K:Ending→World→Prop} (h:St F0 w0 w ps) (hn:n≤1) (hk:∀ w',St F0 w0 w' ps→K (.returned (.tuple ⟨[]⟩)) w') :
 Calls Tryz.prog 83 ⟨[.agg ⟨[x,y]⟩,.int .i64 0,.int .i64 n]⟩ w K:=by
 refine qsb (qj.ok _ _ _ _ _ ?_)
 unfold qj
 refine h.new fun db w h=>?_
 have h:St F0 w0 w (qt db [x,y] :: ps):=h
 refine qx (e':=1) (by rw [qh (by omega) (by omega)]; rfl) ?_
 unfold qj.j1
 refine qud (fun (c:Nat) (i':Int) w'=>i'=1∧St F0 w0 w' (qt db [x,y] :: ps)) (fun c=>0) 0 ⟨rfl,h⟩ ?_
 clear h
 rintro c i' wL I μ ⟨rfl,h⟩ hin
 unfold qj.b1
 exact qsc (fun g=>by exfalso; omega) (fun g=>hk _ h.drop)
theorem mstable.tiny {n:Nat} {K:Ending→World→Prop} (h:St F0 w0 w ps) (hn:n≤1) (hk:∀ w',St F0 w0 w' ps→K (.returned (.tuple ⟨[]⟩)) w') :
 Calls Tryz.prog 47 ⟨[.agg ⟨[x,y]⟩,.int .i64 n]⟩ w K:=by
 refine qsb (qk.ok _ _ _ _ ?_)
 unfold qk
 refine h.new fun db w h=>?_
 have h:St F0 w0 w (qt db [x,y] :: ps):=h
 unfold qk.j1 qk.j2
 refine loop2 (fun (c:Nat) (a b:Int) w'=>a=0∧b=20∧St F0 w0 w' (qt db [x,y] :: ps)) (fun c=>0) 0 ⟨rfl,rfl,h⟩ ?_
 clear h
 rintro c _ _ wL I μ ⟨rfl,rfl,h⟩ hin
 unfold qk.b3
 refine qsc (fun g=>by exfalso; omega) (fun g=>?_)
 unfold qk.j3
 refine h.lA (b:=db) rfl ?_
 refine minsertion.tiny h hn fun w h=>⟨rfl,?_⟩
 unfold qk.j4
 refine qud (fun (c:Nat) (b:Int) w'=>b=20∧St F0 w0 w' (qt db [x,y] :: ps)) (fun c=>0) 0 ⟨rfl,h⟩ ?_
 clear h
 rintro c _ wM I2 μ2 ⟨rfl,h⟩ hin2
 unfold qk.b1
 exact qsc (fun g=>by exfalso; omega) (fun g=>hk _ h.drop)
theorem kind_mk (w:World):(Extern.Rtype.kind 46).run Tryz.prog w=.ok 25 w:=by kernel_rfl
theorem swK (n:Nat):Lib.swapperK n Tryz.t46 25=if n=0 then 1 else if n=1 then 2 else 9:=by
 unfold Lib.swapperK
 have h1:Tryz.t46.hasPointers=true:=by kernel_rfl
 have h2:(Tryz.t46.bytes == 8)=false:=by kernel_rfl
 rw [h1,h2]
 by_cases g:n=0
 · subst g; rfl
 · by_cases g1:n=1
   · subst g1; rfl
   · simp [g,g1]
theorem cf_valueOf:cfR Tryz.prog 45 [.iface 28 (.slice s.a s.len s.cap)] w (.agg ⟨[typeHandle Tryz.prog 28,.pointer (some ⟨w.heap.size,0,none⟩),.int .u64 151]⟩) (w.alloc (.cells ⟨[.slice s.a s.len s.cap]⟩ 28)):=by
 unfold cfR
 rw [run_callFunc_extern (fn:=Tryz.f45) (e:=fun args=>Extern.ReflectliteValue.unpack (args.getD 0 (.tuple #[]))) (by kernel_rfl) (by kernel_rfl) (by kernel_rfl) (by kernel_rfl) (by kernel_rfl)]
 have:=Lib.run_valueOf_slice (P:=Tryz.prog) 28 46 Tryz.t28 (by kernel_rfl) (by kernel_rfl) s.a s.len s.cap w
 show Result.andThen (Sem.run Tryz.prog (Extern.ReflectliteValue.unpack (.iface 28 (.slice s.a s.len s.cap))) w) _=_
 rw [this]
 rfl
theorem qpk {f : Nat} {B : Array Value} (hB : B = if Lib.swapperK s.len Tryz.t46 25 ≤ 2 then #[] else #[.slice s.a s.len s.cap, typeHandle Tryz.prog 46]) (hf : Tryz.prog.funcs.findIdx? (·.name == "internal/reflectlite" ++ ".Swapper$" ++ toString (Lib.swapperK s.len Tryz.t46 25)) = some f) :
 cfR Tryz.prog 46 [.iface 28 (.slice s.a s.len s.cap)] w (.func (.func f) ⟨[]⟩ B) w:=by
 subst hB
 unfold cfR
 rw [run_callFunc_extern (fn := Tryz.f46) (e := Extern.ReflectliteSwapper.swapper "internal/reflectlite" (Extern.ReflectliteValue.valueError "Swapper")) (by kernel_rfl) (by kernel_rfl) (by kernel_rfl) (by kernel_rfl) (by kernel_rfl)]
 have:=Lib.run_swapper_slice (P:=Tryz.prog) 28 46 Tryz.t28 Tryz.t46 (by kernel_rfl) (by kernel_rfl) (by kernel_rfl) 25 kind_mk s.a s.len s.cap f hf w
 rw [this]
 rfl
theorem cf_len {vb:Nat} (hv:w.cell? ⟨vb,0,none⟩=some (.slice s.a s.len s.cap)):cfR Tryz.prog 48 [.agg ⟨[typeHandle Tryz.prog 28,.pointer (some ⟨vb,0,none⟩),.int .u64 151]⟩] w (.int .i64 s.len) w:=by
 unfold cfR
 rw [run_callFunc_extern (fn := Tryz.f48) (e := Extern.ReflectliteValue.method (Extern.ReflectliteValue.valueError "reflectlite.Value.Len" 0) Extern.ReflectliteValue.len) (by kernel_rfl) (by kernel_rfl) (by kernel_rfl) (by kernel_rfl) (by kernel_rfl)]
 have:=Lib.run_valueLen_slice (P:=Tryz.prog) 28 46 Tryz.t28 (by kernel_rfl) (by kernel_rfl) (by kernel_rfl) ⟨vb,0,none⟩ s.a s.len s.cap w hv
 rw [this]
 rfl
end
end Go.Proofs.YtonmgkkkiejicaaGreat
namespace Go.Proofs.YtonmgkkkiejicaaGreat
open Go Go.Proofs
set_option linter.unusedVariables false
set_option linter.unusedSimpArgs false
attribute [local irreducible] apK cpK mkK br
section
variable {F0:List Nat} {w0 w:World} {ps rest:List As} {s:Sl} {lb:Nat} {wt:Mk→Int} {L:List Mk}
theorem sw_1 : Tryz.prog.funcs.findIdx? (·.name == "internal/reflectlite" ++ ".Swapper$" ++ toString 1) = some 74 := by kernel_rfl
theorem sw_2 : Tryz.prog.funcs.findIdx? (·.name == "internal/reflectlite" ++ ".Swapper$" ++ toString 2) = some 75 := by kernel_rfl
theorem sw_9 : Tryz.prog.funcs.findIdx? (·.name == "internal/reflectlite" ++ ".Swapper$" ++ toString 9) = some 82 := by kernel_rfl
theorem asN_i {f:Nat} {B:Array Value} {F:Nat × Array Value→Prop} (h:F (f,B)):asN (.func (.func f) ⟨[]⟩ B) F:=by
 unfold asN
 exact h
theorem sw_any:∃ (f:Nat) (B:Array Value),(∀ w,cfR Tryz.prog 46 [.iface 28 (.slice s.a s.len s.cap)] w (.func (.func f) ⟨[]⟩ B) w)∧(s.len≤1 ∨ (.func (.func f) ⟨[]⟩ B:Value)=swapV s):=by
 have hk:=swK s.len
 by_cases g0:s.len=0
 · rw [if_pos g0] at hk
   refine ⟨74,#[],fun w=>qpk (by rw [hk]; rfl) (by rw [hk]; exact sw_1),Or.inl (by omega)⟩
 · rw [if_neg g0] at hk
   by_cases g1:s.len=1
   · rw [if_pos g1] at hk
     refine ⟨75,#[],fun w=>qpk (by rw [hk]; rfl) (by rw [hk]; exact sw_2),Or.inl (by omega)⟩
   · rw [if_neg g1] at hk
     refine ⟨82,#[.slice s.a s.len s.cap,typeHandle Tryz.prog 46],fun w=>qpk (by rw [hk]; rfl) (by rw [hk]; exact sw_9),Or.inr rfl⟩
theorem mSliceStable.c {K:Ending→World→Prop} (h:St F0 w0 w (qv 2 s (mks L) :: ps)) [PkB lb ps [.slice s.a s.len s.cap] rest] (hkey:KeyM wt L) (hlen:L.length≤1000000)
 (hk:∀ w',St F0 w0 w' (qv 2 s (mks (qad wt L)) :: ps)→K (.returned (.tuple ⟨[]⟩)) w') :
 Calls Tryz.prog 19 ⟨[.iface 28 (.slice s.a s.len s.cap),.func (.func 20) ⟨[]⟩ ⟨[.pointer (some ⟨lb,0,none⟩)]⟩]⟩ w K:=by
 have hsl:=h.rlen (s:=s) (f:=mkC) (L:=L)
 refine qsb (qwc.ok (28,.slice s.a s.len s.cap) _ _ _ ?_)
 unfold qwc
 refine ⟨_,_,cf_valueOf,?_⟩
 have h1:St F0 w0 (w.alloc (.cells ⟨[.slice s.a s.len s.cap]⟩ 28)) (qt w.heap.size [.slice s.a s.len s.cap] :: qv 2 s (mks L) :: ps) :=
  h.new (t:=28) (cs:=⟨[.slice s.a s.len s.cap]⟩) (K:=fun a w'=>St F0 w0 w' (qt a.block [.slice s.a s.len s.cap] :: qv 2 s (mks L) :: ps)) fun nb w' h'=>h'
 generalize w.alloc (.cells ⟨[.slice s.a s.len s.cap]⟩ 28)=w1 at h1 ⊢
 generalize w.heap.size=vb at h1 ⊢
 have h:=h1
 have hz:zc Tryz.prog 119=⟨[.pointer none,.pointer none,.int .u64 0]⟩:=by kernel_rfl
 rw [hz]
 refine h.new fun rb w h=>?_
 have h:St F0 w0 w (qt rb [.pointer none,.pointer none,.int .u64 0] :: qt vb [.slice s.a s.len s.cap] :: qv 2 s (mks L) :: ps):=h
 refine ⟨rfl,?_⟩
 refine h.sA (b:=rb) (l':=[typeHandle Tryz.prog 28,.pointer (some ⟨vb,0,none⟩),.int .u64 151]) rfl rfl (by
  intro v hv
  have hv:v ∈ [typeHandle Tryz.prog 28,.pointer (some ⟨vb,0,none⟩),.int .u64 151]:=by simpa using hv
  rcases List.mem_cons.1 hv with rfl | hv
  · trivial
  · rcases List.mem_cons.1 hv with rfl | hv
    · trivial
    · rw [List.mem_singleton.1 hv]; trivial) fun w h=>?_
 obtain ⟨f,B,hsw,hB⟩:=sw_any (s:=s)
 refine ⟨_,_,hsw w,?_⟩
 refine asN_i ?_
 unfold qwc.j1
 refine h.lA (b:=rb) rfl ?_
 have hvc:w.cell? ⟨vb,0,none⟩=some (.slice s.a s.len s.cap):=by
  have:=(h.toB vb).blk.cell 0
  rw [this]
  rfl
 refine ⟨_,_,cf_len hvc,?_⟩
 rcases hB with hB | hB
 · refine mstable.tiny (n:=s.len) h hB fun w h=>⟨rfl,hk w ?_⟩
   have e:qad wt L=L:=by
    cases L with
    | nil=>rfl
    | cons x L =>
      cases L with
      | nil=>rfl
      | cons y L=>exfalso; simp at hsl; omega
   rw [e]
   exact h.drop.drop
 · have hd:(⟨[.func (.func 20) ⟨[]⟩ ⟨[.pointer (some ⟨lb,0,none⟩)]⟩,.func (.func f) ⟨[]⟩ B]⟩:Array Value)=⟨dtV lb s⟩:=by rw [hB]; rfl
   show ct_ 47 [.agg ⟨[.func (.func 20) ⟨[]⟩ ⟨[.pointer (some ⟨lb,0,none⟩)]⟩,.func (.func f) ⟨[]⟩ B]⟩,.int .i64 s.len] w _
   rw [hd]
   have h2:St F0 w0 w (qv 2 s (mks L) :: qt rb [typeHandle Tryz.prog 28,.pointer (some ⟨vb,0,none⟩),.int .u64 151] :: qt vb [.slice s.a s.len s.cap] :: ps):=h.sub
   refine mstable.c (wt:=wt) (lb:=lb) h2 hkey hlen (by omega) fun w h=>⟨rfl,hk w h.sub⟩
end
end Go.Proofs.YtonmgkkkiejicaaGreat
namespace Go.Proofs.YtonmgkkkiejicaaGreat
open Go Go.Proofs
set_option linter.unusedVariables false
set_option linter.unusedSimpArgs false
theorem bl_irrefl:∀ x:List UInt8,Op.bytesLess x x=false:=by
 intro x
 induction x with
 | nil=>rfl
 | cons a x ih=>simp [Op.bytesLess,ih]
theorem bl_trans:∀ {x y z:List UInt8},Op.bytesLess x y=true→Op.bytesLess y z=true→Op.bytesLess x z=true:=by
 intro x
 induction x with
 | nil =>
   intro y z h1 h2
   cases y with
   | nil=>simp [Op.bytesLess] at h1
   | cons b y =>
     cases z with
     | nil=>simp [Op.bytesLess] at h2
     | cons c z=>rfl
 | cons a x ih =>
   intro y z h1 h2
   cases y with
   | nil=>simp [Op.bytesLess] at h1
   | cons b y =>
     cases z with
     | nil=>simp [Op.bytesLess] at h2
     | cons c z =>
       simp only [Op.bytesLess,Bool.or_eq_true,Bool.and_eq_true,decide_eq_true_eq,beq_iff_eq] at h1 h2 ⊢
       rcases h1 with h1 | ⟨rfl,h1⟩
       · rcases h2 with h2 | ⟨rfl,h2⟩
         · exact Or.inl (UInt8.lt_trans h1 h2)
         · exact Or.inl h1
       · rcases h2 with h2 | ⟨rfl,h2⟩
         · exact Or.inl h2
         · exact Or.inr ⟨rfl,ih h1 h2⟩
theorem bl_total:∀ {x y:List UInt8},Op.bytesLess x y=false→Op.bytesLess y x=false→x=y:=by
 intro x
 induction x with
 | nil =>
   intro y h1 h2
   cases y with
   | nil=>rfl
   | cons b y=>simp [Op.bytesLess] at h1
 | cons a x ih =>
   intro y h1 h2
   cases y with
   | nil=>simp [Op.bytesLess] at h2
   | cons b y =>
     simp only [Op.bytesLess,Bool.or_eq_false_iff,decide_eq_false_iff_not,Bool.and_eq_false_iff,beq_eq_false_iff_ne] at h1 h2
     obtain ⟨a1,a2⟩:=h1
     obtain ⟨b1,b2⟩:=h2
     have hab:a=b:=by
      rw [UInt8.not_lt] at a1 b1
      exact UInt8.le_antisymm b1 a1
     subst hab
     have e1:Op.bytesLess x y=false:=a2.elim (fun e=>absurd rfl e) id
     have e2:Op.bytesLess y x=false:=b2.elim (fun e=>absurd rfl e) id
     rw [ih e1 e2]
theorem qcd (a:ByteArray):ltB a a=false:=bl_irrefl _
theorem qlf {a b c:ByteArray} (h1:ltB a b=true) (h2:ltB b c=true):ltB a c=true:=bl_trans h1 h2
theorem qoj {a b:ByteArray} (h:a.toList=b.toList):a=b:=by
 have h1:a.data.toList=b.data.toList:=by
  have e1:a.toList=a.data.toList:=by rw [ByteArray.toList_eq]
  have e2:b.toList=b.data.toList:=by rw [ByteArray.toList_eq]
  rw [← e1,← e2,h]
 have h2:a.data=b.data:=Array.ext' h1
 cases a
 cases b
 exact congrArg ByteArray.mk h2
theorem qdh {a b:ByteArray} (h1:ltB a b=false) (h2:ltB b a=false):a=b:=qoj (bl_total h1 h2)
theorem cnt_le {α:Type} {p q:α→Bool} (h:∀ x,p x=true→q x=true):∀ L:List α,L.countP p≤L.countP q:=by
 intro L
 induction L with
 | nil=>simp
 | cons x L ih =>
   rw [List.countP_cons,List.countP_cons]
   cases hp:p x with
   | false=>cases q x <;> simp <;> omega
   | true=>rw [h x hp]; simp; omega
theorem cnt_lt {α:Type} {p q:α→Bool} (h:∀ x,p x=true→q x=true) {L:List α} {y:α} (hy:y ∈ L) (h1:p y=false) (h2:q y=true):L.countP p < L.countP q:=by
 induction L with
 | nil=>cases hy
 | cons x L ih =>
   have hle:=cnt_le h L
   rw [List.countP_cons,List.countP_cons]
   rcases List.mem_cons.1 hy with rfl | hy
   · rw [h1,h2]; simp; omega
   · have:=ih hy
     cases hp:p x with
     | false=>cases q x <;> simp <;> omega
     | true=>rw [h x hp]; simp; omega
def rkM (L:List Mk) (x:Mk):Int:=(L.countP fun y=>ltB y.1 x.1:Nat)
theorem key_rk (L:List Mk):KeyM (rkM L) L:=by
 intro x hx y hy
 cases h:ltB x.1 y.1 with
 | true =>
   have:=cnt_lt (p:=fun z:Mk=>ltB z.1 x.1) (q:=fun z:Mk=>ltB z.1 y.1) (fun z hz=>qlf hz h) hx (qcd _) h
   refine (decide_eq_true ?_).symm
   unfold rkM
   omega
 | false =>
   refine (decide_eq_false ?_).symm
   have:L.countP (fun z:Mk=>ltB z.1 y.1)≤L.countP (fun z:Mk=>ltB z.1 x.1):=cnt_le (fun z hz=>by
    cases h2:ltB z.1 x.1 with
    | true=>rfl
    | false =>
      exfalso
      cases h3:ltB x.1 z.1 with
      | true=>rw [qlf h3 hz] at h; cases h
      | false =>
        have:=qdh h2 h3
        rw [this] at hz
        rw [hz] at h
        cases h) L
   unfold rkM
   omega
def qld (L:List Mk):List Mk:=qad (rkM L) L
theorem qrd (L:List Mk):(qld L).Perm L:=qzg L
theorem qel (L:List Mk):(qld L).Pairwise fun x y=>ltB y.1 x.1=false:=by
 have h:=qag (k:=rkM L) L
 have hm:∀ x ∈ qld L,x ∈ L:=fun x hx=>(qrd L).mem_iff.1 hx
 refine List.Pairwise.imp_of_mem ?_ h
 intro x y hx hy hxy
 rw [key_rk L y (hm y hy) x (hm x hx)]
 exact decide_eq_false (by omega)
end Go.Proofs.YtonmgkkkiejicaaGreat
namespace Go.Proofs.YtonmgkkkiejicaaGreat
open Go Go.Proofs
set_option linter.unusedVariables false
set_option maxRecDepth 100000
def qnc (s_0 suffix_1:ByteArray) (Q:VWP) (w:World):Prop :=
 br (decide (((ByteArray.size s_0:Int):Int) ≥ (ByteArray.size suffix_1:Int))) (
 lt (IntKind.i64.wrap ((ByteArray.size s_0:Int) - (ByteArray.size suffix_1:Int))) fun x1 =>
 bd x1 (ByteArray.size s_0) fun n2 =>
 lt (ByteArray.extract s_0 n2 (ByteArray.size s_0)) fun x3 =>
 Q (.bool (ByteArray.toList x3 == ByteArray.toList suffix_1)) w) (
 Q (.bool false) w)
theorem qnc.ok (s_0:ByteArray) (suffix_1:ByteArray) (Q:VWP) (w:World) (h:qnc s_0 suffix_1 Q w):Calls Tryz.prog 111 ⟨[.string s_0,.string suffix_1]⟩ w (Ret Q) :=
 qvb [.tmp 4] qkd Tryz.func111 rfl rfl rfl rfl .lf (by kernel_rfl) h
def qve (s_0 prefix_1:ByteArray) (Q:VWP) (w:World):Prop :=
 Calls Tryz.prog 102 ⟨[.string s_0,.string prefix_1]⟩ w fun e1 w2 =>
 ∃ r3:ByteArray,∃ r4:Bool,e1=.returned (.tuple ⟨[.string r3,.bool r4]⟩) ∧
 Q (.tuple ⟨[.string r3,.bool r4]⟩) w2
theorem qve.ok (s_0:ByteArray) (prefix_1:ByteArray) (Q:VWP) (w:World) (h:qve s_0 prefix_1 Q w):Calls Tryz.prog 85 ⟨[.string s_0,.string prefix_1]⟩ w (Ret Q) :=
 qvb [.tmp 4,.tmp 5] qkd Tryz.func85 rfl rfl rfl rfl .lf (by kernel_rfl) h
def que (s_0 suffix_1:ByteArray) (Q:VWP) (w:World):Prop :=
 Calls Tryz.prog 103 ⟨[.string s_0,.string suffix_1]⟩ w fun e1 w2 =>
 ∃ r3:ByteArray,∃ r4:Bool,e1=.returned (.tuple ⟨[.string r3,.bool r4]⟩) ∧
 Q (.tuple ⟨[.string r3,.bool r4]⟩) w2
theorem que.ok (s_0:ByteArray) (suffix_1:ByteArray) (Q:VWP) (w:World) (h:que s_0 suffix_1 Q w):Calls Tryz.prog 86 ⟨[.string s_0,.string suffix_1]⟩ w (Ret Q) :=
 qvb [.tmp 4,.tmp 5] qkd Tryz.func86 rfl rfl rfl rfl .lf (by kernel_rfl) h
def qqc (s_0 prefix_1:ByteArray) (Q:VWP) (w:World):Prop :=
 qxm 58 [.string s_0,.string prefix_1] w fun r3 w2 =>
 br (!r3) (
 Q (.tuple ⟨[.string s_0,.bool false]⟩) w2) (
 bd (ByteArray.size prefix_1:Int) (ByteArray.size s_0) fun n4 =>
 lt (ByteArray.extract s_0 n4 (ByteArray.size s_0)) fun x5 =>
 Q (.tuple ⟨[.string x5,.bool true]⟩) w2)
theorem qqc.ok (s_0:ByteArray) (prefix_1:ByteArray) (Q:VWP) (w:World) (h:qqc s_0 prefix_1 Q w):Calls Tryz.prog 102 ⟨[.string s_0,.string prefix_1]⟩ w (Ret Q) :=
 qvb [.tmp 4,.tmp 5] qkd Tryz.func102 rfl rfl rfl rfl .lf (by kernel_rfl) h
def qpc (s_0 suffix_1:ByteArray) (Q:VWP) (w:World):Prop :=
 qxm 111 [.string s_0,.string suffix_1] w fun r3 w2 =>
 br (!r3) (
 Q (.tuple ⟨[.string s_0,.bool false]⟩) w2) (
 lt (IntKind.i64.wrap ((ByteArray.size s_0:Int) - (ByteArray.size suffix_1:Int))) fun x4 =>
 bd x4 (ByteArray.size s_0) fun n5 =>
 lt (ByteArray.extract s_0 0 n5) fun x6 =>
 Q (.tuple ⟨[.string x6,.bool true]⟩) w2)
theorem qpc.ok (s_0:ByteArray) (suffix_1:ByteArray) (Q:VWP) (w:World) (h:qpc s_0 suffix_1 Q w):Calls Tryz.prog 103 ⟨[.string s_0,.string suffix_1]⟩ w (Ret Q) :=
 qvb [.tmp 4,.tmp 5] qkd Tryz.func103 rfl rfl rfl rfl .lf (by kernel_rfl) h
def qmh (s_0 sep_1:ByteArray) (Q:VWP) (w:World):Prop :=
 Calls Tryz.prog 95 ⟨[.string s_0,.string sep_1]⟩ w fun e1 w2 =>
 ∃ r3:ByteArray,∃ r4:ByteArray,∃ r5:Bool,e1=.returned (.tuple ⟨[.string r3,.string r4,.bool r5]⟩) ∧
 Q (.tuple ⟨[.string r3,.string r4,.bool r5]⟩) w2
theorem qmh.ok (s_0:ByteArray) (sep_1:ByteArray) (Q:VWP) (w:World) (h:qmh s_0 sep_1 Q w):Calls Tryz.prog 62 ⟨[.string s_0,.string sep_1]⟩ w (Ret Q) :=
 qvb [.tmp 4,.tmp 5,.tmp 6] qkd Tryz.func62 rfl rfl rfl rfl .lf (by kernel_rfl) h
def qdd (s_0 sep_1:ByteArray) (Q:VWP) (w:World):Prop :=
 qri 108 [.string s_0,.string sep_1] w fun r3 w2 =>
 br (decide (r3 ≥ 0)) (
 lt (World.drew w2) fun w4 =>
 bd r3 (ByteArray.size s_0) fun n5 =>
 lt (ByteArray.extract s_0 0 n5) fun x6 =>
 lt (IntKind.i64.wrap (r3+(ByteArray.size sep_1:Int))) fun x7 =>
 bd x7 (ByteArray.size s_0) fun n8 =>
 lt (ByteArray.extract s_0 n8 (ByteArray.size s_0)) fun x9 =>
 Q (.tuple ⟨[.string x6,.string x9,.bool true]⟩) w4) (
 Q (.tuple ⟨[.string s_0,.string ({ data:=#[] }),.bool false]⟩) w2)
theorem qdd.ok (s_0:ByteArray) (sep_1:ByteArray) (Q:VWP) (w:World) (h:qdd s_0 sep_1 Q w):Calls Tryz.prog 95 ⟨[.string s_0,.string sep_1]⟩ w (Ret Q) :=
 qvb [.tmp 4,.tmp 5,.tmp 6] qkd Tryz.func95 rfl rfl rfl rfl .lf (by kernel_rfl) h
def qse (s_0:ByteArray) (c_1:Int) (Q:VWP) (w:World):Prop :=
 qri 112 [.string s_0,.int .u8 c_1] w fun r3 w2 =>
 Q (.int .i64 r3) w2
theorem qse.ok (s_0:ByteArray) (c_1:Int) (Q:VWP) (w:World) (h:qse s_0 c_1 Q w):Calls Tryz.prog 105 ⟨[.string s_0,.int .u8 c_1]⟩ w (Ret Q) :=
 qvb [.tmp 4] qkd Tryz.func105 rfl rfl rfl rfl .lf (by kernel_rfl) h
def qf.j6  (Q:VWP) (w:World):Prop :=
 Q (.int .i64 (-1)) w
def qf.j12 (d_0 i_1:ByteArray) (t5:Int) (t6 t7 t8 t9 t10:Int) (t132:Bool) (Q:VWP) (nx1:ByteArray→ByteArray→Int→Int→Int→Int→Int→Int→WP) (w:World):Prop :=
 br t132 (
 bd t8 (ByteArray.size d_0) fun n7 =>
 lt (ByteArray.extract d_0 n7 (ByteArray.size d_0)) fun x8 =>
 qri 115 [.string x8,.string i_1] w fun r11 w10 =>
 br (decide (r11 < 0)) (
 Q (.int .i64 (-1)) w10) (
 lt (IntKind.i64.wrap (t8+r11)) fun x12 =>
 Q (.int .i64 x12) w10)) (
 nx1 d_0 i_1 t5 t6 t7 t9 t8 t10 w)
def qf.j11 (d_0 i_1:ByteArray) (t5:Int) (t6 t7 t8 t9 t10:Int) (t107:Bool) (Q:VWP) (nx1:ByteArray→ByteArray→Int→Int→Int→Int→Int→Int→WP) (w:World):Prop :=
 br t107 (
 bd t8 (ByteArray.size d_0) fun n1 =>
 lt (ByteArray.extract d_0 n1 (ByteArray.size d_0)) fun x2 =>
 ∃ r5:Int,∃ w4:World,cfR Tryz.prog 113 [.string x2,.string i_1] w (.int .i64 r5) w4 ∧
 br (decide (r5 ≥ 0)) (
 lt (IntKind.i64.wrap (r5+t8)) fun x6 =>
 Q (.int .i64 x6) w4) (
 Q (.int .i64 (-1)) w4)) (
 ldI .i64 w (⟨0,0,none⟩:Addr) fun x13 =>
 br (decide (t5 > x13)) (
 (0:Int)≤4 ∧
 lt (shrV .i64 t8 4) fun x14 =>
 lt (IntKind.i64.wrap (4+x14)) fun x15 =>
 br (decide (t10 ≥ x15)) (
 qf.j12 d_0 i_1 t5 t6 t7 t8 t9 t10 (decide (t8 < t9)) Q nx1 w) (
 qf.j12 d_0 i_1 t5 t6 t7 t8 t9 t10 false Q nx1 w)) (
 qf.j12 d_0 i_1 t5 t6 t7 t8 t9 t10 false Q nx1 w))
def qf.j10 (d_0 i_1:ByteArray) (t5:Int) (t6 t7 t8 t9 t10:Int) (Q:VWP) (nx1:ByteArray→ByteArray→Int→Int→Int→Int→Int→Int→WP) (w:World):Prop :=
 lt (IntKind.i64.wrap (t10+1)) fun x16 =>
 ldI .i64 w (⟨0,0,none⟩:Addr) fun x17 =>
 br (decide (t5≤x17)) (
 qri 114 [.int .i64 t8] w fun r20 w19 =>
 qf.j11 d_0 i_1 t5 t6 t7 t8 t9 x16 (decide (x16 > r20)) Q nx1 w19) (
 qf.j11 d_0 i_1 t5 t6 t7 t8 t9 x16 false Q nx1 w)
def qf.j9 (d_0 i_1:ByteArray) (t5:Int) (t6 t7 t8 t9 t10:Int) (Q:VWP) (nx1:ByteArray→ByteArray→Int→Int→Int→Int→Int→Int→WP) (w:World):Prop :=
 lt (IntKind.i64.wrap (t8+1)) fun x21 =>
 qf.j10 d_0 i_1 t5 t6 t7 x21 t9 t10 Q nx1 w
def qf.j8 (d_0 i_1:ByteArray) (t5:Int) (t6 t7 t8 t9 t10:Int) (Q:VWP) (nx1:ByteArray→ByteArray→Int→Int→Int→Int→Int→Int→WP) (w:World):Prop :=
 lt (IntKind.i64.wrap (t8+1)) fun x22 =>
 ((0:Int)≤x22∧x22 < (ByteArray.size d_0:Int)) ∧
 lt (qqd d_0 (Int.toNat x22)) fun x23 =>
 br (x23 == t7) (
 lt (IntKind.i64.wrap (t8+t5)) fun x24 =>
 bd x24 (ByteArray.size d_0) fun n25 =>
 bd t8 n25 fun n26 =>
 lt (ByteArray.extract d_0 n26 n25) fun x27 =>
 br (ByteArray.toList x27 == ByteArray.toList i_1) (
 Q (.int .i64 t8) w) (
 qf.j9 d_0 i_1 t5 t6 t7 t8 t9 t10 Q nx1 w)) (
 qf.j9 d_0 i_1 t5 t6 t7 t8 t9 t10 Q nx1 w)
def qf.j7 (d_0 i_1:ByteArray) (t5:Int) (t6 t7 t8 t9 t10:Int) (Q:VWP) (nx1:ByteArray→ByteArray→Int→Int→Int→Int→Int→Int→WP) (w:World):Prop :=
 ((0:Int)≤t8∧t8 < (ByteArray.size d_0:Int)) ∧
 lt (qqd d_0 (Int.toNat t8)) fun x28 =>
 br (x28 != t6) (
 lt (IntKind.i64.wrap (t8+1)) fun x29 =>
 bd t9 (ByteArray.size d_0) fun n30 =>
 bd x29 n30 fun n31 =>
 lt (ByteArray.extract d_0 n31 n30) fun x32 =>
 qri 112 [.string x32,.int .u8 t6] w fun r35 w34 =>
 br (decide (r35 < 0)) (
 Q (.int .i64 (-1)) w34) (
 lt (IntKind.i64.wrap (r35+1)) fun x36 =>
 lt (IntKind.i64.wrap (t8+x36)) fun x37 =>
 qf.j8 d_0 i_1 t5 t6 t7 x37 t9 t10 Q nx1 w34)) (
 qf.j8 d_0 i_1 t5 t6 t7 t8 t9 t10 Q nx1 w)
def qf.b1 (d_0 i_1:ByteArray) (t5:Int) (t6 t7 t9 t8 t10:Int) (Q:VWP) (nx1:ByteArray→ByteArray→Int→Int→Int→Int→Int→Int→WP) (w:World):Prop :=
 br (decide (t8 < t9)) (
 qf.j7 d_0 i_1 t5 t6 t7 t8 t9 t10 Q nx1 w) (
 qf.j6 Q w)
def qf.l1 (d_0 i_1:ByteArray) (t5:Int) (t6 t7 t9 t8 t10:Int) (Q:VWP) (w:World):Prop :=
 ∃ (I:Int→Int→WP) (μ:Int→Int→World→Nat),I t8 t10 w∧∀ t8:Int,∀ t10:Int,∀ w:World,I t8 t10 w→qf.b1 d_0 i_1 t5 t6 t7 t9 t8 t10 Q (fun d_0' i_1' t5' t6' t7' t9' t8' t10' w'=>(d_0'=d_0∧i_1'=i_1∧t5'=t5∧t6'=t6∧t7'=t7∧t9'=t9)∧I t8' t10' w'∧μ t8' t10' w' < μ t8 t10 w) w
def qf.j5 (d_0 i_1:ByteArray) (t5:Int) (t6 t7 t8 t9 t10:Int) (Q:VWP) (w:World):Prop :=
 qf.l1 d_0 i_1 t5 t6 t7 t9 t8 t10 Q w
def qf.j4 (d_0 i_1:ByteArray) (t5:Int) (t6 t7 t8:Int) (Q:VWP) (w:World):Prop :=
 lt (IntKind.i64.wrap ((ByteArray.size d_0:Int) - t5)) fun x38 =>
 lt (IntKind.i64.wrap (x38+1)) fun x39 =>
 qf.j5 d_0 i_1 t5 t6 t7 t8 x39 0 Q w
def qf.j3 (d_0 i_1:ByteArray) (t5:Int) (t6:Int) (Q:VWP) (w:World):Prop :=
 ((0:Int)≤1∧1 < (ByteArray.size i_1:Int)) ∧
 lt (qqd i_1 (Int.toNat 1)) fun x40 =>
 qf.j4 d_0 i_1 t5 t6 x40 0 Q w
def qf.j2 (d_0 i_1:ByteArray) (t5:Int) (Q:VWP) (w:World):Prop :=
 ((0:Int)≤0∧0 < (ByteArray.size i_1:Int)) ∧
 lt (qqd i_1 (Int.toNat 0)) fun x41 =>
 qf.j3 d_0 i_1 t5 x41 Q w
def qf.j13 (d_0 i_1:ByteArray) (t5:Int) (t16:Bool) (Q:VWP) (w:World):Prop :=
 br t16 (
 Q (.int .i64 0) w) (
 br (t5 == 1) (
 ((0:Int)≤0∧0 < (ByteArray.size i_1:Int)) ∧
 lt (qqd i_1 (Int.toNat 0)) fun x42 =>
 qri 112 [.string d_0,.int .u8 x42] w fun r45 w44 =>
 Q (.int .i64 r45) w44) (
 br (decide (t5 ≥ (ByteArray.size d_0:Int))) (
 Q (.int .i64 (-1)) w) (
 ldI .i64 w (⟨0,0,none⟩:Addr) fun x46 =>
 br (decide (t5≤x46)) (
 br (decide (((ByteArray.size d_0:Int):Int)≤64)) (
 ∃ r49:Int,∃ w48:World,cfR Tryz.prog 113 [.string d_0,.string i_1] w (.int .i64 r49) w48 ∧
 Q (.int .i64 r49) w48) (
 qf.j2 d_0 i_1 t5 Q w)) (
 qf.j2 d_0 i_1 t5 Q w))))
def qf.j1 (d_0 i_1:ByteArray) (t5:Int) (Q:VWP) (w:World):Prop :=
 br (t5 == 0) (
 qf.j13 d_0 i_1 t5 true Q w) (
 qf.j13 d_0 i_1 t5 (ByteArray.toList i_1 == ByteArray.toList d_0) Q w)
def qf (d_0 i_1:ByteArray) (Q:VWP) (w:World):Prop :=
 qf.j1 d_0 i_1 (ByteArray.size i_1:Int) Q w
theorem qf.ok (d_0:ByteArray) (i_1:ByteArray) (Q:VWP) (w:World) (h:qf d_0 i_1 Q w):Calls Tryz.prog 108 ⟨[.string d_0,.string i_1]⟩ w (Ret Q) :=
 qvb [.tmp 4] qkd Tryz.func108 rfl rfl rfl rfl (.pr 1 [(0,.S),(1,.S),sI 5] (fun a b c w=>qf.j1 a b c Q w) (.sq [(0,.S),(1,.S),sI 5] (fun a b c w=>qf.j2 a b c Q w) (.bk (.sq [(0,.S),(1,.S),sI 5,sB 16] (fun a b c d w=>qf.j13 a b c d Q w) .lf .lf)) (.sq [(0,.S),(1,.S),sI 5,(6,.I .u8)] (fun a b c d w=>qf.j3 a b c d Q w) .lf (.pr 1 [(0,.S),(1,.S),sI 5,(6,.I .u8),(7,.I .u8),sI 8] (fun a b c d e f w=>qf.j4 a b c d e f Q w) (.pr 1 [(0,.S),(1,.S),sI 5,(6,.I .u8),(7,.I .u8),sI 8,sI 9,sI 10] (fun a b c d e f g h w=>qf.j5 a b c d e f g h Q w) (.sq [] (fun  w=>qf.j6 Q w) (.bk (.lo [(0,.S),(1,.S),sI 5,(6,.I .u8),(7,.I .u8),sI 9] [sI 8,sI 10] (fun a b c d e f g h w=>qf.l1 a b c d e f g h Q w) (fun nx1 a b c d e f g h w=>qf.b1 a b c d e f g h Q nx1 w) fun nx1=>(.sq [(0,.S),(1,.S),sI 5,(6,.I .u8),(7,.I .u8),sI 8,sI 9,sI 10] (fun a b c d e f g h w=>qf.j7 a b c d e f g h Q nx1 w) .lf (.bk (.sq [(0,.S),(1,.S),sI 5,(6,.I .u8),(7,.I .u8),sI 8,sI 9,sI 10] (fun a b c d e f g h w=>qf.j8 a b c d e f g h Q nx1 w) .lf (.sq [(0,.S),(1,.S),sI 5,(6,.I .u8),(7,.I .u8),sI 8,sI 9,sI 10] (fun a b c d e f g h w=>qf.j9 a b c d e f g h Q nx1 w) .lf (.sq [(0,.S),(1,.S),sI 5,(6,.I .u8),(7,.I .u8),sI 8,sI 9,sI 10] (fun a b c d e f g h w=>qf.j10 a b c d e f g h Q nx1 w) .lf (.pr 1 [(0,.S),(1,.S),sI 5,(6,.I .u8),(7,.I .u8),sI 8,sI 9,sI 10,sB 107] (fun a b c d e f g h i w=>qf.j11 a b c d e f g h i Q nx1 w) (.cd .lf (.sq [(0,.S),(1,.S),sI 5,(6,.I .u8),(7,.I .u8),sI 8,sI 9,sI 10,sB 132] (fun a b c d e f g h i w=>qf.j12 a b c d e f g h i Q nx1 w) .lf .lf)))))))))) .lf)))))) (by kernel_rfl) h
def qxb (s_0:ByteArray) (c_1:Int) (Q:VWP) (w:World):Prop :=
 ∃ r3:Int,∃ w2:World,cfR Tryz.prog 116 [.string s_0,.int .u8 c_1] w (.int .i64 r3) w2 ∧
 Q (.int .i64 r3) w2
theorem qxb.ok (s_0:ByteArray) (c_1:Int) (Q:VWP) (w:World) (h:qxb s_0 c_1 Q w):Calls Tryz.prog 112 ⟨[.string s_0,.int .u8 c_1]⟩ w (Ret Q) :=
 qvb [.tmp 4] qkd Tryz.func112 rfl rfl rfl rfl .lf (by kernel_rfl) h
def qbe (s_0:Sl) (Q:VWP) (w:World):Prop :=
 br (Option.isNone s_0.a) (
 Q (.slice none 0 0) w) (
 nw w ⟨[]⟩ 9 fun a1 w2 =>
 rdO w2 s_0.a (s_0.len * 1) fun c3 =>
 apK Tryz.prog 9 w2 (some a1) 0 0 s_0.len c3 fun s4 w5 =>
 Q (sV s4) w5)
theorem qbe.ok (s_0:Sl) (Q:VWP) (w:World) (h:qbe s_0 Q w):Calls Tryz.prog 44 ⟨[sV s_0]⟩ w (Ret Q) :=
 qvb [.tmp 2] qkd Tryz.func44 rfl rfl rfl rfl .lf (by kernel_rfl) h
def qpd (s_0:Sl) (Q:VWP) (w:World):Prop :=
 br (Option.isNone s_0.a) (
 Q (.slice none 0 0) w) (
 nw w ⟨[]⟩ 46 fun a1 w2 =>
 rdO w2 s_0.a (s_0.len * 2) fun c3 =>
 apK Tryz.prog 46 w2 (some a1) 0 0 s_0.len c3 fun s4 w5 =>
 Q (sV s4) w5)
theorem qpd.ok (s_0:Sl) (Q:VWP) (w:World) (h:qpd s_0 Q w):Calls Tryz.prog 18 ⟨[sV s_0]⟩ w (Ret Q) :=
 qvb [.tmp 2] qkd Tryz.func18 rfl rfl rfl rfl .lf (by kernel_rfl) h
end Go.Proofs.YtonmgkkkiejicaaGreat
