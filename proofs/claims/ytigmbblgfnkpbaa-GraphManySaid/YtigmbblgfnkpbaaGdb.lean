/- Own texts as one, only what is reached (shake.py). -/
import Derived.Test.YtigmbblgfnkpbaaGda
import Derived.DeepKeys4
import Derived.Laws.Externs
import Derived.Lib.BytesEntry
import Derived.Maps.Keyed
import Derived.Maps.RangeRun
import Derived.ProofKit
import Derived.Test.YtigmbblgfnkpbaaProg
import Derived.Test.YtigmbblgfnkpbaaRows
set_option linter.unusedSectionVars false
namespace Go.Proofs.Ytigmbblgfnkpbaa
open Go Go.Proofs
set_option linter.unusedVariables false
set_option linter.unusedSimpArgs false
def asD2 (f:Nat) (v:Value) (F:Option Addr × Option Addr→Prop):Prop:=match v with
 | .func (.func g) ⟨[]⟩ ⟨[.pointer p,.pointer q]⟩=>match Nat.beq g f with
   | true=>F (p,q)
   | false=>False
 | _=>False
theorem asD2_el {f:Nat} {v:Value} {F:Option Addr × Option Addr→Prop} (h:asD2 f v F):∃ n:Option Addr × Option Addr,v=.func (.func f) ⟨[]⟩ ⟨[.pointer n.1,.pointer n.2]⟩∧F n:=by
 unfold asD2 at h
 split at h
 · split at h
   · rename_i hb; have:=Nat.eq_of_beq_eq_true hb; subst this; exact ⟨(_,_),rfl,h⟩
   · exact h.elim
 · exact h.elim
inductive Kd where
 | L | P | A | G | S | B | M | V | F
 | I (k:IntKind)
 | Q (t:Nat)
 | c0 (f:Nat)
 | c1 (f:Nat)
 | c2 (f:Nat)
 | d2 (f:Nat)
def Kd.ty:Kd→Type
 | .L=>Sl
 | .P=>Option Addr
 | .A=>Addr
 | .G=>Array Value
 | .S=>ByteArray
 | .B=>Bool
 | .M=>Option Nat
 | .V=>Value
 | .F=>Nat × Value
 | .I _=>Int
 | .Q _=>Addr
 | .c0 _=>Unit
 | .c1 _=>Option Addr
 | .c2 _=>Option Addr
 | .d2 _=>Option Addr × Option Addr
def Kd.val:(k:Kd)→k.ty→Value
 | .L,(x:Sl)=>.slice x.a x.len x.cap
 | .P,x=>.pointer x
 | .A,x=>.pointer (some x)
 | .G,x=>.agg x
 | .S,x=>.string x
 | .B,x=>.bool x
 | .M,x=>.map x
 | .V,x=>x
 | .F,(x:Nat × Value)=>.iface x.1 x.2
 | .I k,x=>.int k x
 | .Q t,x=>.iface t (.pointer (some x))
 | .c0 f,_=>.func (.func f) ⟨[]⟩ ⟨[]⟩
 | .c1 f,x=>.func (.func f) ⟨[.pointer x]⟩ ⟨[]⟩
 | .c2 f,x=>.func (.func f) ⟨[]⟩ ⟨[.pointer x]⟩
 | .d2 f,(x:Option Addr × Option Addr)=>.func (.func f) ⟨[]⟩ ⟨[.pointer x.1,.pointer x.2]⟩
def Kd.as:(k:Kd)→Value→(k.ty→Prop)→Prop
 | .L,v,X=>asL v X
 | .P,v,X=>asP v X
 | .A,v,X=>asA v X
 | .G,v,X=>asG v X
 | .S,v,X=>asS v X
 | .B,v,X=>asB v X
 | .M,v,X=>asM v X
 | .V,v,X=>asV v X
 | .F,v,X=>asF v X
 | .I k,v,X=>asI k v X
 | .Q t,v,X=>asQ t v X
 | .c0 f,v,X=>asC0 f v (X ())
 | .c1 f,v,X=>asC1 f v X
 | .c2 f,v,X=>asC2 f v X
 | .d2 f,v,X=>asD2 f v X
theorem Kd.el {v:Value}:∀ (k:Kd) {F:k.ty→Prop},k.as v F→∃ x,v=k.val x∧F x
 | .L,_,h=>asL_el h
 | .P,_,h=>asP_el h
 | .A,_,h=>asA_el h
 | .G,_,h=>asG_el h
 | .S,_,h=>asS_el h
 | .B,_,h=>asB_el h
 | .M,_,h=>asM_el h
 | .V,_,h=>asV_el h
 | .F,_,h=>asF_el h
 | .I _,_,h=>asI_el h
 | .Q _,_,h=>asQ_el h
 | .c0 _,_,h=>⟨(),asC0_el h⟩
 | .c1 _,_,h=>asC1_el h
 | .c2 _,_,h=>asC2_el h
 | .d2 _,_,h=>asD2_el h
abbrev Tl:=List (Nat × Kd)
def TF (T:Type):Tl→Type
 | []=>T
 | a :: r=>a.2.ty→TF T r
abbrev WP:=World→Prop
def tm:(l:Tl)→TF WP l→RK
 | [],F,_,w=>F w
 | a :: r,F,ρ,w=>a.2.as (ρ a.1) fun x=>tm r (F x) ρ w
def ab {T:Type}:(l:Tl)→((Nat→Value)→T)→(Nat→Value)→TF T l
 | [],G,ρ=>G ρ
 | a :: r,G,ρ=>fun x=>ab r G (upd ρ a.1 (a.2.val x))
def HV:Tl→Type
 | []=>Unit
 | a :: r=>a.2.ty × HV r
def atS:(l:Tl)→HV l→(Nat→Value)→Prop
 | [],_,_=>True
 | a :: r,s,ρ=>ρ a.1=a.2.val s.1∧atS r s.2 ρ
def ap {T:Type}:(l:Tl)→TF T l→HV l→T
 | [],F,_=>F
 | _ :: r,F,s=>ap r (F s.1) s.2
def cu {T:Type}:(l:Tl)→(HV l→T)→TF T l
 | [],F=>F ()
 | _ :: r,F=>fun x=>cu r fun s=>F (x,s)
def allS:(l:Tl)→(HV l→Prop)→Prop
 | [],F=>F ()
 | _ :: r,F=>∀ x,allS r fun s=>F (x,s)
def Kd.nb:Kd→Bool
 | .c0 _=>true
 | _=>false
def cj:List Prop→Prop
 | []=>True
 | [a]=>a
 | a :: b :: r=>a∧cj (b :: r)
def eqL:(l:Tl)→HV l→HV l→List Prop
 | [],_,_=>[]
 | a :: r,s,t=>match a.2.nb with
   | true=>eqL r s.2 t.2
   | false=>(s.1=t.1) :: eqL r s.2 t.2
def eqS (l:Tl) (s t:HV l):Prop:=cj (eqL l s t)
theorem cj_el {a:Prop}:∀ {r:List Prop},cj (a :: r)→a∧cj r
 | [],h=>⟨h,trivial⟩
 | _ :: _,h=>h
theorem Kd.nb_one:∀ (k:Kd),k.nb=true→∀ x y:k.ty,x=y
 | .c0 _,_,_,_=>rfl
theorem ap_cu {T:Type}:∀ (l:Tl) (F:HV l→T) (s:HV l),ap l (cu l F) s=F s
 | [],F,s=>rfl
 | _ :: r,F,s=>ap_cu r (fun t=>F (s.1,t)) s.2
theorem allS_el:∀ (l:Tl) {F:HV l→Prop},allS l F→∀ s,F s
 | [],_,h,_=>h
 | _ :: r,_,h,s=>allS_el r (h s.1) s.2
theorem eqS_el:∀ (l:Tl) {s t:HV l},eqS l s t→s=t
 | [],_,_,_=>rfl
 | a :: r,s,t,h=>by
   have h:cj (match a.2.nb with
    | true=>eqL r s.2 t.2
    | false=>(s.1=t.1) :: eqL r s.2 t.2):=h
   have e:s.1=t.1∧eqS r s.2 t.2:=by
    cases hb:a.2.nb with
    | true=>rw [hb] at h; exact ⟨Kd.nb_one _ hb _ _,h⟩
    | false=>rw [hb] at h; exact cj_el h
   exact Prod.ext e.1 (eqS_el r e.2)
theorem tm_el:∀ (l:Tl) {F:TF WP l} {ρ:Nat→Value} {w:World},tm l F ρ w→∃ s,atS l s ρ∧ap l F s w
 | [],_,_,_,h=>⟨(),trivial,h⟩
 | a :: r,F,ρ,w,h=>by
   obtain ⟨x,e,h⟩:=Kd.el a.2 h
   obtain ⟨s,h1,h2⟩:=tm_el r h
   exact ⟨(x,s),⟨e,h1⟩,h2⟩
theorem ap_ab {T:Type}:∀ (l:Tl) {G:(Nat→Value)→T} {ρ:Nat→Value} {s:HV l},atS l s ρ→ap l (ab l G ρ) s=G ρ
 | [],_,_,_,_=>rfl
 | a :: r,G,ρ,s,h=>by
   have e:=upd_same h.1
   show ap r (ab r G (upd ρ a.1 (a.2.val s.1))) s.2=G ρ
   rw [e]
   exact ap_ab r h.2
abbrev TF2 (u m:Tl):=TF (TF WP m) u
def tmU:(u m:Tl)→TF2 u m→RK
 | [],m,F=>tm m F
 | a :: r,m,F=>fun ρ w=>a.2.as (ρ a.1) fun x=>tmU r m (F x) ρ w
theorem tmU_el:∀ (u m:Tl) {F:TF2 u m} {ρ:Nat→Value} {w:World},tmU u m F ρ w→∃ (s:HV u) (t:HV m),atS u s ρ∧atS m t ρ∧ap m (ap u F s) t w
 | [],m,_,_,_,h=>by
   obtain ⟨t,h1,h2⟩:=tm_el m h
   exact ⟨(),t,trivial,h1,h2⟩
 | a :: r,m,F,ρ,w,h=>by
   obtain ⟨x,e,h⟩:=Kd.el a.2 h
   obtain ⟨s,t,h1,h2,h3⟩:=tmU_el r m h
   exact ⟨(x,s),t,⟨e,h1⟩,h2,h3⟩
def nxG (u m:Tl) (I:TF WP m) (μ:TF (World→Nat) m) (s:HV u) (t:HV m) (w:World):TF2 u m :=
 cu u fun s'=>cu m fun t'=>fun w'=>eqS u s' s∧ap m I t' w'∧ap m μ t' w' < ap m μ t w
def lpG (u m:Tl) (B:TF2 u m→TF2 u m):TF2 u m:=cu u fun s=>cu m fun t=>fun w =>
 ∃ (I:TF WP m) (μ:TF (World→Nat) m),ap m I t w∧allS m fun t=>∀ w:World,ap m I t w→ap m (ap u (B (nxG u m I μ s t w)) s) t w
inductive Pl:Type where
 | lf
 | sq (l:Tl) (F:TF WP l) (p q:Pl)
 | pr (n:Nat) (l:Tl) (F:TF WP l) (q:Pl)
 | sk (p:Pl)
 | cd (p q:Pl)
 | bk (p:Pl)
 | lo (u m:Tl) (L:TF2 u m) (B:TF2 u m→TF2 u m) (p:TF2 u m→Pl)
def preP (P:Program) (N:Nat):Nat→Code→Ks→RK
 | 0,.seq a _,K=>pt P N a K
 | n+1,.seq a c,K=>pt P N a { norm:=preP P N n c K,ret:=K.ret,ex:=K.ex }
 | _,_,_=>fun _ _=>False
def aftC:Nat→Code→Code
 | 0,.seq _ c=>c
 | n+1,.seq _ c=>aftC n c
 | _,c=>c
def plW (P:Program) (N:Nat):Pl→Code→Ks→RK
 | .lf,c,K=>pt P N c K
 | .sq l F p _,.seq x _,K=>plW P N p x { norm:=tm l F,ret:=K.ret,ex:=K.ex }
 | .pr n l F _,c,K=>preP P N n c { norm:=tm l F,ret:=K.ret,ex:=K.ex }
 | .sk p,.seq x .skip,K=>plW P N p x K
 | .cd p q,.cond c x y,K=>fun ρ w=>match ev ρ c with
   | .bool b=>br b (plW P N p x K ρ w) (plW P N q y K ρ w)
   | _=>False
 | .bk p,.block id c,K=>plW P N p c { norm:=K.norm,ret:=K.ret,ex:=(id,K.norm) :: K.ex }
 | .lo u m L _ _,.loop _,_=>tmU u m L
 | _,_,_=>fun _ _=>False
def Pl.Ty:Pl→Type
 | .lf=>Unit
 | .sq l _ p q=>p.Ty × (((Nat→Value)→TF WP l) × q.Ty)
 | .pr _ l _ q=>((Nat→Value)→TF WP l) × q.Ty
 | .sk p=>p.Ty
 | .cd p q=>p.Ty × q.Ty
 | .bk p=>p.Ty
 | .lo u m _ _ p=>TF2 u m × ((nx:TF2 u m)→((Nat→Value)→TF2 u m) × (p nx).Ty)
def lhs:(p:Pl)→p.Ty
 | .lf=>()
 | .sq _ F p q=>(lhs p,fun _=>F,lhs q)
 | .pr _ _ F q=>(fun _=>F,lhs q)
 | .sk p=>lhs p
 | .cd p q=>(lhs p,lhs q)
 | .bk p=>lhs p
 | .lo _ _ L B p=>(L,fun nx=>(fun _=>B nx,lhs (p nx)))
def rhs (P:Program) (N:Nat):(p:Pl)→Code→Ks→p.Ty
 | .lf,_,_=>()
 | .sq l F p q,c,K=>match c with
   | .seq x y=>(rhs P N p x { norm:=tm l F,ret:=K.ret,ex:=K.ex },ab l fun ρ w=>plW P N q y K ρ w,rhs P N q y K)
   | _=>lhs (.sq l F p q)
 | .pr n l F q,c,K=>(ab l fun ρ w=>plW P N q (aftC n c) K ρ w,rhs P N q (aftC n c) K)
 | .sk p,c,K=>match c with
   | .seq x _=>rhs P N p x K
   | _=>lhs p
 | .cd p q,c,K=>match c with
   | .cond _ x y=>(rhs P N p x K,rhs P N q y K)
   | _=>(lhs p,lhs q)
 | .bk p,c,K=>match c with
   | .block id c=>rhs P N p c { norm:=K.norm,ret:=K.ret,ex:=(id,K.norm) :: K.ex }
   | _=>lhs p
 | .lo u m L B p,c,K=>match c with
   | .loop c=>(lpG u m B,fun nx=>(ab u fun ρ=>ab m (fun ρ w=>plW P N (p nx) c { norm:=tmU u m nx,ret:=K.ret,ex:=K.ex } ρ w) ρ,rhs P N (p nx) c { norm:=tmU u m nx,ret:=K.ret,ex:=K.ex }))
   | _=>lhs (.lo u m L B p)
section
variable {P:Program} {N:Nat}
theorem preP_ok (hm:P.follows .mixedOrders=true) {l:RK}:∀ (n:Nat) (c:Code) {K:Ks} {ρ:Nat→Value} {w:World},preP P N n c { norm:=l,ret:=K.ret,ex:=K.ex } ρ w→(∀ ρ w,l ρ w→wpc P N (aftC n c) K ρ w)→wpc P N c K ρ w:=by
 intro n
 induction n with
 | zero =>
   intro c K ρ w h h2
   cases c <;> first | exact h.elim | skip
   exact qcj _ (pt_sound hm _ h) h2
 | succ n ih =>
   intro c K ρ w h h2
   cases c <;> first | exact h.elim | skip
   exact qcj _ (pt_sound hm _ h) fun ρ w h=>ih _ h h2
theorem ab2_ap {u m:Tl} {G:RK} {ρ:Nat→Value} {s:HV u} {t:HV m} (hs:atS u s ρ) (ht:atS m t ρ):ap m (ap u (ab u (fun ρ=>ab m G ρ) ρ) s) t=G ρ:=by
 rw [ap_ab u hs,ap_ab m ht]
theorem pl_sound (hm:P.follows .mixedOrders=true):∀ (p:Pl) (c:Code) {K:Ks} {ρ:Nat→Value} {w:World},lhs p=rhs P N p c K→plW P N p c K ρ w→wpc P N c K ρ w:=by
 intro p
 induction p with
 | lf=>intro c K ρ w _ h; exact pt_sound hm c h
 | sq l F p q ihp ihq =>
   intro c K ρ w e h
   cases c <;> first | exact h.elim | skip
   rename_i x y
   have e:(lhs p,(fun _=>F:(Nat→Value)→TF WP l),lhs q)=(rhs P N p x { norm:=tm l F,ret:=K.ret,ex:=K.ex },ab l fun ρ w=>plW P N q y K ρ w,rhs P N q y K):=e
   injection e with e1 e2
   injection e2 with e2 e3
   refine qcj (tm l F) (ihp x e1 h) fun ρ w h=>?_
   obtain ⟨s,h1,h2⟩:=tm_el l h
   have e4:=congrFun e2 ρ
   have h2:ap l ((fun _=>F:(Nat→Value)→TF WP l) ρ) s w:=h2
   rw [e4,ap_ab l h1] at h2
   exact ihq y e3 h2
 | pr n l F q ihq =>
   intro c K ρ w e h
   have e:((fun _=>F:(Nat→Value)→TF WP l),lhs q)=(ab l fun ρ w=>plW P N q (aftC n c) K ρ w,rhs P N q (aftC n c) K):=e
   injection e with e2 e3
   refine preP_ok hm n c h fun ρ w h=>?_
   obtain ⟨s,h1,h2⟩:=tm_el l h
   have e4:=congrFun e2 ρ
   have h2:ap l ((fun _=>F:(Nat→Value)→TF WP l) ρ) s w:=h2
   rw [e4,ap_ab l h1] at h2
   exact ihq _ e3 h2
 | sk p ih =>
   intro c K ρ w e h
   cases c <;> first | exact h.elim | skip
   rename_i x y
   cases y <;> first | exact h.elim | skip
   refine qcj _ (ih x (K:={ norm:=K.norm,ret:=K.ret,ex:=K.ex }) e h) fun ρ w h=>wpc_skip h
 | cd p q ihp ihq =>
   intro c K ρ w e h
   cases c <;> first | exact h.elim | skip
   rename_i c x y
   have e:(lhs p,lhs q)=(rhs P N p x K,rhs P N q y K):=e
   injection e with e1 e2
   have h:(match ev ρ c with
    | .bool b=>br b (plW P N p x K ρ w) (plW P N q y K ρ w)
    | _=>False):=h
   split at h
   · rename_i b hb
     exact wpc_cond hb (fun g=>ihp x e1 (br_t h g)) (fun g=>ihq y e2 (br_f h g))
   · exact h.elim
 | bk p ih =>
   intro c K ρ w e h
   cases c <;> first | exact h.elim | skip
   exact wpc_block (ih _ e h)
 | lo u m L B p ih =>
   intro c K ρ w e h
   cases c <;> first | exact h.elim | skip
   rename_i c
   have e:(L,fun nx=>((fun _=>B nx:(Nat→Value)→TF2 u m),lhs (p nx)))=((lpG u m B,fun nx=>(ab u fun ρ=>ab m (fun ρ w=>plW P N (p nx) c { norm:=tmU u m nx,ret:=K.ret,ex:=K.ex } ρ w) ρ,rhs P N (p nx) c { norm:=tmU u m nx,ret:=K.ret,ex:=K.ex })):TF2 u m × ((nx:TF2 u m)→((Nat→Value)→TF2 u m) × (p nx).Ty)):=e
   injection e with e1 e2
   obtain ⟨s,t,hs,ht,h⟩:=tmU_el u m h
   rw [e1,lpG,ap_cu,ap_cu] at h
   obtain ⟨I,μ,hI,hr⟩:=h
   refine wpc_loopS (α:=HV m) (fun t ρ=>atS u s ρ∧atS m t ρ) (fun t w=>ap m I t w) (fun t w=>ap m μ t w) t ⟨hs,ht⟩ hI ?_
   rintro t ρ w ⟨hs,ht⟩ hI
   have h:=allS_el m hr t w hI
   have e3:=congrFun e2 (nxG u m I μ s t w)
   injection e3 with e3 e4
   have e5:=congrFun e3 ρ
   have h:ap m (ap u ((fun _=>B (nxG u m I μ s t w):(Nat→Value)→TF2 u m) ρ) s) t w:=h
   rw [e5,ab2_ap hs ht] at h
   refine wpc_norm (ih _ c e4 h) fun ρ w h=>?_
   obtain ⟨s',t',hs',ht',h⟩:=tmU_el u m h
   rw [nxG,ap_cu,ap_cu] at h
   obtain ⟨g1,g2,g3⟩:=h
   have g1:=eqS_el u g1
   subst g1
   exact ⟨t',⟨hs',ht'⟩,g2,g3⟩
abbrev sV (s:Sl):Value:=.slice s.a s.len s.cap
abbrev nw (w:World) (c:Array Value) (t:Nat) (K:Addr→World→Prop):Prop:=lt (⟨World.heapSize w,0,none⟩:Addr) fun a=>lt (World.alloc w (.cells c t)) fun w'=>K a w'
abbrev qhc (f:Nat) (a:List Value) (w:World) (K:Sl→World→Prop):Prop:=Calls Try.prog f ⟨a⟩ w fun e w=>∃ r:Sl,e=.returned (.slice r.a r.len r.cap)∧K r w
abbrev qhf (f:Nat) (a:List Value) (w:World) (K:Int→World→Prop):Prop:=Calls Try.prog f ⟨a⟩ w fun e w=>∃ r:Int,e=.returned (.int .i64 r)∧K r w
abbrev cr_u32 (f:Nat) (a:List Value) (w:World) (K:Int→World→Prop):Prop:=Calls Try.prog f ⟨a⟩ w fun e w=>∃ r:Int,e=.returned (.int .u32 r)∧K r w
abbrev cr_G (f:Nat) (a:List Value) (w:World) (K:Array Value→World→Prop):Prop:=Calls Try.prog f ⟨a⟩ w fun e w=>∃ r:Array Value,e=.returned (.agg r)∧K r w
abbrev cr_B (f:Nat) (a:List Value) (w:World) (K:Bool→World→Prop):Prop:=Calls Try.prog f ⟨a⟩ w fun e w=>∃ r:Bool,e=.returned (.bool r)∧K r w
abbrev cr_P (f:Nat) (a:List Value) (w:World) (K:Option Addr→World→Prop):Prop:=Calls Try.prog f ⟨a⟩ w fun e w=>∃ r:Option Addr,e=.returned (.pointer r)∧K r w
abbrev ct_ (f:Nat) (a:List Value) (w:World) (K:World→Prop):Prop:=Calls Try.prog f ⟨a⟩ w fun e w=>e=.returned (.tuple ⟨[]⟩)∧K w
abbrev ct_LI (f:Nat) (a:List Value) (w:World) (K:Sl→Int→World→Prop):Prop:=Calls Try.prog f ⟨a⟩ w fun e w=>∃ r0:Sl,∃ r1:Int,e=.returned (.tuple ⟨[.slice r0.a r0.len r0.cap,.int .i64 r1]⟩)∧K r0 r1 w
abbrev ct_PI (f:Nat) (a:List Value) (w:World) (K:Option Addr→Int→World→Prop):Prop:=Calls Try.prog f ⟨a⟩ w fun e w=>∃ r0:Option Addr,∃ r1:Int,e=.returned (.tuple ⟨[.pointer r0,.int .i64 r1]⟩)∧K r0 r1 w
abbrev ct_II (f:Nat) (a:List Value) (w:World) (K:Int→Int→World→Prop):Prop:=Calls Try.prog f ⟨a⟩ w fun e w=>∃ r0:Int,∃ r1:Int,e=.returned (.tuple ⟨[.int .i64 r0,.int .i64 r1]⟩)∧K r0 r1 w
abbrev ct_IB (f:Nat) (a:List Value) (w:World) (K:Int→Bool→World→Prop):Prop:=Calls Try.prog f ⟨a⟩ w fun e w=>∃ r0:Int,∃ r1:Bool,e=.returned (.tuple ⟨[.int .i64 r0,.bool r1]⟩)∧K r0 r1 w
abbrev ct_LB (f:Nat) (a:List Value) (w:World) (K:Sl→Bool→World→Prop):Prop:=Calls Try.prog f ⟨a⟩ w fun e w=>∃ r0:Sl,∃ r1:Bool,e=.returned (.tuple ⟨[.slice r0.a r0.len r0.cap,.bool r1]⟩)∧K r0 r1 w
abbrev ct_GB (f:Nat) (a:List Value) (w:World) (K:Array Value→Bool→World→Prop):Prop:=Calls Try.prog f ⟨a⟩ w fun e w=>∃ r0:Array Value,∃ r1:Bool,e=.returned (.tuple ⟨[.agg r0,.bool r1]⟩)∧K r0 r1 w
abbrev sL (n:Nat):Nat × Kd:=(n,.L)
abbrev sI (n:Nat):Nat × Kd:=(n,.I .i64)
abbrev sP (n:Nat):Nat × Kd:=(n,.P)
abbrev sA (n:Nat):Nat × Kd:=(n,.A)
abbrev sB (n:Nat):Nat × Kd:=(n,.B)
theorem qqb {f:FuncId} {fn:Func} {c:Code} {N:Nat} {args:List Value} {w:World} {Q:VWP} {A:Prop} (rs:List ResultVar) (hm:P.follows .mixedOrders=true)
 (hf:P.funcs[f]?=some fn) (hb:fn.body=some c) (hN:fn.ntmps=N) (hle:Nat.ble args.length N=true) (hrs:fn.results.toList=rs)
 (p:Pl) (e:(A,lhs p)=(plW P N p c { norm:=retK P rs Q,ret:=retK P rs Q,ex:=[] } (args0 args) w,rhs P N p c { norm:=retK P rs Q,ret:=retK P rs Q,ex:=[] })) (h:A):Calls P f ⟨args⟩ w (Ret Q):=by
 injection e with e1 e2
 rw [e1] at h
 exact calls_of_wpc rs hf hb hN hle hrs (pl_sound hm p c e2 h)
end
end Go.Proofs.Ytigmbblgfnkpbaa
namespace Go.Proofs.Ytigmbblgfnkpbaa
open Go Go.Proofs
set_option linter.unusedVariables false
set_option maxRecDepth 100000
def qtb (s_0:Sl) (Q:VWP) (w:World):Prop :=
 br (Option.isNone s_0.a) (
 Q (.slice none 0 0) w) (
 nw w ⟨[]⟩ 5 fun a1 w2 =>
 rdO w2 s_0.a (s_0.len * 1) fun c3 =>
 apK Try.prog 5 w2 (some a1) 0 0 s_0.len c3 fun s4 w5 =>
 Q (sV s4) w5)
theorem qtb.ok (s_0:Sl) (Q:VWP) (w:World) (h:qtb s_0 Q w):Calls Try.prog 73 ⟨[sV s_0]⟩ w (Ret Q) :=
 qqb [.tmp 2] qed Try.func73 rfl rfl rfl rfl .lf (by kernel_rfl) h
def qlb (s_0:Sl) (Q:VWP) (w:World):Prop :=
 bd (s_0.len:Int) s_0.cap fun n1 =>
 bd (s_0.len:Int) n1 fun n2 =>
 lt (⟨qvd s_0.a n1 0 1,n2 - 0,n1 - 0⟩:Sl) fun s3 =>
 Q (sV s3) w
theorem qlb.ok (s_0:Sl) (Q:VWP) (w:World) (h:qlb s_0 Q w):Calls Try.prog 44 ⟨[sV s_0]⟩ w (Ret Q) :=
 qqb [.tmp 2] qed Try.func44 rfl rfl rfl rfl .lf (by kernel_rfl) h
end Go.Proofs.Ytigmbblgfnkpbaa
namespace Go.Proofs.Ytigmbblgfnkpbaa
open Go Go.Proofs
set_option linter.unusedVariables false
set_option linter.unusedSimpArgs false
attribute [local irreducible] apK cpK mkK
def byt (V k:Nat):List Int:=(List.range k).map fun i=>((V / 2 ^ (8 * i) % 256:Nat):Int)
abbrev u8s (l:List Int):List Value:=l.map (Value.int .u8)
theorem u8s_append (a b:List Int):u8s (a ++ b)=u8s a ++ u8s b:=by simp [u8s]
theorem qgb (a:List Int):(u8s a).length=a.length:=by simp [u8s]
theorem info_u8:Try.prog.info? 5=some Try.t5:=by kernel_rfl
theorem zc_u8:zc Try.prog 5=#[.int .u8 0]:=by kernel_rfl
section
variable {F0:List Nat} {w0 w:World} {ps:List As}
theorem St.rdB {b k:Nat} {l:List Value} {K:Array Value→Prop} (h:St F0 w0 w (qfb b l :: ps)) (hk:k=l.length) (hK:K ⟨l⟩):rdO w (some ⟨b,0,none⟩) k K:=by
 subst hk
 refine ⟨⟨l⟩,rfl,fun i hi=>?_,hK⟩
 rw [qjc,h.blk.cell,Nat.zero_add]
 simp
theorem St.append_u8 {s:Sl} {xs:List Int} {c:Array Value} {x:Int} {K:Sl→World→Prop} (h:St F0 w0 w (qbb 1 s (u8s xs) :: ps)) (hlen:xs.length≤35184372088832) (hc:c=⟨[.int .u8 x]⟩)
 (hk:∀ s' w',St F0 w0 w' (qbb 1 s' (u8s (xs ++ [x])) :: ps)→K s' w'):apK Try.prog 5 w s.a s.len s.cap 1 c K:=by
 subst hc
 have hl:=h.len
 rw [qgb] at hl
 have h1:(Try.t5).size=1:=rfl
 have h2:(Try.t5).bytes=1:=rfl
 have h4:(zc Try.prog 5).size=1:=by rw [zc_u8]; rfl
 have h5:(Try.t5).bytes ≠ 0:=by rw [h2]; decide
 have h6:(⟨[.int .u8 x]⟩:Array Value).size=1 * 1:=rfl
 have h7:∀ v ∈ (⟨[.int .u8 x]⟩:Array Value),storable v:=by simp [storable]
 refine St.append (i:=Try.t5) (sz:=1) (m:=1) info_u8 h1 (by decide) h4 h5 (by rw [h2]; omega) h h6 h7 ?_
 intro s' w' ho _
 refine hk s' w' ?_
 rw [u8s_append]
 exact ho
end
section
variable {F0:List Nat} {w0 w:World} {ps:List As}
end
end Go.Proofs.Ytigmbblgfnkpbaa
namespace Go.Proofs.Ytigmbblgfnkpbaa
open Go Go.Proofs
set_option linter.unusedVariables false
set_option linter.unusedSimpArgs false
attribute [local irreducible] apK cpK mkK
def Rd (w:World) (sz:Nat) (s:Sl) (cs:List Value):Prop:=cs.length=s.len * sz∧∀ i,i < cs.length→∃ a,s.a=some a∧w.cell? (a.add i)=cs[i]?
theorem Own.rd {sz:Nat} {w:World} {s:Sl} {cs:List Value} {F:List Nat} (h:Own sz w s cs F):Rd w sz s cs:=by
 refine ⟨h.len,fun i hi=>?_⟩
 obtain ⟨ob,h1,h2⟩:=h.cell hi
 exact ⟨⟨ob,0,none⟩,h1,by rw [qjc,Nat.zero_add]; exact h2⟩
theorem Rd.rdO {sz k:Nat} {w:World} {s:Sl} {cs:List Value} {K:Array Value→Prop} (h:Rd w sz s cs) (hk:k=cs.length) (hK:K ⟨cs⟩):rdO w s.a k K:=by
 subst hk
 obtain ⟨h1,h2⟩:=h
 cases e:s.a with
 | none =>
   cases cs with
   | nil=>exact ⟨rfl,hK⟩
   | cons c cs =>
     obtain ⟨a,ha,_⟩:=h2 0 (by simp)
     rw [e] at ha; cases ha
 | some a =>
   refine ⟨⟨cs⟩,rfl,fun i hi=>?_,hK⟩
   obtain ⟨a',ha,hc⟩:=h2 i hi
   rw [e] at ha; cases ha
   rw [hc]; simp
theorem Rd.ix {sz:Nat} {w:World} {s:Sl} {cs:List Value} {i:Int} {K:Addr→Prop} (h:Rd w sz s cs) (hsz:0 < sz) (h0:0≤i) (h1:i < s.len) (hk:∀ a,s.a=some a→K (a.add (i.toNat * sz))):ixS s.a s.len i sz K:=by
 have hl:=h.1
 have:i.toNat * sz < cs.length:=by
  rw [hl]
  exact Nat.mul_lt_mul_of_pos_right (by omega) hsz
 obtain ⟨a,ha,_⟩:=h.2 _ this
 unfold ixS
 rw [ha]
 exact ⟨⟨h0,h1⟩,hk a ha⟩
theorem Rd.cell {sz:Nat} {w:World} {s:Sl} {cs:List Value} (h:Rd w sz s cs) {a:Addr} (ha:s.a=some a) {i:Nat} (hi:i < cs.length):w.cell? (a.add i)=cs[i]?:=by
 obtain ⟨a',ha',hc⟩:=h.2 i hi
 rw [ha] at ha'; cases ha'
 exact hc
theorem qbk (a:Addr) (i j:Nat):(a.add i).add j=a.add (i+j):=by
 obtain ⟨b,o,p⟩:=a
 cases p with
 | none=>rw [qjc,qjc,qjc,Nat.add_assoc]
 | some p =>
   unfold Addr.add
   by_cases hi:i=0
   · by_cases hj:j=0
     · simp [hi,hj]
     · simp [hi,hj]
   · by_cases hj:j=0
     · simp [hi,hj]
     · simp [hi,hj,Nat.add_assoc]
theorem ldL_c {w:World} {a:Addr} {n:Sl} {K:Sl→Prop} (hc:w.cell? a=some (.slice n.a n.len n.cap)) (hk:K n):ldL w a K:=⟨n,hc,hk⟩
theorem Rd.ldI {k:IntKind} {sz:Nat} {w:World} {s:Sl} {cs:List Value} {a:Addr} {i:Nat} {n:Int} {K:Int→Prop} (h:Rd w sz s cs) (ha:s.a=some a) (hv:cs[i]?=some (.int k n)) (hk:K n):ldI k w (a.add i) K:=by
 refine ⟨n,?_,hk⟩
 have hi:i < cs.length:=by
  rcases Nat.lt_or_ge i cs.length with h1 | h1
  · exact h1
  · rw [List.getElem?_eq_none h1] at hv; cases hv
 rw [h.cell ha hi]; exact hv
theorem Rd.ldB {sz:Nat} {w:World} {s:Sl} {cs:List Value} {a:Addr} {i:Nat} {n:Bool} {K:Bool→Prop} (h:Rd w sz s cs) (ha:s.a=some a) (hv:cs[i]?=some (.bool n)) (hk:K n):ldB w (a.add i) K:=by
 refine ⟨n,?_,hk⟩
 have hi:i < cs.length:=by
  rcases Nat.lt_or_ge i cs.length with h1 | h1
  · exact h1
  · rw [List.getElem?_eq_none h1] at hv; cases hv
 rw [h.cell ha hi]; exact hv
theorem cell_lt {w:World} {a:Addr} {v:Value} (h:w.cell? a=some v):a.block < w.heap.size:=by
 unfold World.cell? at h
 rcases Nat.lt_or_ge a.block w.heap.size with h1 | h1
 · exact h1
 · have:w.heap[a.block]?=none:=Array.getElem?_eq_none h1
   simp [this] at h
theorem add_block (a:Addr) (i:Nat):(a.add i).block=a.block:=by unfold Addr.add; split <;> rfl
theorem cell_congr {w w':World} {a:Addr} (h:w'.heap[a.block]?=w.heap[a.block]?):w'.cell? a=w.cell? a:=by
 unfold World.cell?
 rw [h]
theorem Rd.keep {sz:Nat} {w w':World} {s:Sl} {cs:List Value} {G:List Nat} (h:Rd w sz s cs) (m:Mod G w w') (hG:∀ a,s.a=some a→a.block ∉ G):Rd w' sz s cs:=by
 refine ⟨h.1,fun i hi=>?_⟩
 obtain ⟨a,ha,hc⟩:=h.2 i hi
 refine ⟨a,ha,?_⟩
 rw [← hc]
 rw [List.getElem?_eq_getElem hi] at hc
 have hlt:=cell_lt hc
 rw [add_block] at hlt
 apply cell_congr
 rw [add_block]
 exact m.frame _ hlt (hG a ha)
def RBlk (w:World) (b:Nat) (l:List Value):Prop:=∃ t f,w.heap[b]?=some (.cells ⟨l⟩ t f)
theorem Blk.rb {w:World} {b:Nat} {l:List Value} (h:Blk w b l):RBlk w b l:=by
 obtain ⟨t,h⟩:=h
 exact ⟨t,_,h⟩
theorem RBlk.lt {w:World} {b:Nat} {l:List Value} (h:RBlk w b l):b < w.heap.size:=by
 obtain ⟨t,f,h⟩:=h
 exact (Array.getElem?_eq_some_iff.1 h).1
theorem RBlk.keep {F:List Nat} {w w':World} {b:Nat} {l:List Value} (h:RBlk w b l) (m:Mod F w w') (hb:b ∉ F):RBlk w' b l:=by
 have hl:=h.lt
 obtain ⟨t,f,h⟩:=h
 exact ⟨t,f,by rw [m.frame b hl hb]; exact h⟩
theorem RBlk.cell {w:World} {b:Nat} {l:List Value} (h:RBlk w b l) (o:Nat):w.cell? ⟨b,o,none⟩=l[o]?:=by
 obtain ⟨t,f,h⟩:=h
 simp [World.cell?,h]
def rdA (sz:Nat) (s:Sl) (cs:List Value):As where
 hd w F:=cs.length=s.len * sz∧((cs=[]∧F=[]) ∨ ∃ b o l,s.a=some ⟨b,o,none⟩∧RBlk w b l∧F=[b]∧∀ i,i < cs.length→l[o+i]?=cs[i]?)
 keep:=by
  rintro w w' F G ⟨hl,h⟩ m hd
  refine ⟨hl,?_⟩
  rcases h with h | ⟨b,o,l,h1,h2,rfl,h3⟩
  · exact Or.inl h
  · exact Or.inr ⟨b,o,l,h1,h2.keep m (hd b (by simp)),rfl,h3⟩
 lt:=by
  rintro w F ⟨hl,⟨_,rfl⟩ | ⟨b,o,l,h1,h2,rfl,h3⟩⟩ x hx
  · cases hx
  · have:x=b:=by simpa using hx
    subst this; exact h2.lt
section
variable {F0:List Nat} {w0 w:World} {p:As} {ps:List As} {sz:Nat} {s:Sl} {cs:List Value}
theorem St.rd (h:St F0 w0 w (rdA sz s cs :: ps)):Rd w sz s cs:=by
 obtain ⟨F,hl,⟨rfl,rfl⟩ | ⟨b,o,l,h1,h2,rfl,h3⟩⟩:=h.get
 · exact ⟨hl,fun i hi=>by simp at hi⟩
 · refine ⟨hl,fun i hi=>⟨_,h1,?_⟩⟩
   rw [qjc,h2.cell]
   exact h3 i hi
theorem St.ord (h:St F0 w0 w (qbb sz s cs :: ps)):Rd w sz s cs:=by
 obtain ⟨F,h⟩:=h.own; exact h.rd
theorem Own.ro {F:List Nat} (h:Own sz w s cs F):∃ F',(rdA sz s cs).hd w F'∧∀ x ∈ F',x ∈ F:=by
 refine ⟨F,⟨h.len,?_⟩,fun _ h=>h⟩
 rcases h with ⟨_,h1,h2⟩ | ⟨ob,rest,h1,hb,_,_,rfl⟩
 · exact Or.inl ⟨h1,h2⟩
 · exact Or.inr ⟨ob,0,cs ++ rest,h1,hb.rb,rfl,fun i hi=>by rw [Nat.zero_add,List.getElem?_append_left hi]⟩
theorem St.ro (h:St F0 w0 w (qbb sz s cs :: ps)):St F0 w0 w (rdA sz s cs :: ps):=by
 refine h.mp fun F h=>?_
 refine ⟨Own.len h,?_⟩
 rcases h with ⟨_,h1,h2⟩ | ⟨ob,rest,h1,hb,_,_,rfl⟩
 · exact Or.inl ⟨h1,h2⟩
 · exact Or.inr ⟨ob,0,cs ++ rest,h1,hb.rb,rfl,fun i hi=>by rw [Nat.zero_add,List.getElem?_append_left hi]⟩
theorem St.recap {s':Sl} (h:St F0 w0 w (rdA sz s cs :: ps)) (ha:s'.a=s.a) (hl:s'.len=s.len):St F0 w0 w (rdA sz s' cs :: ps):=by
 refine h.mp fun F h=>?_
 unfold rdA at h ⊢
 simp only at h ⊢
 rw [ha,hl]; exact h
end
theorem mkStr_i {F0:List Nat} {w0 w:World} {ps:List As} {b n:Nat} {l:List Value} {K:World→Prop} (h:St F0 w0 w (qfb b l :: ps)) (hn:l.length=n) (hk:∀ w',St F0 w0 w' (rdA 1 ⟨some ⟨b,0,none⟩,n,n⟩ l :: ps)→K w'):mkStr w (some ⟨b,0,none⟩) K:=by
 obtain ⟨f,⟨hb,rfl⟩,hstep⟩:=h.step
 obtain ⟨t,hs⟩:=hb.shape
 have e:w.freeze ⟨b,l.length,none⟩ 1={ w with heap:=w.heap.modify b fun
  | .cells c elem (lo,hi)=>.cells c elem (if (lo == hi)=true then (l.length,l.length+1) else (min lo l.length,max hi (l.length+1)))
  | o=>o }:=rfl
 refine ⟨t,l.length,hs,hk _ (hstep _ [b] _ ?_ (Gr.refl _ _) ⟨by simp [hn],Or.inr ⟨b,0,l,rfl,?_,rfl,fun i hi=>by rw [Nat.zero_add]⟩⟩)⟩
 · rw [e]
   refine ⟨rfl,rfl,rfl,by simp,fun x hx hF=>?_⟩
   simp only [Array.getElem?_modify]
   rw [if_neg]
   intro h
   exact hF (by simp [h])
 · obtain ⟨t,hb⟩:=hb
   refine ⟨t,(l.length,l.length+1),?_⟩
   rw [e]
   simp only [Array.getElem?_modify,if_true,hb,Option.map_some]
   rfl
def val:List Bool→Nat
 | []=>0
 | b :: l=>b.toNat+2 * val l
def bt (v:Int) (i:Nat):Bool:=v / 2 ^ i % 2 == 1
def bitsOf (v:Int) (n:Nat):List Bool:=(List.range n).map (bt v)
def pb (v n:Int):List Bool:=if 0≤n∧n≤24 then bitsOf v n.toNat else []
end Go.Proofs.Ytigmbblgfnkpbaa
namespace Go.Proofs.Ytigmbblgfnkpbaa
open Go Go.Proofs
set_option linter.unusedVariables false
set_option linter.unusedSimpArgs false
attribute [local irreducible] apK cpK mkK
theorem orV_comm (k:IntKind) (a b:Int):orV k a b=orV k b a:=by unfold orV; rw [BitVec.or_comm]
theorem orV_add' (k:IntKind) {a b:Nat} {t:Nat} (ha:a < 2 ^ t) (hs:a+b * 2 ^ t < 2 ^ (k.bits - 1)):orV k ((b:Int) * 2 ^ t) (a:Int)=(a:Int)+(b:Int) * 2 ^ t:=by
 rw [orV_comm,orV_add k ha hs]
section
variable {F0:List Nat} {w0 w:World} {ps:List As}
theorem St.nil (sz:Nat) (h:St F0 w0 w ps):St F0 w0 w (qbb sz ⟨none,0,0⟩ [] :: ps) :=
 h.add (f':=[]) (Mod.refl _ _) (Or.inl ⟨rfl,rfl,rfl⟩) (Gr.refl _ _)
theorem qtb.c {s:Sl} {xs:List Int} {K:Ending→World→Prop} (h:St F0 w0 w ps) (hr:Rd w 1 s (u8s xs)) (hlen:xs.length≤35184372088832)
 (hk:∀ s' w',St F0 w0 w' (qbb 1 s' (u8s xs) :: ps)→K (.returned (.slice s'.a s'.len s'.cap)) w'):Calls Try.prog 73 ⟨[.slice s.a s.len s.cap]⟩ w K:=by
 refine qnb (qtb.ok _ _ _ ?_)
 unfold qtb
 have hl:=hr.1
 rw [qgb] at hl
 refine qzc (fun h1=>?_) (fun h1=>?_)
 · have hx:xs=[]:=by
    cases xs with
    | nil=>rfl
    | cons x xs =>
      obtain ⟨a,ha,_⟩:=hr.2 0 (by simp [u8s])
      rw [ha] at h1; cases h1
   subst hx
   exact hk ⟨none,0,0⟩ w (h.nil 1)
 · refine h.newM fun nb w1 hm h=>?_
   have hr1:=hr.keep hm (by simp)
   refine hr1.rdO (by rw [hr1.1]) ?_
   have h1:(Try.t5).size=1:=rfl
   have h2:(Try.t5).bytes=1:=rfl
   have h4:(zc Try.prog 5).size=1:=by rw [zc_u8]; rfl
   have h5:(Try.t5).bytes ≠ 0:=by rw [h2]; decide
   have h:St F0 w0 w1 (qbb 1 ⟨some ⟨nb,0,none⟩,0,0⟩ [] :: ps):=by
    refine h.mp ?_
    rintro F ⟨hb,rfl⟩
    exact Or.inr ⟨nb,[],rfl,hb,rfl,rfl,rfl⟩
   refine St.append (i:=Try.t5) (sz:=1) (m:=s.len) (s:=⟨some ⟨nb,0,none⟩,0,0⟩) info_u8 h1 (by decide) h4 h5 (by rw [h2]; show (2 * (0+s.len)+1024) * 1≤_; omega) h (by
    show (u8s xs).length=_
    exact hr.1) (by
    intro v hv
    have hv:v ∈ u8s xs:=by simpa using hv
    obtain ⟨n,_,rfl⟩:=List.mem_map.1 hv
    trivial) fun s' w' h _=>hk s' w' h
def bytes (l:List Bool):List Int:=byt (val l) ((l.length+7) / 8)
theorem qlb.c {s:Sl} {cs:List Value} {K:Ending→World→Prop} (h:St F0 w0 w (rdA 1 s cs :: ps)) (hc:s.len≤s.cap)
 (hk:∀ s':Sl,s'.len=s.len→s'.cap=s.len→St F0 w0 w (rdA 1 s' cs :: ps)→K (.returned (.slice s'.a s'.len s'.cap)) w):Calls Try.prog 44 ⟨[.slice s.a s.len s.cap]⟩ w K:=by
 refine qnb (qlb.ok _ _ _ ?_)
 unfold qlb
 refine ⟨⟨by omega,by omega⟩,⟨by omega,by omega⟩,qtd ?_⟩
 refine hk ⟨_,_,_⟩ (by simp) (by simp) (h.recap ?_ (by simp))
 show qvd s.a _ 0 1=s.a
 unfold qvd
 split
 · rfl
 · cases s.a with
   | none=>rfl
   | some a=>simp [Addr.add]
theorem St.cap {sz:Nat} {s:Sl} {cs:List Value} (hsz:0 < sz) (h:St F0 w0 w (qbb sz s cs :: ps)):s.len≤s.cap:=by
 obtain ⟨F,ho⟩:=h.own
 rcases ho with ⟨rfl,_,_⟩ | ⟨ob,rest,_,_,h2,h3,_⟩
 · exact Nat.le_refl 0
 · rw [List.length_append] at h3
   have:s.len * sz≤s.cap * sz:=by omega
   exact Nat.le_of_mul_le_mul_right this hsz
end
end Go.Proofs.Ytigmbblgfnkpbaa
namespace Go.Proofs.Ytigmbblgfnkpbaa
open Go Go.Proofs
set_option linter.unusedVariables false
set_option linter.unusedSimpArgs false
attribute [local irreducible] apK cpK mkK
def u8 (xs:List Int):List UInt8:=xs.map fun x=>UInt8.ofNat x.toNat
theorem Rd.btS {w:World} {s:Sl} {xs:List Int} {K:ByteArray→Prop} (h:Rd w 1 s (u8s xs)) (hx:∀ x ∈ xs,0≤x∧x < 256) (hk:K ⟨⟨u8 xs⟩⟩):btS w s.a s.len K:=by
 have hl:=h.1
 rw [qgb,Nat.mul_one] at hl
 unfold Go.Proofs.Ytigmbblgfnkpbaa.btS
 cases e:s.a with
 | none =>
   cases xs with
   | nil=>exact hk
   | cons x xs =>
     obtain ⟨a,ha,_⟩:=h.2 0 (by simp [u8s])
     rw [e] at ha; cases ha
 | some a =>
   refine ⟨u8 xs,by simp [u8,hl],fun j hj=>?_,hk⟩
   rw [h.cell e (by rw [qgb]; omega)]
   have hj':j < xs.length:=by omega
   simp only [u8s,u8,List.getElem?_map,List.getElem?_eq_getElem hj',Option.map_some]
   have:=hx _ (List.getElem_mem hj')
   congr 2
   rw [UInt8.toNat_ofNat']
   omega
section
variable {F0:List Nat} {w0 w:World} {ps:List As}
end
end Go.Proofs.Ytigmbblgfnkpbaa
namespace Go.Proofs.Ytigmbblgfnkpbaa
open Go Go.Proofs
set_option linter.unusedVariables false
set_option linter.unusedSimpArgs false
attribute [local irreducible] apK cpK mkK
theorem wf_i64 {n:Int} (h:(Lit.int .i64 n).wf=true) : -9223372036854775808≤n∧n < 9223372036854775808:=by
 have h:IntKind.i64.min≤n∧n≤IntKind.i64.max:=by simpa [Lit.wf] using h
 have h1:IntKind.i64.min = -9223372036854775808:=rfl
 have h2:IntKind.i64.max=9223372036854775807:=rfl
 omega
section
variable {F0:List Nat} {w0 w:World} {ps:List As}
end
end Go.Proofs.Ytigmbblgfnkpbaa
namespace Go.Proofs.Ytigmbblgfnkpbaa
open Go Go.Proofs
set_option linter.unusedVariables false
set_option linter.unusedSimpArgs false
attribute [local irreducible] apK cpK mkK
theorem wrap_uns {k:IntKind} (hk:k.signed=false) (x:Int):k.wrap x=x % 2 ^ k.bits:=by
 simp [IntKind.wrap,hk]
theorem wrap_unat {k:IntKind} (hk:k.signed=false) {n:Nat} (h:n < 2 ^ k.bits):k.wrap (n:Int)=n:=by
 rw [wrap_uns hk]
 exact Int.emod_eq_of_lt (by omega) (by exact_mod_cast h)
theorem orV_unat {k:IntKind} (hk:k.signed=false) {a b:Nat} (ha:a < 2 ^ k.bits) (hb:b < 2 ^ k.bits):orV k (a:Int) (b:Int)=((a ||| b:Nat):Int):=by
 unfold orV
 rw [BitVec.toNat_or,qae _ _ ha,qae _ _ hb]
 exact wrap_unat hk (Nat.or_lt_two_pow ha hb)
theorem orV_uadd {k:IntKind} (hk:k.signed=false) {a b:Nat} {t:Nat} (ha:a < 2 ^ t) (hs:a+b * 2 ^ t < 2 ^ k.bits):orV k (a:Int) ((b:Int) * 2 ^ t)=(a:Int)+(b:Int) * 2 ^ t:=by
 have e:(b:Int) * 2 ^ t=((b * 2 ^ t:Nat):Int):=by simp
 rw [e,orV_unat hk (by omega) (by omega),Nat.or_comm]
 have:=Nat.two_pow_add_eq_or_of_lt ha b
 rw [Nat.mul_comm b,← this]
 simp
 omega
theorem shlV_u {k:IntKind} (hk:k.signed=false) {x:Nat} {t:Nat} (ht:t≤k.bits) (hs:x * 2 ^ t < 2 ^ k.bits):qxe k (x:Int) (t:Int)=(x:Int) * 2 ^ t:=by
 unfold qxe
 rw [Int.toNat_natCast,Nat.min_eq_left ht]
 have e:(x:Int) * 2 ^ t=((x * 2 ^ t:Nat):Int):=by simp
 rw [e,wrap_unat hk hs]
section
variable {F0:List Nat} {w0 w:World} {ps:List As}
theorem St.append1 {P:Program} {e:TypeId} {i:TypeInfo} {z v:Value} {s:Sl} {cs:List Value} {c:Array Value} {K:Sl→World→Prop}
 (hi:P.info? e=some i) (hsz:i.size=1) (hz:zc P e=#[z]) (hb0:i.bytes ≠ 0) (hb:i.bytes≤16)
 (h:St F0 w0 w (qbb 1 s cs :: ps)) (hlen:cs.length≤1099511627776) (hc:c=⟨[v]⟩) (hv:storable v)
 (hk:∀ s' w',St F0 w0 w' (qbb 1 s' (cs ++ [v]) :: ps)→K s' w'):apK P e w s.a s.len s.cap 1 c K:=by
 subst hc
 have hl:=h.len
 refine St.append (i:=i) (sz:=1) (m:=1) hi hsz (by decide) (by rw [hz]; rfl) hb0 ?_ h (by rfl) (by simpa using hv) (fun s' w' h _=>hk s' w' h)
 refine Nat.le_trans (Nat.mul_le_mul_left _ hb) ?_
 have hl2:s.len≤1099511627776:=by omega
 clear hk h
 generalize s.len=n at hl2
 omega
theorem repL_one (n:Nat) (z:Value):qie n [z]=List.replicate n z:=by
 induction n with
 | zero=>rfl
 | succ n ih=>rw [qie,ih,List.replicate_succ]; rfl
theorem St.make1 {P:Program} {e:TypeId} {z:Value} {n:Nat} {l c:Int} {K:Sl→World→Prop} (hz:zc P e=#[z]) (hl:l=n) (hc:c=n) (hn:n≤1099511627776) (hb:P.bytesOf e≤16) (h:St F0 w0 w ps)
 (hk:∀ s w',s.len=n→s.cap=n→St F0 w0 w' (qbb 1 s (List.replicate n z) :: ps)→K s w'):mkK P e w l c K:=by
 subst hl hc
 unfold mkK
 refine ⟨⟨by omega,by omega,by omega,?_⟩,?_⟩
 · have:P.bytesOf e * n≤16 * n:=Nat.mul_le_mul_right _ hb
   have e2:((P.bytesOf e:Int) * (n:Int))=((P.bytesOf e * n:Nat):Int):=by simp
   rw [e2]
   have:((P.bytesOf e * n:Nat):Int)≤((16 * n:Nat):Int):=by exact_mod_cast this
   have h3:(2:Int) ^ 48=281474976710656:=by decide
   omega
 · refine hk ⟨newAt w,_,_⟩ _ (by simp) (by simp) ?_
   rw [hz]
   refine h.add (f':=[w.heap.size]) (Mod.alloc _ _) (Or.inr ⟨w.heap.size,[],rfl,?_,by simp,by simp,rfl⟩) (fun x hx=>Or.inr (by have:x=w.heap.size:=(by simpa using hx); omega))
   have:=Blk.new w (qie ((n:Int)).toNat #[z].toList) e
   rw [List.append_nil]
   rw [Int.toNat_natCast] at this ⊢
   rw [show (#[z]:Array Value).toList=[z] from rfl,repL_one] at this ⊢
   exact this
end
section
variable {F0:List Nat} {w0 w:World} {ps:List As}
theorem u8s_set (xs:List Int) (i:Nat) (v:Int):(u8s xs).set i (.int .u8 v)=u8s (xs.set i v):=by
 unfold u8s
 rw [List.map_set]
end
end Go.Proofs.Ytigmbblgfnkpbaa
namespace Go.Proofs.Ytigmbblgfnkpbaa
open Go Go.Proofs
set_option linter.unusedVariables false
set_option linter.unusedSimpArgs false
attribute [local irreducible] apK cpK mkK
class PkA (p:As) (ps:List As) (rest:outParam (List As)):Prop where
 pk:∀ {F0:List Nat} {w0 w:World},St F0 w0 w ps→St F0 w0 w (p :: rest)
instance PkA.tl {p q:As} {ps rest:List As} [i:PkA p ps rest]:PkA p (q :: ps) (q :: rest):=⟨fun h=>(h.tail fun _ _ _ h=>i.pk h).at1⟩
instance PkA.hd {p:As} {ps:List As}:PkA p (p :: ps) ps:=⟨id⟩
class PkB (b:Nat) (ps:List As) (l:outParam (List Value)) (rest:outParam (List As)):Prop where
 pk:∀ {F0:List Nat} {w0 w:World},St F0 w0 w ps→St F0 w0 w (qfb b l :: rest)
instance PkB.tl {b:Nat} {l:List Value} {q:As} {ps rest:List As} [i:PkB b ps l rest]:PkB b (q :: ps) l (q :: rest):=⟨fun h=>(h.tail fun _ _ _ h=>i.pk h).at1⟩
instance PkB.hd {b:Nat} {l:List Value} {ps:List As}:PkB b (qfb b l :: ps) l ps:=⟨id⟩
class PkO (s:Sl) (ps:List As) (sz:outParam Nat) (cs:outParam (List Value)) (rest:outParam (List As)):Prop where
 pk:∀ {F0:List Nat} {w0 w:World},St F0 w0 w ps→St F0 w0 w (qbb sz s cs :: rest)
instance PkO.tl {s:Sl} {sz:Nat} {cs:List Value} {q:As} {ps rest:List As} [i:PkO s ps sz cs rest]:PkO s (q :: ps) sz cs (q :: rest):=⟨fun h=>(h.tail fun _ _ _ h=>i.pk h).at1⟩
instance PkO.hd {s:Sl} {sz:Nat} {cs:List Value} {ps:List As}:PkO s (qbb sz s cs :: ps) sz cs ps:=⟨id⟩
class Sub (ps qs:List As):Prop where
 sub:∀ {F0:List Nat} {w0 w:World},St F0 w0 w ps→St F0 w0 w qs
instance (priority:=100) Sub.dr {q:As} {ps qs:List As} [i:Sub ps qs]:Sub (q :: ps) qs:=⟨fun h=>i.sub h.drop⟩
instance (priority:=500) Sub.cons {p:As} {ps rest qs:List As} [i:PkA p ps rest] [j:Sub rest qs]:Sub ps (p :: qs):=⟨fun h=>(i.pk h).tail fun _ _ _ h=>j.sub h⟩
instance (priority:=2000) Sub.refl {ps:List As}:Sub ps ps:=⟨id⟩
instance (priority:=3000) Sub.nil {ps:List As}:Sub ps []:=⟨fun h=>⟨h.1,[],rfl,fun x hx=>by cases hx⟩⟩
class Rdb (F0:List Nat) (w0:World) (s:Sl) (ps:List As) (sz:outParam Nat) (cs:outParam (List Value)):Prop where
 rd:∀ {w:World},St F0 w0 w ps→Rd w sz s cs
instance Rdb.tl {F0:List Nat} {w0:World} {s:Sl} {q:As} {ps:List As} {sz:Nat} {cs:List Value} [i:Rdb F0 w0 s ps sz cs]:Rdb F0 w0 s (q :: ps) sz cs:=⟨fun h=>i.rd h.drop⟩
instance Rdb.own {F0:List Nat} {w0:World} {s:Sl} {ps:List As} {sz:Nat} {cs:List Value}:Rdb F0 w0 s (qbb sz s cs :: ps) sz cs:=⟨fun h=>h.ord⟩
instance Rdb.rdo {F0:List Nat} {w0:World} {s:Sl} {ps:List As} {sz:Nat} {cs:List Value}:Rdb F0 w0 s (rdA sz s cs :: ps) sz cs:=⟨fun h=>h.rd⟩
theorem Rdb.nil {F0:List Nat} {w0:World} {ps:List As} (n:Nat):Rdb F0 w0 ⟨none,0,n⟩ ps 1 []:=⟨fun h=>⟨rfl,fun i hi=>by simp at hi⟩⟩
theorem Rdb.start {w0:World} {s:Sl} {ps:List As} {sz:Nat} {cs:List Value} (h:Rd w0 sz s cs):Rdb [] w0 s ps sz cs:=⟨fun k=>h.keep k.mod (by simp)⟩
theorem Rd.cut {w:World} {sz n m:Nat} {s:Sl} {cs:List Value} (h:Rd w sz s cs) (hsz:0 < sz) (hm:m≤s.len) (hn:n≤m) (hc:s.len≤s.cap) (c':Nat):Rd w sz ⟨qvd s.a s.cap n sz,m - n,c'⟩ ((cs.drop (n * sz)).take ((m - n) * sz)):=by
 have hl:=h.1
 have hms:m * sz≤s.len * sz:=Nat.mul_le_mul_right _ hm
 have hns:(m - n) * sz=m * sz - n * sz:=Nat.sub_mul _ _ _
 have hnm:n * sz≤m * sz:=Nat.mul_le_mul_right _ hn
 refine ⟨by rw [List.length_take,List.length_drop,hl]; show _=(m - n) * sz; omega,fun i hi=>?_⟩
 rw [List.length_take,List.length_drop,hl] at hi
 have hne:¬ s.cap=n:=by
  intro e
  have:m - n=0:=by omega
  rw [this] at hi
  simp at hi
 obtain ⟨a,ha,hcell⟩:=h.2 (n * sz+i) (by omega)
 refine ⟨a.add (n * sz),?_,?_⟩
 · show qvd s.a s.cap n sz=_
   unfold qvd
   rw [if_neg hne,ha]
   rfl
 · rw [qbk,hcell,List.getElem?_take,if_pos (by omega),List.getElem?_drop]
class GetL (l:List Value) (o:Nat) (v:outParam Value):Prop where
 get:l[o]?=some v
instance GetL.z {v:Value} {l:List Value}:GetL (v :: l) 0 v:=⟨rfl⟩
instance GetL.s {v u:Value} {l:List Value} {n:Nat} [i:GetL l n v]:GetL (u :: l) (n+1) v:=⟨by simpa using i.get⟩
class SetL (l:List Value) (o:Nat) (v:Value) (l':outParam (List Value)):Prop where
 set:l.set o v=l'
 lt:o < l.length
instance SetL.z {v u:Value} {l:List Value}:SetL (u :: l) 0 v (v :: l):=⟨rfl,by simp⟩
instance SetL.s {v u:Value} {l l':List Value} {n:Nat} [i:SetL l n v l']:SetL (u :: l) (n+1) v (u :: l'):=⟨by simp [i.set],by have:=i.lt; simp; omega⟩
section
variable {F0:List Nat} {w0 w:World} {ps qs rest:List As} {b o:Nat} {l l':List Value}
theorem St.sub [i:Sub ps qs] (h:St F0 w0 w ps):St F0 w0 w qs:=i.sub h
theorem St.toB (b:Nat) [i:PkB b ps l rest] (h:St F0 w0 w ps):St F0 w0 w (qfb b l :: rest):=i.pk h
theorem St.toO (s:Sl) {sz:Nat} {cs:List Value} [i:PkO s ps sz cs rest] (h:St F0 w0 w ps):St F0 w0 w (qbb sz s cs :: rest):=i.pk h
theorem St.rdb (s:Sl) {sz:Nat} {cs:List Value} [i:Rdb F0 w0 s ps sz cs] (h:St F0 w0 w ps):Rd w sz s cs:=i.rd h
theorem St.fI {k:IntKind} {n:Int} {K:Int→Prop} (h:St F0 w0 w ps) [PkB b ps l rest] [g:GetL l o (.int k n)] (hk:K n):ldI k w ⟨b,o,none⟩ K:=(h.toB b).blk.ldI g.get hk
theorem St.fB {n:Bool} {K:Bool→Prop} (h:St F0 w0 w ps) [PkB b ps l rest] [g:GetL l o (.bool n)] (hk:K n):ldB w ⟨b,o,none⟩ K:=(h.toB b).blk.ldB g.get hk
theorem St.fL {a:Option Addr} {n c:Nat} {K:Sl→Prop} (h:St F0 w0 w ps) [PkB b ps l rest] [g:GetL l o (.slice a n c)] (hk:K ⟨a,n,c⟩):ldL w ⟨b,o,none⟩ K:=(h.toB b).blk.ldL (n:=⟨a,n,c⟩) g.get hk
theorem St.fM {n:Option Nat} {K:Option Nat→Prop} (h:St F0 w0 w ps) [PkB b ps l rest] [g:GetL l o (.map n)] (hk:K n):ldM w ⟨b,o,none⟩ K:=(h.toB b).blk.ldM g.get hk
theorem St.fst {v:Value} {K:World→Prop} (h:St F0 w0 w ps) [PkB b ps l rest] [g:SetL l o v l'] (hs:storable v) (hk:∀ w',St F0 w0 w' (qfb b l' :: rest)→K w'):Go.Proofs.Ytigmbblgfnkpbaa.st w ⟨b,o,none⟩ v K :=
 (h.toB b).st g.lt hs fun w' h=>hk w' (by rw [g.set] at h; exact h)
abbrev ivs (k:IntKind) (l:List Int):List Value:=l.map (Value.int k)
theorem qt (k:IntKind) (l:List Int):(ivs k l).length=l.length:=by simp [ivs]
theorem ivs_get {k:IntKind} {l:List Int} {i:Nat} (h:i < l.length):(ivs k l)[i]?=some (.int k (l.getD i 0)):=by
 simp [ivs,h,List.getD,List.getElem?_eq_getElem h]
theorem ivs_set (k:IntKind) (l:List Int) (i:Nat) (v:Int):(ivs k l).set i (.int k v)=ivs k (l.set i v):=by
 unfold ivs; rw [List.map_set]
theorem qbe {k:IntKind} {l:List Int}:∀ v ∈ (⟨ivs k l⟩:Array Value),storable v:=by
 intro v hv
 have hv:v ∈ ivs k l:=by simpa using hv
 obtain ⟨n,_,rfl⟩:=List.mem_map.1 hv
 trivial
theorem qkj (k:IntKind) (l m:List Int):ivs k l ++ ivs k m=ivs k (l ++ m):=by simp [ivs]
theorem ivs_take (k:IntKind) (l:List Int) (n:Nat):(ivs k l).take n=ivs k (l.take n):=by simp [ivs,List.map_take]
theorem ivs_drop (k:IntKind) (l:List Int) (n:Nat):(ivs k l).drop n=ivs k (l.drop n):=by simp [ivs,List.map_drop]
theorem ivs_inj {k:IntKind} {l m:List Int} (h:ivs k l=ivs k m):l=m:=by
 unfold ivs at h
 exact (List.map_inj_right (fun a b h=>by injection h)).1 h
theorem Rd.at {k:IntKind} {s:Sl} {zs:List Int} {i:Int} {K:Int→Prop} (h:Rd w 1 s (ivs k zs)) (j:Nat) (hi:i=j) (hj:j < zs.length) (hk:K (zs.getD j 0)):ixS s.a s.len i 1 fun a=>Go.Proofs.Ytigmbblgfnkpbaa.ldI k w a K:=by
 subst hi
 have hl:=h.1
 rw [qt] at hl
 refine h.ix (by decide) (by omega) (by omega) fun a ha=>?_
 rw [show ((j:Int)).toNat * 1=j by omega]
 exact h.ldI ha (ivs_get hj) hk
theorem St.lx {k:IntKind} {s:Sl} {zs:List Int} {i:Int} {K:Int→Prop} (h:St F0 w0 w ps) [Rdb F0 w0 s ps 1 (ivs k zs)] (j:Nat) (hi:i=j) (hj:j < zs.length) (hk:K (zs.getD j 0)):ixS s.a s.len i 1 fun a=>Go.Proofs.Ytigmbblgfnkpbaa.ldI k w a K :=
 (h.rdb s).at j hi hj hk
theorem qlk {b o n sz:Nat} {i:Int} {K:Addr→Prop} (h0:0≤i) (h1:i < (n:Int)) (hk:K ⟨b,o+i.toNat * sz,none⟩):ixA ⟨b,o,none⟩ n i sz K:=by
 unfold ixA
 rw [qjc]
 exact ⟨⟨h0,h1⟩,hk⟩
theorem St.la {k:IntKind} {n:Nat} {zs:List Int} {i:Int} {K:Int→Prop} (h:St F0 w0 w ps) [PkB b ps (ivs k zs) rest] (j:Nat) (hi:i=j) (hn:zs.length=n) (hj:j < n) (hk:K (zs.getD j 0)):ixA ⟨b,0,none⟩ n i 1 fun a=>Go.Proofs.Ytigmbblgfnkpbaa.ldI k w a K:=by
 subst hi
 refine qlk (by omega) (by omega) ?_
 refine (h.toB b).blk.ldI ?_ hk
 rw [show 0+((j:Int)).toNat * 1=j by omega]
 exact ivs_get (by omega)
theorem St.sa {k:IntKind} {n:Nat} {zs:List Int} {i v:Int} {K:World→Prop} (h:St F0 w0 w ps) [PkB b ps (ivs k zs) rest] (j:Nat) (hi:i=j) (hn:zs.length=n) (hj:j < n) (hk:∀ w',St F0 w0 w' (qfb b (ivs k (zs.set j v)) :: rest)→K w'):ixA ⟨b,0,none⟩ n i 1 fun a=>Go.Proofs.Ytigmbblgfnkpbaa.st w a (.int k v) K:=by
 subst hi
 refine qlk (by omega) (by omega) ?_
 rw [show 0+((j:Int)).toNat * 1=j by omega]
 refine (h.toB b).st (by rw [qt]; omega) trivial fun w h=>hk w ?_
 rw [ivs_set] at h
 exact h
theorem St.lA {n:Nat} {K:Array Value→Prop} (h:St F0 w0 w ps) [PkB b ps l rest] (hl:l.length=n) (hk:K ⟨l⟩):ldA w ⟨b,0,none⟩ n K :=
 (h.toB b).blk.ldA (cs:=⟨l⟩) hl (fun j hj=>by rw [Nat.zero_add]; simp) hk
theorem St.sA {n:Nat} {K:World→Prop} (h:St F0 w0 w ps) [PkB b ps l rest] (hl:l.length=n) (hl':l'.length=n) (hs:∀ v ∈ (⟨l'⟩:Array Value),storable v) (hk:∀ w',St F0 w0 w' (qfb b l' :: rest)→K w'):Go.Proofs.Ytigmbblgfnkpbaa.stA w ⟨b,0,none⟩ ⟨l'⟩ K:=by
 refine (h.toB b).stA (o:=0) (by show 0+l'.length≤l.length; omega) hs fun w' h=>hk w' ?_
 have e:l.take 0 ++ (⟨l'⟩:Array Value).toList ++ l.drop (0+(⟨l'⟩:Array Value).size)=l':=by
  rw [List.take_zero,List.nil_append,List.drop_eq_nil_of_le (by show l.length≤0+l'.length; omega),List.append_nil]
 rwa [e] at h
end
end Go.Proofs.Ytigmbblgfnkpbaa
namespace Go.Proofs.Ytigmbblgfnkpbaa
open Go Go.Proofs
set_option linter.unusedVariables false
set_option linter.unusedSimpArgs false
attribute [local irreducible] apK cpK mkK
class PkF {α:Type} (f:Nat→α→As) (b:Nat) (ps:List As) (x:outParam α) (rest:outParam (List As)):Prop where
 pk:∀ {F0:List Nat} {w0 w:World},St F0 w0 w ps→St F0 w0 w (f b x :: rest)
instance PkF.tl {α:Type} {f:Nat→α→As} {b:Nat} {x:α} {q:As} {ps rest:List As} [i:PkF f b ps x rest]:PkF f b (q :: ps) x (q :: rest):=⟨fun h=>(h.tail fun _ _ _ h=>i.pk h).at1⟩
instance PkF.hd {α:Type} {f:Nat→α→As} {b:Nat} {x:α} {ps:List As}:PkF f b (f b x :: ps) x ps:=⟨id⟩
theorem St.toF {α:Type} (f:Nat→α→As) (b:Nat) {F0:List Nat} {w0 w:World} {ps rest:List As} {x:α} [i:PkF f b ps x rest] (h:St F0 w0 w ps):St F0 w0 w (f b x :: rest):=i.pk h
theorem eqA_i {k:IntKind} {n:Nat} {xs ys:List Int} {K:Bool→Prop} (h1:xs.length=n) (h2:ys.length=n) (hk:K (xs == ys)):eqA k n ⟨ivs k xs⟩ ⟨ivs k ys⟩ K:=⟨xs,ys,rfl,rfl,h1,h2,hk⟩
theorem eqA_s {k:IntKind} {n:Nat} {xs:List Int} {K:Bool→Prop} (h1:xs.length=n) (hk:K true):eqA k n ⟨ivs k xs⟩ ⟨ivs k xs⟩ K:=eqA_i h1 h1 (by simpa using hk)
theorem br_is {b:Bool} {A B:Prop} (hb:b=true) (h:A):br b A B:=by subst hb; exact h
theorem br_no {b:Bool} {A B:Prop} (hb:b=false) (h:B):br b A B:=by subst hb; exact h
theorem qyj {i:Int} {y n:Nat} {K:Nat→Prop} (hn:i=n) (h:n≤y) (hk:K n):bd i y K:=by subst hn; exact ⟨⟨by omega,by omega⟩,by rw [Int.toNat_natCast]; exact hk⟩
class Elt (P:Program) (e:TypeId) (z:outParam Value):Prop where
 info:∃ i,P.info? e=some i∧i.size=1∧i.bytes ≠ 0∧i.bytes≤16
 zc:Go.Proofs.Ytigmbblgfnkpbaa.zc P e=#[z]
theorem Elt.bytes {P:Program} {e:TypeId} {z:Value} [h:Elt P e z]:P.bytesOf e≤16:=by
 obtain ⟨i,h1,_,_,h4⟩:=h.info
 simp [Program.bytesOf,h1,h4]
instance elt_u8:Elt Try.prog 5 (.int .u8 0):=⟨⟨Try.t5,by kernel_rfl,rfl,by decide,by decide⟩,by kernel_rfl⟩
instance elt_u32:Elt Try.prog 108 (.int .u32 0):=⟨⟨Try.t108,by kernel_rfl,rfl,by decide,by decide⟩,by kernel_rfl⟩
instance elt_int:Elt Try.prog 3 (.int .i64 0):=⟨⟨Try.t3,by kernel_rfl,rfl,by decide,by decide⟩,by kernel_rfl⟩
instance elt_bool:Elt Try.prog 4 (.bool false):=⟨⟨Try.t4,by kernel_rfl,rfl,by decide,by decide⟩,by kernel_rfl⟩
section
variable {F0:List Nat} {w0 w:World} {ps rest:List As} {P:Program} {e:TypeId} {z:Value} {s:Sl} {cs:List Value}
theorem St.push {v:Value} {K:Sl→World→Prop} [he:Elt P e z] (h:St F0 w0 w ps) [PkO s ps 1 cs rest] (hlen:cs.length≤1099511627776) (hv:storable v)
 (hk:∀ s' w',St F0 w0 w' (qbb 1 s' (cs ++ [v]) :: rest)→K s' w') :
 lt (⟨World.heapSize w,0,none⟩:Addr) fun a=>lt (World.alloc w (.cells ⟨[v]⟩ e)) fun w1=>rdO w1 (some a) (1 * 1) fun c=>apK P e w1 s.a s.len s.cap 1 c K:=by
 refine (h.toO s).new fun nb w h=>?_
 refine h.rdB rfl ?_
 obtain ⟨i,h1,h2,h3,h4⟩:=he.info
 exact h.drop.append1 h1 h2 he.zc h3 h4 hlen rfl hv hk
theorem St.pushI {k:IntKind} {zs:List Int} {x:Int} {K:Sl→World→Prop} [he:Elt P e z] (h:St F0 w0 w ps) [PkO s ps 1 (ivs k zs) rest] (hlen:zs.length≤1099511627776)
 (hk:∀ s' w',St F0 w0 w' (qbb 1 s' (ivs k (zs ++ [x])) :: rest)→K s' w') :
 lt (⟨World.heapSize w,0,none⟩:Addr) fun a=>lt (World.alloc w (.cells ⟨[.int k x]⟩ e)) fun w1=>rdO w1 (some a) (1 * 1) fun c=>apK P e w1 s.a s.len s.cap 1 c K :=
 h.push (by rw [qt]; exact hlen) trivial fun s' w h=>hk s' w (by rw [← qkj]; exact h)
theorem St.app {n:Nat} {cs2:List Value} {c:Array Value} {K:Sl→World→Prop} [he:Elt P e z] (h:St F0 w0 w ps) [PkO s ps 1 cs rest] (hc:c=⟨cs2⟩) (hn:cs2.length=n) (hlen:cs.length+n≤1099511627776) (hv:∀ v ∈ (⟨cs2⟩:Array Value),storable v)
 (hk:∀ s' w',St F0 w0 w' (qbb 1 s' (cs ++ cs2) :: rest)→K s' w'):apK P e w s.a s.len s.cap n c K:=by
 subst hc
 obtain ⟨i,h1,h2,h3,h4⟩:=he.info
 have h:=h.toO s
 have hl:=h.len
 refine St.append (i:=i) (sz:=1) (m:=n) h1 h2 (by decide) (by rw [he.zc]; rfl) h3 ?_ h (by show cs2.length=n * 1; omega) hv (fun s' w' h _=>hk s' w' h)
 refine Nat.le_trans (Nat.mul_le_mul_left _ h4) ?_
 have hl2:s.len+n≤1099511627776:=by omega
 clear hk h
 generalize s.len+n=m at hl2
 omega
theorem St.appI {k:IntKind} {s2:Sl} {zs ys:List Int} {K:Sl→World→Prop} [he:Elt P e z] (h:St F0 w0 w ps) [PkO s ps 1 (ivs k zs) rest] [Rdb F0 w0 s2 ps 1 (ivs k ys)] (hlen:zs.length+ys.length≤1099511627776)
 (hk:∀ s' w',St F0 w0 w' (qbb 1 s' (ivs k (zs ++ ys)) :: rest)→K s' w'):rdO w s2.a (s2.len * 1) fun c=>apK P e w s.a s.len s.cap s2.len c K:=by
 have hr:=h.rdb s2
 have hl:=hr.1
 rw [qt] at hl
 refine hr.rdO (by rw [qt]; omega) ?_
 exact h.app (cs:=ivs k zs) (cs2:=ivs k ys) rfl (by rw [qt]; omega) (by rw [qt]; omega) qbe fun s' w h=>hk s' w (by rw [← qkj]; exact h)
theorem St.make {n:Nat} {l c:Int} {K:Sl→World→Prop} [he:Elt P e z] (h:St F0 w0 w ps) (hl:l=n) (hc:c=n) (hn:n≤1099511627776)
 (hk:∀ s w',s.len=n→s.cap=n→St F0 w0 w' (qbb 1 s (List.replicate n z) :: ps)→K s w'):mkK P e w l c K :=
 St.make1 he.zc hl hc hn he.bytes h hk
theorem St.bt {s:Sl} {xs:List Int} {K:ByteArray→Prop} (h:St F0 w0 w ps) [Rdb F0 w0 s ps 1 (ivs .u8 xs)] (hx:∀ x ∈ xs,0≤x∧x < 256) (hk:K ⟨⟨u8 xs⟩⟩):btS w s.a s.len K :=
 (h.rdb s).btS hx hk
theorem Rdb.cut {k:IntKind} {xs:List Int} (hr:Rdb F0 w0 s ps 1 (ivs k xs)) (n m c':Nat) (hm:m≤s.len) (hn:n≤m) (hc:s.len≤s.cap):Rdb F0 w0 ⟨qvd s.a s.cap n 1,m - n,c'⟩ ps 1 (ivs k ((xs.drop n).take (m - n))):=⟨fun h=>by
 have:=(hr.rd h).cut (n:=n) (m:=m) (by decide) hm hn hc c'
 rw [Nat.mul_one,Nat.mul_one,ivs_drop,ivs_take] at this
 exact this⟩
theorem Rdb.cutAs {k:IntKind} {xs ys:List Int} (hr:Rdb F0 w0 s ps 1 (ivs k xs)) (n m c':Nat) (hm:m≤s.len) (hn:n≤m) (hc:s.len≤s.cap) (e:(xs.drop n).take (m - n)=ys):Rdb F0 w0 ⟨qvd s.a s.cap n 1,m - n,c'⟩ ps 1 (ivs k ys):=e ▸ hr.cut n m c' hm hn hc
theorem St.cutR {k:IntKind} {xs ys:List Int} (h:St F0 w0 w ps) (s:Sl) [hr:Rdb F0 w0 s ps 1 (ivs k xs)] (n m c':Nat) (hm:m≤s.len) (hn:n≤m) (hc:s.len≤s.cap) (e:(xs.drop n).take (m - n)=ys):Rdb F0 w0 ⟨qvd s.a s.cap n 1,m - n,c'⟩ ps 1 (ivs k ys):=hr.cutAs n m c' hm hn hc e
theorem St.str {b n:Nat} {l:List Value} {K:World→Prop} (h:St F0 w0 w ps) [PkB b ps l rest] (hn:l.length=n) (hk:∀ w',St F0 w0 w' (rdA 1 ⟨some ⟨b,0,none⟩,n,n⟩ l :: rest)→K w'):mkStr w (some ⟨b,0,none⟩) K :=
 mkStr_i (h.toB b) hn hk
end
end Go.Proofs.Ytigmbblgfnkpbaa
namespace Go.Proofs.Ytigmbblgfnkpbaa
open Go Go.ChangeShapes Go.WideShapes Go.ChangeAt Go.RowKit
set_option maxRecDepth 100000
set_option linter.unusedSimpArgs false
set_option linter.unusedVariables false
theorem strip_cut (rest : List (List Char)) : stripLifts liftWords ("cut".toList :: rest) = ([], "cut".toList :: rest) := by rfl
theorem make_of (P : Program) (rest : List (List Char)) (h : behindMainWord (wordsSigns P.initOrder.toList) = "cut".toList :: rest) : P.make = some .cut := by
 unfold Program.make
 rw [h]
 rfl
theorem lifts_of (P : Program) (rest : List (List Char)) (h : behindMainWord (wordsSigns P.initOrder.toList) = "cut".toList :: rest) : P.liftsFinal = false := by
 unfold Program.liftsFinal Program.headLifts
 rw [h,strip_cut]
 rfl
theorem enter_of (P : Program) (rest : List (List Char)) (h : behindMainWord (wordsSigns P.initOrder.toList) = "cut".toList :: rest) (h1 : P.laysLater = false) (h2 : P.bearsReflect = false) (h3 : P.doorRows = []) : P.mayEnter = true := by
 unfold Program.mayEnter
 rw [h]
 simp only [strip_cut,h1,h2]
 unfold Program.doorFits
 rw [h3]
 rfl
theorem joined_of {P:Program} {f:FuncId} {fn:Func} {s:ChangeSpec} {c:OpenClaim}
 (k1:c.wf (OpenSpec.ofChange s)=true) (k2:laidOutB P=true) (k3:mapsRowed P=true) (k4:fn.params.all (P.readableRec ·)=true) (k5:namedTie P c.named s.vars=true)
 (k6:(c.stops == [])=true) (k7:(P.stops == [])=true) (k8:(c.knobs == [])=true) (k9:(P.stopKnobs == [])=true)
 (k10:(c.inPlace == P.inPlace f)=true) (k11:(c.unfollowed == P.unfollowed f)=true) (k12:(c.recurses == P.recurses f)=true) (k13:(c.named == P.varsNamed f)=true)
 (k14:(c.maps == (fn.params.toList ++ s.plain.varTypes P).any (P.mapsRec ·))=true) (k15:(c.ifaces == (fn.params.toList ++ s.plain.varTypes P).any (P.ifacesRec ·))=true) (k16:(c.mapsOut == P.mapsAmong fn.resultTypes.toList)=true)
 (k17:(c.loops == (fn.params.toList ++ s.plain.varTypes P).any (P.loopsFrom ·))=true) (k18:(c.wideKeys == (fn.params.toList ++ s.plain.varTypes P ++ fn.resultTypes.toList).any (P.wideKeysFrom ·))=true)
 (k19:s.vars.all (P.varReadable ·)=true) (k20:fn.resultTypes.all (fun t=>P.readableRec t && decide (t < P.types.size))=true) (k21:(c.ifacesOut == fn.resultTypes.toList.any (P.ifacesRec ·))=true) (k22:(c.loopsOut == fn.resultTypes.toList.any (P.loopsFrom ·))=true)
 (k23:(c.plainKeys == P.plainKeys)=true) (k24:c.shortTexts.isNone=true) (k25:P.stopsHeard=true) (k26:P.mayEnter=true) (k27:(c.lifted == P.liftsFinal)=true) (k28:(P.make == some c.make)=true)
 (k29:(c.kinds == (if c.domain.isEmpty then [] else fn.params.toList.map fun t=>match P.underlying t with | some (.int k)=>some k | _=>none))=true) (k30:(c.pinned == c.pinnedBy)=true)
 (k31:(c.veiled == (fn.params.toList ++ s.plain.varTypes P ++ fn.resultTypes.toList).any (P.veiledRec ·))=true) (k32:c.veiledFits P fn.params.toList (fn.params.toList ++ s.plain.varTypes P ++ fn.resultTypes.toList)=true):joinedFacts P f fn s c=true:=by
 unfold joinedFacts
 rw [k1,k2,k3,k4,k5,k6,k7,k8,k9,k10,k11,k12,k13,k14,k15,k16,k17,k18,k19,k20,k21,k22,k23,k24,k25,k26,k27,k28,k30,k31,k32]
 simp only [Bool.true_and,Bool.and_true]
 exact k29
theorem head_ex {α:Type} {a:α} {l:List α} (h:l.head?=some a):∃ r,l=a :: r:=by
 cases l with
 | nil=>cases h
 | cons b r=>simp at h; subst h; exact ⟨r,rfl⟩
theorem init_eq:Try.prog.initOrder=String.ofList (List.map Char.ofNat [104,97,114,110,101,115,115,32,56,97,56,50,54,56,55,98,102,98,56,50,48,49,56,97,49,57,49,101,55,97,50,53,48,56,98,53,101,99,99,54,51,50,49,101,102,99,48,54,49,55,51,56,97,54,55,57,53,97,48,57,51,100,101,50,97,48,56,57,99,57,53,52,32,99,117,116,32,97,116,32,116,114,111,118,101,47,116,114,111,118,101,108,97,119,49,57,46,71,114,97,112,104,71,114,111,119,115,32,116,114,111,118,101,47,116,114,111,118,101,108,97,119,49,57,46,71,114,97,112,104,77,97,110,121]):=by kernel_rfl
theorem qji : ∃ rest, behindMainWord (wordsSigns Try.prog.initOrder.toList) = "cut".toList :: rest := by
 rw [init_eq,String.toList_ofList]
 exact head_ex (by kernel_rfl)
theorem f_make:Try.prog.make=some .cut:=by
 obtain ⟨r,h⟩:=qji
 exact make_of _ r h
theorem f_lifts:Try.prog.liftsFinal=false:=by
 obtain ⟨r,h⟩:=qji
 exact lifts_of _ r h
theorem f_later:Try.prog.laysLater=false:=by kernel_rfl
theorem f_refl:Try.prog.bearsReflect=false:=by kernel_rfl
theorem f_doors:Try.prog.doorRows=[]:=by kernel_rfl
theorem f_enter:Try.prog.mayEnter=true:=by
 obtain ⟨r,h⟩:=qji
 exact enter_of _ r h f_later f_refl f_doors
theorem f_laid:laidOutB Try.prog=true:=by kernel_rfl
theorem f_maps:mapsRowed Try.prog=true:=by kernel_rfl
theorem f_stops:(Try.prog.stops == [])=true:=by kernel_rfl
theorem f_knobs:(Try.prog.stopKnobs == [])=true:=by kernel_rfl
theorem f_heard:Try.prog.stopsHeard=true:=by kernel_rfl
theorem f_own:ownKnob Try.prog.godebug=none:=by kernel_rfl
end Go.Proofs.Ytigmbblgfnkpbaa
namespace Go.Proofs.Ytigmbblgfnkpbaa
open Go Go.Proofs Go.ChangeShapes Go.WideShapes Go.MapKept Go.Maps
set_option linter.unusedVariables false
set_option linter.unusedSimpArgs false
theorem keyed_deep {P:Program} (hl:laidOutB P=true) {m:Nat} (hm:m+1≤10000) {k:TypeId} (hrow:k < P.types.size) (hk:P.keyTypeAt m k=true) (hwide:(match P.underlying k with | some (.array _ _) | some (.struct _)=>true | _=>false)=true):Keyed P k :=
 Keyed.of_law (deep_law_laid hl hm hrow hk hwide)
def kvs (es:Array MapEntry):List (Value × Value):=es.toList.map fun e=>(e.key,e.val)
section
variable {P:Program} {w:World} {k e t:TypeId} {b:Nat} {es:Array MapEntry} {clock:Nat}
theorem map_look (K:Keyed P k) (ht:P.underlying t=some (.map k e)) (hb:w.heap[b]?=some (.map es clock)) (hks:∀ p ∈ kvs es,∃ l,keyOf P k p.1=some l) {z key:Value} (c:Bool) (hz:(zeroValue e).run P w=.ok z w) (hkey:∃ l,keyOf P k key=some l) :
 ((Instr.lookup t (.map (some b)) key c).run P w=.ok (if c then .tuple #[z,.bool false] else z) w∧∀ p ∈ kvs es,p.1 ≠ key) ∨
 ∃ (j:Nat) (p:Value × Value),(kvs es)[j]?=some p∧p.1=key∧(Instr.lookup t (.map (some b)) key c).run P w=.ok (if c then .tuple #[p.2,.bool true] else p.2) w:=by
 obtain ⟨l,hkey⟩:=hkey
 have hks':∀ x ∈ es.toList,∃ l,keyOf P k x.key=some l:=fun x hx=>hks (x.key,x.val) (List.mem_map.2 ⟨x,hx,rfl⟩)
 rcases K.find w hkey es.toList hks' with ⟨h1,h2⟩ | ⟨j,e0,h1,h2,h3⟩
 · refine Or.inl ⟨by simp [Instr.lookup,ql ht,MapKept.run_getObj_map hb,K.check w _ hkey,h1,hz,Result.andThen],fun p hp=>?_⟩
   obtain ⟨x,hx,rfl⟩:=List.mem_map.1 hp
   exact h2 x hx
 · refine Or.inr ⟨j,(e0.key,e0.val),?_,h3,by simp [Instr.lookup,ql ht,MapKept.run_getObj_map hb,K.check w _ hkey,h1,Result.andThen]⟩
   unfold kvs
   rw [List.getElem?_map,h2]
   rfl
theorem map_set (K:Keyed P k) (ht:P.underlying t=some (.map k e)) (hb:w.heap[b]?=some (.map es clock)) (hks:∀ p ∈ kvs es,∃ l,keyOf P k p.1=some l) {key val:Value} (hkey:∃ l,keyOf P k key=some l) :
 ∃ es' clock',(Instr.mapUpdate t (.map (some b)) key val).run P w=.ok () { w with heap:=w.heap.setIfInBounds b (.map es' clock') } ∧
  ((kvs es'=kvs es ++ [(key,val)]∧∀ p ∈ kvs es,p.1 ≠ key) ∨ ∃ (j:Nat) (p:Value × Value),(kvs es)[j]?=some p∧p.1=key∧kvs es'=(kvs es).set j (key,val)):=by
 obtain ⟨l,hkey⟩:=hkey
 have hks':∀ x ∈ es.toList,∃ l,keyOf P k x.key=some l:=fun x hx=>hks (x.key,x.val) (List.mem_map.2 ⟨x,hx,rfl⟩)
 rcases K.find w hkey es.toList hks' with ⟨h1,h2⟩ | ⟨j,e0,h1,h2,h3⟩
 · refine ⟨es.push ⟨key,val,clock⟩,clock+1,?_,Or.inl ⟨by simp [kvs],fun p hp=>?_⟩⟩
   · simp [Instr.mapUpdate,ql ht,MapKept.run_getObj_map hb,K.check w false hkey,h1,MapKept.run_setObj_map _ hb,Result.andThen]
   · obtain ⟨x,hx,rfl⟩:=List.mem_map.1 hp
     exact h2 x hx
 · have hj:es[j]?=some e0:=by simpa using h2
   refine ⟨es.modify j fun e=>{ e with key,val },clock,?_,Or.inr ⟨j,(e0.key,e0.val),?_,h3,?_⟩⟩
   · simp [Instr.mapUpdate,ql ht,MapKept.run_getObj_map hb,K.check w false hkey,h1,hj,h3,K.stays w hkey,MapKept.run_setObj_map _ hb,Result.andThen]
   · unfold kvs
     rw [List.getElem?_map,h2]
     rfl
   · unfold kvs
     apply List.ext_getElem?
     intro i
     simp only [List.getElem?_map,Array.getElem?_toList,Array.getElem?_modify,List.getElem?_set,List.length_map,Array.length_toList]
     by_cases hij:j=i
     · subst hij
       have hlt:j < es.size:=(Array.getElem?_eq_some_iff.1 hj).1
       simp [hj,hlt]
     · simp [hij]
theorem map_make (w:World) (ht:True):(Instr.makeMap t none).run P w=.ok (.map (some w.heap.size)) (w.alloc (.map #[] 0)):=by
 simp [Instr.makeMap,newObj,Sem.run,Result.andThen]
end
section
variable {F0:List Nat} {w0 w:World} {ps rest:List As} {P:Program} {k e t:TypeId} {b:Nat} {kv:List (Value × Value)}
end
end Go.Proofs.Ytigmbblgfnkpbaa
namespace Go.Proofs.Ytigmbblgfnkpbaa
open Go Go.Proofs
set_option linter.unusedVariables false
set_option linter.unusedSimpArgs false
attribute [local irreducible] apK cpK mkK br
class Rec {α:Type} (f:α→List Value) (sz:outParam Nat):Prop where
 len:∀ x,(f x).length=sz
 sto:∀ x,∀ v ∈ f x,storable v
 pos:0 < sz
class EltR (P:Program) (e:TypeId) (sz:outParam Nat) (z:outParam (List Value)):Prop where
 info:∃ i,P.info? e=some i∧i.size=sz∧i.bytes ≠ 0∧i.bytes≤1024
 zc:Go.Proofs.Ytigmbblgfnkpbaa.zc P e=⟨z⟩
 len:z.length=sz
 pos:0 < sz
section
variable {α:Type} {f:α→List Value} {sz:Nat}
theorem qff (x:α) (L:List α):(x :: L).flatMap f=f x ++ L.flatMap f:=rfl
theorem qlf (L M:List α):(L ++ M).flatMap f=L.flatMap f ++ M.flatMap f:=List.flatMap_append
theorem qeh (x:α):[x].flatMap f=f x:=by simp
theorem qoc [i:Rec f sz] (L:List α):(L.flatMap f).length=L.length * sz:=by
 induction L with
 | nil=>simp
 | cons x L ih=>rw [qff,List.length_append,ih,i.len,List.length_cons,Nat.add_mul]; omega
theorem rws_sto [i:Rec f sz] (L:List α):∀ v ∈ (⟨L.flatMap f⟩:Array Value),storable v:=by
 intro v hv
 have hv:v ∈ L.flatMap f:=by simpa using hv
 obtain ⟨x,_,hx⟩:=List.mem_flatMap.1 hv
 exact i.sto x v hx
theorem rws_get [i:Rec f sz]:∀ {L:List α} {j o:Nat} (hj:j < L.length),o < sz→(L.flatMap f)[j * sz+o]?=(f L[j])[o]?:=by
 intro L
 induction L with
 | nil=>intro j o hj; simp at hj
 | cons x L ih =>
   intro j o hj ho
   rw [qff]
   cases j with
   | zero=>rw [Nat.zero_mul,Nat.zero_add,List.getElem?_append_left (by rw [i.len]; exact ho)]; rfl
   | succ j =>
     rw [List.getElem?_append_right (by rw [i.len,Nat.add_mul]; omega),i.len,show (j+1) * sz+o - sz=j * sz+o by rw [Nat.add_mul]; omega,ih (by simpa using hj) ho]
     rfl
theorem rws_take [i:Rec f sz]:∀ (L:List α) (n:Nat),(L.flatMap f).take (n * sz)=(L.take n).flatMap f:=by
 intro L
 induction L with
 | nil=>intro n; simp
 | cons x L ih =>
   intro n
   cases n with
   | zero=>simp
   | succ n =>
     rw [List.take_succ_cons,qff,qff,← ih n,List.take_append,List.take_of_length_le (by rw [i.len,Nat.add_mul]; omega),i.len,show (n+1) * sz - sz=n * sz by rw [Nat.add_mul]; omega]
theorem rws_drop [i:Rec f sz]:∀ (L:List α) (n:Nat),(L.flatMap f).drop (n * sz)=(L.drop n).flatMap f:=by
 intro L
 induction L with
 | nil=>intro n; simp
 | cons x L ih =>
   intro n
   cases n with
   | zero=>simp
   | succ n =>
     rw [List.drop_succ_cons,qff,← ih n,List.drop_append,List.drop_eq_nil_of_le (by rw [i.len,Nat.add_mul]; omega),i.len,show (n+1) * sz - sz=n * sz by rw [Nat.add_mul]; omega,List.nil_append]
end
section
variable {F0:List Nat} {w0 w:World} {ps rest:List As} {P:Program} {e:TypeId} {α:Type} {f:α→List Value} {sz:Nat} {z:List Value} {s:Sl} {L:List α}
theorem Rd.rcell [i:Rec f sz] (h:Rd w sz s (L.flatMap f)) {a0:Addr} (ha:s.a=some a0) {j o:Nat} (hj:j < L.length) (ho:o < sz):w.cell? ((a0.add (j * sz)).add o)=(f L[j])[o]?:=by
 have hb:(j+1) * sz≤L.length * sz:=Nat.mul_le_mul_right _ hj
 rw [Nat.add_mul,Nat.one_mul] at hb
 rw [qbk,h.cell ha (by rw [qoc]; omega),rws_get hj ho]
theorem St.rix [i:Rec f sz] (h:St F0 w0 w ps) [Rdb F0 w0 s ps sz (L.flatMap f)] {n:Int} {K:Addr→Prop} (j:Nat) (hi:n=j) (hj:j < L.length) (hk:∀ a0,s.a=some a0→K (a0.add (j * sz))):ixS s.a s.len n sz K:=by
 subst hi
 have hr:=h.rdb s
 have hl:=hr.1
 rw [qoc] at hl
 have:=Nat.eq_of_mul_eq_mul_right i.pos hl
 refine hr.ix i.pos (by omega) (by omega) fun a ha=>?_
 rw [Int.toNat_natCast]
 exact hk a ha
theorem St.rlen [i:Rec f sz] (h:St F0 w0 w ps) [Rdb F0 w0 s ps sz (L.flatMap f)]:L.length=s.len:=by
 have hl:=(h.rdb s).1
 rw [qoc] at hl
 exact Nat.eq_of_mul_eq_mul_right i.pos hl
theorem Rd.rL [i:Rec f sz] (h:Rd w sz s (L.flatMap f)) {a0:Addr} {v:Sl} {K:Sl→Prop} (ha:s.a=some a0) {j o:Nat} (hj:j < L.length) (ho:o < sz) (hv:(f L[j])[o]?=some (.slice v.a v.len v.cap)) (hk:K v):Go.Proofs.Ytigmbblgfnkpbaa.ldL w ((a0.add (j * sz)).add o) K :=
 ldL_c (by rw [h.rcell ha hj ho]; exact hv) hk
theorem Rd.rA [i:Rec f sz] (h:Rd w sz s (L.flatMap f)) {a0:Addr} {K:Array Value→Prop} (ha:s.a=some a0) {j:Nat} (hj:j < L.length) (hk:K ⟨f L[j]⟩):Go.Proofs.Ytigmbblgfnkpbaa.ldA w (a0.add (j * sz)) sz K:=by
 refine ⟨⟨f L[j]⟩,i.len _,fun o ho=>?_,hk⟩
 rw [h.rcell ha hj ho]
 simp
theorem St.lr [i:Rec f sz] (h:St F0 w0 w ps) [Rdb F0 w0 s ps sz (L.flatMap f)] {n:Int} {K:Array Value→Prop} (j:Nat) (hi:n=j) (hj:j < L.length) (hk:K ⟨f L[j]⟩):ixS s.a s.len n sz fun a=>ldA w a sz K :=
 h.rix j hi hj fun a0 ha=>(h.rdb s).rA ha hj hk
theorem St.lrL [i:Rec f sz] (h:St F0 w0 w ps) [Rdb F0 w0 s ps sz (L.flatMap f)] {n:Int} {v:Sl} {o:Nat} {K:Sl→Prop} (j:Nat) (hi:n=j) (hj:j < L.length) (ho:o < sz) (hv:(f L[j])[o]?=some (.slice v.a v.len v.cap)) (hk:K v):ixS s.a s.len n sz fun a=>Go.Proofs.Ytigmbblgfnkpbaa.ldL w (a.add o) K :=
 h.rix j hi hj fun a0 ha=>(h.rdb s).rL ha hj ho hv hk
theorem rec_room {b n:Nat} (hb:b≤1024) (hn:n≤1000000000):(2 * n+1024) * b≤281474976710656:=by
 refine Nat.le_trans (Nat.mul_le_mul_left _ hb) ?_
 omega
theorem St.pushR [i:Rec f sz] [he:EltR P e sz z] (h:St F0 w0 w ps) [PkO s ps sz (L.flatMap f) rest] {x:α} {c:Array Value} {K:Sl→World→Prop} (hlen:L.length≤999999999) (hc:c=⟨f x⟩)
 (hk:∀ s' w',s'.len=s.len+1→St F0 w0 w' (qbb sz s' ((L ++ [x]).flatMap f) :: rest)→K s' w') :
 lt (⟨World.heapSize w,0,none⟩:Addr) fun a=>lt (World.alloc w (.cells c e)) fun w1=>rdO w1 (some a) (1 * sz) fun c=>apK P e w1 s.a s.len s.cap 1 c K:=by
 subst hc
 refine (h.toO s).new fun nb w h=>?_
 have h:St F0 w0 w (qfb nb (f x) :: qbb sz s (L.flatMap f) :: rest):=h
 refine h.rdB (by rw [i.len,Nat.one_mul]) ?_
 have h:=h.drop
 have hl:=h.len
 rw [qoc] at hl
 have hl:=Nat.eq_of_mul_eq_mul_right i.pos hl
 obtain ⟨t,h1,h2,h3,h4⟩:=he.info
 refine St.append (i:=t) (sz:=sz) (m:=1) h1 h2 i.pos (by rw [he.zc]; exact he.len) h3 (rec_room h4 (by omega)) h (by show (f x).length=_; rw [i.len,Nat.one_mul]) (fun v hv=>i.sto x v (by simpa using hv)) fun s' w' h hl'=>hk s' w' hl' (by rw [qlf,qeh]; exact h)
theorem St.appR [i:Rec f sz] [he:EltR P e sz z] (h:St F0 w0 w ps) [PkO s ps sz (L.flatMap f) rest] {s2:Sl} {M:List α} [Rdb F0 w0 s2 ps sz (M.flatMap f)] {K:Sl→World→Prop} (hlen:L.length+M.length≤999999999)
 (hk:∀ s' w',s'.len=s.len+M.length→St F0 w0 w' (qbb sz s' ((L ++ M).flatMap f) :: rest)→K s' w') :
 rdO w s2.a (s2.len * sz) fun c=>apK P e w s.a s.len s.cap s2.len c K:=by
 have hr:=h.rdb s2
 have hl:=hr.1
 refine hr.rdO hl.symm ?_
 rw [qoc] at hl
 have hl:=Nat.eq_of_mul_eq_mul_right i.pos hl
 have h:=h.toO s
 have hl2:=h.len
 rw [qoc] at hl2
 have hl2:=Nat.eq_of_mul_eq_mul_right i.pos hl2
 obtain ⟨t,h1,h2,h3,h4⟩:=he.info
 refine St.append (i:=t) (sz:=sz) (m:=s2.len) h1 h2 i.pos (by rw [he.zc]; exact he.len) h3 (rec_room h4 (by omega)) h (by show (M.flatMap f).length=_; rw [qoc,hl]) (rws_sto M) fun s' w' h hl'=>hk s' w' (by omega) (by rw [qlf]; exact h)
theorem St.ownBR {nb n:Nat} {l:List Value} (h:St F0 w0 w (qfb nb l :: ps)) (hn:l.length=n * sz):St F0 w0 w (qbb sz ⟨some ⟨nb,0,none⟩,n,n⟩ l :: ps):=by
 refine h.mp ?_
 rintro F ⟨hb,rfl⟩
 exact Or.inr ⟨nb,[],rfl,by simpa using hb,hn,by simpa using hn,rfl⟩
theorem St.cloneR [i:Rec f sz] [he:EltR P e sz z] (h:St F0 w0 w ps) {s2:Sl} {M:List α} [Rdb F0 w0 s2 ps sz (M.flatMap f)] {K:Sl→World→Prop} (hlen:M.length≤999999999)
 (hk:∀ s' w',s'.len=M.length→St F0 w0 w' (qbb sz s' (M.flatMap f) :: ps)→K s' w') :
 lt (⟨World.heapSize w,0,none⟩:Addr) fun a=>lt (World.alloc w (.cells ⟨[]⟩ e)) fun w1=>rdO w1 s2.a (s2.len * sz) fun c=>apK P e w1 (some a) 0 0 s2.len c K:=by
 refine h.new fun nb w h=>?_
 have h:St F0 w0 w (qfb nb [] :: ps):=h
 have h:St F0 w0 w (qbb sz ⟨some ⟨nb,0,none⟩,0,0⟩ (([]:List α).flatMap f) :: ps):=h.ownBR (n:=0) (by simp)
 exact St.appR (s:=⟨some ⟨nb,0,none⟩,0,0⟩) (L:=([]:List α)) h (by simpa using hlen) fun s' w' h1 h=>hk s' w' (by simpa using h1) (by simpa using h)
theorem St.isnil [i:Rec f sz] (h:St F0 w0 w ps) [Rdb F0 w0 s ps sz (L.flatMap f)] (hn:s.a=none):L=[]:=by
 have hr:=h.rdb s
 cases L with
 | nil=>rfl
 | cons x L =>
   exfalso
   obtain ⟨a,ha,_⟩:=hr.2 0 (by rw [qoc,List.length_cons,Nat.add_mul]; have:=i.pos; omega)
   rw [hn] at ha
   cases ha
theorem St.setR [i:Rec f sz] {b:Nat} {l:List Value} {x:α} {K:World→Prop} (h:St F0 w0 w (qfb b l :: ps)) (hl:l.length=sz) (hk:∀ w',St F0 w0 w' (qfb b (f x) :: ps)→K w'):Go.Proofs.Ytigmbblgfnkpbaa.stA w ⟨b,0,none⟩ ⟨f x⟩ K :=
 h.sA (b:=b) hl (i.len x) (fun v hv=>i.sto x v (by simpa using hv)) hk
end
end Go.Proofs.Ytigmbblgfnkpbaa
namespace Go.Proofs.Ytigmbblgfnkpbaa
open Go Go.Proofs Go.ChangeShapes Go.WideShapes Go.MapKept Go.Maps
open Go.ChangeMaps (setBlock)
set_option linter.unusedVariables false
set_option linter.unusedSimpArgs false
attribute [local irreducible] apK cpK mkK br
section
variable {α:Type}
abbrev Rws (α:Type):=List (List Int × α)
def lkE (E:Rws α) (k:List Int):Option α:=(E.find? fun e=>e.1 == k).map (·.2)
def qte (E:Rws α) (k:List Int) (x:α):Rws α:=if (lkE E k).isSome then E.map (fun e=>if e.1 == k then (k,x) else e) else E ++ [(k,x)]
def dRow (E:Rws α) (k:List Int):Rws α:=E.filter fun e=>!(e.1 == k)
def kys (E:Rws α):List (List Int):=E.map (·.1)
theorem qjk (k:List Int):lkE ([]:Rws α) k=none:=rfl
theorem qje (e:List Int × α) (E:Rws α) (k:List Int):lkE (e :: E) k=if e.1=k then some e.2 else lkE E k:=by
 unfold lkE
 rw [List.find?_cons]
 by_cases h:e.1=k
 · simp [h]
 · have:(e.1 == k)=false:=by simp [h]
   simp [this,h]
theorem qod {E:Rws α} {k:List Int}:lkE E k=none ↔ k ∉ kys E:=by
 induction E with
 | nil=>simp [qjk,kys]
 | cons e E ih =>
   rw [qje]
   by_cases h:e.1=k
   · simp [h,kys]
   · rw [if_neg h,ih]
     unfold kys
     rw [List.map_cons,List.mem_cons]
     constructor
     · intro h1 h2
       rcases h2 with h2 | h2
       · exact h h2.symm
       · exact h1 h2
     · exact fun h1 h2=>h1 (Or.inr h2)
theorem qre {E:Rws α} {k:List Int} {x:α} (h:lkE E k=some x):(k,x) ∈ E:=by
 induction E with
 | nil=>cases h
 | cons e E ih =>
   rw [qje] at h
   by_cases g:e.1=k
   · rw [if_pos g] at h
     injection h with h
     subst h
     subst g
     exact List.mem_cons_self
   · rw [if_neg g] at h
     exact List.mem_cons_of_mem _ (ih h)
theorem qfg {E:Rws α} {e:List Int × α} (hn:(kys E).Nodup) (h:e ∈ E):lkE E e.1=some e.2:=by
 induction E with
 | nil=>cases h
 | cons f E ih =>
   rw [qje]
   have hn':f.1 ∉ kys E∧(kys E).Nodup:=List.nodup_cons.1 hn
   rcases List.mem_cons.1 h with rfl | h
   · rw [if_pos rfl]
   · rw [if_neg (fun g=>hn'.1 (by rw [g]; exact List.mem_map.2 ⟨e,h,rfl⟩)),ih hn'.2 h]
theorem qii (E:Rws α) (k:List Int) (x:α):kys (qte E k x)=if k ∈ kys E then kys E else kys E ++ [k]:=by
 unfold qte
 cases h:lkE E k with
 | none =>
   rw [if_neg (qod.1 h)]
   simp [kys]
 | some y =>
   have:k ∈ kys E:=List.mem_map.2 ⟨_,qre h,rfl⟩
   rw [if_pos this]
   unfold kys
   simp only [Option.isSome_some,if_true,List.map_map]
   apply List.map_congr_left
   intro e _
   by_cases g:e.1=k
   · simp [g]
   · simp [g]
theorem nd_upd {E:Rws α} {k:List Int} {x:α} (h:(kys E).Nodup):(kys (qte E k x)).Nodup:=by
 rw [qii]
 split
 · exact h
 · rename_i g
   rw [List.nodup_append]
   refine ⟨h,by simp,fun a ha b hb=>?_⟩
   have:b=k:=by simpa using hb
   subst this
   intro e
   subst e
   exact g ha
theorem lk_app (E F:Rws α) (k:List Int):lkE (E ++ F) k=(lkE E k).or (lkE F k):=by
 induction E with
 | nil=>simp [qjk]
 | cons e E ih =>
   rw [List.cons_append,qje,qje]
   by_cases h:e.1=k
   · simp [h]
   · simp [h,ih]
theorem qrh (E:Rws α) (k:List Int) (x:α) (q:List Int):lkE (qte E k x) q=if q=k then some x else lkE E q:=by
 unfold qte
 cases h:lkE E k with
 | none =>
   simp only [Option.isSome_none,Bool.false_eq_true,if_false]
   rw [lk_app,qje,qjk]
   by_cases g:q=k
   · subst g
     rw [h]; simp
   · have:¬ k=q:=fun e=>g e.symm
     simp [g,this]
 | some y =>
   simp only [Option.isSome_some,if_true]
   have aux:∀ (E:Rws α),k ∈ kys E→lkE (E.map fun e=>if e.1 == k then (k,x) else e) q=if q=k then some x else lkE E q:=by
    intro E
    induction E with
    | nil=>intro h; simp [kys] at h
    | cons e E ih =>
      intro hm
      rw [List.map_cons,qje,qje]
      by_cases g:e.1=k
      · subst g
        simp only [BEq.rfl,if_true]
        by_cases g2:q=e.1
        · subst g2; simp
        · have g3:¬ e.1=q:=fun h=>g2 h.symm
          rw [if_neg g3,if_neg g3,if_neg g2]
          by_cases g4:e.1 ∈ kys E
          · rw [ih g4,if_neg g2]
          · congr 1
            have e5:E.map (fun f=>if f.1 == e.1 then (e.1,x) else f)=E.map id:=List.map_congr_left fun f hf=>by
             have:¬ f.1=e.1:=fun h=>g4 (List.mem_map.2 ⟨f,hf,h⟩)
             simp [this]
            rw [e5,List.map_id]
      · have g1:(e.1 == k)=false:=by simp [g]
        have hm':k ∈ kys E:=by
         rcases List.mem_cons.1 hm with h | h
         · exact absurd h.symm g
         · exact h
        simp only [g1,Bool.false_eq_true,if_false]
        by_cases g2:e.1=q
        · rw [if_pos g2,if_pos g2]
          rw [if_neg (fun h=>g (g2.trans h))]
        · rw [if_neg g2,if_neg g2,ih hm']
   exact aux E (List.mem_map.2 ⟨_,qre h,rfl⟩)
theorem kys_del (E:Rws α) (k:List Int):kys (dRow E k)=(kys E).filter fun q=>!(q == k):=by
 unfold kys dRow
 rw [List.filter_map]
 rfl
theorem nd_del {E:Rws α} {k:List Int} (h:(kys E).Nodup):(kys (dRow E k)).Nodup:=by
 rw [kys_del]
 exact h.filter _
theorem lk_del (E:Rws α) (k q:List Int):lkE (dRow E k) q=if q=k then none else lkE E q:=by
 induction E with
 | nil=>simp [dRow,qjk]
 | cons e E ih =>
   unfold dRow at ih ⊢
   rw [List.filter_cons]
   by_cases g:e.1=k
   · have:(!(e.1 == k))=false:=by simp [g]
     rw [this,qje]
     simp only [Bool.false_eq_true,if_false]
     rw [ih]
     by_cases g2:q=k
     · rw [if_pos g2,if_pos g2]
     · rw [if_neg g2,if_neg g2,if_neg (fun h=>g2 (h.symm.trans g))]
   · have:(!(e.1 == k))=true:=by simp [g]
     rw [this,if_pos rfl,qje,qje,ih]
     by_cases g2:e.1=q
     · rw [if_pos g2,if_pos g2,if_neg (fun h=>g (g2.trans h))]
     · rw [if_neg g2,if_neg g2]
end
def idOk (k:List Int):Prop:=k.length=20∧∀ x ∈ k,0≤x∧x < 256
abbrev idV (k:List Int):Value:=.agg ⟨ivs .u8 k⟩
theorem qhh {a b:List Int} (h:idV a=idV b):a=b:=by
 injection h with h
 injection h with h
 exact ivs_inj h
theorem lits_u8 {P:Program} {e:TypeId} {m:Nat} (h2:P.underlying e=some (.int .u8)) {n:Int} (h0:0≤n) (h1:n < 256):P.keyLits (m+1) e [.int .u8 n]=some [.int .u8 n]:=by
 have wf:(Lit.int .u8 n).wf=true:=by
  simp [Lit.wf,show IntKind.u8.min=0 from rfl,show IntKind.u8.max=255 from rfl]
  omega
 unfold Program.keyLits
 rw [h2]
 simp [wf]
theorem key20 {P:Program} {t e:TypeId} {m:Nat} (h1:P.underlying t=some (.array 20 e)) (h2:P.underlying e=some (.int .u8)) (h3:P.cellsOf t=20) (h4:P.cellsOf e=1) (h5:P.keyType t=true) (h6:P.types.size+1=m+2) {k:List Int} (hk:idOk k):∃ l,keyOf P t (idV k)=some l:=by
 obtain ⟨hl,hb⟩:=hk
 have e2:∃ ls,P.keyLits (m+2) t (ivs .u8 k)=some ls:=by
  unfold Program.keyLits
  rw [h1]
  simp only [h3,h4]
  rw [if_pos (show (ivs .u8 k).length=20 by rw [qt,hl])]
  have aux:∀ j,j < 20→∃ ls,P.keyLits (m+1) e (((ivs .u8 k).drop (j * 1)).take 1)=some ls:=by
   intro j hj
   have hj':j < k.length:=by omega
   have:((ivs .u8 k).drop (j * 1)).take 1=[.int .u8 k[j]]:=by
    rw [Nat.mul_one,ivs_drop,ivs_take,List.drop_eq_getElem_cons hj',List.take_succ_cons,List.take_zero]
    rfl
   rw [this]
   have:=hb _ (List.getElem_mem hj')
   exact ⟨_,lits_u8 h2 this.1 this.2⟩
  have all:∀ L:List Nat,(∀ j ∈ L,j < 20)→∃ ls,(L.mapM fun j=>P.keyLits (m+1) e (((ivs .u8 k).drop (j * 1)).take 1))=some ls:=by
   intro L
   induction L with
   | nil=>intro _; exact ⟨[],rfl⟩
   | cons j L ih =>
     intro h
     obtain ⟨a,ha⟩:=aux j (h j (by simp))
     obtain ⟨b,hb⟩:=ih fun q hq=>h q (by simp [hq])
     exact ⟨a :: b,by rw [List.mapM_cons,ha,hb]; rfl⟩
  obtain ⟨ls,hls⟩:=all (List.range 20) fun j hj=>List.mem_range.1 hj
  rw [hls]
  exact ⟨_,rfl⟩
 obtain ⟨ls,e2⟩:=e2
 unfold keyOf
 rw [h1]
 have e3:(idV k).formed P t=true:=by simp [Value.formed,h1,h3,hl]
 have e4:(idV k).cells.toList=ivs .u8 k:=rfl
 simp only [h5,e3,e4,h6,e2]
 exact ⟨_,rfl⟩
theorem qwd:Keyed Try.prog 28:=keyed_deep f_laid (m:=2) (by omega) (of_decide_eq_true (by kernel_rfl)) (by kernel_rfl) (by kernel_rfl)
theorem id_lit {k:List Int} (hk:idOk k):∃ l,keyOf Try.prog 28 (idV k)=some l :=
 key20 (e:=5) (m:=Try.prog.types.size - 1) (by kernel_rfl) (by kernel_rfl) (by kernel_rfl) (by kernel_rfl) (by kernel_rfl) (by kernel_rfl) hk
class MapT (t:TypeId) (e:outParam TypeId) (z:outParam Value):Prop where
 ht:Try.prog.underlying t=some (.map 28 e)
 hz:∀ w,(zeroValue e).run Try.prog w=.ok z w
def mwf (es:Array MapEntry) (clock:Nat):Prop:=(∀ e ∈ es.toList,e.born < clock)∧(es.toList.map (·.born)).Nodup
section
variable {α:Type}
abbrev rwV (g:α→Value) (E:Rws α):List (Value × Value):=E.map fun e=>(idV e.1,g e.2)
def okE (E:Rws α):Prop:=(kys E).Nodup∧∀ e ∈ E,idOk e.1
def tmP (g:α→Value) (w:World) (b:Nat) (E:Rws α) (es:Array MapEntry) (clock:Nat):Prop:=w.heap[b]?=some (.map es clock)∧kvs es=rwV g E∧mwf es clock∧okE E
def tmA (g:α→Value) (b:Nat) (E:Rws α):As where
 hd w F:=(∃ es clock,tmP g w b E es clock)∧F=[b]
 keep:=by
  rintro w w' F G ⟨⟨es,c,h,e⟩,rfl⟩ m hd
  have hl:b < w.heap.size:=(Array.getElem?_eq_some_iff.1 h).1
  exact ⟨⟨es,c,by rw [m.frame b hl (hd b (by simp))]; exact h,e⟩,rfl⟩
 lt:=by
  rintro w F ⟨⟨es,c,h,e⟩,rfl⟩ x hx
  have:x=b:=by simpa using hx
  subst this
  exact (Array.getElem?_eq_some_iff.1 h).1
def trP (g:α→Value) (w:World) (b r:Nat) (E D:Rws α) (es:Array MapEntry) (clock:Nat) (D':List MapEntry):Prop :=
 tmP g w b E es clock∧w.heap[r]?=some (.mapIter (some b) clock (D'.map (·.born)).toArray clock)∧D'.map (fun e=>(e.key,e.val))=rwV g D∧(∀ e ∈ D',e ∈ es.toList)∧(kys D).Nodup∧∀ e ∈ D,e ∈ E
def trA (g:α→Value) (b r:Nat) (E D:Rws α):As where
 hd w F:=(∃ es clock D',trP g w b r E D es clock D')∧F=[b,r]
 keep:=by
  rintro w w' F G ⟨⟨es,c,D',⟨h,e⟩,h2,e2⟩,rfl⟩ m hd
  have hl:b < w.heap.size:=(Array.getElem?_eq_some_iff.1 h).1
  have hl2:r < w.heap.size:=(Array.getElem?_eq_some_iff.1 h2).1
  exact ⟨⟨es,c,D',⟨by rw [m.frame b hl (hd b (by simp))]; exact h,e⟩,by rw [m.frame r hl2 (hd r (by simp))]; exact h2,e2⟩,rfl⟩
 lt:=by
  rintro w F ⟨⟨es,c,D',⟨h,e⟩,h2,e2⟩,rfl⟩ x hx
  have:x=b ∨ x=r:=by simpa using hx
  rcases this with rfl | rfl
  · exact (Array.getElem?_eq_some_iff.1 h).1
  · exact (Array.getElem?_eq_some_iff.1 h2).1
class MpR (α:outParam Type) (g:outParam (α→Value)) (b:Nat) (ps:List As) (E:outParam (Rws α)):Prop where
 rd:∀ {F0:List Nat} {w0 w:World},St F0 w0 w ps→∃ es clock,tmP g w b E es clock
end
section
variable {α:Type} {g:α→Value} {b r:Nat} {E D:Rws α} {F0:List Nat} {w0 w:World} {ps rest:List As} {q:As} {t e:TypeId} {z:Value} {k:List Int}
instance MpR.tl [i:MpR α g b ps E]:MpR α g b (q :: ps) E:=⟨fun h=>i.rd h.drop⟩
instance MpR.hd:MpR α g b (tmA g b E :: ps) E:=⟨fun h=>by
 obtain ⟨F,h,_⟩:=h.get
 exact h⟩
instance MpR.hr:MpR α g b (trA g b r E D :: ps) E:=⟨fun h=>by
 obtain ⟨F,⟨es,c,D',h,_⟩,_⟩:=h.get
 exact ⟨es,c,h⟩⟩
theorem St.okE (h:St F0 w0 w ps) (b:Nat) [i:MpR α g b ps E]:Go.Proofs.Ytigmbblgfnkpbaa.okE E:=by
 obtain ⟨es,c,h1,h2,h3,h4⟩:=i.rd h
 exact h4
theorem rw_lit (hE:okE E):∀ p ∈ rwV g E,∃ l,keyOf Try.prog 28 p.1=some l:=by
 intro p hp
 obtain ⟨e,he,rfl⟩:=List.mem_map.1 hp
 exact id_lit (hE.2 e he)
theorem St.tlook (h:St F0 w0 w ps) (b:Nat) [i:MpR α g b ps E] (t:TypeId) [m:MapT t e z] (c:Bool) (hk:idOk k) :
 lkR Try.prog t (.map (some b)) (idV k) c w (if c then .tuple #[(lkE E k).elim z g,.bool (lkE E k).isSome] else (lkE E k).elim z g):=by
 obtain ⟨es,clock,hb,hkv,hwf,hE⟩:=i.rd h
 rcases map_look qwd m.ht hb (by rw [hkv]; exact rw_lit hE) c (m.hz w) (id_lit hk) with ⟨h1,h2⟩ | ⟨j,p,h1,h2,h3⟩
 · have:lkE E k=none:=qod.2 fun hm=>by
    obtain ⟨e0,he,rfl⟩:=List.mem_map.1 hm
    exact h2 (idV e0.1,g e0.2) (by rw [hkv]; exact List.mem_map.2 ⟨e0,he,rfl⟩) rfl
   rw [this]
   exact h1
 · rw [hkv] at h1
   obtain ⟨e0,he0,rfl⟩:∃ e0,E[j]?=some e0∧p=(idV e0.1,g e0.2):=by
    rw [List.getElem?_map] at h1
    cases hj:E[j]? with
    | none=>rw [hj] at h1; cases h1
    | some e0=>rw [hj] at h1; injection h1 with h1; exact ⟨e0,rfl,h1.symm⟩
   have hk':=qhh h2
   subst hk'
   rw [qfg hE.1 (List.mem_of_getElem? he0)]
   exact h3
theorem St.tlook1 (h:St F0 w0 w ps) (b:Nat) [i:MpR α g b ps E] (t:TypeId) [m:MapT t e z] (hk:idOk k):lkR Try.prog t (.map (some b)) (idV k) false w ((lkE E k).elim z g):=h.tlook b t false hk
theorem St.tlook2 (h:St F0 w0 w ps) (b:Nat) [i:MpR α g b ps E] (t:TypeId) [m:MapT t e z] (hk:idOk k):lkR Try.prog t (.map (some b)) (idV k) true w (.tuple ⟨[(lkE E k).elim z g,.bool (lkE E k).isSome]⟩):=h.tlook b t true hk
theorem St.tlen (h:St F0 w0 w ps) (b:Nat) [i:MpR α g b ps E] (t t':TypeId) [m:MapT t e z]:lnR Try.prog [t] t' [.map (some b)] w E.length:=by
 obtain ⟨es,clock,hb,hkv,hwf,hE⟩:=i.rd h
 unfold lnR
 have:es.size=E.length:=by
  have:=congrArg List.length hkv
  simpa [kvs,rwV] using this
 show (Builtin.len_ #[t] t' #[.map (some b)]).run Try.prog w=_
 simp [Builtin.len_,ql m.ht,MapKept.run_getObj_map hb,Result.andThen,this,goInt]
class PkT (α:outParam Type) (g:outParam (α→Value)) (b:Nat) (ps:List As) (E:outParam (Rws α)) (rest:outParam (List As)):Prop where
 pk:∀ {F0:List Nat} {w0 w:World},St F0 w0 w ps→St F0 w0 w (tmA g b E :: rest)
instance PkT.tl [i:PkT α g b ps E rest]:PkT α g b (q :: ps) E (q :: rest):=⟨fun h=>(h.tail fun _ _ _ h=>i.pk h).at1⟩
instance PkT.hd:PkT α g b (tmA g b E :: ps) E ps:=⟨id⟩
theorem St.toT (h:St F0 w0 w ps) (b:Nat) [i:PkT α g b ps E rest]:St F0 w0 w (tmA g b E :: rest):=i.pk h
theorem mwf_push {es:Array MapEntry} {clock:Nat} (h:mwf es clock) (k v:Value):mwf (es.push ⟨k,v,clock⟩) (clock+1):=by
 refine ⟨fun e he=>?_,?_⟩
 · rw [Array.toList_push,List.mem_append] at he
   rcases he with he | he
   · have:=h.1 e he; omega
   · have:e=⟨k,v,clock⟩:=by simpa using he
     subst this
     show clock < clock+1
     omega
 · rw [Array.toList_push,List.map_append,List.nodup_append]
   refine ⟨h.2,by simp,fun a ha c hc=>?_⟩
   obtain ⟨e,he,rfl⟩:=List.mem_map.1 ha
   have:=h.1 e he
   have:c=clock:=by simpa using hc
   omega
theorem born_mod {es:Array MapEntry} (j:Nat) (f:MapEntry→MapEntry) (hf:∀ e,(f e).born=e.born):(es.modify j f).toList.map (·.born)=es.toList.map (·.born):=by
 apply List.ext_getElem?
 intro i
 simp only [List.getElem?_map,Array.getElem?_toList,Array.getElem?_modify]
 by_cases h:j=i
 · subst h
   cases es[j]? with
   | none=>simp
   | some x=>simp [hf]
 · simp [h]
theorem mwf_mod {es:Array MapEntry} {clock:Nat} (h:mwf es clock) (j:Nat) (f:MapEntry→MapEntry) (hf:∀ e,(f e).born=e.born):mwf (es.modify j f) clock:=by
 have hb:=born_mod j f hf (es:=es)
 refine ⟨fun e he=>?_,by rw [hb]; exact h.2⟩
 have:e.born ∈ (es.modify j f).toList.map (·.born):=List.mem_map.2 ⟨e,he,rfl⟩
 rw [hb] at this
 obtain ⟨e',he',h2⟩:=List.mem_map.1 this
 rw [← h2]
 exact h.1 e' he'
theorem kvs_mod {es:Array MapEntry} {j:Nat} {e0:MapEntry} (hj:es[j]?=some e0) (f:MapEntry→MapEntry):kvs (es.modify j f)=(kvs es).set j ((f e0).key,(f e0).val):=by
 have hlt:j < es.size:=(Array.getElem?_eq_some_iff.1 hj).1
 unfold kvs
 apply List.ext_getElem?
 intro i
 simp only [List.getElem?_map,Array.getElem?_toList,Array.getElem?_modify,List.getElem?_set,List.length_map,Array.length_toList]
 by_cases hij:j=i
 · subst hij
   have:es[j]=e0:=(Array.getElem?_eq_some_iff.1 hj).2
   simp [hj,hlt,this]
 · simp [hij]
theorem rw_set (hE:(kys E).Nodup) {j:Nat} {e0:List Int × α} (hj:E[j]?=some e0) (x:α):(rwV g E).set j (idV e0.1,g x)=rwV g (qte E e0.1 x):=by
 have hl:=qfg hE (List.mem_of_getElem? hj)
 unfold qte
 rw [hl]
 simp only [Option.isSome_some,if_true]
 have hlt:j < E.length:=(List.getElem?_eq_some_iff.1 hj).1
 apply List.ext_getElem?
 intro i
 simp only [List.getElem?_set,List.getElem?_map,List.length_map]
 by_cases hij:j=i
 · subst hij
   have:E[j]=e0:=(List.getElem?_eq_some_iff.1 hj).2
   simp [hj,hlt,this]
 · rw [if_neg hij]
   cases hi:E[i]? with
   | none=>rfl
   | some f =>
     have hne:¬ f.1=e0.1:=by
      intro h
      have hi':i < E.length:=(List.getElem?_eq_some_iff.1 hi).1
      have h1:(kys E)[i]?=(kys E)[j]?:=by unfold kys; rw [List.getElem?_map,List.getElem?_map,hi,hj]; simp [h]
      exact hij ((List.getElem?_inj (by unfold kys; simpa using hi') hE).1 h1).symm
     simp [hne]
theorem okE_upd {x:α} (hE:okE E) (hk:idOk k):okE (qte E k x):=by
 refine ⟨nd_upd hE.1,fun e he=>?_⟩
 have:e.1 ∈ kys (qte E k x):=List.mem_map.2 ⟨e,he,rfl⟩
 rw [qii] at this
 have h2:e.1 ∈ kys E ∨ e.1=k:=by
  split at this
  · exact Or.inl this
  · rcases List.mem_append.1 this with h | h
    · exact Or.inl h
    · exact Or.inr (by simpa using h)
 rcases h2 with h2 | h2
 · obtain ⟨e',he',h3⟩:=List.mem_map.1 h2
   rw [← h3]
   exact hE.2 e' he'
 · rw [h2]
   exact hk
theorem qkg {w:World} {b:Nat} {o:Obj} (hb:b < w.heap.size):Mod [b] w { w with heap:=w.heap.setIfInBounds b o }:=⟨rfl,rfl,rfl,by simp,fun x hx hF=>by
 simp only [Array.getElem?_setIfInBounds]
 rw [if_neg (fun e=>hF (by simp [e]))]⟩
theorem qbg {w:World} {b:Nat} {o:Obj} (hb:b < w.heap.size):({ w with heap:=w.heap.setIfInBounds b o }:World).heap[b]?=some o:=by
 simp [Array.getElem?_setIfInBounds,hb]
theorem qzj {es:Array MapEntry} {j:Nat} {e0:MapEntry} (hkv:kvs es=rwV g E) (hj:es[j]?=some e0):∃ f,E[j]?=some f∧e0.key=idV f.1∧e0.val=g f.2:=by
 have h1:(kvs es)[j]?=some (e0.key,e0.val):=by
  unfold kvs
  rw [List.getElem?_map,Array.getElem?_toList,hj]
  rfl
 rw [hkv,List.getElem?_map] at h1
 cases hi:E[j]? with
 | none=>rw [hi] at h1; cases h1
 | some f =>
   rw [hi] at h1
   injection h1 with h1
   injection h1 with h1 h2
   exact ⟨f,rfl,h1.symm,h2.symm⟩
theorem St.tset {x:α} {X:World→Prop} (h:St F0 w0 w ps) (b:Nat) [i:PkT α g b ps E rest] (t:TypeId) [m:MapT t e z] (hk:idOk k) (hx:∀ w',St F0 w0 w' (tmA g b (qte E k x) :: rest)→X w') :
 ∃ w',muR Try.prog t (.map (some b)) (idV k) (g x) w w'∧X w':=by
 obtain ⟨f,⟨⟨es,clock,hb,hkv,hwf,hE⟩,rfl⟩,hst⟩:=(h.toT b).step
 have hlt:b < w.heap.size:=(Array.getElem?_eq_some_iff.1 hb).1
 obtain ⟨l,hkey⟩:=id_lit hk
 have hks':∀ x ∈ es.toList,∃ l,keyOf Try.prog 28 x.key=some l:=fun x hx=>rw_lit (g:=g) hE (x.key,x.val) (by rw [← hkv]; exact List.mem_map.2 ⟨x,hx,rfl⟩)
 rcases qwd.find w hkey es.toList hks' with ⟨h1,h2⟩ | ⟨j,e0,h1,h2,h3⟩
 · refine ⟨_,?_,hx _ (hst _ [b] _ (qkg hlt) (Gr.refl _ _) ⟨⟨es.push ⟨idV k,g x,clock⟩,clock+1,qbg hlt,?_,mwf_push hwf _ _,okE_upd hE hk⟩,rfl⟩)⟩
   · unfold muR
     simp [Instr.mapUpdate,ql m.ht,MapKept.run_getObj_map hb,qwd.check w false hkey,h1,MapKept.run_setObj_map _ hb,Result.andThen]
   · have hn:lkE E k=none:=qod.2 fun hm=>by
      obtain ⟨e0,he,rfl⟩:=List.mem_map.1 hm
      have:(idV e0.1,g e0.2) ∈ kvs es:=by rw [hkv]; exact List.mem_map.2 ⟨e0,he,rfl⟩
      obtain ⟨y,hy,h5⟩:=List.mem_map.1 this
      injection h5 with h5 h6
      exact h2 y hy h5
     unfold qte
     rw [hn]
     simp only [Option.isSome_none,Bool.false_eq_true,if_false]
     show kvs _=rwV g (E ++ [(k,x)])
     unfold kvs at hkv ⊢
     rw [Array.toList_push,List.map_append,hkv]
     simp [rwV]
 · have hj:es[j]?=some e0:=by simpa using h2
   obtain ⟨f,hf,hf1,hf2⟩:=qzj hkv hj
   have hfk:f.1=k:=qhh (hf1.symm.trans h3)
   refine ⟨_,?_,hx _ (hst _ [b] _ (qkg hlt) (Gr.refl _ _) ⟨⟨es.modify j fun e=>{ e with key:=idV k,val:=g x },clock,qbg hlt,?_,mwf_mod hwf _ _ fun _=>rfl,okE_upd hE hk⟩,rfl⟩)⟩
   · unfold muR
     simp [Instr.mapUpdate,ql m.ht,MapKept.run_getObj_map hb,qwd.check w false hkey,h1,hj,h3,qwd.stays w hkey,MapKept.run_setObj_map _ hb,Result.andThen]
   · rw [kvs_mod hj,hkv]
     subst hfk
     exact rw_set hE.1 hf x
end
end Go.Proofs.Ytigmbblgfnkpbaa
namespace Go.Proofs.Ytigmbblgfnkpbaa
open Go Go.Proofs Go.ChangeShapes Go.WideShapes Go.MapKept Go.Maps
open Go.ChangeMaps (setBlock)
set_option linter.unusedVariables false
set_option linter.unusedSimpArgs false
attribute [local irreducible] apK cpK mkK br
section
variable {α:Type} {g:α→Value} {b r:Nat} {E D:Rws α} {F0:List Nat} {w0 w:World} {ps rest:List As} {q:As} {t e:TypeId} {z:Value} {k:List Int}
theorem okE_del (hE:okE E):okE (dRow E k):=⟨nd_del hE.1,fun e he=>hE.2 e (List.mem_filter.1 he).1⟩
theorem rows_lit {es:Array MapEntry} (hkv:kvs es=rwV g E) (hE:okE E):∀ x ∈ es.toList,∃ l,keyOf Try.prog 28 x.key=some l:=fun x hx=>rw_lit (g:=g) hE (x.key,x.val) (by rw [← hkv]; exact List.mem_map.2 ⟨x,hx,rfl⟩)
theorem none_row {es:Array MapEntry} (hkv:kvs es=rwV g E) (h2:∀ x ∈ es.toList,x.key ≠ idV k):lkE E k=none:=qod.2 fun hm=>by
 obtain ⟨e0,he,rfl⟩:=List.mem_map.1 hm
 have:(idV e0.1,g e0.2) ∈ kvs es:=by rw [hkv]; exact List.mem_map.2 ⟨e0,he,rfl⟩
 obtain ⟨y,hy,h5⟩:=List.mem_map.1 this
 injection h5 with h5 h6
 exact h2 y hy h5
theorem filt_idx:∀ {E:Rws α} {j:Nat} {f:List Int × α},(kys E).Nodup→E[j]?=some f→dRow E f.1=E.eraseIdx j:=by
 intro E
 induction E with
 | nil=>intro j f _ h; simp at h
 | cons x E ih =>
   intro j f hn hj
   have hn':x.1 ∉ kys E∧(kys E).Nodup:=List.nodup_cons.1 hn
   cases j with
   | zero =>
     have:x=f:=by simpa using hj
     subst this
     unfold dRow
     rw [List.filter_cons,List.eraseIdx_zero]
     simp only [BEq.rfl,Bool.not_true,Bool.false_eq_true,if_false,List.tail_cons]
     rw [List.filter_eq_self]
     intro y hy
     have:¬ y.1=x.1:=fun h=>hn'.1 (List.mem_map.2 ⟨y,hy,h⟩)
     simp [this]
   | succ j =>
     have hj:E[j]?=some f:=by simpa using hj
     have:¬ x.1=f.1:=fun h=>hn'.1 (List.mem_map.2 ⟨f,List.mem_of_getElem? hj,h.symm⟩)
     have:=ih hn'.2 hj
     unfold dRow at this ⊢
     rw [List.filter_cons,List.eraseIdx_cons_succ,this]
     simp [*]
theorem none_del (h:lkE E k=none):dRow E k=E:=by
 unfold dRow
 rw [List.filter_eq_self]
 intro y hy
 have:¬ y.1=k:=fun e=>qod.1 h (List.mem_map.2 ⟨y,hy,e⟩)
 simp [this]
theorem St.tdel {X:World→Prop} (h:St F0 w0 w ps) (b:Nat) [i:PkT α g b ps E rest] (t t' t2:TypeId) [m:MapT t e z] (hk:idOk k) (hx:∀ w',St F0 w0 w' (tmA g b (dRow E k) :: rest)→X w') :
 ∃ w',deR Try.prog [t,t2] t' [.map (some b),idV k] w w'∧X w':=by
 obtain ⟨f,⟨⟨es,clock,hb,hkv,hwf,hE⟩,rfl⟩,hst⟩:=(h.toT b).step
 have hlt:b < w.heap.size:=(Array.getElem?_eq_some_iff.1 hb).1
 obtain ⟨l,hkey⟩:=id_lit hk
 rcases qwd.find w hkey es.toList (rows_lit hkv hE) with ⟨h1,h2⟩ | ⟨j,e0,h1,h2,h3⟩
 · refine ⟨_,?_,hx _ (hst _ [b] _ (qkg hlt) (Gr.refl _ _) ⟨⟨es,clock,qbg hlt,?_,hwf,okE_del hE⟩,rfl⟩)⟩
   · unfold deR
     show (Builtin.delete_ #[t,t2] t' #[.map (some b),idV k]).run Try.prog w=_
     simp [Builtin.delete_,ql m.ht,MapKept.run_getObj_map hb,qwd.check w _ hkey,h1,MapKept.run_setObj_map _ hb,Result.andThen]
   · rw [none_del (none_row hkv h2)]
     exact hkv
 · have hj:es[j]?=some e0:=by simpa using h2
   have hjs:j < es.size:=(Array.getElem?_eq_some_iff.1 hj).1
   have hsub:(es.eraseIdxIfInBounds j).toList=es.toList.eraseIdx j:=by
    unfold Array.eraseIdxIfInBounds
    rw [dif_pos hjs]
    simp
   obtain ⟨f,hf,hf1,hf2⟩:=qzj hkv hj
   have hfk:f.1=k:=qhh (hf1.symm.trans h3)
   refine ⟨_,?_,hx _ (hst _ [b] _ (qkg hlt) (Gr.refl _ _) ⟨⟨es.eraseIdxIfInBounds j,clock,qbg hlt,?_,⟨fun x hx=>?_,?_⟩,okE_del hE⟩,rfl⟩)⟩
   · unfold deR
     show (Builtin.delete_ #[t,t2] t' #[.map (some b),idV k]).run Try.prog w=_
     simp [Builtin.delete_,ql m.ht,MapKept.run_getObj_map hb,qwd.check w _ hkey,h1,MapKept.run_setObj_map _ hb,Result.andThen]
   · subst hfk
     rw [filt_idx hE.1 hf]
     unfold kvs at hkv ⊢
     rw [hsub,ChangeMaps.map_eraseIdx,hkv]
     show _=(E.eraseIdx j).map _
     rw [ChangeMaps.map_eraseIdx]
   · rw [hsub] at hx
     exact hwf.1 x ((List.eraseIdx_sublist _ _).subset hx)
   · rw [hsub]
     exact hwf.2.sublist ((List.eraseIdx_sublist _ _).map _)
theorem find_idx:∀ {l:List MapEntry} {j:Nat} {e0:MapEntry},(l.map (·.born)).Nodup→l[j]?=some e0→l.findIdx? (fun e=>(e.born:Int) == (e0.born:Int))=some j:=by
 intro l
 induction l with
 | nil=>intro j e0 _ h; simp at h
 | cons x l ih =>
   intro j e0 hn hj
   have hn':x.born ∉ l.map (·.born)∧(l.map (·.born)).Nodup:=List.nodup_cons.1 hn
   rw [List.findIdx?_cons]
   cases j with
   | zero =>
     have:x=e0:=by simpa using hj
     subst this
     simp
   | succ j =>
     have hj:l[j]?=some e0:=by simpa using hj
     have:¬ x.born=e0.born:=fun h=>hn'.1 (by rw [h]; exact List.mem_map.2 ⟨e0,List.mem_of_getElem? hj,rfl⟩)
     have h2:((x.born:Int) == (e0.born:Int))=false:=by
      simp
      omega
     rw [h2,ih hn'.2 hj]
     simp
theorem St.trange {X:Nat→World→Prop} (h:St F0 w0 w ps) (b:Nat) [i:PkT α g b ps E rest] (t:TypeId) [m:MapT t e z] (hx:∀ r w',St F0 w0 w' (trA g b r E [] :: rest)→X r w') :
 ∃ n:Nat,∃ w',rgR Try.prog t (.map (some b)) w n w'∧X n w':=by
 obtain ⟨f,⟨⟨es,clock,hb,hkv,hwf,hE⟩,rfl⟩,hst⟩:=(h.toT b).step
 have hlt:b < w.heap.size:=(Array.getElem?_eq_some_iff.1 hb).1
 refine ⟨w.heap.size,_,run_range_map w t _ _ b es clock m.ht hb,hx _ _ (hst _ [b,w.heap.size] _ ?_ ?_ ⟨⟨es,clock,[],⟨?_,hkv,hwf,hE⟩,?_,rfl,?_,?_,?_⟩,rfl⟩)⟩
 · exact (Mod.alloc w _).mono (by simp)
 · intro x hx
   have:x=b ∨ x=w.heap.size:=by simpa using hx
   rcases this with rfl | rfl
   · exact Or.inl (by simp)
   · exact Or.inr (Nat.le_refl _)
 · rw [heap_alloc_old w _ hlt]
   exact hb
 · exact heap_alloc_new w _
 · intro e he; cases he
 · simp [kys]
 · intro e he; cases he
theorem St.tnext {X:Bool→List Value→World→Prop} (h:St F0 w0 w (trA g b r E D :: ps)) (ty:TypeId) (h0:∀ w',D.Perm E→St F0 w0 w' (tmA g b E :: ps)→X false [] w')
 (h1:∀ (f:List Int × α) w',f ∈ E→f.1 ∉ kys D→St F0 w0 w' (trA g b r E (D ++ [f]) :: ps)→enR Try.prog (.pointer (some ⟨r,0,none⟩)) w' (idV f.1) (g f.2)→X true [idV f.1,g f.2] w') :
 ∃ b1:Bool,∃ l:List Value,∃ w',nxR Try.prog (.pointer (some ⟨r,0,none⟩)) false ty w b1 l w'∧X b1 l w':=by
 obtain ⟨F,⟨⟨es,clock,D',⟨hb,hkv,hwf,hE⟩,hr,hD,hDm,hDn,hDE⟩,rfl⟩,hst⟩:=h.step
 have hltb:b < w.heap.size:=(Array.getElem?_eq_some_iff.1 hb).1
 have hltr:r < w.heap.size:=(Array.getElem?_eq_some_iff.1 hr).1
 have hne:b ≠ r:=by
  intro e
  rw [← e,hb] at hr
  cases hr
 have row:∀ x ∈ es.toList,∃ f,f ∈ E∧x.key=idV f.1∧x.val=g f.2:=by
  intro x hx
  obtain ⟨j,hj⟩:=List.getElem?_of_mem hx
  obtain ⟨f,h1,h2,h3⟩:=qzj hkv (by rw [← Array.getElem?_toList]; exact hj)
  exact ⟨f,List.mem_of_getElem? h1,h2,h3⟩
 have same:∀ x ∈ es.toList,∀ y ∈ es.toList,x.key=y.key→x=y:=by
  intro x hx y hy hxy
  obtain ⟨i,hi⟩:=List.getElem?_of_mem hx
  obtain ⟨j,hj⟩:=List.getElem?_of_mem hy
  obtain ⟨f,hf,hf1,_⟩:=qzj hkv (by rw [← Array.getElem?_toList]; exact hi)
  obtain ⟨f2,hf2,hf3,_⟩:=qzj hkv (by rw [← Array.getElem?_toList]; exact hj)
  have h5:f.1=f2.1:=qhh (by rw [← hf1,← hf3,hxy])
  have h6:(kys E)[i]?=(kys E)[j]?:=by unfold kys; rw [List.getElem?_map,List.getElem?_map,hf,hf2]; simp [h5]
  have h7:i < (kys E).length:=by unfold kys; rw [List.length_map]; exact (List.getElem?_eq_some_iff.1 hf).1
  have:=(List.getElem?_inj h7 hE.1).1 h6
  subst this
  rw [hi] at hj
  injection hj
 have inD:∀ x ∈ es.toList,∀ f ∈ E,x.key=idV f.1→(f.1 ∈ kys D ↔ x ∈ D'):=by
  intro x hx f hf hxf
  constructor
  · intro hm
    obtain ⟨d,hd,h2⟩:=List.mem_map.1 hm
    have:(idV d.1,g d.2) ∈ D'.map (fun e=>(e.key,e.val)):=by rw [hD]; exact List.mem_map.2 ⟨d,hd,rfl⟩
    obtain ⟨y,hy,h3⟩:=List.mem_map.1 this
    injection h3 with h3 h4
    have:=same y (hDm y hy) x hx (by rw [h3,hxf,h2])
    rw [← this]
    exact hy
  · intro hm
    have:(x.key,x.val) ∈ rwV g D:=by rw [← hD]; exact List.mem_map.2 ⟨x,hm,rfl⟩
    obtain ⟨d,hd,h3⟩:=List.mem_map.1 this
    injection h3 with h3 h4
    have:d.1=f.1:=qhh (h3.trans hxf)
    exact List.mem_map.2 ⟨d,hd,this⟩
 have bornIn:∀ x ∈ es.toList,x.born ∈ D'.map (·.born)→x ∈ D':=by
  intro x hx hm
  obtain ⟨y,hy,h2⟩:=List.mem_map.1 hm
  obtain ⟨i,hi⟩:=List.getElem?_of_mem hx
  obtain ⟨j,hj⟩:=List.getElem?_of_mem (hDm y hy)
  have h6:(es.toList.map (·.born))[i]?=(es.toList.map (·.born))[j]?:=by rw [List.getElem?_map,List.getElem?_map,hi,hj]; simp [h2]
  have h7:i < (es.toList.map (·.born)).length:=by rw [List.length_map]; exact (List.getElem?_eq_some_iff.1 hi).1
  have:=(List.getElem?_inj h7 hwf.2).1 h6
  subst this
  rw [hi] at hj
  injection hj with hj
  rw [hj]
  exact hy
 rcases run_next_at (P:=Try.prog) w ty r b clock clock _ es clock hr hb hwf.1 (Nat.le_refl _) with ⟨hz,hrun⟩ | ⟨x,hx,w1,hal,hrun⟩
 · refine ⟨false,[],w,hrun,h0 w ?_ (hst w [b] (tmA g b E) (Mod.refl [b,r] w) (by intro x hx; exact Or.inl (by simp at hx ⊢; exact Or.inl hx)) ⟨⟨es,clock,hb,hkv,hwf,hE⟩,rfl⟩)⟩
   have hall:∀ f ∈ E,f ∈ D:=by
    intro f hf
    have:(idV f.1,g f.2) ∈ kvs es:=by rw [hkv]; exact List.mem_map.2 ⟨f,hf,rfl⟩
    obtain ⟨x,hx,h3⟩:=List.mem_map.1 this
    injection h3 with h3 h4
    have hb2:x.born ∈ D'.map (·.born):=by
     cases hc:(D'.map (·.born)).toArray.contains x.born with
     | true=>simpa using hc
     | false =>
       have:x ∈ (leftOf es (D'.map (·.born)).toArray):=Array.mem_filter.2 ⟨Array.mem_toList_iff.1 hx,by rw [hc]; rfl⟩
       rw [Array.eq_empty_of_size_eq_zero hz] at this
       simp at this
    have:=(inD x hx f hf h3).2 (bornIn x hx hb2)
    obtain ⟨d,hd,h5⟩:=List.mem_map.1 this
    have h6:=qfg hE.1 (hDE d hd)
    rw [h5,qfg hE.1 hf] at h6
    injection h6 with h6
    have:d=f:=Prod.ext h5 h6.symm
    rw [← this]
    exact hd
   have nd1:D.Nodup:=by
    have:(D.map (·.1)).Nodup:=hDn
    exact List.Pairwise.of_map (S:=(· ≠ ·)) (fun x:List Int × α=>x.1) (fun a b h e=>h (by rw [e])) this
   have nd2:E.Nodup:=List.Pairwise.of_map (S:=(· ≠ ·)) (fun x:List Int × α=>x.1) (fun a b h e=>h (by rw [e])) hE.1
   exact (List.perm_ext_iff_of_nodup nd1 nd2).2 fun a=>⟨hDE a,hall a⟩
 · obtain ⟨hxm,hxs⟩:=mem_left hx
   obtain ⟨f,hf,hf1,hf2⟩:=row x hxm
   have hr1:w1.heap[r]?=w.heap[r]?:=by rcases hal with rfl | rfl <;> rfl
   have hb1:w1.heap[b]?=some (.map es clock):=by rcases hal with rfl | rfl <;> exact hb
   have hw1:Mod [] w w1:=by
    rcases hal with rfl | rfl
    · exact Mod.refl _ _
    · exact Mod.drew _
   have hltr1:r < w1.heap.size:=by rcases hal with rfl | rfl <;> exact hltr
   have hnm:x ∉ D':=by
    intro hm
    have:(D'.map (·.born)).toArray.contains x.born=true:=by
     simp
     exact ⟨x,hm,rfl⟩
    rw [this] at hxs
    cases hxs
   have hfD:f.1 ∉ kys D:=fun hm=>hnm ((inD x hxm f hf hf1).1 hm)
   have hgr:(setBlock w1 r (.mapIter (some b) clock ((D'.map (·.born)).toArray.push x.born) clock)).heap[r]?=some (.mapIter (some b) clock ((D' ++ [x]).map (·.born)).toArray clock):=by
    unfold setBlock
    rw [qbg hltr1]
    simp
   have hgb:(setBlock w1 r (.mapIter (some b) clock ((D'.map (·.born)).toArray.push x.born) clock)).heap[b]?=some (.map es clock):=by
    unfold setBlock
    simp only [Array.getElem?_setIfInBounds]
    rw [if_neg (fun e=>hne e.symm)]
    exact hb1
   refine ⟨true,[x.key,x.val],_,hrun,?_⟩
   rw [hf1,hf2]
   refine h1 f _ hf hfD (hst _ [b,r] _ ?_ (Gr.refl _ _) ⟨⟨es,clock,D' ++ [x],⟨hgb,hkv,hwf,hE⟩,hgr,?_,?_,?_,?_⟩,rfl⟩) ?_
   · refine (hw1.mono (by simp)).trans (qkg hltr1) ?_
     intro y hy
     exact Or.inl (by simp at hy ⊢; exact Or.inr hy)
   · rw [List.map_append,hD]
     show _=(D ++ [f]).map _
     rw [List.map_append]
     simp [hf1,hf2]
   · intro y hy
     rcases List.mem_append.1 hy with hy | hy
     · exact hDm y hy
     · have:y=x:=by simpa using hy
       rw [this]
       exact hxm
   · unfold kys
     rw [List.map_append,List.nodup_append]
     refine ⟨hDn,by simp,fun a ha c hc=>?_⟩
     have:c=f.1:=by simpa using hc
     subst this
     intro e
     subst e
     exact hfD ha
   · intro y hy
     rcases List.mem_append.1 hy with hy | hy
     · exact hDE y hy
     · have:y=f:=by simpa using hy
       rw [this]
       exact hf
   · have:=run_entry_at (P:=Try.prog) (setBlock w1 r (.mapIter (some b) clock ((D'.map (·.born)).toArray.push x.born) clock)) r b clock (D'.map (·.born)).toArray es clock x (by unfold setBlock; exact qbg hltr1) hgb hxm hwf.2
     unfold enR
     rw [← hf1,← hf2]
     exact this
end
end Go.Proofs.Ytigmbblgfnkpbaa
namespace Go.Proofs.Ytigmbblgfnkpbaa
open Go Go.Proofs
set_option linter.unusedVariables false
set_option maxRecDepth 100000
def qpd (s_0 prefix_1:ByteArray) (Q:VWP) (w:World):Prop :=
 cr_B 45 [.string s_0,.string prefix_1] w fun r3 w2 =>
 Q (.bool r3) w2
theorem qpd.ok (s_0:ByteArray) (prefix_1:ByteArray) (Q:VWP) (w:World) (h:qpd s_0 prefix_1 Q w):Calls Try.prog 25 ⟨[.string s_0,.string prefix_1]⟩ w (Ret Q) :=
 qqb [.tmp 4] qed Try.func25 rfl rfl rfl rfl .lf (by kernel_rfl) h
def qyb (s_0 prefix_1:ByteArray) (Q:VWP) (w:World):Prop :=
 br (decide (((ByteArray.size s_0:Int):Int) ≥ (ByteArray.size prefix_1:Int))) (
 bd (ByteArray.size prefix_1:Int) (ByteArray.size s_0) fun n1 =>
 lt (ByteArray.extract s_0 0 n1) fun x2 =>
 Q (.bool (ByteArray.toList x2 == ByteArray.toList prefix_1)) w) (
 Q (.bool false) w)
theorem qyb.ok (s_0:ByteArray) (prefix_1:ByteArray) (Q:VWP) (w:World) (h:qyb s_0 prefix_1 Q w):Calls Try.prog 45 ⟨[.string s_0,.string prefix_1]⟩ w (Ret Q) :=
 qqb [.tmp 4] qed Try.func45 rfl rfl rfl rfl .lf (by kernel_rfl) h
def qle (a_0 b_1:Sl) (Q:VWP) (w:World):Prop :=
 btS w a_0.a a_0.len fun x1 =>
 btS w b_1.a b_1.len fun x2 =>
 Q (.bool (ByteArray.toList x1 == ByteArray.toList x2)) w
theorem qle.ok (a_0:Sl) (b_1:Sl) (Q:VWP) (w:World) (h:qle a_0 b_1 Q w):Calls Try.prog 28 ⟨[sV a_0,sV b_1]⟩ w (Ret Q) :=
 qqb [.tmp 4] qed Try.func28 rfl rfl rfl rfl .lf (by kernel_rfl) h
def qid (a_0 b_1:Sl) (Q:VWP) (w:World):Prop :=
 ∃ r3:Int,∃ w2:World,cfR Try.prog 72 [sV a_0,sV b_1] w (.int .i64 r3) w2 ∧
 Q (.int .i64 r3) w2
theorem qid.ok (a_0:Sl) (b_1:Sl) (Q:VWP) (w:World) (h:qid a_0 b_1 Q w):Calls Try.prog 41 ⟨[sV a_0,sV b_1]⟩ w (Ret Q) :=
 qqb [.tmp 4] qed Try.func41 rfl rfl rfl rfl .lf (by kernel_rfl) h
def qn.j4 (newslice_6:Sl) (Q:VWP) (w:World):Prop :=
 Q (sV newslice_6) w
def qn.b1 (t25:Sl) (t26:Int) (newslice_6:Sl) (t27:Int) (Q:VWP) (nx1:Sl→Int→Sl→Int→WP) (w:World):Prop :=
 br (decide (t27 < t26)) (
 ixS t25.a t25.len t27 1 fun a1 =>
 ldL w a1 fun x2 =>
 rdO w x2.a (x2.len * 1) fun c3 =>
 apK Try.prog 5 w newslice_6.a newslice_6.len newslice_6.cap x2.len c3 fun s4 w5 =>
 lt (IntKind.i64.wrap (t27+1)) fun x6 =>
 nx1 t25 t26 s4 x6 w5) (
 qn.j4 newslice_6 Q w)
def qn.l1 (t25:Sl) (t26:Int) (newslice_6:Sl) (t27:Int) (Q:VWP) (w:World):Prop :=
 ∃ (I:Sl→Int→WP) (μ:Sl→Int→World→Nat),I newslice_6 t27 w∧∀ newslice_6:Sl,∀ t27:Int,∀ w:World,I newslice_6 t27 w→qn.b1 t25 t26 newslice_6 t27 Q (fun t25' t26' newslice_6' t27' w'=>(t25'=t25∧t26'=t26)∧I newslice_6' t27' w'∧μ newslice_6' t27' w' < μ newslice_6 t27 w) w
def qn.j5 (newslice_6 t25:Sl) (t26:Int) (t27:Int) (Q:VWP) (w:World):Prop :=
 qn.l1 t25 t26 newslice_6 t27 Q w
def qn.j3 (slices_0 newslice_6:Sl) (Q:VWP) (w:World):Prop :=
 qn.j5 newslice_6 slices_0 (slices_0.len:Int) 0 Q w
def qn.j2 (slices_0:Sl) (size_3:Int) (Q:VWP) (w:World):Prop :=
 qhc 74 [.slice none 0 0,.int .i64 size_3] w fun r9 w8 =>
 qn.j3 slices_0 r9 Q w8
def qn.b2 (slices_0 t9:Sl) (t10:Int) (size_3 t11:Int) (Q:VWP) (nx2:Sl→Sl→Int→Int→Int→WP) (w:World):Prop :=
 br (decide (t11 < t10)) (
 ixS t9.a t9.len t11 1 fun a10 =>
 ldL w a10 fun x11 =>
 lt (IntKind.i64.wrap (size_3+(x11.len:Int))) fun x12 =>
 br (decide (x12 < 0)) (
 False) (
 lt (IntKind.i64.wrap (t11+1)) fun x13 =>
 nx2 slices_0 t9 t10 x12 x13 w)) (
 qn.j2 slices_0 size_3 Q w)
def qn.l2 (slices_0 t9:Sl) (t10:Int) (size_3 t11:Int) (Q:VWP) (w:World):Prop :=
 ∃ (I:Int→Int→WP) (μ:Int→Int→World→Nat),I size_3 t11 w∧∀ size_3:Int,∀ t11:Int,∀ w:World,I size_3 t11 w→qn.b2 slices_0 t9 t10 size_3 t11 Q (fun slices_0' t9' t10' size_3' t11' w'=>(slices_0'=slices_0∧t9'=t9∧t10'=t10)∧I size_3' t11' w'∧μ size_3' t11' w' < μ size_3 t11 w) w
def qn.j6 (slices_0:Sl) (size_3:Int) (t9:Sl) (t10:Int) (t11:Int) (Q:VWP) (w:World):Prop :=
 qn.l2 slices_0 t9 t10 size_3 t11 Q w
def qn.j1 (slices_0:Sl) (size_3:Int) (Q:VWP) (w:World):Prop :=
 qn.j6 slices_0 size_3 slices_0 (slices_0.len:Int) 0 Q w
def qn (slices_0:Sl) (Q:VWP) (w:World):Prop :=
 qn.j1 slices_0 0 Q w
theorem qn.ok (slices_0:Sl) (Q:VWP) (w:World) (h:qn slices_0 Q w):Calls Try.prog 43 ⟨[sV slices_0]⟩ w (Ret Q) :=
 qqb [.tmp 2] qed Try.func43 rfl rfl rfl rfl (.pr 1 [sL 0,sI 3] (fun a b w=>qn.j1 a b Q w) (.sq [sL 0,sI 3] (fun a b w=>qn.j2 a b Q w) (.sq [sL 0,sI 3,sL 9,sI 10,sI 11] (fun a b c d e w=>qn.j6 a b c d e Q w) .lf (.bk (.lo [sL 0,sL 9,sI 10] [sI 3,sI 11] (fun a b c d e w=>qn.l2 a b c d e Q w) (fun nx2 a b c d e w=>qn.b2 a b c d e Q nx2 w) fun nx2=>.lf))) (.sq [sL 0,sL 6] (fun a b w=>qn.j3 a b Q w) .lf (.sq [sL 6] (fun a w=>qn.j4 a Q w) (.sq [sL 6,sL 25,sI 26,sI 27] (fun a b c d w=>qn.j5 a b c d Q w) .lf (.bk (.lo [sL 25,sI 26] [sL 6,sI 27] (fun a b c d w=>qn.l1 a b c d Q w) (fun nx1 a b c d w=>qn.b1 a b c d Q nx1 w) fun nx1=>.lf))) .lf)))) (by kernel_rfl) h
def qvc (s_0:Sl) (n_1:Int) (Q:VWP) (w:World):Prop :=
 br (decide (n_1 < 0)) (
 False) (
 lt (IntKind.i64.wrap ((s_0.cap:Int) - (s_0.len:Int))) fun x1 =>
 lt (IntKind.i64.wrap (n_1 - x1)) fun x2 =>
 br (decide (x2 > 0)) (
 bd (s_0.cap:Int) s_0.cap fun n3 =>
 lt (⟨qvd s_0.a s_0.cap 0 1,n3 - 0,s_0.cap - 0⟩:Sl) fun s4 =>
 zrK Try.prog 5 s4.len x2 fun c5 =>
 apK Try.prog 5 w s4.a s4.len s4.cap (Int.toNat x2) c5 fun s6 w7 =>
 bd (s_0.len:Int) s6.cap fun n8 =>
 lt (⟨qvd s6.a s6.cap 0 1,n8 - 0,s6.cap - 0⟩:Sl) fun s9 =>
 Q (sV s9) w7) (
 Q (sV s_0) w))
theorem qvc.ok (s_0:Sl) (n_1:Int) (Q:VWP) (w:World) (h:qvc s_0 n_1 Q w):Calls Try.prog 74 ⟨[sV s_0,.int .i64 n_1]⟩ w (Ret Q) :=
 qqb [.tmp 4] qed Try.func74 rfl rfl rfl rfl .lf (by kernel_rfl) h
def qnc (s_0:Sl) (Q:VWP) (w:World):Prop :=
 br (Option.isNone s_0.a) (
 Q (.slice none 0 0) w) (
 nw w ⟨(qie 0 (zc Try.prog 31).toList)⟩ 31 fun a1 w2 =>
 rdO w2 s_0.a (s_0.len * 42) fun c3 =>
 apK Try.prog 31 w2 (some a1) 0 0 s_0.len c3 fun s4 w5 =>
 Q (sV s4) w5)
theorem qnc.ok (s_0:Sl) (Q:VWP) (w:World) (h:qnc s_0 Q w):Calls Try.prog 16 ⟨[sV s_0]⟩ w (Ret Q) :=
 qqb [.tmp 2] qed Try.func16 rfl rfl rfl rfl .lf (by kernel_rfl) h
def qsc (s_0:Sl) (Q:VWP) (w:World):Prop :=
 bd (s_0.len:Int) s_0.cap fun n1 =>
 bd (s_0.len:Int) n1 fun n2 =>
 lt (⟨qvd s_0.a n1 0 42,n2 - 0,n1 - 0⟩:Sl) fun s3 =>
 Q (sV s3) w
theorem qsc.ok (s_0:Sl) (Q:VWP) (w:World) (h:qsc s_0 Q w):Calls Try.prog 32 ⟨[sV s_0]⟩ w (Ret Q) :=
 qqb [.tmp 2] qed Try.func32 rfl rfl rfl rfl .lf (by kernel_rfl) h
def qfd (s_0:Sl) (Q:VWP) (w:World):Prop :=
 br (Option.isNone s_0.a) (
 Q (.slice none 0 0) w) (
 nw w ⟨[]⟩ 28 fun a1 w2 =>
 rdO w2 s_0.a (s_0.len * 20) fun c3 =>
 apK Try.prog 28 w2 (some a1) 0 0 s_0.len c3 fun s4 w5 =>
 Q (sV s4) w5)
theorem qfd.ok (s_0:Sl) (Q:VWP) (w:World) (h:qfd s_0 Q w):Calls Try.prog 56 ⟨[sV s_0]⟩ w (Ret Q) :=
 qqb [.tmp 2] qed Try.func56 rfl rfl rfl rfl .lf (by kernel_rfl) h
def qnd (s_0:Sl) (Q:VWP) (w:World):Prop :=
 bd (s_0.len:Int) s_0.cap fun n1 =>
 bd (s_0.len:Int) n1 fun n2 =>
 lt (⟨qvd s_0.a n1 0 20,n2 - 0,n1 - 0⟩:Sl) fun s3 =>
 Q (sV s3) w
theorem qnd.ok (s_0:Sl) (Q:VWP) (w:World) (h:qnd s_0 Q w):Calls Try.prog 55 ⟨[sV s_0]⟩ w (Ret Q) :=
 qqb [.tmp 2] qed Try.func55 rfl rfl rfl rfl .lf (by kernel_rfl) h
end Go.Proofs.Ytigmbblgfnkpbaa
namespace Go.Proofs.Ytigmbblgfnkpbaa
open Go Go.Proofs
set_option linter.unusedVariables false
set_option linter.unusedSimpArgs false
section
variable {F0:List Nat} {w0 w:World} {ps rest:List As} {P:Program} {e:TypeId} {z:Value} {s s2:Sl}
theorem St.appF {k:IntKind} {zs ys:List Int} {K:Sl→World→Prop} [he:Elt P e z] (h:St F0 w0 w ps) [Rdb F0 w0 s ps 1 (ivs k zs)] [Rdb F0 w0 s2 ps 1 (ivs k ys)] (hc:s.cap=s.len) (hy:0 < ys.length) (hlen:zs.length+ys.length≤1099511627776)
 (hk:∀ s' w',St F0 w0 w' (qbb 1 s' (ivs k (zs ++ ys)) :: ps)→K s' w'):rdO w s2.a (s2.len * 1) fun c=>apK P e w s.a s.len s.cap s2.len c K:=by
 have hr:=h.rdb s
 have hr2:=h.rdb s2
 have hl:=hr.1
 have hl2:=hr2.1
 rw [qt] at hl hl2
 refine hr2.rdO (by rw [qt]; omega) ?_
 obtain ⟨i,h1,h2,h3,h4⟩:=he.info
 have hbo:P.bytesOf e=i.bytes:=by simp [Program.bytesOf,h1]
 unfold apK withSz
 simp only [h1,h2]
 rw [if_neg (by omega)]
 refine ⟨⟨?_,by rw [hbo]; exact h3⟩,?_⟩
 · rw [hbo]
   have:=next_le (s.len+s2.len) s.cap (by omega) (by omega)
   refine Nat.le_trans (Nat.mul_le_mul this h4) ?_
   rw [show (2:Nat) ^ 48=281474976710656 from rfl]
   omega
 · refine hr.rdO (by rw [qt]; omega) fun c hcc=>?_
   have hbl:=Blk.new w.drew (ivs k zs ++ ivs k ys ++ qie (c - (s.len+s2.len)) (zc P e).toList) e
   have e1:((⟨ivs k zs⟩:Array Value) ++ (⟨ivs k ys⟩:Array Value) ++ ⟨qie (c - (s.len+s2.len)) (zc P e).toList⟩)=⟨ivs k zs ++ ivs k ys ++ qie (c - (s.len+s2.len)) (zc P e).toList⟩:=by
    apply Array.ext'
    simp
   rw [e1]
   refine hk _ _ (h.add (f':=[w.heap.size]) (((Mod.drew w).trans (Mod.alloc w.drew _) (fun _ hx=>by cases hx)).mono (fun _ hx=>by cases hx)) ?_ ?_)
   · rw [← qkj]
     refine Or.inr ⟨w.heap.size,_,rfl,hbl,?_,?_,rfl⟩
     · show _=(s.len+s2.len) * 1
       rw [List.length_append,qt,qt]; omega
     · show _=c * 1
       rw [List.length_append,List.length_append,qt,qt,qgd,he.zc]
       show _+(c - (s.len+s2.len)) * 1=_
       omega
   · intro x hx
     have:x=w.heap.size:=by simpa using hx
     exact Or.inr (by omega)
end
section
variable {F0:List Nat} {w0 w:World} {ps rest:List As} {b o:Nat} {l l':List Value}
theorem add0 (b o:Nat):Addr.add ⟨b,0,none⟩ o=⟨b,o,none⟩:=by rw [qjc,Nat.zero_add]
theorem St.gB {n:Bool} {K:Bool→Prop} (h:St F0 w0 w ps) [PkB b ps l rest] [g:GetL l o (.bool n)] (hk:K n):ldB w (Addr.add ⟨b,0,none⟩ o) K:=by rw [add0]; exact (h.toB b).blk.ldB g.get hk
theorem St.gL {a:Option Addr} {n c:Nat} {K:Sl→Prop} (h:St F0 w0 w ps) [PkB b ps l rest] [g:GetL l o (.slice a n c)] (hk:K ⟨a,n,c⟩):ldL w (Addr.add ⟨b,0,none⟩ o) K:=by rw [add0]; exact (h.toB b).blk.ldL (n:=⟨a,n,c⟩) g.get hk
theorem St.gst {v:Value} {K:World→Prop} (h:St F0 w0 w ps) [PkB b ps l rest] [g:SetL l o v l'] (hs:storable v) (hk:∀ w',St F0 w0 w' (qfb b l' :: rest)→K w'):Go.Proofs.Ytigmbblgfnkpbaa.st w (Addr.add ⟨b,0,none⟩ o) v K:=by
 rw [add0]
 exact (h.toB b).st g.lt hs fun w' h=>hk w' (by rw [g.set] at h; exact h)
end
theorem Blk.rdAt {w:World} {b o n c:Nat} {l:List Value} (h:Blk w b l) (hn:o+n≤l.length):Rd w 1 ⟨some ⟨b,o,none⟩,n,c⟩ ((l.drop o).take n):=by
 refine ⟨by rw [List.length_take,List.length_drop]; show _=n * 1; omega,fun i hi=>⟨⟨b,o,none⟩,rfl,?_⟩⟩
 rw [List.length_take,List.length_drop] at hi
 rw [qjc,h.rb.cell,List.getElem?_take,if_pos (by omega),List.getElem?_drop]
end Go.Proofs.Ytigmbblgfnkpbaa
namespace Go.Proofs.Ytigmbblgfnkpbaa
open Go Go.Proofs
set_option linter.unusedVariables false
set_option linter.unusedSimpArgs false
theorem toList_loop (bs:ByteArray):∀ (k i:Nat) (r:List UInt8),bs.size - i=k→ByteArray.toList.loop bs i r=r.reverse ++ bs.data.toList.drop i:=by
 intro k
 induction k with
 | zero =>
   intro i r h
   rw [ByteArray.toList.loop,if_neg (by omega),List.drop_eq_nil_of_le,List.append_nil]
   show bs.data.toList.length≤i
   have:bs.size=bs.data.toList.length:=by rw [Array.length_toList]; rfl
   omega
 | succ k ih =>
   intro i r h
   have hs:bs.size=bs.data.toList.length:=by rw [Array.length_toList]; rfl
   rw [ByteArray.toList.loop,if_pos (by omega),ih _ _ (by omega),List.drop_eq_getElem_cons (show i < bs.data.toList.length by omega)]
   rw [List.reverse_cons,List.append_assoc]
   congr 1
   show bs.get! i :: _=_
   congr 1
   have h1:i < bs.data.size:=by have:bs.data.toList.length=bs.data.size:=Array.length_toList; omega
   have:bs.get! i=bs.data[i]!:=rfl
   rw [this,getElem!_pos bs.data i h1]
   rfl
theorem toList_mk (l:List UInt8):ByteArray.toList ⟨⟨l⟩⟩=l:=by
 unfold ByteArray.toList
 rw [toList_loop _ _ 0 [] rfl]
 rfl
theorem u8_inj:∀ {xs ys:List Int},(∀ x ∈ xs,0≤x∧x < 256)→(∀ x ∈ ys,0≤x∧x < 256)→u8 xs=u8 ys→xs=ys:=by
 intro xs
 induction xs with
 | nil=>intro ys _ _ h; cases ys with
   | nil=>rfl
   | cons y ys=>cases h
 | cons x xs ih =>
   intro ys hx hy h
   cases ys with
   | nil=>cases h
   | cons y ys =>
     simp only [u8,List.map_cons,List.cons.injEq] at h
     have e:=congrArg UInt8.toNat h.1
     rw [UInt8.toNat_ofNat',UInt8.toNat_ofNat'] at e
     have h1:=hx x (by simp)
     have h2:=hy y (by simp)
     rw [ih (fun z hz=>hx z (by simp [hz])) (fun z hz=>hy z (by simp [hz])) h.2]
     congr 1
     omega
theorem u8_beq {xs ys:List Int} (hx:∀ x ∈ xs,0≤x∧x < 256) (hy:∀ x ∈ ys,0≤x∧x < 256):(ByteArray.toList ⟨⟨u8 xs⟩⟩ == ByteArray.toList ⟨⟨u8 ys⟩⟩)=(xs == ys):=by
 rw [toList_mk,toList_mk]
 by_cases h:xs=ys
 · subst h; simp
 · have:¬ u8 xs=u8 ys:=fun e=>h (u8_inj hx hy e)
   rw [beq_eq_false_iff_ne.2 this,beq_eq_false_iff_ne.2 h]
end Go.Proofs.Ytigmbblgfnkpbaa
namespace Go.Proofs.Ytigmbblgfnkpbaa
open Go Go.Proofs
set_option linter.unusedVariables false
set_option linter.unusedSimpArgs false
attribute [local irreducible] apK cpK mkK br
def cmpI:List Int→List Int→Int
 | [],[]=>0
 | [],_ :: _=>-1
 | _ :: _,[]=>1
 | x :: a,y :: b=>if x < y then -1 else if y < x then 1 else cmpI a b
def ltI (a b:List Int):Bool:=decide (cmpI a b < 0)
theorem cmpI_self:∀ a,cmpI a a=0
 | []=>rfl
 | x :: a=>by rw [cmpI,if_neg (by omega),if_neg (by omega),cmpI_self a]
theorem cmpI_eq:∀ {a b:List Int},cmpI a b=0→a=b
 | [],[],_=>rfl
 | [],_ :: _,h=>by simp [cmpI] at h
 | _ :: _,[],h=>by simp [cmpI] at h
 | x :: a,y :: b,h=>by
   rw [cmpI] at h
   split at h
   · cases h
   · split at h
     · cases h
     · rw [cmpI_eq h]; congr 1; omega
theorem cmpI_neg:∀ (a b:List Int),cmpI b a = - cmpI a b
 | [],[]=>rfl
 | [],_ :: _=>rfl
 | _ :: _,[]=>rfl
 | x :: a,y :: b=>by
   rw [cmpI,cmpI]
   by_cases h1:x < y
   · rw [if_neg (by omega),if_pos h1,if_pos h1]; rfl
   · by_cases h2:y < x
     · rw [if_pos h2,if_neg h1,if_pos h2]
     · rw [if_neg h2,if_neg h1,if_neg h1,if_neg h2,cmpI_neg a b]
theorem qrk:∀ {a b c:List Int},cmpI a b < 0→cmpI b c < 0→cmpI a c < 0
 | [],[],_,h,_=>by simp [cmpI] at h
 | [],_ :: _,[],_,h=>by simp [cmpI] at h
 | [],_ :: _,_ :: _,_,_=>by simp [cmpI]
 | _ :: _,[],_,h,_=>by simp [cmpI] at h
 | _ :: _,_ :: _,[],_,h=>by simp [cmpI] at h
 | x :: a,y :: b,z :: c,h1,h2=>by
   rw [cmpI] at h1 h2 ⊢
   split at h1
   · split at h2
     · rw [if_pos (by omega)]; decide
     · split at h2
       · omega
       · rw [if_pos (by omega)]; decide
   · split at h1
     · omega
     · split at h2
       · rw [if_pos (by omega)]; decide
       · split at h2
         · omega
         · rw [if_neg (by omega),if_neg (by omega)]
           exact qrk h1 h2
theorem qqf (a:List Int):ltI a a=false:=by simp [ltI,cmpI_self]
theorem qqh {a b c:List Int} (h1:ltI a b=true) (h2:ltI b c=true):ltI a c=true:=by
 simp only [ltI,decide_eq_true_eq] at *
 exact qrk h1 h2
theorem qjj {a b:List Int} (h1:ltI a b=false) (h2:ltI b a=false):a=b:=by
 simp only [ltI,decide_eq_false_iff_not] at *
 rw [cmpI_neg] at h2
 exact cmpI_eq (by omega)
theorem ltI_asymm {a b:List Int} (h1:ltI a b=true):ltI b a=false:=by
 simp only [ltI,decide_eq_true_eq,decide_eq_false_iff_not] at *
 rw [cmpI_neg]; omega
theorem ltI_ntrans {a b c:List Int} (h1:ltI a b=false) (h2:ltI b c=false):ltI a c=false:=by
 cases h:ltI a c with
 | false=>rfl
 | true =>
   cases h3:ltI b a with
   | true=>rw [qqh h3 h] at h2; cases h2
   | false =>
     have:=qjj h1 h3
     subst this
     rw [h] at h2; cases h2
theorem u8_byte {x:Int} (h:0≤x∧x < 256):x.toNat.toUInt8.toNat=x.toNat:=by
 rw [Nat.toUInt8,UInt8.toNat_ofNat']
 omega
theorem qsk:∀ {a b:List Int},(∀ x ∈ a,0≤x∧x < 256)→(∀ x ∈ b,0≤x∧x < 256)→Lib.compareBytes (Lib.bytesOf a) (Lib.bytesOf b)=cmpI a b
 | [],[],_,_=>rfl
 | [],_ :: _,_,_=>rfl
 | _ :: _,[],_,_=>rfl
 | x :: a,y :: b,ha,hb=>by
   have hx:=ha x (by simp)
   have hy:=hb y (by simp)
   have ih:=qsk (a:=a) (b:=b) (fun z hz=>ha z (by simp [hz])) (fun z hz=>hb z (by simp [hz]))
   have e1:=u8_byte hx
   have e2:=u8_byte hy
   have l1:(x.toNat.toUInt8 < y.toNat.toUInt8) ↔ x < y:=by rw [UInt8.lt_iff_toNat_lt,e1,e2]; omega
   have l2:(y.toNat.toUInt8 < x.toNat.toUInt8) ↔ y < x:=by rw [UInt8.lt_iff_toNat_lt,e1,e2]; omega
   have l3:(x.toNat.toUInt8=y.toNat.toUInt8) ↔ x=y:=by rw [← UInt8.toNat_inj,e1,e2]; omega
   rw [cmpI,← ih]
   show Lib.compareBytes (x.toNat.toUInt8 :: Lib.bytesOf a) (y.toNat.toUInt8 :: Lib.bytesOf b)=_
   rw [Lib.compareBytes]
   simp only [l1,l2,l3,gt_iff_lt]
theorem qtj {P:Program} {w:World} {s:Sl} {xs:List Int} (h:Rd w 1 s (u8s xs)):(Extern.Bytes.bytesOf (.slice s.a s.len s.cap)).run P w=.ok ⟨(Lib.bytesOf xs).toArray⟩ w:=by
 have hl:=h.1
 rw [qt,Nat.mul_one] at hl
 cases ha:s.a with
 | none =>
   have:xs=[]:=by
    cases xs with
    | nil=>rfl
    | cons x xs =>
      obtain ⟨a,h1,_⟩:=h.2 0 (by simp [ivs])
      rw [ha] at h1; cases h1
   subst this
   rfl
 | some a =>
   have:=Lib.run_loadBytesX (P:=P) w xs a .empty fun j x hj=>by
    have hjl:j < xs.length:=(List.getElem?_eq_some_iff.1 hj).1
    rw [h.cell ha (by rw [qt]; exact hjl)]
    simp [ivs,hj]
   rw [hl] at this
   show (Extern.Bytes.loadBytes a s.len .empty).run P w=_
   rw [this]
   congr 1
   apply ByteArray.ext
   simp
section
variable {F0:List Nat} {w0 w:World} {ps rest:List As} {s t:Sl} {xs ys:List Int} {K:Ending→World→Prop}
theorem cmp_run {P:Program} {a b:Value} {x y:ByteArray} (ha:(Extern.Bytes.bytesOf a).run P w=.ok x w) (hb:(Extern.Bytes.bytesOf b).run P w=.ok y w) :
 (Extern.BytealgCompare.compare #[a,b]).run P w=.ok (.int .i64 (Extern.BytealgCompare.cmp x y)) w:=by
 change Sem.run P (do
  let x ← Extern.Bytes.bytesOf a
  let y ← Extern.Bytes.bytesOf b
  pure (goInt (Extern.BytealgCompare.cmp x y))) w=_
 simp only [Sem.run_bind,ha,hb,Result.andThen_ok,Sem.run_pure]
 rfl
theorem qid.c (h:St F0 w0 w ps) [Rdb F0 w0 s ps 1 (u8s xs)] [Rdb F0 w0 t ps 1 (u8s ys)] (hx:∀ x ∈ xs,0≤x∧x < 256) (hy:∀ x ∈ ys,0≤x∧x < 256)
 (hk:K (.returned (.int .i64 (cmpI xs ys))) w):Calls Try.prog 41 ⟨[sV s,sV t]⟩ w K:=by
 refine qnb (qid.ok _ _ _ _ ?_)
 unfold qid
 refine ⟨cmpI xs ys,w,?_,hk⟩
 unfold cfR
 rw [run_callFunc_extern (fn:=Try.f72) (e:=Extern.BytealgCompare.compare) (by kernel_rfl) (by kernel_rfl) (by kernel_rfl) (by kernel_rfl) (by kernel_rfl)]
 have h1:=qtj (P:=Try.prog) (h.rdb s)
 have h2:=qtj (P:=Try.prog) (h.rdb t)
 rw [cmp_run h1 h2,Lib.cmp_eq,qsk hx hy]
 rfl
end
end Go.Proofs.Ytigmbblgfnkpbaa
