/- Own texts as one, only what is reached (shake.py). -/
import Derived.Below
import Derived.KernelRfl
import Derived.Laws.Sem
import Derived.Laws.World
import Derived.Orders
import Derived.Test.YtonmgkkkiejicaaGreatProg
set_option linter.unusedSectionVars false
namespace Go.Proofs.YtonmgkkkiejicaaGreat
open Go
abbrev OAd := Option Addr
abbrev VWP := Value → World → Prop
end Go.Proofs.YtonmgkkkiejicaaGreat
namespace Go.Proofs.YtonmgkkkiejicaaGreat
open Go
def qec:Value→Prop
 | .agg _=>False
 | .tuple _=>False
 | _=>True
def opOk (P:Program) (o:Oper) (ρ:Operand→Value) (w:World) (K:VWP):Prop :=
 match (execOp ρ o).run P w with
 | .ok (.value v) w'=>K v w'
 | .ok .skip w'=>K undef w'
 | .ok (.enter f args) w'=>Calls P f args w' fun e w''=>∃ v,e=.returned v∧K v w''
 | _=>False
theorem qch {P:Program} {o:Oper} {ρ:Operand→Value} {w:World} {K K':VWP} (h:opOk P o ρ w K) (hk:∀ v w',K v w'→K' v w'):opOk P o ρ w K':=by
 unfold opOk at *
 generalize (execOp ρ o).run P w=r at *
 cases r with
 | ok n w' =>
   cases n <;> simp only at h ⊢ <;> first
    | exact hk _ _ h
    | exact Calls.mono h fun e w'' ⟨v,he,hv⟩=>⟨v,he,hk _ _ hv⟩
    | exact h
 | halt x w'=>exact h
theorem opOk_wp {P:Program} {o:Oper} {a:Act} {w:World} {next:Act→World→Prop} {Q:Exit→Act→World→Prop}
 (h:opOk P o a.eval w fun v w'=>next (a.put o.dst v) w'):o.wp P a w next Q:=by
 unfold opOk at h
 unfold Oper.wp
 generalize (execOp a.eval o).run P w=r at *
 cases r with
 | ok n w' =>
   cases n <;> simp only [Oper.upon] at h ⊢ <;> first
    | exact h
    | exact Calls.mono h fun e w'' ⟨v,he,hv⟩=>by subst he; exact hv
 | halt x w'=>exact h.elim
def stepOk (P:Program) (ops:Array Oper) (i:Nat) (a:Act) (w:World) (K:Act→World→Prop):Prop :=
 match ops[i]? with
 | none=>K a w
 | some o=>if Region.wanted o (yielded ops a.tmps) then opOk P o a.eval w (fun v w'=>K (a.put o.dst v) w') else K (a.put o.dst undef) w
theorem stepOk_mono {P:Program} {ops:Array Oper} {i:Nat} {a:Act} {w:World} {K K':Act→World→Prop} (h:stepOk P ops i a w K) (hk:∀ a w,K a w→K' a w):stepOk P ops i a w K':=by
 unfold stepOk at *
 split
 · rename_i ho; simp only [ho] at h; exact hk _ _ h
 · rename_i o ho
   simp only [ho] at h
   split
   · rename_i hw; simp only [hw,if_true] at h; exact qch h fun _ _=>hk _ _
   · rename_i hw; simp only [hw] at h; exact hk _ _ h
theorem qkj {P:Program} {ops:Array Oper} {Q:Exit→Act→World→Prop} {i:Nat} {a:Act} {w:World} {K:Act→World→Prop} (h:stepOk P ops i a w K):wpOp P ops Q i K a w:=by
 unfold stepOk at h
 unfold wpOp
 split
 · rename_i ho; simp only [ho] at h; exact h
 · rename_i o ho
   simp only [ho] at h
   split
   · rename_i hw; simp only [hw,if_true] at h; exact .inl (opOk_wp h)
   · rename_i hw; simp only [hw] at h; exact h
def opsOk (P:Program) (ops:Array Oper):List Nat→Act→World→(Act→World→Prop)→Prop
 | [],a,w,K=>K a w
 | i :: rest,a,w,K=>stepOk P ops i a w fun a w=>opsOk P ops rest a w K
theorem qlm {P:Program} {ops:Array Oper} {Q:Exit→Act→World→Prop} {K:Act→World→Prop} (hQ:∀ a w,K a w→Q .normal a w) :
 ∀ (l:List Nat) (a:Act) (w:World),opsOk P ops l a w K→wpOps P ops Q l a w:=by
 intro l
 induction l with
 | nil=>intro a w h; exact hQ _ _ h
 | cons i rest ih =>
   intro a w h
   rw [wpOps_cons]
   exact wpOp_mono (fun a w h=>ih a w h) (qkj h)
def ev (ρ:Nat→Value):Operand→Value
 | .tmp t=>ρ t
 | .const v=>v
 | .global g=>.pointer (some ⟨g,0,none⟩)
 | .func f=>.func (.func f) #[] #[]
def upd (ρ:Nat→Value) (d:Nat) (v:Value):Nat→Value:=fun t=>if t=d then v else ρ t
def putR (ρ:Nat→Value) (d:Option Nat) (v:Value):Nat→Value :=
 match d with
 | some d=>upd ρ d v
 | none=>ρ
def rel (N:Nat) (a:Act) (ρ:Nat→Value):Prop:=a.defers=[]∧a.tmps.size=N∧(fun t=>a.tmps.getD t undef)=ρ
theorem qxj {N:Nat} {a:Act} {ρ:Nat→Value} (h:rel N a ρ):a.eval=ev ρ:=by
 funext x
 cases x with
 | tmp t=>exact congrFun h.2.2 t
 | _=>rfl
theorem qdi {N:Nat} {a:Act} {ρ:Nat→Value} (h:rel N a ρ) {d:Option Nat} (hd:∀ t,d=some t→t < N) (v:Value):rel N (a.put d v) (putR ρ d v):=by
 cases d with
 | none=>exact h
 | some t =>
   obtain ⟨h1,h2,h3⟩:=h
   refine ⟨h1,by simp [Act.put,h2],?_⟩
   funext s
   have ht:=hd t rfl
   simp only [Act.put,putR,upd]
   by_cases hs:s=t
   · subst hs
     have:s < a.tmps.size:=by omega
     simp [this]
   · have:=congrFun h3 s
     simp only [if_neg hs]
     rw [← this]
     simp only [Array.getD_eq_getD_getElem?]
     rw [Array.getElem?_setIfInBounds_ne (fun h=>hs h.symm)]
end Go.Proofs.YtonmgkkkiejicaaGreat
namespace Go.Proofs.YtonmgkkkiejicaaGreat
open Go
def okAny (P:Program) (ops:Array Oper) (K:Act→World→Prop):Nat→Array Bool→Act→World→Prop
 | 0,listed,a,w=>Region.ready .any ops listed=[]∧K a w
 | f+1,listed,a,w =>
   (Region.ready .any ops listed=[]→K a w) ∧
   ∀ i ∈ Region.ready .any ops listed,stepOk P ops i a w (okAny P ops K f (listed.setIfInBounds i true))
theorem qlj {P:Program} {ops:Array Oper} {Q:Exit→Act→World→Prop} {K:Act→World→Prop} (hQ:∀ a w,K a w→Q .normal a w) :
 ∀ (f:Nat) (listed:Array Bool) (a:Act) (w:World),okAny P ops K f listed a w→wpAny P .any ops Q f listed a w
 | 0,_,_,_,h=>⟨h.1,hQ _ _ h.2⟩
 | f+1,_,_,_,h=>⟨fun h0=>hQ _ _ (h.1 h0),fun i hi=>wpOp_mono (fun a w=>qlj hQ f _ a w) (qkj (h.2 i hi))⟩
theorem okAny_end {P:Program} {ops:Array Oper} {K:Act→World→Prop} {listed:Array Bool} {a:Act} {w:World} (hr:Region.ready .any ops listed=[]) (hk:K a w):∀ f,okAny P ops K f listed a w
 | 0=>⟨hr,hk⟩
 | _+1=>⟨fun _=>hk,by rw [hr]; simp⟩
def extA (w w':World):Prop:=∀ b,b < w.heap.size→w'.heap[b]?=w.heap[b]?
theorem qge (w:World):extA w w:=fun _ _=>rfl
theorem extA_trans {a b c:World} (h:extA a b) (hs:a.heap.size≤b.heap.size) (k:extA b c):extA a c:=fun i hi=>(k i (by omega)).trans (h i hi)
theorem extA_size {a b:World} (h:extA a b):a.heap.size≤b.heap.size:=by
 rcases Nat.eq_zero_or_pos a.heap.size with h0 | h0
 · omega
 · have h1:=h (a.heap.size - 1) (by omega)
   rw [Array.getElem?_eq_getElem (by omega:a.heap.size - 1 < a.heap.size)] at h1
   have:=(Array.getElem?_eq_some_iff.1 h1).1
   omega
theorem qhh (w:World) (o:Obj):extA w (w.alloc o):=fun b hb=>by
 show (w.heap.push o)[b]?=_
 rw [Array.getElem?_push,if_neg (by omega)]
def gives (P:Program) (ops:Array Oper) (rd:Bool) (o:Oper) (a:Act) (w:World) (v:Value):Prop :=
 (Region.wanted o (yielded ops a.tmps)=true∧∀ w',(rd=true→extA w w')→(execOp a.eval o).run P w'=.ok (.value v) w') ∨
 (Region.wanted o (yielded ops a.tmps)=false∧v=undef)
theorem gives_step {P:Program} {ops:Array Oper} {rd:Bool} {i:Nat} {o:Oper} {a:Act} {w:World} {v:Value} (ho:ops[i]?=some o) (h:gives P ops rd o a w v) {K:Act→World→Prop} (hk:K (a.put o.dst v) w):stepOk P ops i a w K:=by
 unfold stepOk
 simp only [ho]
 rcases h with ⟨h1,h2⟩ | ⟨h1,rfl⟩
 · simp only [h1,if_true,opOk,h2 w (fun _=>qge w)]; exact hk
 · simp only [h1]; exact hk
theorem gives_ext {P:Program} {ops:Array Oper} {rd:Bool} {o:Oper} {a:Act} {w w1:World} {v:Value} (h:gives P ops rd o a w v) (he:rd=true→extA w w1):gives P ops rd o a w1 v:=by
 rcases h with ⟨h1,h2⟩ | h
 · exact Or.inl ⟨h1,fun w' h'=>h2 w' fun hr=>extA_trans (he hr) (extA_size (he hr)) (h' hr)⟩
 · exact Or.inr h
def alike (ops:Array Oper) (o:Oper) (a b:Act):Prop:=∀ t,t ∈ o.looksAt ops→a.tmps.getD t undef=b.tmps.getD t undef
theorem qbn {ops:Array Oper} {o:Oper} {a b:Act} (hs:∀ cs bb,o.op ≠ .select cs bb) (h:alike ops o a b):execOp a.eval o=execOp b.eval o :=
 execOp_congr o hs fun x hx=>by
  cases x with
  | tmp t=>exact h t (List.mem_append_left _ (List.mem_filterMap.2 ⟨.tmp t,by simpa using hx,rfl⟩))
  | _=>rfl
theorem qpg (ops:Array Oper) (ts:Array Value) (g:Nat):yielded ops ts g=match (ops[g]?).bind (·.dst) with
 | none=>none
 | some t=>match ts.getD t undef with
   | .bool b=>some b
   | _=>none:=by
 unfold yielded
 cases h:(ops[g]?).bind (·.dst) with
 | none=>rfl
 | some t =>
   simp only [Option.bind_some,Array.getD_eq_getD_getElem?]
   cases h2:ts[t]? with
   | none=>simp [undef]
   | some v=>cases v <;> simp
theorem qcl {ops:Array Oper} {o:Oper} {a b:Act} (h:alike ops o a b):Region.wanted o (yielded ops a.tmps)=Region.wanted o (yielded ops b.tmps):=by
 unfold Region.wanted
 cases hg:o.guard with
 | none=>rfl
 | some gw =>
   obtain ⟨g,want⟩:=gw
   have:yielded ops a.tmps g=yielded ops b.tmps g:=by
    rw [qpg,qpg]
    cases ht:(ops[g]?).bind (·.dst) with
    | none=>rfl
    | some t =>
      have:=h t (List.mem_append_right _ (by simp [hg,ht]))
      simp only [this]
   simp only [this]
theorem gives_alike {P:Program} {ops:Array Oper} {rd:Bool} {o:Oper} {a b:Act} {w:World} {v:Value} (hs:∀ cs bb,o.op ≠ .select cs bb) (h:alike ops o a b) (hg:gives P ops rd o a w v):gives P ops rd o b w v:=by
 unfold gives at *
 rw [← qbn hs h,← qcl h]
 exact hg
structure Stat (ops:Array Oper) (pre:Nat→Nat→Bool) (lz rd al:Nat→Bool):Prop where
 back:∀ (j:Nat) (oj:Oper),ops[j]?=some oj→∀ e ∈ oj.after,Region.binds .any e=true→e.on < j
 pre_edge:∀ (i j:Nat) (oj:Oper),ops[j]?=some oj→pre i j=true→∃ e ∈ oj.after,Region.binds .any e=true∧e.on < j∧(e.on=i ∨ pre i e.on=true)
 nosel:∀ (j:Nat) (o:Oper) cs b,ops[j]?=some o→o.op ≠ .select cs b
 nodup:∀ (i j:Nat) (oi oj:Oper) (d:Nat),ops[i]?=some oi→ops[j]?=some oj→i ≠ j→oi.dst=some d→oj.dst ≠ some d
 raw:∀ (i j:Nat) (oi oj:Oper) (d:Nat),ops[i]?=some oi→ops[j]?=some oj→i ≠ j→oi.dst=some d→d ∈ oj.looksAt ops→pre i j=true ∨ (lz i=false∧pre j i=true)
 self:∀ (i:Nat) (oi:Oper) (d:Nat),ops[i]?=some oi→oi.dst=some d→lz i=true→d ∉ oi.looksAt ops
 rdw:∀ (m i:Nat),m < ops.size→i < ops.size→rd m=true→lz m=true→lz i=false→al i=false→pre m i=true ∨ pre i m=true
def closedL (ops:Array Oper) (listed:Array Bool):Prop :=
 ∀ j oj,ops[j]?=some oj→listed.getD j false=true→∀ e ∈ oj.after,Region.binds .any e=true→listed.getD e.on false=true
theorem qkk {ops:Array Oper} {pre:Nat→Nat→Bool} {lz rd al:Nat→Bool} (S:Stat ops pre lz rd al) {listed:Array Bool} (hc:closedL ops listed) :
 ∀ (j i:Nat),pre i j=true→(∃ oj,ops[j]?=some oj∧∀ e ∈ oj.after,Region.binds .any e=true→listed.getD e.on false=true)→i < ops.size→(∀ k,k < ops.size→∃ o,ops[k]?=some o)→listed.getD i false=true:=by
 intro j
 induction j using Nat.strongRecOn with
 | _ j ih =>
   intro i hp ⟨oj,hoj,hall⟩ hi hex
   obtain ⟨e,he,hb,hlt,h⟩:=S.pre_edge i j oj hoj hp
   have hl:=hall e he hb
   rcases h with rfl | h
   · exact hl
   · have hj:j < ops.size:=(Array.getElem?_eq_some_iff.1 hoj).1
     obtain ⟨oe,hoe⟩:=hex e.on (by omega)
     exact ih e.on hlt i h ⟨oe,hoe,hc e.on oe hoe hl⟩ hi hex
theorem qoi (m j:Nat):(Array.replicate m false).getD j false=false:=by
 rcases Nat.lt_or_ge j m with h | h <;> simp [h]
theorem qrc {listed:Array Bool} {i:Nat} (hi:i < listed.size):listed.getD i true=listed.getD i false:=by
 simp [hi]
def tree (P:Program) (ops:Array Oper) (lz rd al:Nat→Bool) (K:Act→World→Prop):Nat→Array Bool→Act→World→Prop
 | 0,listed,a,w=>Region.ready .any ops listed=[]∧K a w
 | f+1,listed,a,w =>
   (∃ i o v,i ∈ Region.ready .any ops listed∧lz i=true∧ops[i]?=some o∧gives P ops (rd i) o a w v∧tree P ops lz rd al K f (listed.setIfInBounds i true) (a.put o.dst v) w) ∨
   ((∀ i ∈ Region.ready .any ops listed,lz i=false)∧(Region.ready .any ops listed=[]→K a w) ∧
     ∀ i ∈ Region.ready .any ops listed,stepOk P ops i a w fun a' w'=>(al i=true→extA w w')∧tree P ops lz rd al K f (listed.setIfInBounds i true) a' w')
structure Inv (P:Program) (ops:Array Oper) (lz rd:Nat→Bool) (L S:Array Bool) (a b:Act) (w:World):Prop where
 sizeL:L.size=ops.size
 sizeS:S.size=ops.size
 sub:∀ i,S.getD i false=true→L.getD i false=true
 clL:closedL ops L
 clS:closedL ops S
 miss:∀ m om,ops[m]?=some om→L.getD m false=true→S.getD m false=false→lz m=true∧∃ v,(∀ c,alike ops om a c→gives P ops (rd m) om c w v)∧(∀ d,om.dst=some d→d < a.tmps.size→a.tmps.getD d undef=v)
 defers:b.defers=a.defers
 size:b.tmps.size=a.tmps.size
 agree:∀ t,(∀ m om,ops[m]?=some om→L.getD m false=true→S.getD m false=false→om.dst ≠ some t)→b.tmps.getD t undef=a.tmps.getD t undef
theorem qyf (a:Act) (d:Option Nat) (v:Value) (t:Nat):(a.put d v).tmps.getD t undef=if d=some t∧t < a.tmps.size then v else a.tmps.getD t undef:=by
 cases d with
 | none=>simp [Act.put]
 | some s =>
   simp only [Act.put,Option.some.injEq,Array.getD_eq_getD_getElem?]
   by_cases h:s=t
   · subst h
     by_cases h2:s < a.tmps.size
     · simp [h2]
     · simp [h2]
   · rw [Array.getElem?_setIfInBounds_ne h]
     simp [h]
theorem qnh (a:Act) (d:Option Nat) (v:Value):(a.put d v).tmps.size=a.tmps.size:=by cases d <;> simp [Act.put]
theorem qfj (a:Act) (d:Option Nat) (v:Value):(a.put d v).defers=a.defers:=by cases d <;> rfl
theorem qgj {ops:Array Oper} {L:Array Bool} (hc:closedL ops L) {i:Nat} (hi:i ∈ Region.ready .any ops L):closedL ops (L.setIfInBounds i true):=by
 obtain ⟨_,o,ho,hall⟩:=mem_ready.1 hi
 intro j oj hj hl e he hb
 by_cases hij:i=j
 · subst hij
   have:oj=o:=Option.some.inj (hj.symm.trans ho)
   subst this
   exact getD_set_true (hall e he hb)
 · rw [getD_set_ne false hij] at hl
   exact getD_set_true (hc j oj hj hl e he hb)
theorem act_eq {a b:Act} (hd:b.defers=a.defers) (hs:b.tmps.size=a.tmps.size) (h:∀ t,b.tmps.getD t undef=a.tmps.getD t undef):b=a:=by
 obtain ⟨ta,da⟩:=a
 obtain ⟨tb,db⟩:=b
 simp only at hd hs h
 subst hd
 congr 1
 apply Array.ext hs
 intro i h1 h2
 have:=h i
 simpa [h1,h2] using this
theorem qyi {ops:Array Oper} (k:Nat) (hk:k < ops.size):∃ o,ops[k]?=some o:=⟨ops[k],Array.getElem?_eq_getElem hk⟩
theorem qgi {P:Program} {ops:Array Oper} {pre:Nat→Nat→Bool} {lz rd al:Nat→Bool} (St:Stat ops pre lz rd al) {L S:Array Bool} {a b:Act} {w:World} (I:Inv P ops lz rd L S a b w)
 {i m:Nat} (hi:i ∈ Region.ready .any ops S) (hm:m < ops.size) (hms:S.getD m false=false):pre m i=false:=by
 cases hp:pre m i with
 | false=>rfl
 | true =>
   obtain ⟨_,o,ho,hall⟩:=mem_ready.1 hi
   have:=qkk St I.clS i m hp ⟨o,ho,hall⟩ hm qyi
   rw [hms] at this
   cases this
theorem qkm {P:Program} {ops:Array Oper} {pre:Nat→Nat→Bool} {lz rd al:Nat→Bool} (St:Stat ops pre lz rd al) {L S:Array Bool} {a b:Act} {w:World} (I:Inv P ops lz rd L S a b w)
 {i:Nat} {o:Oper} (ho:ops[i]?=some o) (hi:i ∈ Region.ready .any ops S):alike ops o a b:=by
 intro t ht
 refine (I.agree t fun m om hm hL hS hd=>?_).symm
 have hmlt:m < ops.size:=(Array.getElem?_eq_some_iff.1 hm).1
 have hlz:=(I.miss m om hm hL hS).1
 by_cases hmi:m=i
 · subst hmi
   have:om=o:=Option.some.inj (hm.symm.trans ho)
   subst this
   exact St.self m om t hm hd hlz ht
 · rcases St.raw m i om o t hm ho hmi hd ht with h | ⟨h,_⟩
   · rw [qgi St I hi hmlt hS] at h; cases h
   · rw [hlz] at h; cases h
theorem Inv.lazily {P:Program} {ops:Array Oper} {pre:Nat→Nat→Bool} {lz rd al:Nat→Bool} (St:Stat ops pre lz rd al) {L S:Array Bool} {a b:Act} {w:World} (I:Inv P ops lz rd L S a b w)
 {i:Nat} {o:Oper} {v:Value} (ho:ops[i]?=some o) (hi:i ∈ Region.ready .any ops L) (hlz:lz i=true) (hg:gives P ops (rd i) o a w v) :
 Inv P ops lz rd (L.setIfInBounds i true) S (a.put o.dst v) b w:=by
 obtain ⟨hun,_,_,_⟩:=mem_ready.1 hi
 have hilt:i < ops.size:=(Array.getElem?_eq_some_iff.1 ho).1
 have hLi:L.getD i false=false:=by rw [← qrc (by rw [I.sizeL]; exact hilt)]; exact hun
 have hSi:S.getD i false=false:=by
  cases h:S.getD i false with
  | false=>rfl
  | true=>rw [I.sub i h] at hLi; cases hLi
 refine ⟨by simp [I.sizeL],I.sizeS,fun j hj=>getD_set_true (I.sub j hj),qgj I.clL hi,I.clS,?_,by rw [qfj]; exact I.defers,by rw [qnh]; exact I.size,?_⟩
 · intro m om hm hL hS
   by_cases hmi:i=m
   · subst hmi
     have:om=o:=Option.some.inj (hm.symm.trans ho)
     subst this
     refine ⟨hlz,v,fun c hc=>?_,fun d hd hlt=>?_⟩
     · refine gives_alike (St.nosel i om · · ho) (fun t ht=>?_) hg
       rw [← hc t ht,qyf]
       rw [if_neg]
       intro h
       exact St.self i om t ho h.1 hlz ht
     · rw [qnh] at hlt
       rw [qyf,if_pos ⟨hd,hlt⟩]
   · rw [getD_set_ne false hmi] at hL
     obtain ⟨h1,u,h2,h3⟩:=I.miss m om hm hL hS
     refine ⟨h1,u,fun c hc=>h2 c fun t ht=>?_,fun d hd hlt=>?_⟩
     · rw [← hc t ht,qyf,if_neg]
       intro h
       rcases St.raw i m o om t ho hm hmi h.1 ht with hp | ⟨hz,_⟩
       · have hmlt:m < ops.size:=(Array.getElem?_eq_some_iff.1 hm).1
         have:=qkk St I.clL m i hp ⟨om,hm,fun e he hb=>I.clL m om hm hL e he hb⟩ hilt qyi
         rw [hLi] at this; cases this
       · rw [hlz] at hz; cases hz
     · rw [qnh] at hlt
       rw [qyf,if_neg]
       · exact h3 d hd hlt
       · intro h
         exact St.nodup i m o om d ho hm hmi h.1 hd
 · intro t ht
   rw [qyf,if_neg]
   · refine I.agree t fun m om hm hL hS=>?_
     refine ht m om hm ?_ hS
     exact getD_set_true hL
   · intro h
     exact ht i o ho (by simp [I.sizeL,hilt]) hSi h.1
theorem Inv.caught {P:Program} {ops:Array Oper} {pre:Nat→Nat→Bool} {lz rd al:Nat→Bool} (St:Stat ops pre lz rd al) {L S:Array Bool} {a b:Act} {w:World} (I:Inv P ops lz rd L S a b w)
 {m:Nat} {om:Oper} (hm:ops[m]?=some om) (hr:m ∈ Region.ready .any ops S) (hL:L.getD m false=true) :
 ∃ v,gives P ops (rd m) om b w v∧Inv P ops lz rd L (S.setIfInBounds m true) a (b.put om.dst v) w:=by
 obtain ⟨hun,_,_,_⟩:=mem_ready.1 hr
 have hmlt:m < ops.size:=(Array.getElem?_eq_some_iff.1 hm).1
 have hSm:S.getD m false=false:=by rw [← qrc (by rw [I.sizeS]; exact hmlt)]; exact hun
 obtain ⟨h1,v,h2,h3⟩:=I.miss m om hm hL hSm
 have hal:=qkm St I hm hr
 refine ⟨v,h2 b hal,I.sizeL,by simp [I.sizeS],?_,I.clL,qgj I.clS hr,?_,by rw [qfj]; exact I.defers,by rw [qnh]; exact I.size,?_⟩
 · intro j hj
   by_cases hmj:m=j
   · subst hmj; exact hL
   · rw [getD_set_ne false hmj] at hj; exact I.sub j hj
 · intro k ok hk hLk hSk
   have hmk:m ≠ k:=by
    intro h; subst h
    simp [I.sizeS,hmlt] at hSk
   rw [getD_set_ne false hmk] at hSk
   exact I.miss k ok hk hLk hSk
 · intro t ht
   rw [qyf]
   by_cases hd:om.dst=some t∧t < b.tmps.size
   · rw [if_pos hd]
     exact (h3 t hd.1 (by rw [← I.size]; exact hd.2)).symm
   · rw [if_neg hd]
     by_cases hd1:om.dst=some t
     · have hlt:¬ t < b.tmps.size:=fun h=>hd ⟨hd1,h⟩
       have hlt2:¬ t < a.tmps.size:=by rw [← I.size]; exact hlt
       simp [Array.getD_eq_getD_getElem?,hlt,hlt2]
     · refine I.agree t fun k ok hk hLk hSk hdk=>?_
       by_cases hmk:m=k
       · subst hmk
         have:ok=om:=Option.some.inj (hk.symm.trans hm)
         subst this
         exact hd1 hdk
       · exact ht k ok hk hLk (by rw [getD_set_ne false hmk]; exact hSk) hdk
theorem Inv.acted {P:Program} {ops:Array Oper} {pre:Nat→Nat→Bool} {lz rd al:Nat→Bool} (St:Stat ops pre lz rd al) {L S:Array Bool} {a b:Act} {w w':World} (I:Inv P ops lz rd L S a b w)
 {i:Nat} {o:Oper} (v:Value) (ho:ops[i]?=some o) (hi:i ∈ Region.ready .any ops S) (hiL:i ∈ Region.ready .any ops L) (hlz:lz i=false) (hal:al i=true→extA w w') :
 Inv P ops lz rd (L.setIfInBounds i true) (S.setIfInBounds i true) (a.put o.dst v) (b.put o.dst v) w':=by
 have hilt:i < ops.size:=(Array.getElem?_eq_some_iff.1 ho).1
 have hLi:L.getD i false=false:=by rw [← qrc (by rw [I.sizeL]; exact hilt)]; exact (mem_ready.1 hiL).1
 refine ⟨by simp [I.sizeL],by simp [I.sizeS],?_,qgj I.clL hiL,qgj I.clS hi,?_,by rw [qfj,qfj]; exact I.defers,by rw [qnh,qnh]; exact I.size,?_⟩
 · intro j hj
   by_cases hij:i=j
   · subst hij; simp [I.sizeL,hilt]
   · rw [getD_set_ne false hij] at hj ⊢; exact I.sub j hj
 · intro m om hm hL hS
   have hmi:i ≠ m:=by
    intro h; subst h
    simp [I.sizeS,hilt] at hS
   rw [getD_set_ne false hmi] at hL hS
   have hmlt:m < ops.size:=(Array.getElem?_eq_some_iff.1 hm).1
   obtain ⟨h1,u,h2,h3⟩:=I.miss m om hm hL hS
   have hnp:=qgi St I hi hmlt hS
   have hnq:pre i m=false:=by
    cases hp:pre i m with
    | false=>rfl
    | true =>
      have:=qkk St I.clL m i hp ⟨om,hm,fun e he hb=>I.clL m om hm hL e he hb⟩ hilt qyi
      rw [hLi] at this; cases this
   refine ⟨h1,u,fun c hc=>?_,fun d hd hlt=>?_⟩
   · refine gives_ext (h2 c fun t ht=>?_) fun hr=>?_
     · rw [← hc t ht,qyf,if_neg]
       intro h
       rcases St.raw i m o om t ho hm hmi h.1 ht with hp | ⟨_,hp⟩
       · rw [hnq] at hp; cases hp
       · rw [hnp] at hp; cases hp
     · cases hali:al i with
       | true=>exact hal hali
       | false =>
         rcases St.rdw m i hmlt hilt hr h1 hlz hali with hp | hp
         · rw [hnp] at hp; cases hp
         · rw [hnq] at hp; cases hp
   · rw [qnh] at hlt
     rw [qyf,if_neg]
     · exact h3 d hd hlt
     · intro h
       exact St.nodup i m o om d ho hm hmi h.1 hd
 · intro t ht
   rw [qyf,qyf,I.size]
   by_cases hd:o.dst=some t∧t < a.tmps.size
   · rw [if_pos hd,if_pos hd]
   · rw [if_neg hd,if_neg hd]
     refine I.agree t fun m om hm hL hS=>?_
     have hmi:i ≠ m:=by
      intro h; subst h
      rw [hLi] at hL; cases hL
     exact ht m om hm (by rw [getD_set_ne false hmi]; exact hL) (by rw [getD_set_ne false hmi]; exact hS)
def missing (L S:Array Bool) (n:Nat):Nat:=((List.range n).filter fun i=>L.getD i false && !S.getD i false).length
theorem cnt_drop (p p':Nat→Bool) (m:Nat) (hm:p m=true) (hm':p' m=false) (ho:∀ i,i ≠ m→p' i=p i):∀ n,m < n→((List.range n).filter p').length+1=((List.range n).filter p).length:=by
 intro n
 induction n with
 | zero=>intro h; omega
 | succ k ih =>
   intro h
   rw [List.range_succ,List.filter_append,List.filter_append,List.length_append,List.length_append]
   by_cases hk:m=k
   · subst hk
     have e:(List.range m).filter p'=(List.range m).filter p:=List.filter_congr fun i hi=>ho i (by have:=List.mem_range.1 hi; omega)
     rw [e]
     simp [hm,hm']
   · have:=ih (by omega)
     have e:[k].filter p'=[k].filter p:=List.filter_congr fun i hi=>ho i (by have:=List.mem_singleton.1 hi; omega)
     rw [e]
     omega
theorem qrh {L S:Array Bool} {n m:Nat} (hm:m < n) (hL:L.getD m false=true) (hS:S.getD m false=false) (hsz:m < S.size):missing L (S.setIfInBounds m true) n+1=missing L S n :=
 cnt_drop _ _ m (by rw [hL,hS]; rfl) (by simp [hsz]) (fun i hi=>by rw [getD_set_ne false (Ne.symm hi)]) n hm
theorem missing_set_L {L S:Array Bool} {n m:Nat} (hm:m < n) (hL:L.getD m false=false) (hS:S.getD m false=false) (hsz:m < L.size):missing (L.setIfInBounds m true) S n=missing L S n+1 :=
 (cnt_drop _ _ m (by rw [hS]; simp [hsz]) (by rw [hL]; rfl) (fun i hi=>by rw [getD_set_ne false (Ne.symm hi)]) n hm).symm
theorem missing_both {L S:Array Bool} {n m:Nat} (hsL:m < L.size) (hsS:m < S.size) (hL:L.getD m false=false):missing (L.setIfInBounds m true) (S.setIfInBounds m true) n=missing L S n:=by
 unfold missing
 congr 1
 apply List.filter_congr
 intro i _
 by_cases hmi:m=i
 · subst hmi
   simp [hsL,hsS]
   simp [hsL] at hL
   simp [hL]
 · rw [getD_set_ne false hmi,getD_set_ne false hmi]
theorem ready_missing {P:Program} {ops:Array Oper} {pre:Nat→Nat→Bool} {lz rd al:Nat→Bool} (St:Stat ops pre lz rd al) {L S:Array Bool} {a b:Act} {w:World} (I:Inv P ops lz rd L S a b w)
 (m:Nat):m < ops.size→L.getD m false=true→S.getD m false=false→∃ q ∈ Region.ready .any ops S,L.getD q false=true:=by
 induction m using Nat.strongRecOn with
 | _ m ih =>
   intro hm hL hS
   obtain ⟨om,hom⟩:=qyi m hm
   by_cases hall:∀ e ∈ om.after,Region.binds .any e=true→S.getD e.on false=true
   · exact ⟨m,mem_ready.2 ⟨by rw [qrc (by rw [I.sizeS]; exact hm)]; exact hS,om,hom,hall⟩,hL⟩
   · have:∃ e ∈ om.after,Region.binds .any e=true∧S.getD e.on false=false:=by
      apply Classical.byContradiction
      intro hno
      refine hall fun e he hb=>?_
      cases h:S.getD e.on false with
      | true=>rfl
      | false=>exact absurd ⟨e,he,hb,h⟩ hno
     obtain ⟨e,he,hb,hSe⟩:=this
     have hlt:=St.back m om hom e he hb
     exact ih e.on hlt (by omega) (I.clL m om hom hL e he hb) hSe
theorem quk {P:Program} {ops:Array Oper} {pre:Nat→Nat→Bool} {lz rd al:Nat→Bool} (St:Stat ops pre lz rd al) {L S:Array Bool} {a b:Act} {w:World} (I:Inv P ops lz rd L S a b w)
 (hr:Region.ready .any ops S=[]):∀ i,i < ops.size→L.getD i false=true→S.getD i false=true:=by
 intro i hi hL
 cases hS:S.getD i false with
 | true=>rfl
 | false =>
   obtain ⟨q,hq,_⟩:=ready_missing St I i hi hL hS
   rw [hr] at hq
   cases hq
theorem qbi {P:Program} {ops:Array Oper} {lz rd:Nat→Bool} {L S:Array Bool} {a b:Act} {w:World} (I:Inv P ops lz rd L S a b w)
 (hall:∀ i,i < ops.size→L.getD i false=true→S.getD i false=true):b=a∧S=L:=by
 refine ⟨act_eq I.defers I.size fun t=>I.agree t fun m om hm hL hS=>?_,?_⟩
 · have:=hall m (Array.getElem?_eq_some_iff.1 hm).1 hL
   rw [hS] at this; cases this
 · apply Array.ext (by rw [I.sizeS,I.sizeL])
   intro i h1 h2
   have e1:=I.sub i
   have e2:=hall i (by rw [← I.sizeS]; exact h1)
   simp only [Array.getD_eq_getD_getElem?,h1,h2,Array.getElem?_eq_getElem,Option.getD_some] at e1 e2
   cases hs:S[i] <;> cases hl:L[i] <;> simp_all
theorem stepOk_move {P:Program} {ops:Array Oper} {i:Nat} {o:Oper} {a b:Act} {w:World} (ho:ops[i]?=some o) (hs:∀ cs bb,o.op ≠ .select cs bb) (hal:alike ops o a b) {R:Act→World→Prop}
 (h:stepOk P ops i a w R):stepOk P ops i b w fun b' w'=>∃ v,b'=b.put o.dst v∧R (a.put o.dst v) w':=by
 unfold stepOk at *
 simp only [ho] at *
 rw [← qcl hal]
 split
 · rename_i hw
   simp only [hw,if_true] at h
   unfold opOk at *
   rw [← qbn hs hal]
   generalize (execOp a.eval o).run P w=r at *
   cases r with
   | ok n w' =>
     cases n <;> simp only at h ⊢ <;> first
      | exact ⟨_,rfl,h⟩
      | exact Calls.mono h fun e w'' ⟨v,he,hv⟩=>⟨v,he,v,rfl,hv⟩
      | exact h
   | halt x w'=>exact h
 · rename_i hw
   simp only [hw] at h
   exact ⟨_,rfl,h⟩
theorem okAny_of_tree {P:Program} {ops:Array Oper} {pre:Nat→Nat→Bool} {lz rd al:Nat→Bool} {K:Act→World→Prop} (St:Stat ops pre lz rd al) :
 ∀ (n f:Nat) (L S:Array Bool) (a b:Act) (w:World),2 * f+missing L S ops.size≤n→Inv P ops lz rd L S a b w→tree P ops lz rd al K f L a w→okAny P ops K (f+missing L S ops.size) S b w:=by
 intro n
 induction n with
 | zero =>
   intro f L S a b w hn I h
   obtain rfl:f=0:=by omega
   have hm0:missing L S ops.size=0:=by omega
   rw [hm0]
   obtain ⟨hr,hk⟩:=h
   have hall:∀ i,i < ops.size→L.getD i false=true→S.getD i false=true:=by
    intro i hi hL
    cases hS:S.getD i false with
    | true=>rfl
    | false =>
      have:=qrh hi hL hS (by rw [I.sizeS]; exact hi)
      omega
   obtain ⟨rfl,rfl⟩:=qbi I hall
   exact ⟨hr,hk⟩
 | succ n ih =>
   intro f L S a b w hn I h
   have caught:∀ i ∈ Region.ready .any ops S,L.getD i false=true→∀ g,f+missing L S ops.size=g+1→stepOk P ops i b w (okAny P ops K g (S.setIfInBounds i true)):=by
    intro i hi hL g hg
    obtain ⟨hun,o,ho,_⟩:=mem_ready.1 hi
    have hilt:i < ops.size:=(Array.getElem?_eq_some_iff.1 ho).1
    have hSi:S.getD i false=false:=by rw [← qrc (by rw [I.sizeS]; exact hilt)]; exact hun
    obtain ⟨v,hgv,I'⟩:=I.caught St ho hi hL
    have hms:=qrh hilt hL hSi (by rw [I.sizeS]; exact hilt)
    refine gives_step ho hgv ?_
    have:=ih f L (S.setIfInBounds i true) a (b.put o.dst v) w (by omega) I' h
    rwa [show f+missing L (S.setIfInBounds i true) ops.size=g by omega] at this
   have inL:∀ i ∈ Region.ready .any ops S,L.getD i false=false→i ∈ Region.ready .any ops L:=by
    intro i hi hL
    obtain ⟨hun,o,ho,hallp⟩:=mem_ready.1 hi
    have hilt:i < ops.size:=(Array.getElem?_eq_some_iff.1 ho).1
    exact mem_ready.2 ⟨by rw [qrc (by rw [I.sizeL]; exact hilt)]; exact hL,o,ho,fun e he hb=>I.sub _ (hallp e he hb)⟩
   cases f with
   | zero =>
     obtain ⟨hr,hk⟩:=h
     have hnr:∀ i ∈ Region.ready .any ops S,L.getD i false=true:=by
      intro i hi
      cases hL:L.getD i false with
      | true=>rfl
      | false=>have:=inL i hi hL; rw [hr] at this; cases this
     cases hrs:Region.ready .any ops S with
     | nil =>
       obtain ⟨rfl,rfl⟩:=qbi I (quk St I hrs)
       exact okAny_end hr hk _
     | cons q rest =>
       have hq:q ∈ Region.ready .any ops S:=by rw [hrs]; simp
       have hLq:=hnr q hq
       obtain ⟨hun,o,ho,_⟩:=mem_ready.1 hq
       have hilt:q < ops.size:=(Array.getElem?_eq_some_iff.1 ho).1
       have hSq:S.getD q false=false:=by rw [← qrc (by rw [I.sizeS]; exact hilt)]; exact hun
       have hms:=qrh hilt hLq hSq (by rw [I.sizeS]; exact hilt)
       rw [show (0:Nat)+missing L S ops.size=missing L (S.setIfInBounds q true) ops.size+1 by omega]
       refine ⟨fun h0=>?_,fun i hi=>caught i hi (hnr i hi) _ (by omega)⟩
       rw [hrs] at h0; cases h0
   | succ f =>
     rcases h with ⟨i,o,v,hi,hlz,ho,hg,ht⟩ | ⟨hh,hend,hstep⟩
     · have hilt:i < ops.size:=(Array.getElem?_eq_some_iff.1 ho).1
       have hLi:L.getD i false=false:=by rw [← qrc (by rw [I.sizeL]; exact hilt)]; exact (mem_ready.1 hi).1
       have hSi:S.getD i false=false:=by
        cases h:S.getD i false with
        | false=>rfl
        | true=>rw [I.sub i h] at hLi; cases hLi
       have hms:=missing_set_L hilt hLi hSi (by rw [I.sizeL]; exact hilt)
       have:=ih f (L.setIfInBounds i true) S (a.put o.dst v) b w (by omega) (I.lazily St ho hi hlz hg) ht
       rwa [show f+missing (L.setIfInBounds i true) S ops.size=f+1+missing L S ops.size by omega] at this
     · rw [show f+1+missing L S ops.size=(f+missing L S ops.size)+1 by omega]
       refine ⟨fun hrs=>?_,fun i hi=>?_⟩
       · obtain ⟨rfl,rfl⟩:=qbi I (quk St I hrs)
         exact hend hrs
       · cases hL:L.getD i false with
         | true=>exact caught i hi hL _ (by omega)
         | false =>
           have hiL:=inL i hi hL
           obtain ⟨hun,o,ho,_⟩:=mem_ready.1 hi
           have hilt:i < ops.size:=(Array.getElem?_eq_some_iff.1 ho).1
           have h1:=stepOk_move (b:=b) ho (St.nosel i o · · ho) (qkm St I ho hi) (hstep i hiL)
           refine stepOk_mono h1 ?_
           rintro b' w' ⟨v,rfl,hal,ht⟩
           have I':=I.acted St v ho hi hiL (hh i hiL) hal
           have hmb:missing (L.setIfInBounds i true) (S.setIfInBounds i true) ops.size=missing L S ops.size:=missing_both (by rw [I.sizeL]; exact hilt) (by rw [I.sizeS]; exact hilt) hL
           have:=ih f _ _ _ _ w' (by rw [hmb]; omega) I' ht
           rwa [hmb] at this
theorem wp_of_tree {P:Program} {ops:Array Oper} {pre:Nat→Nat→Bool} {lz rd al:Nat→Bool} {K:Act→World→Prop} {Q:Exit→Act→World→Prop} {id:Nat} {a:Act} {w:World}
 (hm:P.follows .mixedOrders=true) (St:Stat ops pre lz rd al) (hQ:∀ a w,K a w→Q .normal a w)
 (h:tree P ops lz rd al K ops.size (Array.replicate ops.size false) a w.drew):(Code.region id ops true).wp P Q a w:=by
 refine wp_region_any hm (qlj hQ _ _ _ _ ?_)
 have hz:∀ i,(Array.replicate ops.size false).getD i false=false:=qoi _
 have hm0:missing (Array.replicate ops.size false) (Array.replicate ops.size false) ops.size=0:=by
  unfold missing
  rw [List.length_eq_zero_iff,List.filter_eq_nil_iff]
  intro i _ hb
  simp [hz] at hb
 have:=okAny_of_tree (K:=K) St _ ops.size (Array.replicate ops.size false) (Array.replicate ops.size false) a a w.drew (Nat.le_refl _)
  ⟨by simp,by simp,fun _ h=>h,fun j oj _ hl=>absurd hl (by rw [hz]; decide),fun j oj _ hl=>absurd hl (by rw [hz]; decide),fun m om _ hl=>absurd hl (by rw [hz]; decide),rfl,rfl,fun _ _=>rfl⟩ h
 rw [hm0] at this
 exact this
end Go.Proofs.YtonmgkkkiejicaaGreat
namespace Go.Proofs.YtonmgkkkiejicaaGreat
open Go
set_option linter.unusedSimpArgs false
set_option linter.unusedVariables false
structure Sl where
 a:Option Addr
 len:Nat
 cap:Nat
def asI (k:IntKind) (v:Value) (F:Int→Prop):Prop:=match v with
 | .int k' n=>if k'=k then F n else False
 | _=>False
def asB (v:Value) (F:Bool→Prop):Prop:=match v with
 | .bool n=>F n
 | _=>False
def asS (v:Value) (F:ByteArray→Prop):Prop:=match v with
 | .string n=>F n
 | _=>False
def asP (v:Value) (F:Option Addr→Prop):Prop:=match v with
 | .pointer n=>F n
 | _=>False
def asA (v:Value) (F:Addr→Prop):Prop:=match v with
 | .pointer (some n)=>F n
 | _=>False
def asL (v:Value) (F:Sl→Prop):Prop:=match v with
 | .slice a l c=>F ⟨a,l,c⟩
 | _=>False
def asM (v:Value) (F:Option Nat→Prop):Prop:=match v with
 | .map n=>F n
 | _=>False
def asG (v:Value) (F:Array Value→Prop):Prop:=match v with
 | .agg n=>F n
 | _=>False
def asF (v:Value) (F:Nat × Value→Prop):Prop:=match v with
 | .iface t x=>F (t,x)
 | _=>False
def asC0 (f:Nat) (v:Value) (F:Prop):Prop:=match v with
 | .func (.func g) ⟨[]⟩ ⟨[]⟩=>match Nat.beq g f with
   | true=>F
   | false=>False
 | _=>False
def asC1 (f:Nat) (v:Value) (F:Option Addr→Prop):Prop:=match v with
 | .func (.func g) ⟨[.pointer p]⟩ ⟨[]⟩=>match Nat.beq g f with
   | true=>F p
   | false=>False
 | _=>False
def asC2 (f:Nat) (v:Value) (F:Option Addr→Prop):Prop:=match v with
 | .func (.func g) ⟨[]⟩ ⟨[.pointer p]⟩=>match Nat.beq g f with
   | true=>F p
   | false=>False
 | _=>False
def asV (v:Value) (F:Value→Prop):Prop:=F v
theorem asI_el {k:IntKind} {v:Value} {F:Int→Prop} (h:asI k v F):∃ n,v=.int k n∧F n:=by
 unfold asI at h
 split at h
 · split at h
   · rename_i hk; subst hk; exact ⟨_,rfl,h⟩
   · exact h.elim
 · exact h.elim
theorem asB_el {v:Value} {F:Bool→Prop} (h:asB v F):∃ n,v=.bool n∧F n:=by
 unfold asB at h
 split at h <;> first | exact ⟨_,rfl,h⟩ | exact h.elim
theorem asS_el {v:Value} {F:ByteArray→Prop} (h:asS v F):∃ n,v=.string n∧F n:=by
 unfold asS at h
 split at h <;> first | exact ⟨_,rfl,h⟩ | exact h.elim
theorem asP_el {v:Value} {F:Option Addr→Prop} (h:asP v F):∃ n,v=.pointer n∧F n:=by
 unfold asP at h
 split at h <;> first | exact ⟨_,rfl,h⟩ | exact h.elim
theorem asA_el {v:Value} {F:Addr→Prop} (h:asA v F):∃ n,v=.pointer (some n)∧F n:=by
 unfold asA at h
 split at h <;> first | exact ⟨_,rfl,h⟩ | exact h.elim
theorem asL_el {v:Value} {F:Sl→Prop} (h:asL v F):∃ n:Sl,v=.slice n.a n.len n.cap∧F n:=by
 unfold asL at h
 split at h <;> first | exact ⟨_,rfl,h⟩ | exact h.elim
theorem asM_el {v:Value} {F:Option Nat→Prop} (h:asM v F):∃ n,v=.map n∧F n:=by
 unfold asM at h
 split at h <;> first | exact ⟨_,rfl,h⟩ | exact h.elim
theorem asG_el {v:Value} {F:Array Value→Prop} (h:asG v F):∃ n,v=.agg n∧F n:=by
 unfold asG at h
 split at h <;> first | exact ⟨_,rfl,h⟩ | exact h.elim
theorem asV_el {v:Value} {F:Value→Prop} (h:asV v F):∃ n,v=n∧F n:=⟨_,rfl,h⟩
theorem asF_el {v:Value} {F:Nat × Value→Prop} (h:asF v F):∃ n:Nat × Value,v=.iface n.1 n.2∧F n:=by
 unfold asF at h
 split at h <;> first | exact ⟨_,rfl,h⟩ | exact h.elim
theorem asC0_el {f:Nat} {v:Value} {F:Prop} (h:asC0 f v F):v=.func (.func f) ⟨[]⟩ ⟨[]⟩∧F:=by
 unfold asC0 at h
 split at h
 · split at h
   · rename_i hb; have:=Nat.eq_of_beq_eq_true hb; subst this; exact ⟨rfl,h⟩
   · exact h.elim
 · exact h.elim
theorem asC1_el {f:Nat} {v:Value} {F:Option Addr→Prop} (h:asC1 f v F):∃ n,v=.func (.func f) ⟨[.pointer n]⟩ ⟨[]⟩∧F n:=by
 unfold asC1 at h
 split at h
 · split at h
   · rename_i hb; have:=Nat.eq_of_beq_eq_true hb; subst this; exact ⟨_,rfl,h⟩
   · exact h.elim
 · exact h.elim
theorem asC2_el {f:Nat} {v:Value} {F:Option Addr→Prop} (h:asC2 f v F):∃ n,v=.func (.func f) ⟨[]⟩ ⟨[.pointer n]⟩∧F n:=by
 unfold asC2 at h
 split at h
 · split at h
   · rename_i hb; have:=Nat.eq_of_beq_eq_true hb; subst this; exact ⟨_,rfl,h⟩
   · exact h.elim
 · exact h.elim
def asT (P:Program) (t:TypeId) (v:Value) (K:Value→Prop):Prop :=
 match P.underlying t with
 | some (.int k)=>asI k v fun n=>K (.int k n)
 | some .bool=>asB v fun n=>K (.bool n)
 | some .string=>asS v fun n=>K (.string n)
 | some (.pointer _)=>asP v fun n=>K (.pointer n)
 | some (.slice _)=>asL v fun n=>K (.slice n.a n.len n.cap)
 | some (.map _ _)=>asM v fun n=>K (.map n)
 | some (.struct _)=>asG v fun n=>K (.agg n)
 | some (.array _ _)=>asG v fun n=>K (.agg n)
 | some _=>K v
 | none=>False
theorem asT_el {P:Program} {t:TypeId} {v:Value} {K:Value→Prop} (h:asT P t v K):K v:=by
 unfold asT at h
 split at h <;> first
  | exact h.elim
  | exact h
  | (have h':=asI_el h
     obtain ⟨n,e,h'⟩:=h'
     rw [e]; exact h')
  | (have h':=asB_el h
     obtain ⟨n,e,h'⟩:=h'
     rw [e]; exact h')
  | (have h':=asS_el h
     obtain ⟨n,e,h'⟩:=h'
     rw [e]; exact h')
  | (have h':=asP_el h
     obtain ⟨n,e,h'⟩:=h'
     rw [e]; exact h')
  | (have h':=asL_el h
     obtain ⟨n,e,h'⟩:=h'
     rw [e]; exact h')
  | (have h':=asM_el h
     obtain ⟨n,e,h'⟩:=h'
     rw [e]; exact h')
  | (have h':=asG_el h
     obtain ⟨n,e,h'⟩:=h'
     rw [e]; exact h')
def eqT (a b:Nat) (K:Prop):Prop:=match Nat.beq a b with
 | true=>K
 | false=>False
theorem eqT_el {a b:Nat} {K:Prop} (h:eqT a b K):a=b∧K:=by
 unfold eqT at h
 split at h
 · rename_i hb; exact ⟨Nat.eq_of_beq_eq_true hb,h⟩
 · exact h.elim
def br (b:Bool) (A B:Prop):Prop:=match b with
 | true=>A
 | false=>B
def nz (p:Option Addr) (K:Addr→Prop):Prop:=match p with
 | some a=>K a
 | none=>False
def ixS (base:Option Addr) (len:Nat) (i:Int) (sz:Nat) (K:Addr→Prop):Prop:=nz base fun a=>(0≤i∧i < (len:Int))∧K (a.add (i.toNat * sz))
def ixA (a:Addr) (n:Nat) (i:Int) (sz:Nat) (K:Addr→Prop):Prop:=(0≤i∧i < (n:Int))∧K (a.add (i.toNat * sz))
def bd (i:Int) (y:Nat) (K:Nat→Prop):Prop:=(0≤i∧i≤(y:Int))∧K i.toNat
def qfe (a:Option Addr) (m l sz:Nat):Option Addr:=if m=l then a else a.map (·.add (l * sz))
def cutP (a:Addr) (m l sz:Nat):Option Addr:=some (if m=l then a else a.add (l * sz))
def shlV (k:IntKind) (x y:Int):Int:=k.wrap (x * 2 ^ (min y.toNat k.bits))
def shrV (k:IntKind) (x y:Int):Int:=x.fdiv (2 ^ (min y.toNat k.bits))
def andV (k:IntKind) (x y:Int):Int:=k.wrap (BitVec.ofInt k.bits x &&& BitVec.ofInt k.bits y).toNat
def orV (k:IntKind) (x y:Int):Int:=k.wrap (BitVec.ofInt k.bits x ||| BitVec.ofInt k.bits y).toNat
def qpj (k:IntKind) (x y:Int):Int:=k.wrap (BitVec.ofInt k.bits x ^^^ BitVec.ofInt k.bits y).toNat
def andNotV (k:IntKind) (x y:Int):Int:=k.wrap (BitVec.ofInt k.bits x &&& ~~~BitVec.ofInt k.bits y).toNat
def ptI (k:IntKind) (cs:Array Value) (j:Nat) (K:Int→Prop):Prop:=∃ n,cs[j]?=some (.int k n)∧K n
def ptB (cs:Array Value) (j:Nat) (K:Bool→Prop):Prop:=∃ n,cs[j]?=some (.bool n)∧K n
def ptS (cs:Array Value) (j:Nat) (K:ByteArray→Prop):Prop:=∃ n,cs[j]?=some (.string n)∧K n
def ptA (cs:Array Value) (j:Nat) (K:Option Addr→Prop):Prop:=∃ n,cs[j]?=some (.pointer n)∧K n
def ptL (cs:Array Value) (j:Nat) (K:Sl→Prop):Prop:=∃ n:Sl,cs[j]?=some (.slice n.a n.len n.cap)∧K n
def ptM (cs:Array Value) (j:Nat) (K:Option Nat→Prop):Prop:=∃ n,cs[j]?=some (.map n)∧K n
def ptV (cs:Array Value) (j:Nat) (K:Value→Prop):Prop:=∃ n,cs[j]?=some n∧K n
def ptF (cs:Array Value) (j:Nat) (K:Nat × Value→Prop):Prop:=∃ n:Nat × Value,cs[j]?=some (.iface n.1 n.2)∧K n
def withSz (P:Program) (t:TypeId) (K:Nat→Prop):Prop:=match P.info? t with
 | some i=>K i.size
 | none=>False
def partP (P:Program) (t:TypeId) (cs:Array Value) (off:Nat) (K:Value→Prop):Prop :=
 match P.underlying t with
 | some (.int k)=>ptI k cs off fun n=>K (.int k n)
 | some .bool=>ptB cs off fun n=>K (.bool n)
 | some .string=>ptS cs off fun n=>K (.string n)
 | some (.pointer _)=>ptA cs off fun n=>K (.pointer n)
 | some (.slice _)=>ptL cs off fun n=>K (.slice n.a n.len n.cap)
 | some (.map _ _)=>ptM cs off fun n=>K (.map n)
 | some (.struct _)=>withSz P t fun sz=>K (.agg (cs.extract off (off+sz)))
 | some (.array _ _)=>withSz P t fun sz=>K (.agg (cs.extract off (off+sz)))
 | some (.func _ _ _)=>ptV cs off K
 | some (.interface _)=>ptF cs off fun n=>K (.iface n.1 n.2)
 | _=>False
theorem qq {P:Program} {t:TypeId} {d:TypeDesc} (h:P.underlying t=some d) (w:World):(underlying t).run P w=.ok d w:=by
 simp [underlying,h]
theorem qtd {P:Program} {t:TypeId} {d:TypeInfo} (h:P.info? t=some d) (w:World):(typeInfo t).run P w=.ok d w:=by
 simp [typeInfo,h]
theorem qbc {P:Program} {t:TypeId} {d:TypeInfo} (h:P.info? t=some d) (w:World):(sizeOf t).run P w=.ok d.size w:=by
 simp [sizeOf,qtd h]
theorem qah {P:Program} {t:TypeId} {d:TypeDesc} (h:P.underlying t=some d) (w:World):(isAgg t).run P w=.ok (match d with | .struct _ | .array _ _=>true | _=>false) w:=by
 simp [isAgg,qq h]
 cases d <;> rfl
def PV (P:Program) (s:Sem Value) (v:Value):Prop:=∀ w,s.run P w=.ok v w
theorem qtm {P:Program} {t:TypeId} {cs:Array Value} {off:Nat} {K:Value→Prop} (h:partP P t cs off K):∃ v,PV P (part t cs off) v∧K v:=by
 unfold partP at h
 split at h <;> first
  | exact h.elim
  | (rename_i hu
     obtain ⟨n,hc,hk⟩:=h
     refine ⟨_,fun w=>?_,hk⟩
     simp [part,qah hu,hc])
  | (rename_i hu
     unfold withSz at h
     split at h
     · rename_i i hi
       refine ⟨_,fun w=>?_,h⟩
       simp [part,qah hu,qbc hi]
     · exact h.elim)
def ints (k:IntKind) (l:List Int):Array Value:=⟨l.map fun n=>Value.int k n⟩
def eqA (k:IntKind) (n:Nat) (cs ds:Array Value) (K:Bool→Prop):Prop:=∃ xs ys:List Int,cs=ints k xs∧ds=ints k ys∧xs.length=n∧ys.length=n∧K (xs == ys)
def sameK (k k':IntKind) (A:Prop):Prop:=if k=k' then A else False
def ptBin (P:Program) (op:BinOp) (t:TypeId) (x y:Value) (K:Value→Prop):Prop :=
 match x,y with
 | .int k a,.int k' b =>
   match op with
   | .add=>sameK k k' (K (.int k (k.wrap (a+b))))
   | .sub=>sameK k k' (K (.int k (k.wrap (a - b))))
   | .mul=>sameK k k' (K (.int k (k.wrap (a * b))))
   | .quo=>sameK k k' (b ≠ 0∧K (.int k (k.wrap (a.tdiv b))))
   | .rem=>sameK k k' (b ≠ 0∧K (.int k (a.tmod b)))
   | .and=>sameK k k' (K (.int k (andV k a b)))
   | .or=>sameK k k' (K (.int k (orV k a b)))
   | .xor=>sameK k k' (K (.int k (qpj k a b)))
   | .andNot=>sameK k k' (K (.int k (andNotV k a b)))
   | .shl=>0≤b∧K (.int k (shlV k a b))
   | .shr=>0≤b∧K (.int k (shrV k a b))
   | .eql=>sameK k k' (K (.bool (a == b)))
   | .neq=>sameK k k' (K (.bool (a != b)))
   | .lss=>sameK k k' (K (.bool (decide (a < b))))
   | .leq=>sameK k k' (K (.bool (decide (a≤b))))
   | .gtr=>sameK k k' (K (.bool (decide (a > b))))
   | .geq=>sameK k k' (K (.bool (decide (a ≥ b))))
 | .string a,.string b =>
   match op with
   | .eql=>K (.bool (a.toList == b.toList))
   | .neq=>K (.bool (!(a.toList == b.toList)))
   | .add=>((a.size+b.size:Nat):Int)≤IntKind.i64.max∧K (.string (a ++ b))
   | .lss=>K (.bool (Op.bytesLess a.toList b.toList))
   | .leq=>K (.bool (Op.bytesLess a.toList b.toList || a.toList == b.toList))
   | .gtr=>K (.bool (!(Op.bytesLess a.toList b.toList || a.toList == b.toList)))
   | .geq=>K (.bool (!(Op.bytesLess a.toList b.toList)))
   | _=>False
 | .bool a,.bool b =>
   match P.underlying t,op with
   | some .bool,.eql=>K (.bool (a == b))
   | some .bool,.neq=>K (.bool (!(a == b)))
   | _,_=>False
 | .pointer a,.pointer none =>
   match P.underlying t,op with
   | some (.pointer _),.eql=>K (.bool a.isNone)
   | some (.pointer _),.neq=>K (.bool (!a.isNone))
   | _,_=>False
 | .slice a _ _,.slice none _ _ =>
   match P.underlying t,op with
   | some (.slice _),.eql=>K (.bool a.isNone)
   | some (.slice _),.neq=>K (.bool (!a.isNone))
   | _,_=>False
 | .map a,.map none =>
   match P.underlying t,op with
   | some (.map _ _),.eql=>K (.bool a.isNone)
   | some (.map _ _),.neq=>K (.bool (!a.isNone))
   | _,_=>False
 | .agg cs,.agg ds =>
   match P.underlying t with
   | some (.array n e) =>
     match P.underlying e with
     | some (.int k)=>withSz P e fun sz=>match Nat.beq sz 1 with
       | true=>match op with
         | .eql=>eqA k n cs ds fun b=>K (.bool b)
         | .neq=>eqA k n cs ds fun b=>K (.bool (!b))
         | _=>False
       | false=>False
     | _=>False
   | _=>False
 | _,_=>False
theorem qid {P:Program} {op:BinOp} {t:TypeId} {x y:Operand} {a b:Value} (ha:∀ c,a ≠ .agg c) (hn:a ≠ .nilIface) (w:World):(eqGuard op t x y a b).run P w=.ok () w:=by
 unfold eqGuard
 cases a <;> first | (exact absurd rfl (ha _)) | exact absurd rfl hn | (cases op <;> rfl)
theorem qak {P:Program} {t:TypeId} {d:TypeDesc} (h:P.underlying t=some d) (x y:Value) (w:World) (r:Bool)
 (hr:∀ (n:Nat),(Op.equalIn (n+1) t x y).run P w=.ok r w):(Op.equal t x y).run P w=.ok r w:=hr 9999
theorem equal_bool {P:Program} {t:TypeId} (h:P.underlying t=some .bool) (a b:Bool) (w:World):(Op.equal t (.bool a) (.bool b)).run P w=.ok (a == b) w :=
 qak h _ _ w _ fun n=>by rw [Op.equalIn,Sem.run_bind,qq h]; rfl
theorem equal_ptr {P:Program} {t e:TypeId} (h:P.underlying t=some (.pointer e)) (a:Option Addr) (w:World):(Op.equal t (.pointer a) (.pointer none)).run P w=.ok a.isNone w :=
 qak h _ _ w _ fun n=>by rw [Op.equalIn,Sem.run_bind,qq h]; cases a <;> rfl
theorem equal_slice {P:Program} {t e:TypeId} (h:P.underlying t=some (.slice e)) (a:Option Addr) (n c n' c':Nat) (w:World):(Op.equal t (.slice a n c) (.slice none n' c')).run P w=.ok a.isNone w :=
 qak h _ _ w _ fun n=>by rw [Op.equalIn,Sem.run_bind,qq h]; cases a <;> rfl
theorem equal_map {P:Program} {t e f:TypeId} (h:P.underlying t=some (.map e f)) (a:Option Nat) (w:World):(Op.equal t (.map a) (.map none)).run P w=.ok a.isNone w :=
 qak h _ _ w _ fun n=>by rw [Op.equalIn,Sem.run_bind,qq h]; cases a <;> rfl
theorem ints_get {k:IntKind} {l:List Int} {i:Nat} (h:i < l.length):(ints k l)[i]?=some (.int k l[i]):=by simp [ints,h]
theorem loop_run {P:Program} (g:Nat→Bool) (w:World) (h:Nat→Option Bool × Unit→Sem (ForInStep (Option Bool × Unit))):∀ (l:List Nat),
 (∀ i ∈ l,(h i (none,())).run P w=.ok (if g i then ForInStep.yield (none,()) else ForInStep.done (some false,())) w) →
 (forIn l (none,()) h).run P w=.ok (if l.all g then (none,()) else (some false,())) w:=by
 intro l
 induction l with
 | nil=>intro _; simp
 | cons i r ih =>
   intro hb
   rw [List.forIn_cons,Sem.run_bind,hb i (by simp),Result.andThen_ok]
   cases hg:g i with
   | false=>simp [hg]
   | true =>
     simp only [if_true]
     rw [ih fun j hj=>hb j (by simp [hj])]
     simp [hg]
theorem equal_arr {P:Program} {t e:TypeId} {n:Nat} {k:IntKind} {i:TypeInfo} (h:P.underlying t=some (.array n e)) (he:P.underlying e=some (.int k)) (hi:P.info? e=some i) (h1:i.size=1) (xs ys:List Int) (hx:xs.length=n) (hy:ys.length=n) (w:World) :
 (Op.equal t (.agg (ints k xs)) (.agg (ints k ys))).run P w=.ok (xs == ys) w:=by
 show (Op.equalIn (9998+1+1) t _ _).run P w=_
 rw [Op.equalIn,Sem.run_bind,qq h,Result.andThen_ok]
 simp only [Sem.run_bind,qbc hi,Result.andThen_ok,Std.Legacy.Range.forIn_eq_forIn_range']
 have hall:(List.range' 0 (Std.Legacy.Range.size [:n])).all (fun j=>xs[j]? == ys[j]?)=(xs == ys):=by
  have hsz:Std.Legacy.Range.size [:n]=n:=by simp [Std.Legacy.Range.size]
  rw [hsz,Bool.eq_iff_iff,List.all_eq_true,beq_iff_eq]
  constructor
  · intro ha
    apply List.ext_getElem?
    intro j
    by_cases hj:j < n
    · have:=ha j (by simp [List.mem_range']; omega)
      simpa using this
    · rw [List.getElem?_eq_none (by omega),List.getElem?_eq_none (by omega)]
  · rintro rfl j _
    simp
 rw [loop_run (fun j=>xs[j]? == ys[j]?)]
 · rw [hall,Result.andThen_ok]
   cases (xs == ys) <;> rfl
 · intro j hj
   have hjn:j < n:=by
    simp [List.mem_range',Std.Legacy.Range.size] at hj
    omega
   have hpx:(part e (ints k xs) (j * i.size)).run P w=.ok (.int k xs[j]) w:=by
    simp [part,qah he,h1,ints_get (show j < xs.length by omega)]
   have hpy:(part e (ints k ys) (j * i.size)).run P w=.ok (.int k ys[j]) w:=by
    simp [part,qah he,h1,ints_get (show j < ys.length by omega)]
   have heq:(Op.equalIn (9998+1) e (.int k xs[j]) (.int k ys[j])).run P w=.ok (xs[j] == ys[j]) w:=by
    rw [Op.equalIn,Sem.run_bind,qq he,Result.andThen_ok]
    simp
   simp only [Sem.run_bind,hpx,hpy,heq,Result.andThen_ok]
   have e1:(xs[j]? == ys[j]?)=(xs[j] == ys[j]):=by
    rw [List.getElem?_eq_getElem (by omega),List.getElem?_eq_getElem (by omega)]
    rfl
   rw [e1]
   cases (xs[j] == ys[j]) <;> rfl
theorem guard_arr {P:Program} {op:BinOp} {t e:TypeId} {n:Nat} {k:IntKind} {x y:Operand} (h:P.underlying t=some (.array n e)) (he:P.underlying e=some (.int k)) (cs ds:Array Value) (w:World) :
 (eqGuard op t x y (.agg cs) (.agg ds)).run P w=.ok () w:=by
 have hd:∃ d,P.depth=d+1+1:=⟨2 * (P.types.size+Made.depth),by unfold Program.depth; rfl⟩
 obtain ⟨d,hd⟩:=hd
 have hg:P.eqGuardType P.depth t=false:=by
  rw [hd]
  simp [Program.eqGuardType,h,he]
 unfold eqGuard
 cases op <;> simp [hg]
theorem bin_sound {P:Program} {op:BinOp} {t:TypeId} {x y:Value} {ox oy:Operand} {K:Value→Prop} (h:ptBin P op t x y K) :
 ∃ v,PV P (do eqGuard op t ox oy x y; binOp op t x y) v∧K v:=by
 unfold ptBin at h
 split at h
 · rename_i k a k' b
   cases op <;> simp only [sameK] at h <;> first
    | (split at h <;> first
        | (rename_i hk
           subst hk
           first
            | (refine ⟨_,fun w=>?_,h⟩
               simp [qid,binOp,Op.intArith,Op.intBits,Op.intCmp,andV,orV,qpj,andNotV]; done)
            | (obtain ⟨h0,h⟩:=h
               refine ⟨_,fun w=>?_,h⟩
               simp [qid,binOp,Op.intDiv,h0]; done))
        | exact h.elim)
    | (obtain ⟨h0,h⟩:=h
       refine ⟨_,fun w=>?_,h⟩
       have h1:¬ b < 0:=by omega
       simp [qid,binOp,Op.shift,h1,shlV,shrV])
 · rename_i a b
   cases op <;> simp only at h <;> first
    | exact h.elim
    | (refine ⟨_,fun w=>?_,h⟩
       simp [qid,binOp,Op.stringOp]; done)
    | (obtain ⟨h0,h⟩:=h
       refine ⟨_,fun w=>?_,h⟩
       have h1:¬ ((a.size+b.size:Nat):Int) > IntKind.i64.max:=by omega
       simp only [Sem.run_bind,qid (a:=.string a) (by simp) (by simp),Result.andThen_ok,binOp,Op.stringOp,if_neg h1]
       rfl)
 · rename_i a b
   split at h <;> first
    | exact h.elim
    | (rename_i hu
       refine ⟨_,fun w=>?_,h⟩
       simp [qid,binOp,equal_bool hu])
 · rename_i a
   split at h <;> first
    | exact h.elim
    | (rename_i hu
       refine ⟨_,fun w=>?_,h⟩
       cases a <;> simp [qid,binOp,equal_ptr hu])
 · rename_i a _ _ _ _
   split at h <;> first
    | exact h.elim
    | (rename_i hu
       refine ⟨_,fun w=>?_,h⟩
       cases a <;> simp [qid,binOp,equal_slice hu])
 · rename_i a
   split at h <;> first
    | exact h.elim
    | (rename_i hu
       refine ⟨_,fun w=>?_,h⟩
       cases a <;> simp [qid,binOp,equal_map hu])
 · rename_i cs ds
   split at h <;> first | exact h.elim | skip
   rename_i n e hu
   split at h <;> first | exact h.elim | skip
   rename_i k he
   unfold withSz at h
   split at h <;> first | exact h.elim | skip
   rename_i i hi
   split at h <;> first | exact h.elim | skip
   rename_i hsz
   have h1:i.size=1:=Nat.eq_of_beq_eq_true hsz
   cases op <;> simp only at h <;> first
    | exact h.elim
    | (obtain ⟨xs,ys,rfl,rfl,hx,hy,hk⟩:=h
       refine ⟨_,fun w=>?_,hk⟩
       simp [guard_arr hu he,binOp,equal_arr hu he hi h1 xs ys hx hy])
 · exact h.elim
end Go.Proofs.YtonmgkkkiejicaaGreat
namespace Go.Proofs.YtonmgkkkiejicaaGreat
open Go
set_option linter.unusedSimpArgs false
set_option linter.unusedVariables false
def ptNil (x:Value) (K:Value→Prop):Prop :=
 match x with
 | .pointer p=>nz p fun a=>K (.pointer (some a))
 | .func (.func f) first captured=>K (.func (.func f) first captured)
 | .iface t v=>K (.iface t v)
 | _=>False
def ptUn (op:UnOp) (x:Value) (K:Value→Prop):Prop :=
 match op,x with
 | .not,.bool b=>K (.bool !b)
 | .neg,.int k n=>K (.int k (k.wrap (0 - n)))
 | .xor,.int k n=>K (.int k (qpj k (if k.signed then -1 else k.max) n))
 | _,_=>False
def ptConvI (P:Program) (src dst:TypeId) (x:Value) (K:Value→Prop):Prop :=
 match P.underlying src with
 | none=>False
 | some _ =>
   match P.underlying dst,x with
   | some (.int k),.int _ n=>K (.int k (k.wrap n))
   | some .string,.string s=>K (.string s)
   | _,_=>False
def ptFieldAddr (P:Program) (s:TypeId) (x:Value) (f:Nat) (K:Value→Prop):Prop :=
 match P.underlying s with
 | some (.struct fs) =>
   match fs[f]? with
   | some fd =>
     match x with
     | .pointer (some a)=>withSz P fd.type fun sz=>if sz=0 then False else K (.pointer (some (a.add fd.offset)))
     | _=>False
   | none=>False
 | _=>False
def ptField (P:Program) (t:TypeId) (x:Value) (f:Nat) (K:Value→Prop):Prop :=
 match P.underlying t with
 | some (.struct fs) =>
   match fs[f]? with
   | some fd =>
     match x with
     | .agg cs=>partP P fd.type cs fd.offset K
     | _=>False
   | none=>False
 | _=>False
def ptIndexAddr (P:Program) (t:TypeId) (x ix:Value) (K:Value→Prop):Prop :=
 match ix with
 | .int _ i =>
   match P.underlying t,x with
   | some (.slice e),.slice base len _=>withSz P e fun sz=>ixS base len i sz fun a=>K (.pointer (some a))
   | some (.array n e),.pointer (some a)=>withSz P e fun sz=>ixA a n i sz fun a=>K (.pointer (some a))
   | _,_=>False
 | _=>False
def qqd (s:ByteArray) (i:Nat):Int:=((s.data.toList.getD i 0).toNat:Int)
def ptIndex (P:Program) (t:TypeId) (x ix:Value) (K:Value→Prop):Prop :=
 match ix with
 | .int _ i =>
   match P.underlying t,x with
   | some (.array n e),.agg cs=>withSz P e fun sz=>(0≤i∧i < (n:Int))∧partP P e cs (i.toNat * sz) K
   | some .string,.string s=>(0≤i∧i < (s.size:Int))∧K (.int .u8 (qqd s i.toNat))
   | _,_=>False
 | _=>False
def bdO (x:Option Value) (y d:Nat) (K:Nat→Prop):Prop :=
 match x with
 | none=>K d
 | some (.int _ i)=>bd i y K
 | _=>False
def ptSlice (P:Program) (t:TypeId) (x:Value) (lo hi mx:Option Value) (K:Value→Prop):Prop :=
 match P.underlying t,x with
 | some (.slice e),.slice a len cap=>withSz P e fun sz=>bdO mx cap cap fun m=>bdO hi m len fun h=>bdO lo h 0 fun l=>K (.slice (qfe a m l sz) (h - l) (m - l))
 | some (.array n e),.pointer (some a)=>withSz P e fun sz=>bdO mx n n fun m=>bdO hi m n fun h=>bdO lo h 0 fun l=>K (.slice (cutP a m l sz) (h - l) (m - l))
 | some .string,.string s =>
   match mx with
   | none=>bdO hi s.size s.size fun h=>bdO lo h 0 fun l=>K (.string (s.extract l h))
   | some _=>False
 | _,_=>False
def ptExtract (x:Value) (i:Nat) (K:Value→Prop):Prop :=
 match x with
 | .tuple vs=>match vs.toList[i]? with
   | some v=>K v
   | none=>False
 | _=>False
def ptMkI (P:Program) (t:TypeId) (x:Value) (K:Value→Prop):Prop :=
 match P.underlying t with
 | some (.interface _)=>False
 | some _=>K (.iface t x)
 | none=>False
def ptArrPtr (P:Program) (t:TypeId) (x:Value) (K:Value→Prop):Prop :=
 match P.underlying t,x with
 | some (.array n _),.slice a len _=>n≤len∧nz a fun ad=>K (.pointer (some ad))
 | _,_=>False
def ptAssert (P:Program) (x:Value) (asserted:TypeId) (ok:Bool) (K:Value→Prop):Prop :=
 match P.underlying asserted,x with
 | some (.interface _),_=>False
 | some _,.iface t v=>eqT t asserted (asT P asserted v fun v=>match ok with
   | true=>K (.tuple #[v,.bool true])
   | false=>K v)
 | _,_=>False
def ptLen (P:Program) (t:TypeId) (x:Value) (K:Value→Prop):Prop :=
 match P.underlying t,x with
 | some .string,.string s=>K (.int .i64 s.size)
 | some (.slice _),.slice _ n _=>K (.int .i64 n)
 | some (.array n _),_=>K (.int .i64 n)
 | _,_=>False
def ptCap (P:Program) (t:TypeId) (x:Value) (K:Value→Prop):Prop :=
 match P.underlying t,x with
 | some (.slice _),.slice _ _ n=>K (.int .i64 n)
 | _,_=>False
def ptMin (l:List Value) (K:Value→Prop):Prop :=
 match l with
 | [.int k x,.int _ y]=>K (.int k (if y < x then y else x))
 | _=>False
def ptMax (l:List Value) (K:Value→Prop):Prop :=
 match l with
 | [.int k x,.int _ y]=>K (.int k (if y > x then y else x))
 | _=>False
def pureCall (P:Program) (c:Call):Bool :=
 match c.callee with
 | .builtin .len=>match c.argTypes.toList with
   | t :: _=>match P.underlying t with
     | some (.map _ _)=>false
     | _=>true
   | []=>false
 | .builtin .cap=>true
 | .builtin .min=>true
 | .builtin .max=>true
 | _=>false
def pureConv (P:Program) (src dst:TypeId):Bool :=
 match P.underlying src,P.underlying dst with
 | some (.int _),some (.int _)=>true
 | some .string,some .string=>true
 | _,_=>false
def isPure (P:Program) (o:Oper):Bool :=
 match o.op with
 | .move _ | .assign _ | .pick .. | .nilCheck _ | .binOp .. | .unOp .. | .fieldAddr .. | .field .. | .indexAddr .. | .index .. | .slice .. | .extract .. | .makeInterface .. | .makeFunc .. | .sliceToArrayPointer .. | .typeAssert ..=>true
 | .convert s d _=>pureConv P s d
 | .call c=>pureCall P c
 | _=>false
def ptPickV (c a b:Value) (K:Value→Prop):Prop :=
 match c with
 | .bool t=>br t (K a) (K b)
 | _=>False
def ptPureCall (P:Program) (ρ:Operand→Value) (c:Call) (K:Value→Prop):Prop :=
 match c.callee,c.args.toList with
 | .builtin .len,[x]=>match c.argTypes.toList with
   | t :: _=>ptLen P t (ρ x) K
   | []=>False
 | .builtin .cap,[x]=>match c.argTypes.toList with
   | t :: _=>ptCap P t (ρ x) K
   | []=>False
 | .builtin .min,l=>ptMin (l.map ρ) K
 | .builtin .max,l=>ptMax (l.map ρ) K
 | _,_=>False
def ptP (P:Program) (o:Oper) (ρ:Operand→Value) (K:Value→Prop):Prop :=
 match o.op with
 | .move x=>K (ρ x)
 | .assign x=>K (ρ x)
 | .pick c a b=>ptPickV (ρ c) (ρ a) (ρ b) K
 | .nilCheck x=>ptNil (ρ x) K
 | .binOp op t x y _=>ptBin P op t (ρ x) (ρ y) K
 | .unOp op _ x=>ptUn op (ρ x) K
 | .convert s d x=>ptConvI P s d (ρ x) K
 | .fieldAddr s x f=>ptFieldAddr P s (ρ x) f K
 | .field t x f=>ptField P t (ρ x) f K
 | .indexAddr t x i=>ptIndexAddr P t (ρ x) (ρ i) K
 | .index t x i=>ptIndex P t (ρ x) (ρ i) K
 | .slice t x lo hi mx=>ptSlice P t (ρ x) (lo.map ρ) (hi.map ρ) (mx.map ρ) K
 | .extract x i=>ptExtract (ρ x) i K
 | .makeInterface t x=>ptMkI P t (ρ x) K
 | .makeFunc fn first captured=>K (.func fn ⟨first.toList.map ρ⟩ ⟨captured.toList.map ρ⟩)
 | .sliceToArrayPointer t x=>ptArrPtr P t (ρ x) K
 | .typeAssert x _ t ok=>ptAssert P (ρ x) t ok K
 | .call c=>ptPureCall P ρ c K
 | _=>False
theorem qyd {P:Program} {s:Sem Value} {K:Value→Prop} (h:∃ v,PV P s v∧K v):∃ v,(∀ w,(do pure (Next.value (← s)):Sem Next).run P w=.ok (.value v) w)∧K v:=by
 obtain ⟨v,hv,hk⟩:=h
 exact ⟨v,fun w=>by simp [hv w],hk⟩
theorem qmf {P:Program} {k:IntKind} {i:Int} {y:Nat} {c:BoundsCode} (h:0≤i∧i≤(y:Int)) (w:World):(Instr.sliceBound (.int k i) y c).run P w=.ok i.toNat w:=by
 simp [Instr.sliceBound,asIntOf,h]
theorem qij {x:Value} {y d:Nat} {K:Nat→Prop} (h:bdO (some x) y d K):∃ k i,x=.int k i∧(0≤i∧i≤(y:Int))∧K i.toNat:=by
 unfold bdO at h
 cases x <;> first | exact h.elim | exact ⟨_,_,rfl,h.1,h.2⟩
theorem qrk {P:Program} {isS:Bool} {len cap:Nat} {lo hi mx:Option Value} {K:Nat→Nat→Nat→Prop}
 (hh:mx.isSome=true→hi.isSome=true)
 (h:bdO mx cap cap fun m=>bdO hi m len fun hh=>bdO lo hh 0 fun l=>K l hh m) :
 ∃ l hh m,(∀ w,(Instr.sliceBounds isS len cap lo hi mx).run P w=.ok (l,hh,m) w)∧K l hh m:=by
 unfold Instr.sliceBounds
 cases mx with
 | none =>
   cases hi with
   | none =>
     cases lo with
     | none=>exact ⟨_,_,_,fun w=>by simp,h⟩
     | some v =>
       obtain ⟨k,i,rfl,hb,h⟩:=qij (K:=fun l=>K l len cap) h
       exact ⟨_,_,_,fun w=>by simp [qmf hb],h⟩
   | some u =>
     obtain ⟨k,i,rfl,hb,h⟩:=qij (K:=fun hh=>bdO lo hh 0 fun l=>K l hh cap) h
     cases lo with
     | none=>exact ⟨_,_,_,fun w=>by simp [qmf hb],h⟩
     | some v =>
       obtain ⟨k2,i2,rfl,hb2,h⟩:=qij h
       exact ⟨_,_,_,fun w=>by simp [qmf hb,qmf hb2],h⟩
 | some x =>
   obtain ⟨k0,i0,rfl,hb0,h⟩:=qij h
   cases hi with
   | none=>simp at hh
   | some u =>
     obtain ⟨k,i,rfl,hb,h⟩:=qij h
     cases lo with
     | none=>exact ⟨_,_,_,fun w=>by simp [qmf hb0,qmf hb],h⟩
     | some v =>
       obtain ⟨k2,i2,rfl,hb2,h⟩:=qij h
       exact ⟨_,_,_,fun w=>by simp [qmf hb0,qmf hb,qmf hb2],h⟩
theorem qmc {P:Program} {t:TypeId} {K:Nat→Prop} (h:withSz P t K):∃ i,P.info? t=some i∧K i.size:=by
 unfold withSz at h
 split at h
 · exact ⟨_,by assumption,h⟩
 · exact h.elim
theorem nil_sound {P:Program} {o:Oper} {ρ:Operand→Value} {x:Operand} {K:Value→Prop} (ho:o.op=.nilCheck x) (h:ptNil (ρ x) K):∃ v,(∀ w,(execOp ρ o).run P w=.ok (.value v) w)∧K v:=by
 unfold ptNil at h
 split at h
 · rename_i p hx
   cases p with
   | none=>exact h.elim
   | some a=>exact ⟨_,fun w=>by simp [execOp,ho,hx],h⟩
 · rename_i f c d hx
   exact ⟨_,fun w=>by simp [execOp,ho,hx],h⟩
 · rename_i t v hx
   exact ⟨_,fun w=>by simp [execOp,ho,hx],h⟩
 · exact h.elim
theorem un_sound {P:Program} {op:UnOp} {x:Value} {K:Value→Prop} (h:ptUn op x K):∃ v,PV P (Op.unary op x) v∧K v:=by
 unfold ptUn at h
 split at h <;> first
  | exact h.elim
  | exact ⟨_,fun w=>by simp [Op.unary,Op.intArith,Op.intBits,qpj],h⟩
theorem convI_sound {P:Program} {src dst:TypeId} {x:Value} {K:Value→Prop} (h:ptConvI P src dst x K):∃ v,PV P (convert src dst x) v∧K v:=by
 unfold ptConvI at h
 split at h
 · exact h.elim
 · rename_i d hs
   split at h <;> first
    | exact h.elim
    | (rename_i hd
       refine ⟨_,fun w=>?_,h⟩
       unfold convert
       rw [Sem.run_bind,qq hs,Result.andThen_ok,Sem.run_bind,qq hd,Result.andThen_ok]
       cases d <;> first | rfl | simp [Conv.intToInt])
theorem qdm {P:Program} {s:TypeId} {x:Value} {f:Nat} {K:Value→Prop} (h:ptFieldAddr P s x f K):∃ v,PV P (Instr.fieldAt s x f) v∧K v:=by
 unfold ptFieldAddr at h
 split at h <;> first | exact h.elim | skip
 rename_i fs hu
 split at h <;> first | exact h.elim | skip
 rename_i fd hf
 split at h <;> first | exact h.elim | skip
 rename_i a
 obtain ⟨i,hi,h⟩:=qmc h
 split at h
 · exact h.elim
 · rename_i h0
   refine ⟨_,fun w=>?_,h⟩
   simp [Instr.fieldAt,qq hu,hf,Instr.sureAddr,fieldPlace,qbc hi,h0]
theorem field_sound {P:Program} {t:TypeId} {x:Value} {f:Nat} {K:Value→Prop} (h:ptField P t x f K):∃ v,PV P (Instr.field t x f) v∧K v:=by
 unfold ptField at h
 split at h <;> first | exact h.elim | skip
 rename_i fs hu
 split at h <;> first | exact h.elim | skip
 rename_i fd hf
 split at h <;> first | exact h.elim | skip
 rename_i cs
 obtain ⟨v,hv,hk⟩:=qtm h
 refine ⟨v,fun w=>?_,hk⟩
 simp [Instr.field,qq hu,hf,asAgg,hv w]
theorem qzl {P:Program} {t:TypeId} {x ix:Value} {K:Value→Prop} (h:ptIndexAddr P t x ix K):∃ v,PV P (Instr.indexAt t x ix) v∧K v:=by
 unfold ptIndexAddr at h
 split at h <;> first | exact h.elim | skip
 rename_i k i
 split at h <;> first | exact h.elim | skip
 · rename_i e base len c hu
   obtain ⟨ii,hi,h⟩:=qmc h
   unfold ixS nz at h
   split at h
   · rename_i a
     obtain ⟨hb,h⟩:=h
     refine ⟨_,fun w=>?_,h⟩
     simp [Instr.indexAt,asIntOf,qq hu,hb,qbc hi]
   · exact h.elim
 · rename_i n e a hu
   obtain ⟨ii,hi,h⟩:=qmc h
   obtain ⟨hb,h⟩:=h
   refine ⟨_,fun w=>?_,h⟩
   simp [Instr.indexAt,asIntOf,qq hu,hb,qbc hi,Instr.sureAddr]
theorem index_sound {P:Program} {t:TypeId} {x ix:Value} {K:Value→Prop} (h:ptIndex P t x ix K):∃ v,PV P (Instr.index t x ix) v∧K v:=by
 unfold ptIndex at h
 split at h <;> first | exact h.elim | skip
 rename_i k i
 split at h <;> first | exact h.elim | skip
 · rename_i n e cs hu
   obtain ⟨ii,hi,hb,h⟩:=qmc h
   obtain ⟨v,hv,hk⟩:=qtm h
   refine ⟨v,fun w=>?_,hk⟩
   simp [Instr.index,asIntOf,qq hu,hb,qbc hi,hv w]
 · rename_i s hu
   obtain ⟨hb,h⟩:=h
   refine ⟨_,fun w=>?_,h⟩
   have hlt:i.toNat < s.size:=by omega
   have e:s[i.toNat]?=some s[i.toNat]:=by simp [hlt]
   have e2:qqd s i.toNat=((s[i.toNat]).toNat:Int):=by
    unfold qqd
    have:s.data.toList.getD i.toNat 0=s[i.toNat]:=by
     rw [List.getD_eq_getElem?_getD,Array.getElem?_toList,Array.getElem?_eq_getElem (by exact hlt)]
     rfl
    rw [this]
   simp [Instr.index,asIntOf,qq hu,hb.1,e,e2]
theorem slice_sound {P:Program} {t:TypeId} {x:Value} {lo hi mx:Option Value} {K:Value→Prop} (hm:mx.isSome=true→hi.isSome=true) (h:ptSlice P t x lo hi mx K):∃ v,PV P (Instr.sliceAt t x lo hi mx) v∧K v:=by
 unfold ptSlice at h
 split at h <;> first | exact h.elim | skip
 · rename_i e a len cap hu
   obtain ⟨ii,hi',h⟩:=qmc h
   obtain ⟨l,hh,m,hr,hk⟩:=qrk (P:=P) (isS:=true) (K:=fun l h m=>K (.slice (qfe a m l ii.size) (h - l) (m - l))) hm h
   refine ⟨_,fun w=>?_,hk⟩
   simp [Instr.sliceAt,qq hu,Instr.slice,hr w,qbc hi',qfe]
 · rename_i n e a hu
   obtain ⟨ii,hi',h⟩:=qmc h
   obtain ⟨l,hh,m,hr,hk⟩:=qrk (P:=P) (isS:=false) (K:=fun l h m=>K (.slice (cutP a m l ii.size) (h - l) (m - l))) hm h
   refine ⟨_,fun w=>?_,hk⟩
   simp [Instr.sliceAt,qq hu,Instr.sureAddr,hr w,qbc hi',cutP]
 · rename_i s hu
   split at h <;> first | exact h.elim | skip
   obtain ⟨l,hh,m,hr,hk⟩:=qrk (P:=P) (isS:=false) (mx:=none) (lo:=lo) (hi:=hi) (len:=s.size) (cap:=s.size) (K:=fun l h m=>K (.string (s.extract l h))) (by simp) h
   refine ⟨_,fun w=>?_,hk⟩
   simp [Instr.sliceAt,qq hu,Instr.slice,hr w]
theorem extract_sound {P:Program} {x:Value} {i:Nat} {K:Value→Prop} (h:ptExtract x i K):∃ v,PV P (Instr.extract x i) v∧K v:=by
 unfold ptExtract at h
 split at h <;> first | exact h.elim | skip
 rename_i vs
 split at h <;> first | exact h.elim | skip
 rename_i v hv
 refine ⟨v,fun w=>?_,h⟩
 have:vs[i]?=some v:=by rw [← Array.getElem?_toList]; exact hv
 simp [Instr.extract,this]
theorem mkI_sound {P:Program} {t:TypeId} {x:Value} {K:Value→Prop} (h:ptMkI P t x K):∃ v,PV P (Instr.makeInterface t x) v∧K v:=by
 unfold ptMkI at h
 split at h <;> first | exact h.elim | skip
 rename_i d hd hu
 refine ⟨_,fun w=>?_,h⟩
 unfold Instr.makeInterface
 rw [Sem.run_bind,qq hu,Result.andThen_ok]
 cases d <;> first | rfl | exact (hd _ rfl).elim
theorem arrPtr_sound {P:Program} {t:TypeId} {x:Value} {K:Value→Prop} (h:ptArrPtr P t x K):∃ v,PV P (Instr.arrayAt t x) v∧K v:=by
 unfold ptArrPtr at h
 split at h <;> first | exact h.elim | skip
 rename_i n e a len c hu
 obtain ⟨hl,h⟩:=h
 unfold nz at h
 split at h <;> first | exact h.elim | skip
 refine ⟨_,fun w=>?_,h⟩
 have:¬ len < n:=by omega
 simp [Instr.arrayAt,qq hu,this]
theorem assert_sound {P:Program} {x:Value} {xt t:TypeId} {ok:Bool} {K:Value→Prop} (h:ptAssert P x t ok K):∃ v,PV P (Instr.typeAssert x xt t ok) v∧K v:=by
 unfold ptAssert at h
 split at h <;> first | exact h.elim | skip
 rename_i d t' v hd hu
 obtain ⟨ht,h⟩:=eqT_el h
 subst ht
 have h:=asT_el h
 cases ok with
 | true =>
   refine ⟨_,fun w=>?_,h⟩
   unfold Instr.typeAssert
   rw [Sem.run_bind,qq hu,Result.andThen_ok]
   cases d <;> first | exact (hd _ rfl).elim | simp
 | false =>
   refine ⟨_,fun w=>?_,h⟩
   unfold Instr.typeAssert
   rw [Sem.run_bind,qq hu,Result.andThen_ok]
   cases d <;> first | exact (hd _ rfl).elim | simp
theorem len_sound {P:Program} {t:TypeId} {ts:List TypeId} {ty:TypeId} {x:Value} {K:Value→Prop} (h:ptLen P t x K):∃ v,PV P (Builtin.len_ ⟨t :: ts⟩ ty #[x]) v∧K v:=by
 unfold ptLen at h
 split at h <;> first
  | exact h.elim
  | (rename_i hu
     refine ⟨_,fun w=>?_,h⟩
     simp [Builtin.len_,qq hu,goInt])
theorem cap_sound {P:Program} {t:TypeId} {ts:List TypeId} {ty:TypeId} {x:Value} {K:Value→Prop} (h:ptCap P t x K):∃ v,PV P (Builtin.cap_ ⟨t :: ts⟩ ty #[x]) v∧K v:=by
 unfold ptCap at h
 split at h <;> first
  | exact h.elim
  | (rename_i hu
     refine ⟨_,fun w=>?_,h⟩
     simp [Builtin.cap_,qq hu,goInt])
def slOk (o:Oper):Bool:=match o.op with
 | .slice _ _ _ none (some _)=>false
 | _=>true
theorem qmm {P:Program} {o:Oper} {ρ:Operand→Value} {c:Call} {K:Value→Prop} (ho:o.op=.call c) (h:ptPureCall P ρ c K) :
 ∃ v,(∀ w,(execOp ρ o).run P w=.ok (.value v) w)∧K v:=by
 obtain ⟨callee,args,argTypes⟩:=c
 obtain ⟨args⟩:=args
 obtain ⟨argTypes⟩:=argTypes
 unfold ptPureCall at h
 simp only at h
 split at h <;> first | exact h.elim | skip
 · rename_i x
   split at h <;> first | exact h.elim | skip
   rename_i t ts
   obtain ⟨v,hv,hk⟩:=len_sound (ts:=ts) (ty:=o.type) h
   exact ⟨v,fun w=>by simp [execOp,ho,resolve,invoke,builtin,hv w],hk⟩
 · rename_i x
   split at h <;> first | exact h.elim | skip
   rename_i t ts
   obtain ⟨v,hv,hk⟩:=cap_sound (ts:=ts) (ty:=o.type) h
   exact ⟨v,fun w=>by simp [execOp,ho,resolve,invoke,builtin,hv w],hk⟩
 · rename_i l
   unfold ptMin at h
   split at h <;> first | exact h.elim | skip
   rename_i k x k' y hl
   refine ⟨_,fun w=>?_,h⟩
   have e:(List.map ρ args).toArray=#[Value.int k x,Value.int k' y]:=by rw [← hl]
   simp [execOp,ho,resolve,invoke,builtin,e,Builtin.min_,Builtin.min2]
 · rename_i l
   unfold ptMax at h
   split at h <;> first | exact h.elim | skip
   rename_i k x k' y hl
   refine ⟨_,fun w=>?_,h⟩
   have e:(List.map ρ args).toArray=#[Value.int k x,Value.int k' y]:=by rw [← hl]
   simp [execOp,ho,resolve,invoke,builtin,e,Builtin.max_,Builtin.max2]
theorem ptP_sound {P:Program} {o:Oper} {ρ:Operand→Value} {K:Value→Prop} (hs:slOk o=true) (h:ptP P o ρ K) :
 ∃ v,(∀ w,(execOp ρ o).run P w=.ok (.value v) w)∧K v:=by
 unfold ptP at h
 split at h <;> first | exact h.elim | skip
 · rename_i x ho; exact ⟨_,fun w=>by simp [execOp,ho],h⟩
 · rename_i x ho; exact ⟨_,fun w=>by simp [execOp,ho],h⟩
 · rename_i c a b ho
   unfold ptPickV at h
   split at h <;> first | exact h.elim | skip
   rename_i t ht
   cases t with
   | true=>exact ⟨_,fun w=>by simp [execOp,ho,ht,asBool],h⟩
   | false=>exact ⟨_,fun w=>by simp [execOp,ho,ht,asBool],h⟩
 · rename_i x ho; exact nil_sound ho h
 · rename_i op t x y yt ho
   obtain ⟨v,hv,hk⟩:=qyd (bin_sound (ox:=x) (oy:=y) h)
   exact ⟨v,fun w=>by rw [← hv w]; simp [execOp,ho],hk⟩
 · rename_i op t x ho
   obtain ⟨v,hv,hk⟩:=qyd (un_sound (P:=P) h)
   exact ⟨v,fun w=>by rw [← hv w]; simp [execOp,ho],hk⟩
 · rename_i s d x ho
   obtain ⟨v,hv,hk⟩:=qyd (convI_sound h)
   exact ⟨v,fun w=>by rw [← hv w]; simp [execOp,ho],hk⟩
 · rename_i s x f ho
   obtain ⟨v,hv,hk⟩:=qyd (qdm h)
   exact ⟨v,fun w=>by rw [← hv w]; simp [execOp,ho],hk⟩
 · rename_i s x f ho
   obtain ⟨v,hv,hk⟩:=qyd (field_sound h)
   exact ⟨v,fun w=>by rw [← hv w]; simp [execOp,ho],hk⟩
 · rename_i s x f ho
   obtain ⟨v,hv,hk⟩:=qyd (qzl h)
   exact ⟨v,fun w=>by rw [← hv w]; simp [execOp,ho],hk⟩
 · rename_i s x f ho
   obtain ⟨v,hv,hk⟩:=qyd (index_sound h)
   exact ⟨v,fun w=>by rw [← hv w]; simp [execOp,ho],hk⟩
 · rename_i t x lo hi mx ho
   obtain ⟨v,hv,hk⟩:=qyd (slice_sound (by
    unfold slOk at hs
    rw [ho] at hs
    cases hi <;> cases mx <;> simp_all) h)
   exact ⟨v,fun w=>by rw [← hv w]; simp [execOp,ho],hk⟩
 · rename_i x i ho
   obtain ⟨v,hv,hk⟩:=qyd (extract_sound (P:=P) h)
   exact ⟨v,fun w=>by rw [← hv w]; simp [execOp,ho],hk⟩
 · rename_i t x ho
   obtain ⟨v,hv,hk⟩:=qyd (mkI_sound h)
   exact ⟨v,fun w=>by rw [← hv w]; simp [execOp,ho],hk⟩
 · rename_i fn first captured ho
   obtain ⟨first⟩:=first
   obtain ⟨captured⟩:=captured
   exact ⟨_,fun w=>by simp [execOp,ho,Instr.makeFunc],h⟩
 · rename_i t x ho
   obtain ⟨v,hv,hk⟩:=qyd (arrPtr_sound h)
   exact ⟨v,fun w=>by rw [← hv w]; simp [execOp,ho],hk⟩
 · rename_i x xt t ok ho
   obtain ⟨v,hv,hk⟩:=qyd (assert_sound (xt:=xt) h)
   exact ⟨v,fun w=>by rw [← hv w]; simp [execOp,ho],hk⟩
 · rename_i c ho
   exact qmm ho h
end Go.Proofs.YtonmgkkkiejicaaGreat
namespace Go.Proofs.YtonmgkkkiejicaaGreat
open Go
set_option linter.unusedSimpArgs false
set_option linter.unusedVariables false
def ldI (k:IntKind) (w:World) (a:Addr) (K:Int→Prop):Prop:=∃ n,w.cell? a=some (.int k n)∧K n
def ldB (w:World) (a:Addr) (K:Bool→Prop):Prop:=∃ n,w.cell? a=some (.bool n)∧K n
def ldS (w:World) (a:Addr) (K:ByteArray→Prop):Prop:=∃ n,w.cell? a=some (.string n)∧K n
def ldP (w:World) (a:Addr) (K:Option Addr→Prop):Prop:=∃ n,w.cell? a=some (.pointer n)∧K n
def ldL (w:World) (a:Addr) (K:Sl→Prop):Prop:=∃ n:Sl,w.cell? a=some (.slice n.a n.len n.cap)∧K n
def ldM (w:World) (a:Addr) (K:Option Nat→Prop):Prop:=∃ n,w.cell? a=some (.map n)∧K n
def ldF (w:World) (a:Addr) (K:Nat × Value→Prop):Prop:=∃ n:Nat × Value,w.cell? a=some (.iface n.1 n.2)∧K n
def ldV (w:World) (a:Addr) (K:Value→Prop):Prop:=∃ n,w.cell? a=some n∧K n
def ldA (w:World) (a:Addr) (n:Nat) (K:Array Value→Prop):Prop:=∃ cs:Array Value,cs.size=n∧(∀ i,i < n→w.cell? (a.add i)=cs[i]?)∧K cs
def ptLoad (P:Program) (t:TypeId) (x:Value) (w:World) (K:Value→Prop):Prop :=
 match x with
 | .pointer (some a) =>
   match P.underlying t with
   | some (.int k)=>ldI k w a fun n=>K (.int k n)
   | some .bool=>ldB w a fun n=>K (.bool n)
   | some .string=>ldS w a fun n=>K (.string n)
   | some (.pointer _)=>ldP w a fun n=>K (.pointer n)
   | some (.slice _)=>ldL w a fun n=>K (.slice n.a n.len n.cap)
   | some (.map _ _)=>ldM w a fun n=>K (.map n)
   | some (.struct _)=>withSz P t fun sz=>ldA w a sz fun cs=>K (.agg cs)
   | some (.array _ _)=>withSz P t fun sz=>ldA w a sz fun cs=>K (.agg cs)
   | some (.func _ _ _)=>ldV w a K
   | some (.interface _)=>ldF w a fun n=>K (.iface n.1 n.2)
   | _=>False
 | _=>False
theorem cell_ext {w w':World} (h:extA w w') {a:Addr} {v:Value} (hc:w.cell? a=some v):w'.cell? a=some v:=by
 have hb:=World.block_lt_of_cell? w a hc
 unfold World.cell? at *
 rw [h a.block hb]
 exact hc
theorem loadFrom_run {P:Program} {w:World} {a:Addr} {cs:Array Value}:∀ (n i:Nat) (acc:Array Value),i+n=cs.size→acc=cs.extract 0 i→(∀ j,j < cs.size→w.cell? (a.add j)=cs[j]?) →
 (loadCellsFrom a i n acc).run P w=.ok cs w:=by
 intro n
 induction n with
 | zero =>
   intro i acc hi hacc _
   have:acc=cs:=by rw [hacc,show i=cs.size by omega]; simp
   simp [loadCellsFrom,this]
 | succ n ih =>
   intro i acc hi hacc hc
   have hlt:i < cs.size:=by omega
   have h1:=hc i hlt
   rw [Array.getElem?_eq_getElem hlt] at h1
   unfold loadCellsFrom
   simp only [Sem.run_bind,run_load,h1,Result.andThen_ok]
   refine ih (i+1) _ (by omega) ?_ hc
   rw [hacc]
   apply Array.ext
   · simp <;> omega
   · intro j hj1 hj2
     simp at hj1 hj2
     by_cases hji:j=i
     · subst hji; simp [Array.getElem_push]
     · have h2:j < i:=by omega
       have h3:j < min i cs.size:=by omega
       simp [Array.getElem_push,h3]
theorem qvh {P:Program} {w:World} {a:Addr} {n:Nat} {cs:Array Value} (hs:cs.size=n) (hc:∀ j,j < n→w.cell? (a.add j)=cs[j]?):(loadCells a n).run P w=.ok cs w:=by
 unfold loadCells
 exact loadFrom_run n 0 #[] (by omega) (by simp) (by rw [hs]; exact hc)
theorem qfh {P:Program} {t:TypeId} {x:Value} {w:World} {K:Value→Prop} (h:ptLoad P t x w K):∃ v,(∀ w',extA w w'→(Instr.loadAt t x).run P w'=.ok v w')∧K v:=by
 unfold ptLoad at h
 split at h <;> first | exact h.elim | skip
 rename_i a
 split at h <;> first
  | exact h.elim
  | (rename_i hu
     obtain ⟨n,hc,hk⟩:=h
     refine ⟨_,fun w' he=>?_,hk⟩
     simp [Instr.loadAt,Instr.sureAddr,loadVar,qah hu,cell_ext he hc]
     done)
  | (rename_i hu
     obtain ⟨i,hi,cs,hs,hc,hk⟩:=qmc h
     refine ⟨_,fun w' he=>?_,hk⟩
     have hr:(loadCells a i.size).run P w'=.ok cs w':=qvh hs fun j hj=>by
      have h1:=hc j hj
      rw [Array.getElem?_eq_getElem (by omega)] at h1 ⊢
      exact cell_ext he h1
     simp [Instr.loadAt,Instr.sureAddr,loadVar,qah hu,qbc hi,hr])
def st (w:World) (a:Addr) (v:Value) (K:World→Prop):Prop:=qec v∧(∃ u,w.cell? a=some u)∧w.frozen? a=false∧K (w.setCell a v)
def putAll (w:World) (a:Addr):List Value→Nat→World
 | [],_=>w
 | v :: r,i=>putAll (w.setCell (a.add i) v) a r (i+1)
def stA (w:World) (a:Addr) (cs:Array Value) (K:World→Prop):Prop :=
 (∀ i,i < cs.size→(∃ u,w.cell? (a.add i)=some u)∧w.frozen? (a.add i)=false)∧(∀ v ∈ cs,qec v)∧K (putAll w a cs.toList 0)
def isAggT (P:Program) (t:TypeId):Bool:=match P.underlying t with
 | some (.struct _)=>true
 | some (.array _ _)=>true
 | _=>false
def ptStore (P:Program) (t:TypeId) (x v:Value) (w:World) (K:World→Prop):Prop :=
 match x with
 | .pointer (some a) =>
   if isAggT P t then
    match v with
    | .agg cs=>withSz P t fun sz=>cs.size=sz∧stA w a cs K
    | _=>False
   else withSz P t fun sz=>if sz=1 then st w a v K else False
 | _=>False
theorem qnm {v:Value} (h:qec v):v.cells=#[v]:=by
 cases v <;> first | exact h.elim | rfl
theorem store_run {P:Program} {w:World} {a:Addr} {v:Value} (hs:qec v) {u:Value} (hu:w.cell? a=some u) (hf:w.frozen? a=false):(store a v).run P w=.ok () (w.setCell a v):=by
 have:v.oneCell'=true:=by cases v <;> first | exact hs.elim | rfl
 rw [run_store P w a v .plain this,hu]
 simp [hf]
theorem qqk {w:World} {a b:Addr} {v:Value} (h:∃ u,w.cell? b=some u):∃ u,(w.setCell a v).cell? b=some u:=by
 obtain ⟨u,hu⟩:=h
 by_cases hab:a=b
 · subst hab; exact ⟨v,World.cell?_setCell_same w a v hu⟩
 · exact ⟨u,by rw [World.cell?_setCell_other w a b v hab]; exact hu⟩
theorem qbf {P:Program} {a:Addr}:∀ (vs:List Value) (i:Nat) (w:World),(∀ j,j < vs.length→(∃ u,w.cell? (a.add (i+j))=some u)∧w.frozen? (a.add (i+j))=false)→(∀ v ∈ vs,qec v) →
 (storeCells a vs i).run P w=.ok () (putAll w a vs i):=by
 intro vs
 induction vs with
 | nil=>intro i w _ _; rfl
 | cons v r ih =>
   intro i w hc hs
   obtain ⟨⟨u,hu⟩,hf⟩:=hc 0 (by simp)
   rw [Nat.add_zero] at hu hf
   unfold storeCells
   rw [Sem.run_bind,store_run (hs v (by simp)) hu hf,Result.andThen_ok]
   refine ih (i+1) _ (fun j hj=>?_) (fun v hv=>hs v (by simp [hv]))
   have:=hc (j+1) (by simp; omega)
   rw [show i+1+j=i+(j+1) by omega]
   exact ⟨qqk this.1,by rw [World.frozen?_setCell]; exact this.2⟩
theorem store_sound {P:Program} {t:TypeId} {x v:Value} {w:World} {K:World→Prop} (h:ptStore P t x v w K):∃ w',(Instr.storeAt t x v).run P w=.ok () w'∧K w':=by
 unfold ptStore at h
 split at h <;> first | exact h.elim | skip
 rename_i a
 split at h
 · split at h <;> first | exact h.elim | skip
   rename_i cs
   obtain ⟨i,hi,hsz,hc,hst,hk⟩:=qmc h
   refine ⟨_,?_,hk⟩
   have hr:=qbf (P:=P) (a:=a) cs.toList 0 w (fun j hj=>by rw [Nat.zero_add]; exact hc j (by simpa using hj)) (fun v hv=>hst v (by simpa using hv))
   simp [Instr.storeAt,Instr.sureAddr,storeVar,qbc hi,Value.cells,hsz,hr]
 · obtain ⟨i,hi,h⟩:=qmc h
   split at h <;> first | exact h.elim | skip
   rename_i h1
   obtain ⟨hs,⟨u,hu⟩,hf,hk⟩:=h
   refine ⟨_,?_,hk⟩
   have hr:(storeCells a [v] 0).run P w=.ok () (w.setCell a v):=by
    have:=qbf (P:=P) (a:=a) [v] 0 w (fun j hj=>by
     have:j=0:=by simpa using hj
     subst this
     exact ⟨⟨u,hu⟩,hf⟩) (fun v' hv'=>(by simpa using hv':v'=v) ▸ hs)
    exact this
   simp [Instr.storeAt,Instr.sureAddr,storeVar,qbc hi,qnm hs,h1,hr]
def zc (P:Program) (t:TypeId):Array Value:=match P.info? t with
 | some i=>match i.zero with
   | some v=>v.cells
   | none=>#[]
 | none=>#[]
def hasZero (P:Program) (t:TypeId):Bool:=match P.info? t with
 | some i=>i.zero.isSome
 | none=>false
theorem qng {P:Program} {t:TypeId} (h:hasZero P t=true) (w:World):∃ v,(zeroValue t).run P w=.ok v w∧v.cells=zc P t:=by
 unfold hasZero at h
 split at h
 · rename_i i hi
   cases hz:i.zero with
   | none=>rw [hz] at h; cases h
   | some v=>exact ⟨v,by simp [zeroValue,qtd hi,hz],by simp [zc,hi,hz]⟩
 · cases h
def newAt (w:World):Option Addr:=some ⟨w.heap.size,0,none⟩
def ptAlloc (P:Program) (t:TypeId) (w:World) (K:VWP):Prop :=
 if hasZero P t then K (.pointer (newAt w)) (w.alloc (.cells (zc P t) t)) else False
def ptBox (t:TypeId) (v:Value) (w:World) (K:VWP):Prop:=K (.pointer (newAt w)) (w.alloc (.cells v.cells t))
theorem alloc_sound {P:Program} {t:TypeId} {w:World} {K:VWP} (h:ptAlloc P t w K):∃ v w',(Instr.alloc t true (.tuple #[])).run P w=.ok v w'∧extA w w'∧K v w':=by
 unfold ptAlloc at h
 split at h <;> first | exact h.elim | skip
 rename_i hz
 obtain ⟨v,hv,hc⟩:=qng hz w
 refine ⟨_,_,?_,qhh _ _,h⟩
 simp [Instr.alloc,hv,newVar,newRow,hc,newAt]
theorem box_sound {P:Program} {t:TypeId} {v:Value} {w:World} {K:VWP} (h:ptBox t v w K):∃ u w',(Instr.box t v).run P w=.ok u w'∧extA w w'∧K u w' :=
 ⟨.pointer (newAt w),w.alloc (.cells v.cells t),by simp [Instr.box,newVar,newRow,newAt],qhh _ _,h⟩
def spl (l:List Value) (off:Nat) (cs:Array Value):List Value:=(cs.zipIdx.foldl (fun (a:Array Value) (x:Value × Nat)=>a.setIfInBounds (off+x.2) x.1) ⟨l⟩).toList
def fillL (place:Nat→Option (Nat × Nat)) (total:Nat):List Value→List (Nat × Value)→(List Value→Prop)→Prop
 | l,[],K=>K l
 | l,(i,v) :: r,K =>
   match place i with
   | none=>False
   | some (off,size) =>
     if off+size≤total then
      match v with
      | .agg cs=>cs.size=size∧fillL place total (spl l off cs) r K
      | v=>if size=1 then fillL place total (l.set off v) r K else False
     else False
theorem foldl_size (off:Nat) (l:List (Value × Nat)):∀ (a:Array Value),(l.foldl (fun (a:Array Value) (x:Value × Nat)=>a.setIfInBounds (off+x.2) x.1) a).size=a.size:=by
 induction l with
 | nil=>intro a; rfl
 | cons x r ih=>intro a; rw [List.foldl_cons,ih]; simp
theorem spl_length (l:List Value) (off:Nat) (cs:Array Value):(spl l off cs).length=l.length:=by
 unfold spl
 rw [← Array.foldl_toList,Array.length_toList,foldl_size]
 simp
theorem qtj (place:Nat→Option (Nat × Nat)) (total:Nat) {K:List Value→Prop}:∀ (parts:List (Nat × Value)) (l:List Value),l.length=total→fillL place total l parts K→∃ cells,Instr.fill place ⟨l⟩ parts=some cells∧K cells.toList:=by
 intro parts
 induction parts with
 | nil=>intro l _ h; exact ⟨⟨l⟩,rfl,h⟩
 | cons p r ih =>
   intro l hl h
   obtain ⟨i,v⟩:=p
   unfold fillL at h
   unfold Instr.fill
   split at h
   · exact h.elim
   · rename_i off size hp
     simp only [hp]
     split at h <;> first | exact h.elim | skip
     rename_i hle
     split at h
     · rename_i cs
       obtain ⟨hsz,h⟩:=h
       have hc:(Value.agg cs).cells=cs:=rfl
       obtain ⟨cells,hf,hk⟩:=ih _ (by rw [spl_length]; exact hl) h
       refine ⟨cells,?_,hk⟩
       rw [hc,if_neg (by simp [hsz]; omega)]
       rw [← hf]
       rfl
     · rename_i hna
       split at h <;> first | exact h.elim | skip
       rename_i h1
       have hc:v.cells=#[v]:=by cases v <;> first | rfl | exact (hna _ rfl).elim
       obtain ⟨cells,hf,hk⟩:=ih _ (by simpa using hl) h
       refine ⟨cells,?_,hk⟩
       rw [hc,if_neg (by simp; omega)]
       rw [← hf]
       simp
def structPlaces (P:Program) (fs:List Field):Option (List (Nat × Nat)) :=
 match fs with
 | []=>some []
 | f :: r=>match P.info? f.type,structPlaces P r with
   | some i,some l=>some ((f.offset,i.size) :: l)
   | _,_=>none
def ptBuild (P:Program) (t:TypeId) (parts:List (Nat × Value)) (K:Value→Prop):Prop :=
 if hasZero P t then
  match P.underlying t with
  | some (.struct fs) =>
    match structPlaces P fs.toList with
    | some pl=>fillL (fun i=>pl[i]?) (zc P t).size (zc P t).toList parts fun l=>K (.agg ⟨l⟩)
    | none=>False
  | some (.array _ e)=>withSz P e fun sz=>fillL (fun i=>some (i * sz,sz)) (zc P t).size (zc P t).toList parts fun l=>K (.agg ⟨l⟩)
  | _=>False
 else False
theorem places_run {P:Program} (fs:List Field):∀ {pl:List (Nat × Nat)},structPlaces P fs=some pl→∀ w,(fs.mapM (fun f=>do pure (f.offset,← sizeOf f.type):Field→Sem (Nat × Nat))).run P w=.ok pl w:=by
 induction fs with
 | nil=>intro pl h w; simp [structPlaces] at h; subst h; simp
 | cons f r ih =>
   intro pl h w
   unfold structPlaces at h
   split at h
   · rename_i i l hi hl
     simp at h
     subst h
     rw [List.mapM_cons]
     simp [qbc hi]
     have:=ih hl w
     simp at this
     simp [this]
   · cases h
theorem build_sound {P:Program} {t:TypeId} {parts:List (Nat × Value)} {K:Value→Prop} (h:ptBuild P t parts K):∃ v,PV P (Instr.build t ⟨parts⟩) v∧K v:=by
 unfold ptBuild at h
 split at h <;> first | exact h.elim | skip
 rename_i hz
 split at h <;> first | exact h.elim | skip
 · rename_i fs hu
   split at h <;> first | exact h.elim | skip
   rename_i pl hpl
   obtain ⟨cells,hf,hk⟩:=qtj _ _ parts _ (by simp) h
   refine ⟨_,fun w=>?_,hk⟩
   obtain ⟨v,hv,hc⟩:=qng hz w
   have hm:(fs.mapM (fun f=>do pure (f.offset,← sizeOf f.type):Field→Sem (Nat × Nat))).run P w=.ok pl.toArray w:=by
    obtain ⟨fs⟩:=fs
    rw [List.mapM_toArray,Sem.run_map,places_run fs hpl w]
    rfl
   simp only [Instr.build,Sem.run_bind,hv,Result.andThen_ok,qq hu,hm,hc]
   have e1:(fun (x:Nat)=>pl.toArray[x]?)=fun (i:Nat)=>pl[i]?:=by funext x; simp
   rw [show ((⟨(zc P t).toList⟩:Array Value))=zc P t from rfl] at hf
   simp only [e1,hf]
   rfl
 · rename_i n e hu
   obtain ⟨i,hi,h⟩:=qmc h
   obtain ⟨cells,hf,hk⟩:=qtj _ _ parts _ (by simp) h
   refine ⟨_,fun w=>?_,hk⟩
   obtain ⟨v,hv,hc⟩:=qng hz w
   simp [Instr.build,hv,qq hu,qbc hi,hc,hf]
def qmg (n:Nat) (l:List Value):List Value:=match n with
 | 0=>[]
 | n+1=>l ++ qmg n l
theorem qde (n:Nat) (l:List Value):(qmg n l).length=n * l.length:=by
 induction n with
 | zero=>simp [qmg]
 | succ n ih=>simp [qmg,ih,Nat.succ_mul]; omega
theorem repL_get (n:Nat) (l:List Value) (i:Nat) (h:i < n * l.length):(qmg n l)[i]?=l[i % l.length]?:=by
 induction n generalizing i with
 | zero=>omega
 | succ n ih =>
   unfold qmg
   by_cases hi:i < l.length
   · rw [List.getElem?_append_left hi,Nat.mod_eq_of_lt hi]
   · rw [List.getElem?_append_right (by omega),ih _ (by rw [Nat.succ_mul] at h; omega)]
     congr 1
     rw [Nat.mod_eq_sub_mod (by omega:i ≥ l.length)]
theorem rep_eq (z:Array Value) (n m:Nat) (hm:m=n * z.size):(Array.range m).map (fun i=>z[i % z.size]!)=⟨qmg n z.toList⟩:=by
 subst hm
 apply Array.ext
 · simp [qde]
 · intro i h1 h2
   simp at h1
   have h3:=repL_get n z.toList i (by simpa using h1)
   have hz:i % z.size < z.size:=Nat.mod_lt _ (by
    rcases Nat.eq_zero_or_pos z.size with h | h
    · rw [h] at h1; omega
    · exact h)
   simp only [Array.length_toList,Array.getElem?_toList] at h3
   rw [Array.getElem?_eq_getElem hz] at h3
   have h4:(⟨qmg n z.toList⟩:Array Value)[i]?=some z[i % z.size]:=by simpa using h3
   rw [Array.getElem?_eq_getElem h2] at h4
   simp only [Array.getElem_map,Array.getElem_range]
   rw [getElem!_pos z _ hz]
   exact (Option.some.inj h4).symm
theorem qog (z:Array Value) (n:Nat):Builtin.zeroCells z n=⟨qmg n z.toList⟩:=rep_eq z n _ rfl
def ptBuildSlice (P:Program) (t:TypeId) (len:Nat) (parts:List (Nat × Value)) (w:World) (K:VWP):Prop :=
 match P.underlying t with
 | some (.slice e) =>
   if hasZero P e then withSz P e fun sz =>
    if len * sz≤2 ^ 24 then
     if (zc P e).size=sz then
      fillL (fun i=>some (i * sz,sz)) (len * sz) (qmg len (zc P e).toList) parts fun l=>K (.slice (newAt w) len len) (w.alloc (.cells ⟨l⟩ e))
     else False
    else False
   else False
 | _=>False
theorem qdl {P:Program} {t:TypeId} {len:Nat} {parts:List (Nat × Value)} {w:World} {K:VWP} (h:ptBuildSlice P t len parts w K):∃ v w',(Instr.buildSlice t len ⟨parts⟩).run P w=.ok v w'∧extA w w'∧K v w':=by
 unfold ptBuildSlice at h
 split at h <;> first | exact h.elim | skip
 rename_i e hu
 split at h <;> first | exact h.elim | skip
 rename_i hz
 obtain ⟨i,hi,h⟩:=qmc h
 split at h <;> first | exact h.elim | skip
 rename_i hle
 split at h <;> first | exact h.elim | skip
 rename_i hsz
 obtain ⟨v,hv,hc⟩:=qng hz w
 obtain ⟨cells,hf,hk⟩:=qtj _ _ parts _ (by rw [qde]; simp [hsz]) h
 refine ⟨_,_,?_,qhh _ _,hk⟩
 have hle':¬ len * i.size > 2 ^ 24:=by omega
 unfold Instr.buildSlice
 simp only [Sem.run_bind,qq hu,Result.andThen_ok,qbc hi,if_neg hle']
 by_cases h0:len * i.size=0
 · have e1:qmg len (zc P e).toList=[]:=by
    apply List.eq_nil_of_length_eq_zero
    rw [qde]; simp [hsz,h0]
   have e2:∀ z:Array Value,(Array.range (len * i.size)).map (fun x=>z[x % z.size]!)=#[]:=fun z=>by rw [h0]; simp
   rw [e1] at hf
   simp only [h0,if_true,Sem.run_bind,Sem.run_pure,Result.andThen_ok]
   have e3:(Array.range 0).map (fun x=>(#[]:Array Value)[x % (#[]:Array Value).size]!)=(⟨[]⟩:Array Value):=by simp
   rw [e3,hf]
   simp [newRow,newAt]
 · have e2:(Array.range (len * i.size)).map (fun x=>(zc P e)[x % (zc P e).size]!)=⟨qmg len (zc P e).toList⟩:=rep_eq _ _ _ (by rw [hsz])
   simp only [h0,if_false,Sem.run_bind,hv,Result.andThen_ok,Sem.run_pure,hc,e2,hf]
   simp [newRow,newAt]
end Go.Proofs.YtonmgkkkiejicaaGreat
namespace Go.Proofs.YtonmgkkkiejicaaGreat
open Go
set_option linter.unusedSimpArgs false
set_option linter.unusedVariables false
def rdO (w:World) (src:Option Addr) (k:Nat) (K:Array Value→Prop):Prop :=
 match src with
 | some a=>ldA w a k K
 | none=>k=0∧K #[]
def strCells (s:ByteArray) (n:Nat):Array Value:=(s.extract 0 n).data.map fun b=>.int .u8 b.toNat
def srcK (P:Program) (x:Value) (sz:Nat) (w:World) (n:Nat) (K:Array Value→Prop):Prop :=
 match x with
 | .slice a _ _=>rdO w a (n * sz) K
 | .string s=>sz=1∧K (strCells s n)
 | _=>False
def srcLen (x:Value) (K:Nat→Prop):Prop :=
 match x with
 | .slice _ n _=>K n
 | .string s=>K s.size
 | _=>False
theorem qwg {P:Program} {w w':World} (h:extA w w') {x:Value} {sz n:Nat} {cs:Array Value} (hs:cs.size=n * sz) (hr:∀ a k c,x=.slice (some a) k c→∀ j,j < n * sz→w.cell? (a.add j)=cs[j]?)
 (hr2:∀ k c,x=.slice none k c→cs=#[]) (hr3:∀ s,x=.string s→cs=strCells s n) (hx:∃ m,Builtin.lenOf x=pure m):(Builtin.firstCells sz n x).run P w'=.ok cs w':=by
 cases x with
 | slice a k c =>
   cases a with
   | none=>rw [hr2 k c rfl]; rfl
   | some a =>
     refine qvh hs fun j hj=>?_
     have h1:=hr a k c rfl j hj
     rw [Array.getElem?_eq_getElem (by omega)] at h1 ⊢
     exact cell_ext h h1
 | string s=>rw [hr3 s rfl]; rfl
 | _=>obtain ⟨m,hm⟩:=hx; cases hm
theorem srcK_spec {P:Program} {x:Value} {sz n:Nat} {w:World} {K:Array Value→Prop} (hn:∃ m,Builtin.lenOf x=pure m∧n≤m) (h:srcK P x sz w n K) :
 ∃ cs,K cs∧(∀ w',extA w w'→(Builtin.firstCells sz n x).run P w'=.ok cs w'):=by
 obtain ⟨m,hm,hle⟩:=hn
 unfold srcK at h
 split at h <;> first | exact h.elim | skip
 · rename_i a k c
   unfold rdO at h
   split at h
   · rename_i a
     obtain ⟨cs,hs,hc,hk⟩:=h
     exact ⟨cs,hk,fun w' he=>qwg he hs (fun a' k' c' e=>by cases e; exact hc) (fun _ _ e=>by cases e) (fun _ e=>by cases e) ⟨m,hm⟩⟩
   · exact ⟨#[],h.2,fun w' he=>rfl⟩
 · rename_i s
   obtain ⟨h1,hk⟩:=h
   exact ⟨_,hk,fun w' he=>rfl⟩
def apK (P:Program) (elem:TypeId) (w:World) (base:Option Addr) (n cap m:Nat) (new:Array Value) (K:Sl→World→Prop):Prop :=
 withSz P elem fun sz =>
  if n+m≤cap then
   match base with
   | some a=>stA w (a.add (n * sz)) new fun w'=>K ⟨base,n+m,cap⟩ w'
   | none=>K ⟨base,n+m,cap⟩ w
  else
   (Builtin.nextslicecap (n+m) cap * P.bytesOf elem≤2 ^ 48∧P.bytesOf elem ≠ 0)∧rdO w base (n * sz) fun old =>
     ∀ c,n+m≤c→K ⟨newAt w,n+m,c⟩ (w.drew.alloc (.cells (old ++ new ++ ⟨qmg (c - (n+m)) (zc P elem).toList⟩) elem))
def sizeOkB (P:Program) (e:TypeId):Bool:=match P.info? e with
 | some i=>Nat.beq (zc P e).size i.size
 | none=>false
def zrK (P:Program) (e:TypeId) (n:Nat) (m:Int) (K:Array Value→Prop):Prop :=
 (0≤m∧m≤9223372036854775807∧m * (P.bytesOf e:Int)≤2 ^ 48∧(n:Int)+m≤9223372036854775807)∧K ⟨qmg m.toNat (zc P e).toList⟩
def ptAppend (P:Program) (ts:List TypeId) (args:List Value) (w:World) (K:VWP):Prop :=
 match ts,args with
 | t :: t2 :: _,[.slice base n cap,x] =>
   match P.underlying t with
   | some (.slice e) =>
     match P.underlying t2 with
     | some (.int _)=>match x with
       | .int _ m=>if hasZero P e && sizeOkB P e then zrK P e n m fun new=>apK P e w base n cap m.toNat new fun s w'=>K (.slice s.a s.len s.cap) w' else False
       | _=>False
     | some _=>if hasZero P e then srcLen x fun m=>withSz P e fun sz=>srcK P x sz w m fun new=>apK P e w base n cap m new fun s w'=>K (.slice s.a s.len s.cap) w' else False
     | none=>False
   | _=>False
 | _,_=>False
theorem qfm (w:World):extA w w.drew:=fun _ _=>rfl
theorem wrap_i64_nn' {x:Int} (h0:0≤x) (h1:x≤9223372036854775807):IntKind.i64.wrap x=x:=by
 simp only [IntKind.wrap,IntKind.bits,IntKind.signed]
 have:x % 2 ^ 64=x:=Int.emod_eq_of_lt h0 (by omega)
 simp [this]
 omega
theorem append_zeros {P:Program} {t t2 e:TypeId} {tr:List TypeId} {ty:TypeId} {base:Option Addr} {n cap:Nat} {kk kx:IntKind} {m:Int} {w:World} {K:VWP} (hu:P.underlying t=some (.slice e)) (hu2:P.underlying t2=some (.int kk)) (hz:hasZero P e=true) (hso:sizeOkB P e=true)
 (h:zrK P e n m fun new=>apK P e w base n cap m.toNat new fun s w'=>K (.slice s.a s.len s.cap) w'):∃ v w',(Builtin.append_ ⟨t :: t2 :: tr⟩ ty ⟨[.slice base n cap,.int kx m]⟩).run P w=.ok v w'∧K v w':=by
 obtain ⟨⟨h0,h1,h2,h3⟩,hap⟩:=h
 obtain ⟨i,hi,h⟩:=qmc hap
 clear hap
 have hb:(P.bytesOf e)=i.bytes:=by simp [Program.bytesOf,hi]
 rw [hb] at h2
 have wm:=wrap_i64_nn' h0 h1
 have c1:¬ m < 0:=by omega
 have c2:¬ m * (i.bytes:Int) > 2 ^ 48:=by omega
 have hsz:(zc P e).size=i.size:=by
  unfold sizeOkB at hso
  rw [hi] at hso
  exact Nat.eq_of_beq_eq_true hso
 have hnil:m.toNat * i.size=0→(⟨qmg m.toNat (zc P e).toList⟩:Array Value)=#[]:=by
  intro h0
  have:qmg m.toNat (zc P e).toList=[]:=by
   apply List.eq_nil_of_length_eq_zero
   rw [qde]; simp [hsz,h0]
  rw [this]
 have happ:∀ w,(if m.toNat * i.size=0 then (pure #[]:Sem (Array Value)) else do pure (Builtin.zeroCells (← zeroValue e).cells m.toNat)).run P w=.ok ⟨qmg m.toNat (zc P e).toList⟩ w:=by
  intro w
  split
  · rename_i h0; rw [hnil h0]; rfl
  · obtain ⟨v,hv,hvc⟩:=qng hz w
    simp only [Sem.run_bind,hv,Result.andThen_ok,Sem.run_pure,hvc,qog]
 split at h
 · rename_i hle
   cases base with
   | none =>
     refine ⟨_,w,?_,h⟩
     unfold Builtin.append_
     simp only [List.getElem?_toArray,List.getElem?_cons_zero,List.getElem?_cons_succ,Sem.run_bind,qq hu,qq hu2,qbc hi,Result.andThen_ok,asInt,asIntOf,Sem.run_pure,wm,if_neg c1,if_neg c2,qtd hi,hle,Bool.not_true,Bool.false_eq_true,if_false,if_true,happ]
   | some a =>
     obtain ⟨hc,hst,hk⟩:=h
     have hr:=qbf (P:=P) (a:=a.add (n * i.size)) (qmg m.toNat (zc P e).toList) 0 w (fun j hj=>by rw [Nat.zero_add]; exact hc j (by simpa using hj)) (fun v hv=>hst v (by simpa using hv))
     refine ⟨_,_,?_,hk⟩
     unfold Builtin.append_
     simp only [List.getElem?_toArray,List.getElem?_cons_zero,List.getElem?_cons_succ,Sem.run_bind,qq hu,qq hu2,qbc hi,Result.andThen_ok,asInt,asIntOf,Sem.run_pure,wm,if_neg c1,if_neg c2,qtd hi,hle,Bool.not_true,Bool.false_eq_true,if_false,if_true,happ,hr]
 · rename_i hle
   obtain ⟨⟨hb1,hb2⟩,h⟩:=h
   rw [hb] at hb1 hb2
   obtain ⟨old,ho,hk⟩:∃ old,(∀ w',extA w w'→(Builtin.firstCells i.size n (.slice base n cap)).run P w'=.ok old w')∧∀ c,n+m.toNat≤c→K (.slice (newAt w) (n+m.toNat) c) (w.drew.alloc (.cells (old ++ ⟨qmg m.toNat (zc P e).toList⟩ ++ ⟨qmg (c - (n+m.toNat)) (zc P e).toList⟩) e)):=by
    unfold rdO at h
    split at h
    · rename_i a
      obtain ⟨cs,hs,hc,hk⟩:=h
      exact ⟨cs,fun w' he=>qwg he hs (fun a' k' c' e=>by cases e; exact hc) (fun _ _ e=>by cases e) (fun _ e=>by cases e) ⟨n,rfl⟩,hk⟩
    · exact ⟨#[],fun w' he=>rfl,h.2⟩
   obtain ⟨v,hv,hvc⟩:=qng hz w.drew
   have hb1':¬ Builtin.nextslicecap (n+m.toNat) cap * i.bytes > 2 ^ 48:=by omega
   have hb3:¬ (((n+m.toNat:Nat):Int) > IntKind.i64.max∧(True ∨ i.bytes=0)):=by
    have:IntKind.i64.max=9223372036854775807:=rfl
    rw [this]
    omega
   refine ⟨_,_,?_,hk (n+m.toNat+w.tape w.drawn (.appendCap (n+m.toNat) cap e) % (2 ^ 63 - (n+m.toNat))) (by omega)⟩
   have hq:(Question.appendCap (n+m.toNat) cap e).forced=false:=rfl
   have hcut:(Question.appendCap (n+m.toNat) cap e).cut (w.tape w.drawn (.appendCap (n+m.toNat) cap e))=n+m.toNat+w.tape w.drawn (.appendCap (n+m.toNat) cap e) % (2 ^ 63 - (n+m.toNat)):=rfl
   have happ2:=happ w.drew
   simp only [qog] at happ2
   unfold Builtin.append_
   simp only [List.getElem?_toArray,List.getElem?_cons_zero,List.getElem?_cons_succ,Sem.run_bind,qq hu,qq hu2,qbc hi,Result.andThen_ok,asInt,asIntOf,Sem.run_pure,wm,if_neg c1,if_neg c2,qtd hi,if_neg hle,if_neg hb3,Bool.not_true,Bool.false_eq_true,if_false,if_true,if_neg hb1',run_choose,hq,hcut,run_askRoom,World.drew_eq,ho w.drew (qfm w),happ2,hv,hvc,newRow,run_newObj,World.alloc_eq,newAt,World.size_drew,qog]
theorem append_sound {P:Program} {ts:List TypeId} {ty:TypeId} {args:List Value} {w:World} {K:VWP} (h:ptAppend P ts args w K):∃ v w',(Builtin.append_ ⟨ts⟩ ty ⟨args⟩).run P w=.ok v w'∧K v w':=by
 unfold ptAppend at h
 split at h <;> first | exact h.elim | skip
 rename_i t t2 tr base n cap x
 split at h <;> first | exact h.elim | skip
 rename_i e hu
 split at h <;> first | exact h.elim | skip
 · rename_i kk hu2
   split at h <;> first | exact h.elim | skip
   rename_i kx m
   split at h <;> first | exact h.elim | skip
   rename_i hz
   rw [Bool.and_eq_true] at hz
   exact append_zeros hu hu2 hz.1 hz.2 h
 rename_i d2 hni hu2
 split at h <;> first | exact h.elim | skip
 rename_i hz
 have hlen:∃ m,Builtin.lenOf x=pure m∧(withSz P e fun sz=>srcK P x sz w m fun new=>apK P e w base n cap m new fun s w'=>K (.slice s.a s.len s.cap) w'):=by
  unfold srcLen at h
  split at h <;> first | exact h.elim | exact ⟨_,rfl,h⟩
 obtain ⟨m,hm,h⟩:=hlen
 obtain ⟨i,hi,h⟩:=qmc h
 obtain ⟨new,hap,hnew⟩:=srcK_spec ⟨m,hm,Nat.le_refl _⟩ h
 clear h
 obtain ⟨i',hi',h⟩:=qmc hap
 clear hap
 obtain rfl:i=i':=by rw [hi] at hi'; exact (Option.some.inj hi')
 have hnz:(match d2 with | .int _=>true | _=>false)=false:=by cases d2 <;> first | rfl | exact (hni _ rfl).elim
 have hb:(P.bytesOf e)=i.bytes:=by simp [Program.bytesOf,hi]
 have hlr:∀ w,(Builtin.lenOf x).run P w=.ok m w:=fun w=>by rw [hm]; rfl
 split at h
 · rename_i hle
   cases base with
   | none =>
     refine ⟨_,w,?_,h⟩
     unfold Builtin.append_
     simp [qq hu,qq hu2,qbc hi,hnz,hlr,hle,hnew w (qge w)]
   | some a =>
     obtain ⟨hc,hst,hk⟩:=h
     have hr:=qbf (P:=P) (a:=a.add (n * i.size)) new.toList 0 w (fun j hj=>by rw [Nat.zero_add]; exact hc j (by simpa using hj)) (fun v hv=>hst v (by simpa using hv))
     refine ⟨_,_,?_,hk⟩
     unfold Builtin.append_
     simp [qq hu,qq hu2,qbc hi,hnz,hlr,hle,hnew w (qge w),hr]
 · rename_i hle
   obtain ⟨⟨hb1,hb2⟩,h⟩:=h
   rw [hb] at hb1 hb2
   obtain ⟨old,ho,hk⟩:∃ old,(∀ w',extA w w'→(Builtin.firstCells i.size n (.slice base n cap)).run P w'=.ok old w')∧∀ c,n+m≤c→K (.slice (newAt w) (n+m) c) (w.drew.alloc (.cells (old ++ new ++ ⟨qmg (c - (n+m)) (zc P e).toList⟩) e)):=by
    unfold rdO at h
    split at h
    · rename_i a
      obtain ⟨cs,hs,hc,hk⟩:=h
      exact ⟨cs,fun w' he=>qwg he hs (fun a' k' c' e=>by cases e; exact hc) (fun _ _ e=>by cases e) (fun _ e=>by cases e) ⟨n,rfl⟩,hk⟩
    · exact ⟨#[],fun w' he=>rfl,h.2⟩
   obtain ⟨v,hv,hvc⟩:=qng hz w.drew
   have hb1':¬ Builtin.nextslicecap (n+m) cap * i.bytes > 2 ^ 48:=by omega
   have hdr:∀ x,w.drew.drew=x→True:=fun _ _=>trivial
   refine ⟨_,_,?_,hk (n+m+w.tape w.drawn (.appendCap (n+m) cap e) % (2 ^ 63 - (n+m))) (by omega)⟩
   have hq:(Question.appendCap (n+m) cap e).forced=false:=rfl
   have hcut:(Question.appendCap (n+m) cap e).cut (w.tape w.drawn (.appendCap (n+m) cap e))=n+m+w.tape w.drawn (.appendCap (n+m) cap e) % (2 ^ 63 - (n+m)):=rfl
   unfold Builtin.append_
   simp only [List.getElem?_toArray,List.getElem?_cons_zero,List.getElem?_cons_succ,Sem.run_bind,qq hu,qq hu2,qbc hi,Result.andThen_ok,hlr,qtd hi,if_neg hle,hnz,Sem.run_pure,Bool.false_eq_true,if_false,false_or,hb2,and_false,if_neg hb1',run_choose,hq,hcut,run_askRoom,World.drew_eq,ho w.drew (qfm w),hnew w.drew (qfm w),hv,hvc,Bool.not_false,if_true,newRow,run_newObj,World.alloc_eq,newAt,World.size_drew,qog]
def cpK (w:World) (base:Option Addr) (new:Array Value) (K:World→Prop):Prop:=match base with
 | some a=>stA w a new K
 | none=>K w
def ptCopy (P:Program) (ts:List TypeId) (args:List Value) (w:World) (K:VWP):Prop :=
 match ts,args with
 | t :: _,[.slice base n _,x] =>
   match P.underlying t with
   | some (.slice e)=>srcLen x fun m=>withSz P e fun sz=>srcK P x sz w (Nat.min m n) fun new=>cpK w base new fun w'=>K (.int .i64 ((Nat.min m n:Nat):Int)) w'
   | _=>False
 | _,_=>False
theorem copy_sound {P:Program} {ts:List TypeId} {ty:TypeId} {args:List Value} {w:World} {K:VWP} (h:ptCopy P ts args w K):∃ v w',(Builtin.copy_ ⟨ts⟩ ty ⟨args⟩).run P w=.ok v w'∧K v w':=by
 unfold ptCopy at h
 split at h <;> first | exact h.elim | skip
 rename_i t tr base n c x
 split at h <;> first | exact h.elim | skip
 rename_i e hu
 have hlen:∃ m,Builtin.lenOf x=pure m∧(withSz P e fun sz=>srcK P x sz w (Nat.min m n) fun new=>cpK w base new fun w'=>K (.int .i64 ((Nat.min m n:Nat):Int)) w'):=by
  unfold srcLen at h
  split at h <;> first | exact h.elim | exact ⟨_,rfl,h⟩
 obtain ⟨m,hm,h⟩:=hlen
 obtain ⟨i,hi,h⟩:=qmc h
 obtain ⟨new,h,hnew⟩:=srcK_spec ⟨m,hm,Nat.min_le_left _ _⟩ h
 have hlr:∀ w,(Builtin.lenOf x).run P w=.ok m w:=fun w=>by rw [hm]; rfl
 cases base with
 | none =>
   refine ⟨_,w,?_,h⟩
   unfold Builtin.copy_
   simp [qq hu,qbc hi,hlr,hnew w (qge w),goInt]
 | some a =>
   obtain ⟨hc,hst,hk⟩:=h
   have hr:=qbf (P:=P) (a:=a) new.toList 0 w (fun j hj=>by rw [Nat.zero_add]; exact hc j (by simpa using hj)) (fun v hv=>hst v (by simpa using hv))
   refine ⟨_,_,?_,hk⟩
   unfold Builtin.copy_
   simp [qq hu,qbc hi,hlr,hnew w (qge w),hr,goInt]
def mkK (P:Program) (elem:TypeId) (w:World) (l c:Int) (K:Sl→World→Prop):Prop :=
 (0≤l∧l≤c∧c≤9223372036854775807∧(P.bytesOf elem:Int) * c≤2 ^ 48) ∧
   K ⟨newAt w,l.toNat,c.toNat⟩ (w.alloc (.cells ⟨qmg c.toNat (zc P elem).toList⟩ elem))
def ptMake (P:Program) (t:TypeId) (l c:Value) (w:World) (K:VWP):Prop :=
 match P.underlying t,l,c with
 | some (.slice e),.int _ l,.int _ c=>if hasZero P e then withSz P e fun sz=>if (zc P e).size=sz then mkK P e w l c fun s w'=>K (.slice s.a s.len s.cap) w' else False else False
 | _,_,_=>False
theorem qkl {x:Int} (h0:0≤x) (h1:x≤9223372036854775807):IntKind.i64.wrap x=x:=by
 simp only [IntKind.wrap,IntKind.bits,IntKind.signed]
 have:x % 2 ^ 64=x:=Int.emod_eq_of_lt h0 (by omega)
 simp [this]
 omega
theorem make_sound {P:Program} {t:TypeId} {l c:Value} {w:World} {K:VWP} (h:ptMake P t l c w K):∃ v w',(Instr.makeSlice t l c).run P w=.ok v w'∧extA w w'∧K v w':=by
 unfold ptMake at h
 split at h <;> first | exact h.elim | skip
 rename_i e kl l kc c hu
 split at h <;> first | exact h.elim | skip
 rename_i hz
 obtain ⟨i,hi,h⟩:=qmc h
 split at h <;> first | exact h.elim | skip
 rename_i hsz
 obtain ⟨⟨h0,h1,h2,h3⟩,hk⟩:=h
 have hb:(P.bytesOf e)=i.bytes:=by simp [Program.bytesOf,hi]
 rw [hb] at h3
 obtain ⟨v,hv,hvc⟩:=qng hz w
 refine ⟨_,_,?_,qhh _ _,hk⟩
 have wl:=qkl h0 (show l≤_ by omega)
 have wc:=qkl (show 0≤c by omega) h2
 have c1:¬ c < 0:=by omega
 have c2:¬ ((i.bytes:Int) * c > 2 ^ 48):=by omega
 have c3:¬ l < 0:=by omega
 have c4:¬ l > c:=by omega
 unfold Instr.makeSlice
 simp only [Sem.run_bind,qq hu,Result.andThen_ok,asInt,asIntOf,Sem.run_pure,qtd hi,wl,wc,c1,c2,c3,c4,decide_false,Bool.or_false,Bool.false_or,Bool.or_self,Bool.false_eq_true,if_false,qbc hi]
 by_cases hn:c.toNat * i.size=0
 · have e1:qmg c.toNat (zc P e).toList=[]:=by
    apply List.eq_nil_of_length_eq_zero
    rw [qde]; simp [hsz,hn]
   have e3:Array.range 0=#[]:=rfl
   simp [hn,e1,newRow,newAt,e3]
 · have e2:(Array.range (c.toNat * i.size)).map (fun x=>(zc P e)[x % (zc P e).size]!)=⟨qmg c.toNat (zc P e).toList⟩:=rep_eq _ _ _ (by rw [hsz])
   simp only [hn,if_false,Sem.run_bind,hv,Result.andThen_ok,Sem.run_pure,hvc,e2,newRow,run_newObj,World.alloc_eq,run_askRoom,newAt]
def btS (w:World) (a:Option Addr) (n:Nat) (K:ByteArray→Prop):Prop :=
 match a with
 | none=>K ⟨#[]⟩
 | some a=>∃ l:List UInt8,l.length=n∧(∀ j,j < n→w.cell? (a.add j)=(l[j]?).map fun b=>Value.int .u8 (b.toNat:Int))∧K ⟨⟨l⟩⟩
def stB (w:World) (e:TypeId) (s:ByteArray) (K:Sl→World→Prop):Prop :=
 ∀ c,s.size≤c→K ⟨newAt w,s.size,c⟩ ((w.drew.alloc (.cells ⟨(s.data.toList.map fun b=>Value.int .u8 (b.toNat:Int)) ++ qmg (c - s.size) [.int .u8 0]⟩ e)).freeze ⟨w.heap.size,c,none⟩ 1)
def mkStr (w:World) (a:Option Addr) (K:World→Prop):Prop:=nz a fun a=>∃ e n,w.shape? a.block=some (e,n)∧K (w.freeze ⟨a.block,n,none⟩ 1)
def ptConvH (P:Program) (src dst:TypeId) (x:Value) (w:World) (K:VWP):Prop :=
 match P.underlying src,P.underlying dst,x with
 | some (.slice e),some .string,.slice a n _ =>
   match P.underlying e with
   | some (.int .u8)=>btS w a n fun s=>K (.string s) w
   | _=>False
 | some .string,some (.slice e),.string s =>
   match P.underlying e with
   | some (.int .u8)=>stB w e s fun sl w'=>K (.slice sl.a sl.len sl.cap) w'
   | _=>False
 | some (.slice _),some (.slice e),.slice a n c =>
   match Nat.beq src dst,P.underlying e with
   | true,some (.int .u8)=>mkStr w a fun w'=>K (.slice a n c) w'
   | _,_=>False
 | _,_,_=>False
theorem forIn_bytes {P:Program} (f:Value→ByteArray→Sem (ForInStep ByteArray)) (hf:∀ n s,f (.int .u8 n) s=pure (ForInStep.yield (s.push (UInt8.ofNat n.toNat)))) (l:List UInt8):∀ (s:ByteArray) (w:World),
 (forIn (m:=Sem) (l.map fun b=>Value.int .u8 (b.toNat:Int)) s f).run P w=.ok ⟨s.data ++ ⟨l⟩⟩ w:=by
 induction l with
 | nil=>intro s w; simp
 | cons b r ih =>
   intro s w
   rw [List.map_cons,List.forIn_cons]
   simp only [hf,Sem.run_bind,Sem.run_pure,Result.andThen_ok]
   rw [ih]
   have e:UInt8.ofNat (b.toNat:Int).toNat=b:=by simp
   rw [e]
   congr 2
   apply Array.ext'
   simp [ByteArray.push]
theorem toString_run {P:Program} {w:World} {a:Option Addr} {n c:Nat} {K:ByteArray→Prop} (h:btS w a n K):∃ s,(Conv.bytesToString (.slice a n c)).run P w=.ok (.string s) w∧K s:=by
 unfold btS at h
 split at h
 · exact ⟨_,rfl,h⟩
 · rename_i a
   obtain ⟨l,hl,hc,hk⟩:=h
   refine ⟨_,?_,hk⟩
   have hr:(loadCells a n).run P w=.ok (l.map fun b=>Value.int .u8 (b.toNat:Int)).toArray w:=qvh (by simp [hl]) fun j hj=>by
    rw [hc j hj]; simp
   unfold Conv.bytesToString
   simp only [Sem.run_bind,hr,Result.andThen_ok,List.forIn_toArray]
   rw [forIn_bytes _ (fun _ _=>rfl)]
   have e0:(⟨ByteArray.empty.data ++ ⟨l⟩⟩:ByteArray)=⟨⟨l⟩⟩:=by
    show (⟨#[] ++ ⟨l⟩⟩:ByteArray)=⟨⟨l⟩⟩
    rw [Array.empty_append]
   rw [e0]
   rfl
theorem convH_sound {P:Program} {src dst:TypeId} {x:Value} {w:World} {K:VWP} (h:ptConvH P src dst x w K):∃ v w',(convert src dst x).run P w=.ok v w'∧K v w':=by
 unfold ptConvH at h
 split at h <;> first | exact h.elim | skip
 · rename_i e a n c hu hd
   split at h <;> first | exact h.elim | skip
   rename_i he
   obtain ⟨s,hs,hk⟩:=toString_run (c:=c) h
   refine ⟨_,_,?_,hk⟩
   unfold convert
   rw [Sem.run_bind,qq hu,Result.andThen_ok,Sem.run_bind,qq hd,Result.andThen_ok]
   show ((do match ← underlying e with
    | .int .u8=>Conv.bytesToString (.slice a n c)
    | .int .i32=>Conv.runesToString (.slice a n c)
    | _ => stuck "Convert: a slice of what to string?" : Sem Value)).run P w = _
   rw [Sem.run_bind,qq he,Result.andThen_ok]
   exact hs
 · rename_i e s hu hd
   split at h <;> first | exact h.elim | skip
   rename_i he
   refine ⟨_,_,?_,h (s.size+w.tape w.drawn (.appendCap s.size 0 e) % (2 ^ 63 - s.size)) (by omega)⟩
   unfold convert
   rw [Sem.run_bind,qq hu,Result.andThen_ok,Sem.run_bind,qq hd,Result.andThen_ok]
   show ((do match ← underlying e with
    | .int .u8=>Conv.stringToBytes e s
    | .int .i32=>Conv.stringToRunes e s
    | _ => stuck "Convert: string to a slice of what?" : Sem Value)).run P w = _
   rw [Sem.run_bind,qq he,Result.andThen_ok]
   have hq:(Question.appendCap s.size 0 e).forced=false:=rfl
   have hcut:(Question.appendCap s.size 0 e).cut (w.tape w.drawn (.appendCap s.size 0 e))=s.size+w.tape w.drawn (.appendCap s.size 0 e) % (2 ^ 63 - s.size):=rfl
   have hrep:∀ k,(qmg k [Value.int .u8 0])=List.replicate k (Value.int .u8 0):=by
    intro k
    induction k with
    | zero=>rfl
    | succ k ih=>simp [qmg,ih,List.replicate_succ]
   have hcells:(s.data.map (fun b=>Value.int .u8 (b.toNat:Int)) ++ Array.replicate (s.size+w.tape w.drawn (.appendCap s.size 0 e) % (2 ^ 63 - s.size) - s.size) (.int .u8 0):Array Value) =
    ⟨(s.data.toList.map fun b=>Value.int .u8 (b.toNat:Int)) ++ qmg (s.size+w.tape w.drawn (.appendCap s.size 0 e) % (2 ^ 63 - s.size) - s.size) [.int .u8 0]⟩:=by
    apply Array.ext'
    simp [hrep]
   show (Conv.stringToBytes e s).run P w=_
   unfold Conv.stringToBytes
   simp only [Sem.run_bind,run_choose,hq,hcut,Bool.false_eq_true,if_false,Result.andThen_ok,newRow,run_newObj,Sem.run_pure,World.drew_eq,hcells,World.alloc_eq]
   have hsh:∀ (cs:Array Value),(w.drew.alloc (.cells cs e)).shape? w.drew.heap.size=some (e,cs.size):=fun cs=>by
    have:(w.drew.heap.push (Obj.cells cs e))[w.drew.heap.size]?=some (.cells cs e):=Array.getElem?_push_size
    simp only [World.shape?,World.alloc,this]
   simp only [markStringish,Sem.run_bind,run_shape,Result.andThen_ok,hsh,run_freeze,Sem.run_pure]
   have hl:((⟨(s.data.toList.map fun b=>Value.int .u8 (b.toNat:Int)) ++ qmg (s.size+w.tape w.drawn (.appendCap s.size 0 e) % (2 ^ 63 - s.size) - s.size) [.int .u8 0]⟩:Array Value)).size=s.size+w.tape w.drawn (.appendCap s.size 0 e) % (2 ^ 63 - s.size):=by
    have hsz:s.data.toList.length=s.size:=by rw [Array.length_toList]; rfl
    rw [List.size_toArray,List.length_append,List.length_map,qde,hsz,List.length_singleton]
    omega
   rw [hl]
   rfl
 · rename_i e0 e a n c hu hd
   split at h <;> first | exact h.elim | skip
   rename_i hsd he
   have hsd:=Nat.eq_of_beq_eq_true hsd
   subst hsd
   unfold mkStr nz at h
   split at h <;> first | exact h.elim | skip
   rename_i a
   obtain ⟨e1,n1,hsh,hk⟩:=h
   refine ⟨_,_,?_,hk⟩
   unfold convert
   rw [Sem.run_bind,qq hu,Result.andThen_ok,Sem.run_bind,qq hd,Result.andThen_ok]
   show ((do match src == src,← underlying e with
    | true,.int .u8=>do markStringish a; pure (.slice (some a) n c)
    | _, _ => unsupported (.noEntry "convert/other") : Sem Value)).run P w = _
   rw [Sem.run_bind,qq he,Result.andThen_ok,beq_self_eq_true]
   simp [markStringish,hsh]
end Go.Proofs.YtonmgkkkiejicaaGreat
namespace Go.Proofs.YtonmgkkkiejicaaGreat
open Go
set_option linter.unusedSimpArgs false
set_option linter.unusedVariables false
def exV (P:Program) (t:TypeId) (F:Value→Prop):Prop :=
 match P.underlying t with
 | some (.int k)=>∃ n:Int,F (.int k n)
 | some .bool=>∃ n:Bool,F (.bool n)
 | some .string=>∃ n:ByteArray,F (.string n)
 | some (.pointer _)=>∃ n:Option Addr,F (.pointer n)
 | some (.slice _)=>∃ n:Sl,F (.slice n.a n.len n.cap)
 | some (.map _ _)=>∃ n:Option Nat,F (.map n)
 | some (.struct _)=>∃ n:Array Value,F (.agg n)
 | some (.array _ _)=>∃ n:Array Value,F (.agg n)
 | some (.interface _)=>∃ n:Nat × Value,F (.iface n.1 n.2)
 | some _=>∃ n:Value,F n
 | none=>False
theorem exV_some {P:Program} {t:TypeId} {F:Value→Prop} (h:exV P t F):∃ v,F v:=by
 unfold exV at h
 split at h <;> first | exact h.elim | (obtain ⟨n,h⟩:=h; exact ⟨_,h⟩)
def exVs (P:Program):List TypeId→(List Value→Prop)→Prop
 | [],F=>F []
 | t :: r,F=>exV P t fun v=>exVs P r fun vs=>F (v :: vs)
theorem exVs_some {P:Program}:∀ (ts:List TypeId) {F:List Value→Prop},exVs P ts F→∃ v,F v
 | [],_,h=>⟨_,h⟩
 | t :: r,F,h=>by
   obtain ⟨v,h⟩:=exV_some (P:=P) (t:=t) (F:=fun v=>exVs P r fun vs=>F (v :: vs)) h
   obtain ⟨vs,h⟩:=exVs_some r h
   exact ⟨_,h⟩
def exRes (P:Program) (t:TypeId) (F:Value→Prop):Prop :=
 match P.underlying t with
 | some (.tuple ts)=>exVs P ts.toList fun vs=>F (.tuple ⟨vs⟩)
 | _=>exV P t F
theorem qok {P:Program} {t:TypeId} {F:Value→Prop} (h:exRes P t F):∃ v,F v:=by
 unfold exRes at h
 split at h
 · obtain ⟨vs,h⟩:=exVs_some _ h; exact ⟨_,h⟩
 · exact exV_some h
def plainF (P:Program) (f:FuncId):Bool :=
 match P.funcs[f]? with
 | some fn => !(fn.name == "runtime.NumGoroutine") && fn.body.isSome
 | none=>false
def callK (P:Program) (f:FuncId) (args:List Value) (t:TypeId) (w:World) (K:VWP):Prop :=
 match plainF P f with
 | true=>Calls P f ⟨args⟩ w fun e w'=>exRes P t fun v=>e=.returned v∧K v w'
 | false=>False
def cfR (P:Program) (f:FuncId) (args:List Value) (w:World) (v:Value) (w':World):Prop:=(callFunc f ⟨args⟩).run P w=.ok (.value v) w'
def callV (P:Program) (fv:Value) (args:List Value) (t:TypeId) (w:World) (K:VWP):Prop :=
 match fv with
 | .func (.func f) first cap=>match plainF P f with
   | true=>callK P f ((first.toList ++ args) ++ cap.toList) t w K
   | false=>exRes P t fun v=>∃ w':World,cfR P f ((first.toList ++ args) ++ cap.toList) w v w'∧K v w'
 | _=>False
theorem qzk {P:Program} {f:FuncId} {args:Array Value} (h:plainF P f=true) (w:World):(callFunc f args).run P w=.ok (.enter f args) w:=by
 unfold plainF at h
 split at h
 · rename_i fn hf
   simp only [Bool.and_eq_true,Bool.not_eq_true'] at h
   obtain ⟨h1,h2⟩:=h
   unfold callFunc
   simp only [Sem.run_bind,run_program,Result.andThen_ok,hf,h1,Bool.false_eq_true,if_false]
   cases hb:fn.body with
   | none=>rw [hb] at h2; cases h2
   | some b=>simp
 · cases h
theorem callK_ok {P:Program} {o:Oper} {ρ:Operand→Value} {f:FuncId} {args:List Value} {t:TypeId} {w:World} {K:VWP}
 (he:∀ h:plainF P f=true,(execOp ρ o).run P w=.ok (.enter f ⟨args⟩) w) (h:callK P f args t w K):opOk P o ρ w K:=by
 unfold callK at h
 split at h
 · rename_i hp
   unfold opOk
   rw [he hp]
   exact Calls.mono h fun e w' hr=>qok hr
 · exact h.elim
theorem callV_ok {P:Program} {o:Oper} {ρ:Operand→Value} {c:Call} {x:Operand} {w:World} {K:VWP} (ho:o.op=.call c) (hc:c.callee=.value x)
 (h:callV P (ρ x) (c.args.toList.map ρ) o.type w K):opOk P o ρ w K:=by
 unfold callV at h
 split at h
 · rename_i f first cap hx
   have e:(⟨(first.toList ++ c.args.toList.map ρ) ++ cap.toList⟩:Array Value)=(first ++ c.args.map ρ) ++ cap:=by
    apply Array.ext'
    simp
   have ee:(execOp ρ o).run P w=(callFunc f ⟨(first.toList ++ c.args.toList.map ρ) ++ cap.toList⟩).run P w:=by
    rw [e]
    simp only [execOp,ho,resolve,hc,hx,Deferred.ofValue,Sem.run_bind,Sem.run_pure,Result.andThen_ok,invoke]
   split at h
   · refine callK_ok (fun hp=>?_) h
     rw [ee]
     exact qzk hp w
   · obtain ⟨v,w',hr,hk⟩:=qok h
     unfold cfR at hr
     unfold opOk
     rw [ee,hr]
     exact hk
 · exact h.elim
def ptInvoke (P:Program) (recv:Value) (name:String) (args:List Value) (t:TypeId) (w:World) (K:VWP):Prop :=
 match recv with
 | .iface it v =>
   match P.info? it with
   | some i =>
     match i.methods.toList.find? (fun m=>m.name == name) with
     | some m =>
       match m.path.toList,m.func,P.underlying it with
       | [],some (f,true),some (.pointer _)=>callK P f (v :: args) t w K
       | [],some (f,false),some (.pointer e)=>match v with
         | .pointer (some a)=>ptLoad P e (.pointer (some a)) w fun x=>callK P f (x :: args) t w K
         | _=>False
       | _,_,_=>False
     | none=>False
   | none=>False
 | _=>False
theorem find_list {α:Type} (xs:Array α) (p:α→Bool):xs.find? p=xs.toList.find? p:=by
 rw [Array.find?_toList]
theorem wrapnil (a1:Array TypeId) (t:TypeId) (a:Addr) (s m:ByteArray):Builtin.ssaWrapNilChk_ a1 t #[.pointer (some a),.string s,.string m]=pure (.pointer (some a)):=rfl
theorem qvm {P:Program} {o:Oper} {ρ:Operand→Value} {c:Call} {x:Operand} {name:String} {w:World} {it:TypeId} {v u:Value} {f:FuncId} (ho:o.op=.call c) (hc:c.callee=.invoke x name) (hx:ρ x=.iface it v)
 (hm:∀ fuel,(method (fuel+1) it v name).run P w=.ok (f,u) w) (hpl:plainF P f=true):(execOp ρ o).run P w=.ok (.enter f ⟨u :: c.args.toList.map ρ⟩) w:=by
 have hfuel:∃ k,P.types.size+Made.depth=k+1:=⟨P.types.size+Made.depth - 1,by unfold Made.depth; omega⟩
 obtain ⟨fuel,hfuel⟩:=hfuel
 have hargs:(#[u] ++ (#[Value.iface it v] ++ c.args.map ρ).extract 1 (#[Value.iface it v] ++ c.args.map ρ).size:Array Value)=⟨u :: c.args.toList.map ρ⟩:=by
  apply Array.ext'
  simp
  rw [List.take_of_length_le (by simp)]
 have h1:(callMethod (.iface it v) name ((#[Value.iface it v] ++ c.args.map ρ).extract 1 (#[Value.iface it v] ++ c.args.map ρ).size)).run P w=.ok (.enter f ⟨u :: c.args.toList.map ρ⟩) w:=by
  unfold callMethod
  simp only [Sem.run_bind,run_program,Result.andThen_ok,hfuel,hm fuel,hargs]
  exact qzk hpl w
 rw [← h1]
 have h0:(#[Value.iface it v] ++ c.args.map ρ:Array Value)[0]?=some (.iface it v):=by
  rw [Array.getElem?_append_left (by simp)]; rfl
 have h2:(execOp ρ o).run P w=(invoke (.fn (.method name) #[]) (#[Value.iface it v] ++ c.args.map ρ)).run P w:=by
  simp only [execOp,ho]
  show ((resolve ρ c o.type).bind fun d=>invoke d.target d.args).run P w=_
  have:resolve ρ c o.type=pure { target:=.fn (.method name) #[],args:=#[Value.iface it v] ++ c.args.map ρ }:=by
   unfold resolve
   rw [hc]
   simp only [hx]
  rw [this]
  rfl
 rw [h2]
 show ((do
  let some recv := (#[Value.iface it v] ++ c.args.map ρ : Array Value)[0]? | stuck "call: a method without a receiver"
  callMethod recv name ((#[Value.iface it v] ++ c.args.map ρ).extract 1 (#[Value.iface it v] ++ c.args.map ρ).size):Sem Next)).run P w=_
 rw [h0]
theorem ptInvoke_ok {P:Program} {o:Oper} {ρ:Operand→Value} {c:Call} {x:Operand} {name:String} {w:World} {K:VWP} (ho:o.op=.call c) (hc:c.callee=.invoke x name)
 (h:ptInvoke P (ρ x) name (c.args.toList.map ρ) o.type w K):opOk P o ρ w K:=by
 unfold ptInvoke at h
 split at h <;> first | exact h.elim | skip
 rename_i it v hx
 split at h <;> first | exact h.elim | skip
 rename_i i hi
 split at h <;> first | exact h.elim | skip
 rename_i m hm
 have hf:i.methods.find? (fun m=>m.name == name)=some m:=by rw [find_list]; exact hm
 split at h <;> first | exact h.elim | skip
 · rename_i f e hp hfn hu
   refine callK_ok (fun hpl=>qvm ho hc hx (fun fuel=>?_) hpl) h
   simp only [method,Sem.run_bind,qtd hi,Result.andThen_ok,hf,hp,follow,Sem.run_pure,hfn,receiverAt,qq hu,Place.get]
 · rename_i f e hp hfn hu
   split at h <;> first | exact h.elim | skip
   rename_i a
   obtain ⟨u,hl,h⟩:=qfh h
   have hlv:(loadVar e a).run P w=.ok u w:=by
    have:=hl w (qge w)
    simpa [Instr.loadAt,Instr.sureAddr] using this
   refine callK_ok (fun hpl=>qvm ho hc hx (fun fuel=>?_) hpl) h
   have hemp:m.path.isEmpty=true:=by
    rw [Array.isEmpty_iff]
    apply Array.ext'
    simpa using hp
   simp only [method,Sem.run_bind,qtd hi,Result.andThen_ok,hf,hp,follow,Sem.run_pure,hfn,receiverAt,qq hu,Place.get,hemp,if_true,strVal,wrapnil,asAddr,hlv]
def isBuild (o:Oper):Bool:=match o.op with
 | .build ..=>true
 | _=>false
def pureO (P:Program) (o:Oper):Bool:=isPure P o || isBuild o
def ptPO (P:Program) (o:Oper) (ρ:Operand→Value) (K:Value→Prop):Prop :=
 match o.op with
 | .build t parts=>ptBuild P t (parts.toList.map fun p=>(p.1,ρ p.2)) K
 | _=>ptP P o ρ K
theorem qjk {P:Program} {o:Oper} {ρ:Operand→Value} {K:Value→Prop} (hs:slOk o=true) (h:ptPO P o ρ K) :
 ∃ v,(∀ w,(execOp ρ o).run P w=.ok (.value v) w)∧K v:=by
 unfold ptPO at h
 split at h
 · rename_i t parts ho
   obtain ⟨v,hv,hk⟩:=qyd (build_sound h)
   refine ⟨v,fun w=>?_,hk⟩
   rw [← hv w]
   have:(parts.map fun (i,x)=>(i,ρ x))=⟨parts.toList.map fun p=>(p.1,ρ p.2)⟩:=by
    apply Array.ext'
    simp
   simp [execOp,ho,this]
 · exact ptP_sound hs h
def mmR (P:Program) (t:TypeId) (r:Option Value) (w:World) (n:Nat) (w':World):Prop:=(Instr.makeMap t r).run P w=.ok (.map (some n)) w'
def lkR (P:Program) (t:TypeId) (x i:Value) (ok:Bool) (w:World) (v:Value):Prop:=(Instr.lookup t x i ok).run P w=.ok v w
def muR (P:Program) (t:TypeId) (m k x:Value) (w w':World):Prop:=(Instr.mapUpdate t m k x).run P w=.ok () w'
def rgR (P:Program) (t:TypeId) (x:Value) (w:World) (n:Nat) (w':World):Prop:=(Instr.range t x).run P w=.ok (.pointer (some ⟨n,0,none⟩)) w'
def nxR (P:Program) (it:Value) (s:Bool) (t:TypeId) (w:World) (b:Bool) (r:List Value) (w':World):Prop:=(Instr.next it s t).run P w=.ok (.tuple ⟨.bool b :: r⟩) w'
def enR (P:Program) (it:Value) (w:World) (k x:Value):Prop:=(Instr.entry it).run P w=.ok (.tuple ⟨[k,x]⟩) w
def lnR (P:Program) (ts:List TypeId) (t:TypeId) (vs:List Value) (w:World) (n:Int):Prop:=(Builtin.len_ ⟨ts⟩ t ⟨vs⟩).run P w=.ok (.int .i64 n) w
def deR (P:Program) (ts:List TypeId) (t:TypeId) (vs:List Value) (w w':World):Prop:=(Builtin.delete_ ⟨ts⟩ t ⟨vs⟩).run P w=.ok (.tuple ⟨[]⟩) w'
def meR (P:Program) (t:TypeId) (m k:Value) (w:World) (v:Value) (n:Int) (w':World):Prop:=(Instr.mapEntry t m k).run P w=.ok (.tuple ⟨[v,.int .i64 n]⟩) w'
def esR (P:Program) (t:TypeId) (m s x:Value) (w w':World):Prop:=(Instr.entryStore t m s x).run P w=.ok () w'
def entK (d:Option Nat):Bool:=match d with
 | some n=>Nat.beq n 28
 | none=>false
def ptH (P:Program) (o:Oper) (ρ:Operand→Value) (w:World) (K:VWP):Prop :=
 match o.op with
 | .load t a=>ptLoad P t (ρ a) w fun v=>K v w
 | .store t a x=>ptStore P t (ρ a) (ρ x) w fun w'=>K undef w'
 | .alloc t=>ptAlloc P t w K
 | .box t x=>ptBox t (ρ x) w K
 | .buildSlice t n parts=>ptBuildSlice P t n (parts.toList.map fun p=>(p.1,ρ p.2)) w K
 | .makeSlice t l c=>ptMake P t (ρ l) (ρ c) w K
 | .convert s d x=>ptConvH P s d (ρ x) w K
 | .makeMap t r=>∃ n:Nat,∃ w':World,mmR P t (r.map ρ) w n w'∧K (.map (some n)) w'
 | .lookup t x i ok=>exRes P o.type fun v=>lkR P t (ρ x) (ρ i) ok w v∧K v w
 | .mapUpdate t m k x=>∃ w':World,muR P t (ρ m) (ρ k) (ρ x) w w'∧K undef w'
 | .mapEntry t m k=>match P.underlying t with
   | some (.map _ e)=>exV P e fun v=>∃ n:Int,∃ w':World,meR P t (ρ m) (ρ k) w v n w'∧K (.tuple ⟨[v,.int .i64 n]⟩) w'
   | _=>False
 | .entryStore t m s x=>∃ w':World,esR P t (ρ m) (ρ s) (ρ x) w w'∧K undef w'
 | .range t x=>∃ n:Nat,∃ w':World,rgR P t (ρ x) w n w'∧K (.pointer (some ⟨n,0,none⟩)) w'
 | .next it s=>∃ b:Bool,∃ r:List Value,∃ w':World,nxR P (ρ it) s o.type w b r w'∧K (.tuple ⟨.bool b :: r⟩) w'
 | .entry it=>match entK o.dst with
   | true=>∃ c:Array Value,∃ d:Array Value,enR P (ρ it) w (.agg c) (.agg d)∧K (.tuple ⟨[.agg c,.agg d]⟩) w
   | false=>∃ c:Array Value,∃ d:Int,enR P (ρ it) w (.agg c) (.int .i64 d)∧K (.tuple ⟨[.agg c,.int .i64 d]⟩) w
 | .call c =>
   match c.callee with
   | .builtin .len=>∃ n:Int,lnR P c.argTypes.toList o.type (c.args.toList.map ρ) w n∧K (.int .i64 n) w
   | .builtin .delete=>∃ w':World,deR P c.argTypes.toList o.type (c.args.toList.map ρ) w w'∧K (.tuple ⟨[]⟩) w'
   | .builtin .append=>ptAppend P c.argTypes.toList (c.args.toList.map ρ) w K
   | .builtin .copy=>ptCopy P c.argTypes.toList (c.args.toList.map ρ) w K
   | .value x=>callV P (ρ x) (c.args.toList.map ρ) o.type w K
   | .invoke x name=>ptInvoke P (ρ x) name (c.args.toList.map ρ) o.type w K
   | _=>False
 | _=>False
def isAllocK (o:Oper):Bool:=match o.op with
 | .alloc _ | .box .. | .buildSlice .. | .makeSlice ..=>true
 | _=>false
theorem qbd {P:Program} {o:Oper} {ρ:Operand→Value} {w w':World} {v:Value} {K:VWP} (h:(execOp ρ o).run P w=.ok (.value v) w') (hk:K v w'):opOk P o ρ w K:=by
 unfold opOk; rw [h]; exact hk
theorem ptH_sound {P:Program} {o:Oper} {ρ:Operand→Value} {w:World} {K:VWP} (h:ptH P o ρ w K):opOk P o ρ w fun v w'=>(isAllocK o=true→extA w w')∧K v w':=by
 unfold ptH at h
 split at h <;> first | exact h.elim | skip
 · rename_i t a ho
   obtain ⟨v,hv,hk⟩:=qfh h
   exact qbd (w':=w) (v:=v) (by simp [execOp,ho,hv w (qge w)]) ⟨fun h=>by simp [isAllocK,ho] at h,hk⟩
 · rename_i t a x ho
   obtain ⟨w',hw,hk⟩:=store_sound h
   unfold opOk
   have:(execOp ρ o).run P w=.ok .skip w':=by simp [execOp,ho,hw]
   rw [this]
   exact ⟨fun h=>by simp [isAllocK,ho] at h,hk⟩
 · rename_i t ho
   obtain ⟨v,w',hr,he,hk⟩:=alloc_sound h
   exact qbd (w':=w') (v:=v) (by simp [execOp,ho,hr]) ⟨fun _=>he,hk⟩
 · rename_i t x ho
   obtain ⟨v,w',hr,he,hk⟩:=box_sound (P:=P) h
   exact qbd (w':=w') (v:=v) (by simp [execOp,ho,hr]) ⟨fun _=>he,hk⟩
 · rename_i t n parts ho
   obtain ⟨v,w',hr,he,hk⟩:=qdl h
   have:(parts.map fun (i,x)=>(i,ρ x))=⟨parts.toList.map fun p=>(p.1,ρ p.2)⟩:=by
    apply Array.ext'
    simp
   exact qbd (w':=w') (v:=v) (by simp [execOp,ho,this,hr]) ⟨fun _=>he,hk⟩
 · rename_i t l c ho
   obtain ⟨v,w',hr,he,hk⟩:=make_sound h
   exact qbd (w':=w') (v:=v) (by simp [execOp,ho,hr]) ⟨fun _=>he,hk⟩
 · rename_i s d x ho
   obtain ⟨v,w',hr,hk⟩:=convH_sound h
   exact qbd (w':=w') (v:=v) (by simp [execOp,ho,hr]) ⟨fun h=>by simp [isAllocK,ho] at h,hk⟩
 · rename_i t r ho
   obtain ⟨n,w',hr,hk⟩:=h
   unfold mmR at hr
   exact qbd (w':=w') (v:=.map (some n)) (by simp [execOp,ho,hr]) ⟨fun h=>by simp [isAllocK,ho] at h,hk⟩
 · rename_i t x i ok ho
   obtain ⟨v,hr,hk⟩:=qok h
   unfold lkR at hr
   exact qbd (w':=w) (v:=v) (by simp [execOp,ho,hr]) ⟨fun h=>by simp [isAllocK,ho] at h,hk⟩
 · rename_i t m k x ho
   obtain ⟨w',hr,hk⟩:=h
   unfold muR at hr
   unfold opOk
   have:(execOp ρ o).run P w=.ok .skip w':=by simp [execOp,ho,hr]
   rw [this]
   exact ⟨fun h=>by simp [isAllocK,ho] at h,hk⟩
 · rename_i t m k ho
   split at h <;> first | exact h.elim | skip
   obtain ⟨v,n,w',hr,hk⟩:=exV_some h
   unfold meR at hr
   exact qbd (w':=w') (v:=.tuple ⟨[v,.int .i64 n]⟩) (by simp [execOp,ho,hr]) ⟨fun h=>by simp [isAllocK,ho] at h,hk⟩
 · rename_i t m s x ho
   obtain ⟨w',hr,hk⟩:=h
   unfold esR at hr
   unfold opOk
   have:(execOp ρ o).run P w=.ok .skip w':=by simp [execOp,ho,hr]
   rw [this]
   exact ⟨fun h=>by simp [isAllocK,ho] at h,hk⟩
 · rename_i t x ho
   obtain ⟨n,w',hr,hk⟩:=h
   unfold rgR at hr
   exact qbd (w':=w') (v:=.pointer (some ⟨n,0,none⟩)) (by simp [execOp,ho,hr]) ⟨fun h=>by simp [isAllocK,ho] at h,hk⟩
 · rename_i it s ho
   obtain ⟨b,r,w',hr,hk⟩:=h
   unfold nxR at hr
   exact qbd (w':=w') (v:=.tuple ⟨.bool b :: r⟩) (by simp [execOp,ho,hr]) ⟨fun h=>by simp [isAllocK,ho] at h,hk⟩
 · rename_i it ho
   split at h
   · obtain ⟨c,d,hr,hk⟩:=h
     unfold enR at hr
     exact qbd (w':=w) (v:=.tuple ⟨[.agg c,.agg d]⟩) (by simp [execOp,ho,hr]) ⟨fun h=>by simp [isAllocK,ho] at h,hk⟩
   · obtain ⟨c,d,hr,hk⟩:=h
     unfold enR at hr
     exact qbd (w':=w) (v:=.tuple ⟨[.agg c,.int .i64 d]⟩) (by simp [execOp,ho,hr]) ⟨fun h=>by simp [isAllocK,ho] at h,hk⟩
 · rename_i c ho
   have e:(⟨c.args.toList.map ρ⟩:Array Value)=c.args.map ρ:=by apply Array.ext'; simp
   split at h <;> first | exact h.elim | skip
   · rename_i hc
     obtain ⟨n,hr,hk⟩:=h
     unfold lnR at hr
     rw [e] at hr
     exact qbd (w':=w) (v:=.int .i64 n) (by simp [execOp,ho,resolve,hc,invoke,builtin,hr]) ⟨fun h=>by simp [isAllocK,ho] at h,hk⟩
   · rename_i hc
     obtain ⟨w',hr,hk⟩:=h
     unfold deR at hr
     rw [e] at hr
     exact qbd (w':=w') (v:=.tuple ⟨[]⟩) (by simp [execOp,ho,resolve,hc,invoke,builtin,hr]) ⟨fun h=>by simp [isAllocK,ho] at h,hk⟩
   · rename_i hc
     obtain ⟨v,w',hr,hk⟩:=append_sound (ty:=o.type) h
     refine qbd (w':=w') (v:=v) ?_ ⟨fun h=>by simp [isAllocK,ho] at h,hk⟩
     have e:(⟨c.args.toList.map ρ⟩:Array Value)=c.args.map ρ:=by apply Array.ext'; simp
     rw [e] at hr
     simp [execOp,ho,resolve,hc,invoke,builtin,hr]
   · rename_i hc
     obtain ⟨v,w',hr,hk⟩:=copy_sound (ty:=o.type) h
     refine qbd (w':=w') (v:=v) ?_ ⟨fun h=>by simp [isAllocK,ho] at h,hk⟩
     have e:(⟨c.args.toList.map ρ⟩:Array Value)=c.args.map ρ:=by apply Array.ext'; simp
     rw [e] at hr
     simp [execOp,ho,resolve,hc,invoke,builtin,hr]
   · rename_i x hc
     exact qch (callV_ok ho hc h) fun v w' hk=>⟨fun h=>by simp [isAllocK,ho] at h,hk⟩
   · rename_i x name hc
     exact qch (ptInvoke_ok ho hc h) fun v w' hk=>⟨fun h=>by simp [isAllocK,ho] at h,hk⟩
def ptOp (P:Program) (o:Oper) (ρ:Operand→Value) (w:World) (K:VWP):Prop :=
 match pureO P o with
 | true=>ptPO P o ρ fun v=>K v w
 | false=>ptH P o ρ w K
theorem ptOp_sound {P:Program} {o:Oper} {ρ:Operand→Value} {w:World} {K:VWP} (hs:slOk o=true) (h:ptOp P o ρ w K):opOk P o ρ w K:=by
 unfold ptOp at h
 split at h
 · obtain ⟨v,hv,hk⟩:=qjk hs h
   exact qbd (hv w) hk
 · exact qch (ptH_sound h) fun _ _ hk=>hk.2
def guardK (ops:Array Oper) (o:Oper) (ρ:Nat→Value) (yes no:(Nat→Value)→Prop):Prop :=
 match o.guard with
 | none=>yes ρ
 | some (j,want) =>
   match (ops[j]?).bind (·.dst) with
   | none=>False
   | some d =>
     match ρ d with
     | .bool b =>
       match want with
       | true=>br b (yes (upd ρ d (.bool true))) (no (upd ρ d (.bool false)))
       | false=>br b (no (upd ρ d (.bool true))) (yes (upd ρ d (.bool false)))
     | .tuple _=>no ρ
     | _=>False
theorem upd_same {ρ:Nat→Value} {d:Nat} {v:Value} (h:ρ d=v):upd ρ d v=ρ:=by
 funext t
 unfold upd
 split
 · rename_i e; subst e; exact h.symm
 · rfl
theorem qni {N:Nat} {ops:Array Oper} {o:Oper} {a:Act} {ρ:Nat→Value} {yes no:(Nat→Value)→Prop} (hr:rel N a ρ) (h:guardK ops o ρ yes no) :
 (Region.wanted o (yielded ops a.tmps)=true∧yes ρ) ∨ (Region.wanted o (yielded ops a.tmps)=false∧no ρ):=by
 unfold guardK at h
 unfold Region.wanted
 split at h
 · rename_i hg; exact Or.inl ⟨by simp [hg],h⟩
 · rename_i j want hg
   simp only [hg]
   split at h <;> first | exact h.elim | skip
   rename_i d hd
   have hdd:a.tmps.getD d undef=ρ d:=congrFun hr.2.2 d
   split at h <;> first | exact h.elim | skip
   · rename_i b hb
     have hy:yielded ops a.tmps j=some b:=by
      rw [qpg,hd]
      simp only [hdd,hb]
     rw [hy]
     cases want <;> cases b <;> simp only [br] at h <;> rw [upd_same hb] at h <;> simp [h]
   · rename_i vs hb
     have hy:yielded ops a.tmps j=none:=by
      rw [qpg,hd]
      simp only [hdd,hb]
     rw [hy]
     exact Or.inr ⟨rfl,h⟩
def ptOps (P:Program) (ops:Array Oper):List Nat→(Nat→Value)→World→((Nat→Value)→World→Prop)→Prop
 | [],ρ,w,K=>K ρ w
 | i :: rest,ρ,w,K =>
   match ops[i]? with
   | none=>False
   | some o=>guardK ops o ρ (fun ρ'=>ptOp P o (ev ρ') w fun v w'=>ptOps P ops rest (putR ρ' o.dst v) w' K) (fun ρ'=>ptOps P ops rest (putR ρ' o.dst undef) w K)
def fitB (N:Nat) (ops:Array Oper):Bool:=ops.toList.all fun o=>slOk o && (match o.dst with
 | some d=>Nat.blt d N
 | none=>true)
theorem qcm {N:Nat} {ops:Array Oper} (h:fitB N ops=true) {i:Nat} {o:Oper} (ho:ops[i]?=some o):slOk o=true∧∀ d,o.dst=some d→d < N:=by
 unfold fitB at h
 rw [List.all_eq_true] at h
 have hm:o ∈ ops.toList:=by
  rw [← Array.getElem?_toList] at ho
  exact List.mem_of_getElem? ho
 have:=h o hm
 simp only [Bool.and_eq_true] at this
 refine ⟨this.1,fun d hd=>?_⟩
 have h2:=this.2
 rw [hd] at h2
 simpa [Nat.blt_eq] using h2
theorem ptOps_sound {P:Program} {N:Nat} {ops:Array Oper} (hf:fitB N ops=true):∀ (l:List Nat) {a:Act} {ρ:Nat→Value} {w:World} {K:(Nat→Value)→World→Prop},rel N a ρ→ptOps P ops l ρ w K →
 opsOk P ops l a w fun a' w'=>∃ ρ',rel N a' ρ'∧K ρ' w':=by
 intro l
 induction l with
 | nil=>intro a ρ w K hr h; exact ⟨ρ,hr,h⟩
 | cons i rest ih =>
   intro a ρ w K hr h
   unfold ptOps at h
   split at h
   · exact h.elim
   · rename_i o ho
     obtain ⟨hs,hd⟩:=qcm hf ho
     show stepOk P ops i a w fun a w=>opsOk P ops rest a w _
     unfold stepOk
     simp only [ho]
     rcases qni hr h with ⟨hw,h⟩ | ⟨hw,h⟩
     · simp only [hw,if_true]
       rw [qxj hr]
       exact qch (ptOp_sound hs h) fun v w' hk=>ih (qdi hr hd v) hk
     · simp only [hw]
       exact ih (qdi hr hd _) h
end Go.Proofs.YtonmgkkkiejicaaGreat
namespace Go.Proofs.YtonmgkkkiejicaaGreat
open Go
set_option linter.unusedSimpArgs false
set_option linter.unusedVariables false
def maskE (acc:List Nat) (l:List Edge):Nat:=match l with
 | []=>0
 | e :: r=>if Region.binds .any e then 2 ^ e.on ||| (acc.getD e.on 0 ||| maskE acc r) else maskE acc r
def befs:List Oper→List Nat→List Nat
 | [],acc=>acc
 | o :: r,acc=>befs r (acc ++ [maskE acc o.after.toList])
theorem qlk (acc:List Nat) (i:Nat):∀ l,(maskE acc l).testBit i=true→∃ e ∈ l,Region.binds .any e=true∧(e.on=i ∨ (acc.getD e.on 0).testBit i=true)
 | [],h=>by simp [maskE] at h
 | e :: r,h=>by
   unfold maskE at h
   split at h
   · rename_i hb
     rw [Nat.testBit_or,Nat.testBit_or,Bool.or_eq_true,Bool.or_eq_true] at h
     rcases h with h | h | h
     · refine ⟨e,by simp,hb,Or.inl ?_⟩
       rw [Nat.testBit_two_pow] at h
       simpa using h
     · exact ⟨e,by simp,hb,Or.inr h⟩
     · obtain ⟨e',he,h'⟩:=qlk acc i r h
       exact ⟨e',by simp [he],h'⟩
   · obtain ⟨e',he,h'⟩:=qlk acc i r h
     exact ⟨e',by simp [he],h'⟩
theorem qjm:∀ (l:List Oper) (acc:List Nat),∃ t,befs l acc=acc ++ t
 | [],acc=>⟨[],by simp [befs]⟩
 | o :: r,acc=>by
   obtain ⟨t,ht⟩:=qjm r (acc ++ [maskE acc o.after.toList])
   exact ⟨maskE acc o.after.toList :: t,by rw [befs,ht]; simp⟩
theorem befs_get:∀ (l:List Oper) (acc:List Nat) (j:Nat) (o:Oper),l[j]?=some o→∃ acc',(befs l acc)[acc.length+j]?=some (maskE acc' o.after.toList)∧acc'.length=acc.length+j∧∃ t,befs l acc=acc' ++ t
 | [],acc,j,o,h=>by simp at h
 | o :: r,acc,0,o',h=>by
   simp at h
   subst h
   obtain ⟨t,ht⟩:=qjm r (acc ++ [maskE acc o.after.toList])
   refine ⟨acc,?_,by simp,maskE acc o.after.toList :: t,?_⟩
   · rw [befs,ht]; simp
   · rw [befs,ht]; simp
 | o :: r,acc,j+1,o',h=>by
   simp at h
   obtain ⟨acc',h1,h2,t,h3⟩:=befs_get r (acc ++ [maskE acc o.after.toList]) j o' h
   refine ⟨acc',?_,?_,t,?_⟩
   · rw [befs,← h1]; congr 1; simp; omega
   · rw [h2]; simp; omega
   · rw [befs,h3]
def preO (bs:List Nat) (i j:Nat):Bool:=(bs.getD j 0).testBit i
def isLoadK (o:Oper):Bool:=match o.op with
 | .load ..=>true
 | _=>false
def mildO (P:Program) (o:Oper):Bool:=pureO P o || isLoadK o || isAllocK o
def looksB (ops:Array Oper) (o:Oper) (d:Nat):Bool:=(o.looksAt ops).contains d
def lzB (P:Program) (ops:Array Oper) (bs:List Nat) (i:Nat):Bool :=
 match ops[i]? with
 | none=>false
 | some o =>
   (pureO P o || isLoadK o) &&
   (match o.dst with
     | none=>true
     | some d=>(List.range ops.size).all fun j=>match ops[j]? with
       | none=>true
       | some oj=>!looksB ops oj d || (!Nat.beq i j && preO bs i j)) &&
   (!isLoadK o || (List.range ops.size).all fun j=>match ops[j]? with
     | none=>true
     | some oj=>mildO P oj || preO bs i j || preO bs j i)
def lzs (P:Program) (ops:Array Oper) (bs:List Nat):List Bool:=(List.range ops.size).map (lzB P ops bs)
def statB (P:Program) (ops:Array Oper) (bs:List Nat):Bool :=
 (List.range ops.size).all fun j=>match ops[j]? with
   | none=>false
   | some oj =>
     (oj.after.toList.all fun e=>!Region.binds .any e || Nat.blt e.on j) &&
     (match oj.op with
       | .select ..=>false
       | _=>true) &&
     ((List.range ops.size).all fun i=>match ops[i]? with
       | none=>true
       | some oi=>Nat.beq i j || (match oi.dst with
         | none=>true
         | some d=>(match oj.dst with
            | some d'=>!Nat.beq d d'
            | none=>true) && (!looksB ops oj d || preO bs i j || (!lzB P ops bs i && preO bs j i))))
def lzF (P:Program) (ops:Array Oper) (i:Nat):Bool:=lzB P ops (befs ops.toList []) i
def rdF (ops:Array Oper) (i:Nat):Bool:=match ops[i]? with
 | some o=>isLoadK o
 | none=>false
def alF (P:Program) (ops:Array Oper) (i:Nat):Bool:=match ops[i]? with
 | some o=>mildO P o
 | none=>false
theorem stat_of {P:Program} {ops:Array Oper} (h:statB P ops (befs ops.toList [])=true):Stat ops (preO (befs ops.toList [])) (lzF P ops) (rdF ops) (alF P ops):=by
 have all:∀ j oj,ops[j]?=some oj→_:=fun j oj hj=>by
  have h1:=List.all_eq_true.1 h j (List.mem_range.2 (Array.getElem?_eq_some_iff.1 hj).1)
  simp only [hj] at h1
  exact h1
 have back:∀ (j:Nat) (oj:Oper),ops[j]?=some oj→∀ e ∈ oj.after,Region.binds .any e=true→e.on < j:=by
  intro j oj hj e he hb
  have h1:=all j oj hj
  simp only [Bool.and_eq_true] at h1
  have h2:=List.all_eq_true.1 h1.1.1 e (by simpa using he)
  rw [hb] at h2
  simpa [Nat.blt_eq] using h2
 have pair:∀ (i j:Nat) (oi oj:Oper) (d:Nat),ops[i]?=some oi→ops[j]?=some oj→i ≠ j→oi.dst=some d→oj.dst ≠ some d∧(d ∈ oj.looksAt ops→preO (befs ops.toList []) i j=true ∨ (lzF P ops i=false∧preO (befs ops.toList []) j i=true)):=by
  intro i j oi oj d hi hj hne hd
  have h1:=all j oj hj
  simp only [Bool.and_eq_true] at h1
  have h2:=List.all_eq_true.1 h1.2 i (List.mem_range.2 (Array.getElem?_eq_some_iff.1 hi).1)
  simp only [hi,hd,Bool.or_eq_true,Bool.and_eq_true] at h2
  have h2:=h2.resolve_left (fun h=>hne (Nat.eq_of_beq_eq_true h))
  refine ⟨fun h=>?_,fun hm=>?_⟩
  · have:=h2.1
    simp [h] at this
  · have h3:=h2.2
    have hc:looksB ops oj d=true:=by simpa [looksB] using hm
    simp only [hc,Bool.not_true,Bool.false_eq_true,false_or] at h3
    rcases h3 with h3 | h3
    · exact Or.inl h3
    · exact Or.inr ⟨by simpa [lzF] using h3.1,h3.2⟩
 have lzspec:∀ (i:Nat) (o:Oper),ops[i]?=some o→lzF P ops i=true →
  (∀ d,o.dst=some d→d ∉ o.looksAt ops)∧(isLoadK o=true→∀ (j:Nat) (oj:Oper),ops[j]?=some oj→mildO P oj=true ∨ preO (befs ops.toList []) i j=true ∨ preO (befs ops.toList []) j i=true):=by
  intro i o hi hl
  unfold lzF lzB at hl
  simp only [hi,Bool.and_eq_true] at hl
  refine ⟨fun d hd hm=>?_,fun hr j oj hj=>?_⟩
  · have h2:=hl.1.2
    rw [hd] at h2
    have h3:=List.all_eq_true.1 h2 i (List.mem_range.2 (Array.getElem?_eq_some_iff.1 hi).1)
    simp only [hi] at h3
    have hc:looksB ops o d=true:=by simpa [looksB] using hm
    simp [hc] at h3
  · have h2:=hl.2
    rw [hr] at h2
    simp only [Bool.not_true,Bool.false_or] at h2
    have h3:=List.all_eq_true.1 h2 j (List.mem_range.2 (Array.getElem?_eq_some_iff.1 hj).1)
    simp only [hj,Bool.or_eq_true] at h3
    rcases h3 with (h3 | h3) | h3
    · exact Or.inl h3
    · exact Or.inr (Or.inl h3)
    · exact Or.inr (Or.inr h3)
 refine ⟨back,?_,?_,fun i j oi oj d hi hj hne hd=>(pair i j oi oj d hi hj hne hd).1,fun i j oi oj d hi hj hne hd hm=>(pair i j oi oj d hi hj hne hd).2 hm,fun i oi d hi hd hl=>(lzspec i oi hi hl).1 d hd,?_⟩
 · intro i j oj hj hp
   unfold preO at hp
   have hjl:ops.toList[j]?=some oj:=by rw [Array.getElem?_toList]; exact hj
   obtain ⟨acc',h1,h2,t,h3⟩:=befs_get ops.toList [] j oj hjl
   simp only [List.length_nil,Nat.zero_add] at h1 h2
   rw [List.getD_eq_getElem?_getD,h1,Option.getD_some] at hp
   obtain ⟨e,he,hb,h4⟩:=qlk acc' i _ hp
   have hlt:=back j oj hj e (by simpa using he) hb
   refine ⟨e,by simpa using he,hb,hlt,?_⟩
   rcases h4 with h4 | h4
   · exact Or.inl h4
   · refine Or.inr ?_
     unfold preO
     rw [h3,List.getD_eq_getElem?_getD,List.getElem?_append_left (by omega),← List.getD_eq_getElem?_getD]
     exact h4
 · intro j o cs b hj heq
   have h1:=all j o hj
   simp [heq] at h1
 · intro m i hm hi hr hl hz ha
   obtain ⟨om,hom⟩:=qyi m hm
   obtain ⟨oi,hoi⟩:=qyi i hi
   have hr':isLoadK om=true:=by simpa [rdF,hom] using hr
   rcases (lzspec m om hom hl).2 hr' i oi hoi with h | h | h
   · simp [alF,hoi,h] at ha
   · exact Or.inl h
   · exact Or.inr h
def depsL (o:Oper):List Nat:=(o.after.toList.filter fun e=>Region.binds .any e).map (·.on)
def rdyL (ds:List (List Nat)) (i m:Nat):List Nat :=
 match ds with
 | []=>[]
 | d :: r=>if !m.testBit i && d.all (fun j=>m.testBit j) then i :: rdyL r (i+1) m else rdyL r (i+1) m
def bitsA (n m:Nat):Array Bool:=((List.range n).map fun i=>m.testBit i).toArray
theorem qhj {n m i:Nat} (h:i < n) (d:Bool):(bitsA n m).getD i d=m.testBit i:=by
 simp [bitsA,h]
theorem qim {n m i:Nat} (h:i < n):(bitsA n m).setIfInBounds i true=bitsA n (m ||| 2 ^ i):=by
 apply Array.ext
 · simp [bitsA]
 · intro j h1 h2
   simp only [bitsA,Array.size_setIfInBounds,List.size_toArray,List.length_map,List.length_range] at h1
   have e1:(bitsA n (m ||| 2 ^ i))[j]=(m.testBit j || decide (i=j)):=by
    simp only [bitsA,List.getElem_toArray,List.getElem_map,List.getElem_range,Nat.testBit_or,Nat.testBit_two_pow]
   rw [e1]
   by_cases hij:i=j
   · subst hij; simp
   · rw [Array.getElem_setIfInBounds_ne (h:=hij) (hj:=by simpa [bitsA] using h1)]
     simp [bitsA,hij]
theorem rdyL_mem (ds:List (List Nat)) (m:Nat):∀ (k i:Nat),i ∈ rdyL ds k m ↔ k≤i∧m.testBit i=false∧∃ d,ds[i - k]?=some d∧∀ j ∈ d,m.testBit j=true:=by
 induction ds with
 | nil=>intro k i; simp [rdyL]
 | cons d r ih =>
   intro k i
   unfold rdyL
   have step:i ∈ rdyL r (k+1) m ↔ k+1≤i∧m.testBit i=false∧∃ d',(d :: r)[i - k]?=some d'∧∀ j ∈ d',m.testBit j=true:=by
    rw [ih (k+1) i]
    constructor
    · rintro ⟨h1,h2,d',h3,h4⟩
      refine ⟨h1,h2,d',?_,h4⟩
      rw [show i - k=(i - (k+1))+1 by omega]; exact h3
    · rintro ⟨h1,h2,d',h3,h4⟩
      refine ⟨h1,h2,d',?_,h4⟩
      rw [show i - k=(i - (k+1))+1 by omega] at h3; exact h3
   split
   · rename_i hc
     simp only [Bool.and_eq_true,Bool.not_eq_true',List.all_eq_true] at hc
     rw [List.mem_cons,step]
     constructor
     · rintro (rfl | ⟨h1,h2⟩)
       · exact ⟨Nat.le_refl _,hc.1,d,by simp,hc.2⟩
       · exact ⟨by omega,h2⟩
     · rintro ⟨h1,h2,d',h3,h4⟩
       by_cases hik:i=k
       · exact Or.inl hik
       · exact Or.inr ⟨by omega,h2,d',h3,h4⟩
   · rename_i hc
     rw [step]
     constructor
     · rintro ⟨h1,h2⟩; exact ⟨by omega,h2⟩
     · rintro ⟨h1,h2,d',h3,h4⟩
       by_cases hik:i=k
       · exfalso
         subst hik
         simp at h3
         subst h3
         apply hc
         simp only [Bool.and_eq_true,Bool.not_eq_true',List.all_eq_true]
         exact ⟨h2,h4⟩
       · exact ⟨by omega,h2,d',h3,h4⟩
theorem qbh {ops:Array Oper} (hb:∀ (j:Nat) (oj:Oper),ops[j]?=some oj→∀ e ∈ oj.after,Region.binds .any e=true→e.on < j) (m i:Nat) :
 i ∈ Region.ready .any ops (bitsA ops.size m) ↔ i ∈ rdyL (ops.toList.map depsL) 0 m:=by
 rw [mem_ready,rdyL_mem]
 simp only [Nat.zero_le,true_and,Nat.sub_zero,List.getElem?_map,Array.getElem?_toList]
 constructor
 · rintro ⟨h1,o,ho,h2⟩
   have hi:=(Array.getElem?_eq_some_iff.1 ho).1
   refine ⟨by rw [qhj hi] at h1; exact h1,depsL o,by rw [ho]; rfl,fun j hj=>?_⟩
   unfold depsL at hj
   rw [List.mem_map] at hj
   obtain ⟨e,he,rfl⟩:=hj
   rw [List.mem_filter] at he
   have he1:e ∈ o.after:=by simpa using he.1
   have:=h2 e he1 he.2
   rwa [qhj (by have:=hb i o ho e he1 he.2; omega)] at this
 · rintro ⟨h1,d,hd,h2⟩
   cases ho:ops[i]? with
   | none=>rw [ho] at hd; cases hd
   | some o =>
     rw [ho] at hd
     simp at hd
     have hi:=(Array.getElem?_eq_some_iff.1 ho).1
     refine ⟨by rw [qhj hi]; exact h1,o,rfl,fun e he hbe=>?_⟩
     have hlt:=hb i o ho e he hbe
     rw [qhj (by omega)]
     refine h2 e.on ?_
     rw [← hd]
     unfold depsL
     rw [List.mem_map]
     exact ⟨e,by rw [List.mem_filter]; exact ⟨by simpa using he,hbe⟩,rfl⟩
def lazyOp (P:Program) (o:Oper) (ρ:Operand→Value) (w:World) (K:Value→Prop):Prop :=
 match pureO P o with
 | true=>ptPO P o ρ K
 | false=>match o.op with
   | .load t a=>ptLoad P t (ρ a) w K
   | _=>False
def firstLz (lz:List Bool):List Nat→Option Nat
 | []=>none
 | i :: r=>match lz.getD i false with
   | true=>some i
   | false=>firstLz lz r
def allOf (X:Nat→Prop):List Nat→Prop
 | []=>True
 | [i]=>X i
 | i :: r=>X i∧allOf X r
theorem allOf_mem {X:Nat→Prop}:∀ {l:List Nat},allOf X l→∀ i ∈ l,X i
 | [],_,i,h=>by cases h
 | [j],h,i,hi=>by have:i=j:=by simpa using hi
                  subst this; exact h
 | j :: k :: r,h,i,hi=>by
   rcases List.mem_cons.1 hi with rfl | hi
   · exact h.1
   · exact allOf_mem h.2 i hi
def ptTree (P:Program) (ops:Array Oper) (ds:List (List Nat)) (lz:List Bool) (K:(Nat→Value)→World→Prop):Nat→Nat→(Nat→Value)→World→Prop
 | 0,m,ρ,w=>match rdyL ds 0 m with
   | []=>K ρ w
   | _=>False
 | f+1,m,ρ,w =>
   match firstLz lz (rdyL ds 0 m) with
   | some i=>match ops[i]? with
     | none=>False
     | some o=>guardK ops o ρ (fun ρ'=>lazyOp P o (ev ρ') w fun v=>ptTree P ops ds lz K f (m ||| 2 ^ i) (putR ρ' o.dst v) w) (fun ρ'=>ptTree P ops ds lz K f (m ||| 2 ^ i) (putR ρ' o.dst undef) w)
   | none=>match rdyL ds 0 m with
     | []=>K ρ w
     | l=>allOf (fun i=>match ops[i]? with
       | none=>False
       | some o=>guardK ops o ρ (fun ρ'=>ptOp P o (ev ρ') w fun v w'=>ptTree P ops ds lz K f (m ||| 2 ^ i) (putR ρ' o.dst v) w') (fun ρ'=>ptTree P ops ds lz K f (m ||| 2 ^ i) (putR ρ' o.dst undef) w)) l
theorem qxk {lz:List Bool}:∀ {l:List Nat} {i:Nat},firstLz lz l=some i→i ∈ l∧lz.getD i false=true
 | [],i,h=>by cases h
 | j :: r,i,h=>by
   unfold firstLz at h
   split at h
   · rename_i hj; cases h; exact ⟨by simp,hj⟩
   · have:=qxk h; exact ⟨by simp [this.1],this.2⟩
theorem qyk {lz:List Bool}:∀ {l:List Nat},firstLz lz l=none→∀ i ∈ l,lz.getD i false=false
 | [],_,i,h=>by cases h
 | j :: r,h,i,hi=>by
   unfold firstLz at h
   split at h
   · cases h
   · rename_i hj
     rcases List.mem_cons.1 hi with rfl | hi
     · exact hj
     · exact qyk h i hi
theorem lz_get {P:Program} {ops:Array Oper} {i:Nat} (hi:i < ops.size):(lzs P ops (befs ops.toList [])).getD i false=lzF P ops i:=by
 simp [lzs,hi,lzF]
theorem lazyOp_sound {P:Program} {ops:Array Oper} {o:Oper} {N:Nat} {a:Act} {ρ:Nat→Value} {w:World} {K:Value→Prop} {i:Nat} (ho:ops[i]?=some o) (hs:slOk o=true) (hr:rel N a ρ)
 (hw:Region.wanted o (yielded ops a.tmps)=true) (h:lazyOp P o (ev ρ) w K):∃ v,gives P ops (rdF ops i) o a w v∧K v:=by
 unfold lazyOp at h
 split at h
 · obtain ⟨v,hv,hk⟩:=qjk hs h
   exact ⟨v,Or.inl ⟨hw,fun w' _=>by rw [qxj hr]; exact hv w'⟩,hk⟩
 · split at h <;> first | exact h.elim | skip
   rename_i t x hop
   obtain ⟨v,hv,hk⟩:=qfh h
   refine ⟨v,Or.inl ⟨hw,fun w' he=>?_⟩,hk⟩
   rw [qxj hr]
   have:=hv w' (he (by simp [rdF,ho,isLoadK,hop]))
   simp [execOp,hop,this]
theorem tree_of_pt {P:Program} {N:Nat} {ops:Array Oper} (hf:fitB N ops=true) (St:Stat ops (preO (befs ops.toList [])) (lzF P ops) (rdF ops) (alF P ops)) {K:(Nat→Value)→World→Prop} :
 ∀ (f m:Nat) {a:Act} {ρ:Nat→Value} {w:World},rel N a ρ→ptTree P ops (ops.toList.map depsL) (lzs P ops (befs ops.toList [])) K f m ρ w →
  tree P ops (lzF P ops) (rdF ops) (alF P ops) (fun a' w'=>∃ ρ',rel N a' ρ'∧K ρ' w') f (bitsA ops.size m) a w:=by
 intro f
 induction f with
 | zero =>
   intro m a ρ w hr h
   unfold ptTree at h
   split at h
   · rename_i hn
     refine ⟨?_,ρ,hr,h⟩
     cases hrr:Region.ready .any ops (bitsA ops.size m) with
     | nil=>rfl
     | cons i r =>
       have:i ∈ Region.ready .any ops (bitsA ops.size m):=by rw [hrr]; simp
       rw [qbh St.back,hn] at this
       cases this
   · exact h.elim
 | succ f ih =>
   intro m a ρ w hr h
   unfold ptTree at h
   split at h
   · rename_i i hfi
     obtain ⟨hm,hl⟩:=qxk hfi
     have hready:=(qbh St.back m i).2 hm
     split at h
     · exact h.elim
     · rename_i o ho
       have hi:=(Array.getElem?_eq_some_iff.1 ho).1
       rw [lz_get hi] at hl
       obtain ⟨hs,hd⟩:=qcm hf ho
       refine Or.inl ?_
       rcases qni hr h with ⟨hw,h⟩ | ⟨hw,h⟩
       · obtain ⟨v,hg,hk⟩:=lazyOp_sound ho hs hr hw h
         refine ⟨i,o,v,hready,hl,ho,hg,?_⟩
         rw [qim hi]
         exact ih _ (qdi hr hd v) hk
       · refine ⟨i,o,undef,hready,hl,ho,Or.inr ⟨hw,rfl⟩,?_⟩
         rw [qim hi]
         exact ih _ (qdi hr hd _) h
   · rename_i hfn
     have hnone:=qyk hfn
     refine Or.inr ⟨fun i hi=>?_,fun hnil=>?_,fun i hi=>?_⟩
     · have hm:=(qbh St.back m i).1 hi
       have hlt:i < ops.size:=by
        obtain ⟨_,o,ho,_⟩:=mem_ready.1 hi
        exact (Array.getElem?_eq_some_iff.1 ho).1
       rw [← lz_get (P:=P) hlt]
       exact hnone i hm
     · split at h
       · exact ⟨ρ,hr,h⟩
       · rename_i hne
         exfalso
         cases hrl:rdyL (ops.toList.map depsL) 0 m with
         | nil=>exact hne hrl
         | cons i r =>
           have:i ∈ Region.ready .any ops (bitsA ops.size m):=(qbh St.back m i).2 (by rw [hrl]; simp)
           rw [hnil] at this
           cases this
     · have hm:=(qbh St.back m i).1 hi
       split at h
       · rename_i hnil; rw [hnil] at hm; cases hm
       · have hx:=allOf_mem h i hm
         split at hx
         · exact hx.elim
         · rename_i o ho
           have hi':=(Array.getElem?_eq_some_iff.1 ho).1
           obtain ⟨hs,hd⟩:=qcm hf ho
           rw [qim hi']
           unfold stepOk
           simp only [ho]
           rcases qni hr hx with ⟨hw,hx⟩ | ⟨hw,hx⟩
           · simp only [hw,if_true]
             rw [qxj hr]
             unfold ptOp at hx
             split at hx
             · rename_i hp
               obtain ⟨v,hv,hk⟩:=qjk hs hx
               exact qbd (hv w) ⟨fun _=>qge w,ih _ (qdi hr hd v) hk⟩
             · rename_i hp
               by_cases hload:isLoadK o=true
               · unfold ptH at hx
                 cases hop:o.op <;> simp only [hop] at hx <;> first | (simp [isLoadK,hop] at hload; done) | skip
                 rename_i t x
                 obtain ⟨v,hv,hk⟩:=qfh hx
                 exact qbd (w':=w) (v:=v) (by simp [execOp,hop,hv w (qge w)]) ⟨fun _=>qge w,ih _ (qdi hr hd v) hk⟩
               · refine qch (ptH_sound hx) fun v w' hk=>⟨fun ha=>hk.1 ?_,ih _ (qdi hr hd v) hk.2⟩
                 have:mildO P o=true:=by simpa [alF,ho] using ha
                 simp only [mildO,hp,Bool.false_or,Bool.or_eq_true] at this
                 exact this.resolve_left hload
           · simp only [hw]
             exact ⟨fun _=>qge w,ih _ (qdi hr hd _) hx⟩
end Go.Proofs.YtonmgkkkiejicaaGreat
namespace Go.Proofs.YtonmgkkkiejicaaGreat
open Go
set_option linter.unusedSimpArgs false
set_option linter.unusedVariables false
abbrev RK:=(Nat→Value)→World→Prop
structure Ks where
 norm:RK
 ret:RK
 ex:List (Nat × RK)
def exitK:List (Nat × RK)→Nat→RK
 | [],_=>fun _ _=>False
 | (i,k) :: r,id=>match Nat.beq i id with
   | true=>k
   | false=>exitK r id
def ptReg (P:Program) (N:Nat) (ops:Array Oper) (draw:Bool) (K:RK) (ρ:Nat→Value) (w:World):Prop :=
 match draw with
 | false=>match fitB N ops with
   | true=>ptOps P ops (List.range ops.size) ρ w K
   | false=>False
 | true=>match fitB N ops && statB P ops (befs ops.toList []) with
   | true=>ptTree P ops (ops.toList.map depsL) (lzs P ops (befs ops.toList [])) K ops.size 0 ρ w.drew
   | false=>False
def pt (P:Program) (N:Nat):Code→Ks→RK
 | .skip,K,ρ,w=>K.norm ρ w
 | .region _ ops draw,K,ρ,w=>ptReg P N ops draw K.norm ρ w
 | .seq x y,K,ρ,w=>pt P N x { norm:=fun ρ w=>pt P N y K ρ w,ret:=K.ret,ex:=K.ex } ρ w
 | .cond c x y,K,ρ,w=>match ev ρ c with
   | .bool b=>br b (pt P N x K ρ w) (pt P N y K ρ w)
   | _=>False
 | .block id c,K,ρ,w=>pt P N c { norm:=K.norm,ret:=K.ret,ex:=(id,K.norm) :: K.ex } ρ w
 | .exit id,K,ρ,w=>exitK K.ex id ρ w
 | .ret,K,ρ,w=>K.ret ρ w
 | _,_,_,_=>False
def toQ (N:Nat) (K:Ks):Exit→Act→World→Prop:=fun e a w=>∃ ρ,rel N a ρ∧(match e with
 | .normal=>K.norm ρ w
 | .ret=>K.ret ρ w
 | .exit id=>exitK K.ex id ρ w
 | _=>False)
def wpc (P:Program) (N:Nat) (c:Code) (K:Ks) (ρ:Nat→Value) (w:World):Prop:=∀ a,rel N a ρ→c.wp P (toQ N K) a w
section
variable {P:Program} {N:Nat} {K:Ks} {ρ:Nat→Value} {w:World}
theorem wpc_reg {id:Nat} {ops:Array Oper} {draw:Bool} (hm:P.follows .mixedOrders=true) (h:ptReg P N ops draw K.norm ρ w):wpc P N (.region id ops draw) K ρ w:=by
 intro a hr
 unfold ptReg at h
 cases draw with
 | false =>
   simp only at h
   split at h <;> first | exact h.elim | skip
   rename_i hf
   exact wp_region (qlm (fun a w ⟨ρ',h1,h2⟩=>⟨ρ',h1,h2⟩) _ _ _ (ptOps_sound hf _ hr h))
 | true =>
   simp only at h
   split at h <;> first | exact h.elim | skip
   rename_i hf
   rw [Bool.and_eq_true] at hf
   have St:=stat_of hf.2
   refine wp_of_tree hm St (K:=fun a' w'=>∃ ρ',rel N a' ρ'∧K.norm ρ' w') (fun a w ⟨ρ',h1,h2⟩=>⟨ρ',h1,h2⟩) ?_
   have:=tree_of_pt hf.1 St ops.size 0 hr h
   have e:bitsA ops.size 0=Array.replicate ops.size false:=by
    apply Array.ext
    · simp [bitsA]
    · intro i h1 h2; simp [bitsA]
   rw [e] at this
   exact this
theorem qll {x y:Code} (M:RK) (h:wpc P N x { norm:=M,ret:=K.ret,ex:=K.ex } ρ w) (h2:∀ ρ w,M ρ w→wpc P N y K ρ w):wpc P N (.seq x y) K ρ w:=by
 intro a hr
 refine wp_seq (wp_mono (h a hr) fun e a' w' hq=>?_)
 obtain ⟨ρ',hr',hk⟩:=hq
 cases e with
 | normal=>exact h2 _ _ hk a' hr'
 | ret=>exact ⟨ρ',hr',hk⟩
 | exit id=>exact ⟨ρ',hr',hk⟩
 | _=>exact hk.elim
theorem wpc_cond {c:Operand} {x y:Code} {b:Bool} (hb:ev ρ c=.bool b) (ht:b=true→wpc P N x K ρ w) (hf:b=false→wpc P N y K ρ w):wpc P N (.cond c x y) K ρ w:=by
 intro a hr
 exact wp_cond_split (t:=b) (by rw [qxj hr]; exact hb) (fun h=>ht h a hr) (fun h=>hf h a hr)
theorem wpc_block {id:Nat} {c:Code} (h:wpc P N c { norm:=K.norm,ret:=K.ret,ex:=(id,K.norm) :: K.ex } ρ w):wpc P N (.block id c) K ρ w:=by
 intro a hr
 refine wp_block (wp_mono (h a hr) fun e a' w' hq=>?_)
 obtain ⟨ρ',hr',hk⟩:=hq
 cases e with
 | normal=>exact ⟨ρ',hr',hk⟩
 | ret=>exact ⟨ρ',hr',hk⟩
 | exit id' =>
   simp only [exitK] at hk
   by_cases hid:id=id'
   · subst hid
     have:Nat.beq id id=true:=by simp
     rw [this] at hk
     simp only [Exit.inBlock,if_true]
     exact ⟨ρ',hr',hk⟩
   · have:Nat.beq id id'=false:=by
      cases hb:Nat.beq id id' with
      | false=>rfl
      | true=>exact absurd (Nat.eq_of_beq_eq_true hb) hid
     rw [this] at hk
     simp only [Exit.inBlock,if_neg (fun h:id'=id=>hid h.symm)]
     exact ⟨ρ',hr',hk⟩
 | _=>exact hk.elim
theorem wpc_loop {c:Code} (I:RK) (μ:(Nat→Value)→World→Nat) (h0:I ρ w)
 (hround:∀ ρ w,I ρ w→wpc P N c { norm:=fun ρ' w'=>I ρ' w'∧μ ρ' w' < μ ρ w,ret:=K.ret,ex:=K.ex } ρ w):wpc P N (.loop c) K ρ w:=by
 intro a hr
 refine wp_loop (fun a w=>∃ ρ,rel N a ρ∧I ρ w) (fun a w=>μ (fun t=>a.tmps.getD t undef) w) ⟨ρ,hr,h0⟩ ?_
 rintro a1 w1 ⟨ρ1,hr1,hI⟩
 refine wp_mono (hround ρ1 w1 hI a1 hr1) fun e a' w' hq=>?_
 obtain ⟨ρ',hr',hk⟩:=hq
 cases e with
 | normal =>
   refine ⟨⟨ρ',hr',hk.1⟩,?_⟩
   rw [hr1.2.2,hr'.2.2]
   exact hk.2
 | ret=>exact ⟨ρ',hr',hk⟩
 | exit id=>exact ⟨ρ',hr',hk⟩
 | _=>exact hk.elim
theorem wpc_skip (h:K.norm ρ w):wpc P N .skip K ρ w:=fun a hr=>wp_skip ⟨ρ,hr,h⟩
theorem wpc_ret (h:K.ret ρ w):wpc P N .ret K ρ w:=fun a hr=>wp_ret ⟨ρ,hr,h⟩
theorem wpc_exit {id:Nat} (h:exitK K.ex id ρ w):wpc P N (.exit id) K ρ w:=fun a hr=>wp_exit ⟨ρ,hr,h⟩
end
theorem pt_sound {P:Program} {N:Nat} (hm:P.follows .mixedOrders=true):∀ (c:Code) {K:Ks} {ρ:Nat→Value} {w:World},pt P N c K ρ w→wpc P N c K ρ w:=by
 intro c
 induction c with
 | skip=>intro K ρ w h; exact wpc_skip h
 | region id ops draw=>intro K ρ w h; exact wpc_reg hm h
 | seq x y ihx ihy=>intro K ρ w h; exact qll _ (ihx h) fun ρ w h=>ihy h
 | cond c x y ihx ihy =>
   intro K ρ w h
   unfold pt at h
   split at h <;> first | exact h.elim | skip
   rename_i b hb
   refine wpc_cond hb (fun ht=>?_) (fun hf=>?_)
   · subst ht; exact ihx h
   · subst hf; exact ihy h
 | block id c ih=>intro K ρ w h; exact wpc_block (ih h)
 | loop c=>intro K ρ w h; exact h.elim
 | rangeFunc f ps az c=>intro K ρ w h; exact h.elim
 | exit id=>intro K ρ w h; exact wpc_exit h
 | scope c=>intro K ρ w h; exact h.elim
 | label l=>intro K ρ w h; exact h.elim
 | goto l=>intro K ρ w h; exact h.elim
 | ret=>intro K ρ w h; exact wpc_ret h
 | refuse s=>intro K ρ w h; exact h.elim
def resL (P:Program) (w:World) (ρ:Nat→Value):List ResultVar→(List Value→Prop)→Prop
 | [],F=>F []
 | .tmp t :: r,F=>resL P w ρ r fun vs=>F (ρ t :: vs)
 | .cell a t :: r,F=>match ρ a with
   | .pointer p=>nz p fun ad=>ptLoad P t (.pointer (some ad)) w fun v=>resL P w ρ r fun vs=>F (v :: vs)
   | _=>False
def retK (P:Program) (rs:List ResultVar) (Q:VWP):RK:=fun ρ w=>resL P w ρ rs fun vs=>match vs with
 | [v]=>Q v w
 | vs=>Q (.tuple ⟨vs⟩) w
def resSem (tmps:Array Value):ResultVar→Sem Value
 | .tmp t=>pure (tmps.getD t undef)
 | .cell a t=>do loadVar t (← asAddr (tmps.getD a undef))
theorem resL_run {P:Program} {w:World} {ρ:Nat→Value} {tmps:Array Value} (ht:(fun t=>tmps.getD t undef)=ρ):∀ (rs:List ResultVar) {F:List Value→Prop},resL P w ρ rs F →
 ∃ vs,(rs.mapM (resSem tmps)).run P w=.ok vs w∧F vs
 | [],F,h=>⟨[],by simp,h⟩
 | .tmp t :: r,F,h=>by
   obtain ⟨vs,h1,h2⟩:=resL_run ht r (F:=fun vs=>F (ρ t :: vs)) h
   refine ⟨_,?_,h2⟩
   rw [List.mapM_cons]
   simp only [Sem.run_bind,resSem,Sem.run_pure,Result.andThen_ok,h1]
   rw [← ht]
 | .cell a t :: r,F,h=>by
   unfold resL at h
   split at h <;> first | exact h.elim | skip
   rename_i p hp
   unfold nz at h
   split at h <;> first | exact h.elim | skip
   rename_i ad
   obtain ⟨v,hv,h⟩:=qfh h
   obtain ⟨vs,h1,h2⟩:=resL_run ht r (F:=fun vs=>F (v :: vs)) h
   refine ⟨_,?_,h2⟩
   rw [List.mapM_cons]
   have e:tmps.getD a undef=ρ a:=congrFun ht a
   have hl:(loadVar t ad).run P w=.ok v w:=by
    have:=hv w (qge w)
    simpa [Instr.loadAt,Instr.sureAddr] using this
   simp only [Sem.run_bind,resSem,Sem.run_pure,Result.andThen_ok,h1,e,hp,asAddr,hl]
theorem qrl {P:Program} {fn:Func} {w:World} {ρ:Nat→Value} {tmps:Array Value} (ht:(fun t=>tmps.getD t undef)=ρ) {Q:VWP} (h:retK P fn.results.toList Q ρ w) :
 ∃ v,(results fn tmps).run P w=.ok v w∧Q v w:=by
 obtain ⟨vs,h1,h2⟩:=resL_run ht _ h
 have hm:(fn.results.mapM (resSem tmps)).run P w=.ok vs.toArray w:=by
  have:fn.results.mapM (resSem tmps)=List.toArray <$> fn.results.toList.mapM (resSem tmps):=by
   rw [← List.mapM_toArray]
  rw [this,Sem.run_map,h1]
  rfl
 have hres:results fn tmps=(fn.results.mapM (resSem tmps) >>= fun vs=>pure (if h:vs.size=1 then vs[0] else .tuple vs)):=by
  unfold results
  congr 1
 rw [hres]
 cases vs with
 | nil=>exact ⟨_,by rw [Sem.run_bind,hm]; simp,h2⟩
 | cons v r =>
   cases r with
   | nil=>exact ⟨_,by rw [Sem.run_bind,hm]; simp,h2⟩
   | cons u r=>exact ⟨_,by rw [Sem.run_bind,hm]; simp,h2⟩
def args0 (args:List Value):Nat→Value:=fun t=>args.getD t undef
def Ret (Q:VWP):Ending→World→Prop:=fun e w=>∃ v,e=.returned v∧Q v w
theorem calls_of_wpc {P:Program} {f:FuncId} {fn:Func} {c:Code} {N:Nat} {args:List Value} {w:World} {Q:VWP} (rs:List ResultVar)
 (hf:P.funcs[f]?=some fn) (hb:fn.body=some c) (hN:fn.ntmps=N) (hle:Nat.ble args.length N=true) (hrs:fn.results.toList=rs)
 (h:wpc P N c { norm:=retK P rs Q,ret:=retK P rs Q,ex:=[] } (args0 args) w):Calls P f ⟨args⟩ w (Ret Q):=by
 subst hN hrs
 have hle':=Nat.le_of_ble_eq_true hle
 have hr:rel fn.ntmps { tmps:=(⟨args⟩:Array Value) ++ Array.replicate (fn.ntmps - (⟨args⟩:Array Value).size) undef,defers:=[] } (args0 args):=by
  refine ⟨rfl,by simp; omega,?_⟩
  funext t
  unfold args0
  rw [Array.getD_eq_getD_getElem?,List.getD_eq_getElem?_getD,Array.getElem?_append]
  split
  · simp
  · rename_i ht
    have ht':args.length≤t:=by simpa using ht
    rw [List.getElem?_eq_none ht']
    rw [Array.getElem?_replicate]
    split <;> rfl
 refine calls_of_wp hf hb (wp_mono (h _ hr) fun e a w hq=>?_)
 obtain ⟨ρ,hrel,hk⟩:=hq
 cases e with
 | normal =>
   obtain ⟨v,h1,h2⟩:=qrl hrel.2.2 hk
   exact ⟨hrel.1,v,h1,v,rfl,h2⟩
 | ret =>
   obtain ⟨v,h1,h2⟩:=qrl hrel.2.2 hk
   exact ⟨hrel.1,v,h1,v,rfl,h2⟩
 | exit id=>exact hk.elim
 | _=>exact hk.elim
end Go.Proofs.YtonmgkkkiejicaaGreat
namespace Go.Proofs.YtonmgkkkiejicaaGreat
open Go Go.Proofs
set_option linter.unusedVariables false
abbrev lt {α:Type} (e:α) (K:α→Prop):Prop:=K e
abbrev _root_.Go.World.heapSize (w:World):Nat:=w.heap.size
section
variable {P:Program} {N:Nat} {K:Ks} {ρ:Nat→Value} {w:World}
theorem br_t {b:Bool} {A B:Prop} (h:br b A B) (hb:b=true):A:=by subst hb; exact h
theorem br_f {b:Bool} {A B:Prop} (h:br b A B) (hb:b=false):B:=by subst hb; exact h
theorem wpc_norm {c:Code} {M M':RK} {r:RK} {x:List (Nat × RK)} (h:wpc P N c { norm:=M,ret:=r,ex:=x } ρ w) (hM:∀ ρ w,M ρ w→M' ρ w):wpc P N c { norm:=M',ret:=r,ex:=x } ρ w:=by
 intro a hr
 refine wp_mono (h a hr) fun e a' w' hq=>?_
 obtain ⟨ρ',hr',hk⟩:=hq
 cases e with
 | normal=>exact ⟨ρ',hr',hM _ _ hk⟩
 | ret=>exact ⟨ρ',hr',hk⟩
 | exit id=>exact ⟨ρ',hr',hk⟩
 | _=>exact hk.elim
theorem wpc_loopS {c:Code} {α:Type} (st:α→(Nat→Value)→Prop) (I:α→World→Prop) (μ:α→World→Nat) (s0:α) (h0:st s0 ρ) (hI:I s0 w)
 (hround:∀ s ρ w,st s ρ→I s w→wpc P N c { norm:=fun ρ' w'=>∃ s',st s' ρ'∧I s' w'∧μ s' w' < μ s w,ret:=K.ret,ex:=K.ex } ρ w):wpc P N (.loop c) K ρ w:=by
 let J:RK:=fun ρ w=>∃ s,st s ρ∧I s w
 have hmin:∀ ρ w,∃ n,(∃ s,st s ρ∧I s w)→(∃ s,st s ρ∧I s w∧μ s w=n)∧∀ s,st s ρ→I s w→n≤μ s w:=by
  intro ρ w
  by_cases h:∃ s,st s ρ∧I s w
  · obtain ⟨s,h1,h2⟩:=h
    have key:∀ (n:Nat) (s:α),μ s w=n→st s ρ→I s w→∃ k,(∃ s,st s ρ∧I s w∧μ s w=k)∧∀ s,st s ρ→I s w→k≤μ s w:=by
     intro n
     induction n using Nat.strongRecOn with
     | _ n ih =>
       intro s hn h1 h2
       by_cases hl:∃ s',st s' ρ∧I s' w∧μ s' w < n
       · obtain ⟨s',g1,g2,g3⟩:=hl
         exact ih _ g3 s' rfl g1 g2
       · refine ⟨n,⟨s,h1,h2,hn⟩,fun s' g1 g2=>?_⟩
         rcases Nat.lt_or_ge (μ s' w) n with g | g
         · exact absurd ⟨s',g1,g2,g⟩ hl
         · exact g
    obtain ⟨k,hk⟩:=key _ s rfl h1 h2
    exact ⟨k,fun _=>hk⟩
  · exact ⟨0,fun h'=>absurd h' h⟩
 let ν:(Nat→Value)→World→Nat:=fun ρ w=>Classical.choose (hmin ρ w)
 refine wpc_loop J ν ⟨s0,h0,hI⟩ fun ρ w hJ=>?_
 obtain ⟨⟨s1,h1,h2,h3⟩,_⟩:=Classical.choose_spec (hmin ρ w) hJ
 refine wpc_norm (hround s1 ρ w h1 h2) fun ρ' w' h=>?_
 obtain ⟨s',a1,a2,a3⟩:=h
 refine ⟨⟨s',a1,a2⟩,?_⟩
 have hle:=(Classical.choose_spec (hmin ρ' w') ⟨s',a1,a2⟩).2 s' a1 a2
 show Classical.choose (hmin ρ' w') < Classical.choose (hmin ρ w)
 omega
end
theorem qkd:Tryz.prog.follows .mixedOrders=true:=by kernel_rfl
end Go.Proofs.YtonmgkkkiejicaaGreat
namespace Go.Proofs.YtonmgkkkiejicaaGreat
open Go Go.Proofs
def asQ (t:Nat) (v:Value) (F:Addr→Prop):Prop:=match v with
 | .iface g (.pointer (some p))=>match Nat.beq g t with
   | true=>F p
   | false=>False
 | _=>False
theorem asQ_el {t:Nat} {v:Value} {F:Addr→Prop} (h:asQ t v F):∃ n,v=.iface t (.pointer (some n))∧F n:=by
 unfold asQ at h
 split at h
 · split at h
   · rename_i hb; have:=Nat.eq_of_beq_eq_true hb; subst this; exact ⟨_,rfl,h⟩
   · exact h.elim
 · exact h.elim
def cvB (P:Program) (x:Value) (args:List Value) (w:World) (K:Bool→World→Prop):Prop:=match x with
 | .func (.func f) first cap=>match plainF P f with
   | true=>match plainF P f with
     | true=>Calls P f ⟨(first.toList ++ args) ++ cap.toList⟩ w fun e w'=>∃ r:Bool,e=.returned (.bool r)∧K r w'
     | false=>False
   | false=>∃ r:Bool,∃ w':World,cfR P f ((first.toList ++ args) ++ cap.toList) w (.bool r) w'∧K r w'
 | _=>False
def cv0 (P:Program) (x:Value) (args:List Value) (w:World) (K:World→Prop):Prop:=match x with
 | .func (.func f) first cap=>match plainF P f with
   | true=>match plainF P f with
     | true=>Calls P f ⟨(first.toList ++ args) ++ cap.toList⟩ w fun e w'=>e=.returned (.tuple ⟨[]⟩)∧K w'
     | false=>False
   | false=>∃ w':World,cfR P f ((first.toList ++ args) ++ cap.toList) w (.tuple ⟨[]⟩) w'∧K w'
 | _=>False
end Go.Proofs.YtonmgkkkiejicaaGreat
namespace Go.Proofs.YtonmgkkkiejicaaGreat
open Go Go.Proofs
set_option linter.unusedVariables false
set_option linter.unusedSimpArgs false
def asD2 (f:Nat) (v:Value) (F:Option Addr × Option Addr→Prop):Prop:=match v with
 | .func (.func g) ⟨[]⟩ ⟨[.pointer p,.pointer q]⟩=>match Nat.beq g f with
   | true=>F (p,q)
   | false=>False
 | _=>False
theorem asD2_el {f:Nat} {v:Value} {F:Option Addr × Option Addr→Prop} (h:asD2 f v F):∃ n:Option Addr × Option Addr,v=.func (.func f) ⟨[]⟩ ⟨[.pointer n.1,.pointer n.2]⟩∧F n:=by
 unfold asD2 at h
 split at h
 · split at h
   · rename_i hb; have:=Nat.eq_of_beq_eq_true hb; subst this; exact ⟨(_,_),rfl,h⟩
   · exact h.elim
 · exact h.elim
def asN (v:Value) (F:Nat × Array Value→Prop):Prop:=match v with
 | .func (.func g) ⟨[]⟩ b=>F (g,b)
 | _=>False
theorem asN_el {v:Value} {F:Nat × Array Value→Prop} (h:asN v F):∃ n:Nat × Array Value,v=.func (.func n.1) ⟨[]⟩ n.2∧F n:=by
 unfold asN at h
 split at h
 · exact ⟨(_,_),rfl,h⟩
 · exact h.elim
inductive Kd where
 | L | P | A | G | S | B | M | V | F | N
 | I (k:IntKind)
 | Q (t:Nat)
 | c0 (f:Nat)
 | c1 (f:Nat)
 | c2 (f:Nat)
 | d2 (f:Nat)
def Kd.ty:Kd→Type
 | .L=>Sl
 | .P=>Option Addr
 | .A=>Addr
 | .G=>Array Value
 | .S=>ByteArray
 | .B=>Bool
 | .M=>Option Nat
 | .V=>Value
 | .F=>Nat × Value
 | .N=>Nat × Array Value
 | .I _=>Int
 | .Q _=>Addr
 | .c0 _=>Unit
 | .c1 _=>Option Addr
 | .c2 _=>Option Addr
 | .d2 _=>Option Addr × Option Addr
def Kd.val:(k:Kd)→k.ty→Value
 | .L,(x:Sl)=>.slice x.a x.len x.cap
 | .P,x=>.pointer x
 | .A,x=>.pointer (some x)
 | .G,x=>.agg x
 | .S,x=>.string x
 | .B,x=>.bool x
 | .M,x=>.map x
 | .V,x=>x
 | .F,(x:Nat × Value)=>.iface x.1 x.2
 | .N,(x:Nat × Array Value)=>.func (.func x.1) ⟨[]⟩ x.2
 | .I k,x=>.int k x
 | .Q t,x=>.iface t (.pointer (some x))
 | .c0 f,_=>.func (.func f) ⟨[]⟩ ⟨[]⟩
 | .c1 f,x=>.func (.func f) ⟨[.pointer x]⟩ ⟨[]⟩
 | .c2 f,x=>.func (.func f) ⟨[]⟩ ⟨[.pointer x]⟩
 | .d2 f,(x:Option Addr × Option Addr)=>.func (.func f) ⟨[]⟩ ⟨[.pointer x.1,.pointer x.2]⟩
def Kd.as:(k:Kd)→Value→(k.ty→Prop)→Prop
 | .L,v,X=>asL v X
 | .P,v,X=>asP v X
 | .A,v,X=>asA v X
 | .G,v,X=>asG v X
 | .S,v,X=>asS v X
 | .B,v,X=>asB v X
 | .M,v,X=>asM v X
 | .V,v,X=>asV v X
 | .F,v,X=>asF v X
 | .N,v,X=>asN v X
 | .I k,v,X=>asI k v X
 | .Q t,v,X=>asQ t v X
 | .c0 f,v,X=>asC0 f v (X ())
 | .c1 f,v,X=>asC1 f v X
 | .c2 f,v,X=>asC2 f v X
 | .d2 f,v,X=>asD2 f v X
theorem Kd.el {v:Value}:∀ (k:Kd) {F:k.ty→Prop},k.as v F→∃ x,v=k.val x∧F x
 | .L,_,h=>asL_el h
 | .P,_,h=>asP_el h
 | .A,_,h=>asA_el h
 | .G,_,h=>asG_el h
 | .S,_,h=>asS_el h
 | .B,_,h=>asB_el h
 | .M,_,h=>asM_el h
 | .V,_,h=>asV_el h
 | .F,_,h=>asF_el h
 | .N,_,h=>asN_el h
 | .I _,_,h=>asI_el h
 | .Q _,_,h=>asQ_el h
 | .c0 _,_,h=>⟨(),asC0_el h⟩
 | .c1 _,_,h=>asC1_el h
 | .c2 _,_,h=>asC2_el h
 | .d2 _,_,h=>asD2_el h
abbrev Tl:=List (Nat × Kd)
def TF (T:Type):Tl→Type
 | []=>T
 | a :: r=>a.2.ty→TF T r
abbrev WP:=World→Prop
def tm:(l:Tl)→TF WP l→RK
 | [],F,_,w=>F w
 | a :: r,F,ρ,w=>a.2.as (ρ a.1) fun x=>tm r (F x) ρ w
def ab {T:Type}:(l:Tl)→((Nat→Value)→T)→(Nat→Value)→TF T l
 | [],G,ρ=>G ρ
 | a :: r,G,ρ=>fun x=>ab r G (upd ρ a.1 (a.2.val x))
def HV:Tl→Type
 | []=>Unit
 | a :: r=>a.2.ty × HV r
def atS:(l:Tl)→HV l→(Nat→Value)→Prop
 | [],_,_=>True
 | a :: r,s,ρ=>ρ a.1=a.2.val s.1∧atS r s.2 ρ
def ap {T:Type}:(l:Tl)→TF T l→HV l→T
 | [],F,_=>F
 | _ :: r,F,s=>ap r (F s.1) s.2
def cu {T:Type}:(l:Tl)→(HV l→T)→TF T l
 | [],F=>F ()
 | _ :: r,F=>fun x=>cu r fun s=>F (x,s)
def allS:(l:Tl)→(HV l→Prop)→Prop
 | [],F=>F ()
 | _ :: r,F=>∀ x,allS r fun s=>F (x,s)
def Kd.nb:Kd→Bool
 | .c0 _=>true
 | _=>false
def cj:List Prop→Prop
 | []=>True
 | [a]=>a
 | a :: b :: r=>a∧cj (b :: r)
def eqL:(l:Tl)→HV l→HV l→List Prop
 | [],_,_=>[]
 | a :: r,s,t=>match a.2.nb with
   | true=>eqL r s.2 t.2
   | false=>(s.1=t.1) :: eqL r s.2 t.2
def eqS (l:Tl) (s t:HV l):Prop:=cj (eqL l s t)
theorem cj_el {a:Prop}:∀ {r:List Prop},cj (a :: r)→a∧cj r
 | [],h=>⟨h,trivial⟩
 | _ :: _,h=>h
theorem Kd.nb_one:∀ (k:Kd),k.nb=true→∀ x y:k.ty,x=y
 | .c0 _,_,_,_=>rfl
theorem ap_cu {T:Type}:∀ (l:Tl) (F:HV l→T) (s:HV l),ap l (cu l F) s=F s
 | [],F,s=>rfl
 | _ :: r,F,s=>ap_cu r (fun t=>F (s.1,t)) s.2
theorem allS_el:∀ (l:Tl) {F:HV l→Prop},allS l F→∀ s,F s
 | [],_,h,_=>h
 | _ :: r,_,h,s=>allS_el r (h s.1) s.2
theorem eqS_el:∀ (l:Tl) {s t:HV l},eqS l s t→s=t
 | [],_,_,_=>rfl
 | a :: r,s,t,h=>by
   have h:cj (match a.2.nb with
    | true=>eqL r s.2 t.2
    | false=>(s.1=t.1) :: eqL r s.2 t.2):=h
   have e:s.1=t.1∧eqS r s.2 t.2:=by
    cases hb:a.2.nb with
    | true=>rw [hb] at h; exact ⟨Kd.nb_one _ hb _ _,h⟩
    | false=>rw [hb] at h; exact cj_el h
   exact Prod.ext e.1 (eqS_el r e.2)
theorem tm_el:∀ (l:Tl) {F:TF WP l} {ρ:Nat→Value} {w:World},tm l F ρ w→∃ s,atS l s ρ∧ap l F s w
 | [],_,_,_,h=>⟨(),trivial,h⟩
 | a :: r,F,ρ,w,h=>by
   obtain ⟨x,e,h⟩:=Kd.el a.2 h
   obtain ⟨s,h1,h2⟩:=tm_el r h
   exact ⟨(x,s),⟨e,h1⟩,h2⟩
theorem ap_ab {T:Type}:∀ (l:Tl) {G:(Nat→Value)→T} {ρ:Nat→Value} {s:HV l},atS l s ρ→ap l (ab l G ρ) s=G ρ
 | [],_,_,_,_=>rfl
 | a :: r,G,ρ,s,h=>by
   have e:=upd_same h.1
   show ap r (ab r G (upd ρ a.1 (a.2.val s.1))) s.2=G ρ
   rw [e]
   exact ap_ab r h.2
abbrev TF2 (u m:Tl):=TF (TF WP m) u
def tmU:(u m:Tl)→TF2 u m→RK
 | [],m,F=>tm m F
 | a :: r,m,F=>fun ρ w=>a.2.as (ρ a.1) fun x=>tmU r m (F x) ρ w
theorem tmU_el:∀ (u m:Tl) {F:TF2 u m} {ρ:Nat→Value} {w:World},tmU u m F ρ w→∃ (s:HV u) (t:HV m),atS u s ρ∧atS m t ρ∧ap m (ap u F s) t w
 | [],m,_,_,_,h=>by
   obtain ⟨t,h1,h2⟩:=tm_el m h
   exact ⟨(),t,trivial,h1,h2⟩
 | a :: r,m,F,ρ,w,h=>by
   obtain ⟨x,e,h⟩:=Kd.el a.2 h
   obtain ⟨s,t,h1,h2,h3⟩:=tmU_el r m h
   exact ⟨(x,s),t,⟨e,h1⟩,h2,h3⟩
def nxG (u m:Tl) (I:TF WP m) (μ:TF (World→Nat) m) (s:HV u) (t:HV m) (w:World):TF2 u m :=
 cu u fun s'=>cu m fun t'=>fun w'=>eqS u s' s∧ap m I t' w'∧ap m μ t' w' < ap m μ t w
def lpG (u m:Tl) (B:TF2 u m→TF2 u m):TF2 u m:=cu u fun s=>cu m fun t=>fun w =>
 ∃ (I:TF WP m) (μ:TF (World→Nat) m),ap m I t w∧allS m fun t=>∀ w:World,ap m I t w→ap m (ap u (B (nxG u m I μ s t w)) s) t w
inductive Pl:Type where
 | lf
 | sq (l:Tl) (F:TF WP l) (p q:Pl)
 | pr (n:Nat) (l:Tl) (F:TF WP l) (q:Pl)
 | sk (p:Pl)
 | cd (p q:Pl)
 | bk (p:Pl)
 | lo (u m:Tl) (L:TF2 u m) (B:TF2 u m→TF2 u m) (p:TF2 u m→Pl)
def preP (P:Program) (N:Nat):Nat→Code→Ks→RK
 | 0,.seq a _,K=>pt P N a K
 | n+1,.seq a c,K=>pt P N a { norm:=preP P N n c K,ret:=K.ret,ex:=K.ex }
 | _,_,_=>fun _ _=>False
def aftC:Nat→Code→Code
 | 0,.seq _ c=>c
 | n+1,.seq _ c=>aftC n c
 | _,c=>c
def plW (P:Program) (N:Nat):Pl→Code→Ks→RK
 | .lf,c,K=>pt P N c K
 | .sq l F p _,.seq x _,K=>plW P N p x { norm:=tm l F,ret:=K.ret,ex:=K.ex }
 | .pr n l F _,c,K=>preP P N n c { norm:=tm l F,ret:=K.ret,ex:=K.ex }
 | .sk p,.seq x .skip,K=>plW P N p x K
 | .cd p q,.cond c x y,K=>fun ρ w=>match ev ρ c with
   | .bool b=>br b (plW P N p x K ρ w) (plW P N q y K ρ w)
   | _=>False
 | .bk p,.block id c,K=>plW P N p c { norm:=K.norm,ret:=K.ret,ex:=(id,K.norm) :: K.ex }
 | .lo u m L _ _,.loop _,_=>tmU u m L
 | _,_,_=>fun _ _=>False
def Pl.Ty:Pl→Type
 | .lf=>Unit
 | .sq l _ p q=>p.Ty × (((Nat→Value)→TF WP l) × q.Ty)
 | .pr _ l _ q=>((Nat→Value)→TF WP l) × q.Ty
 | .sk p=>p.Ty
 | .cd p q=>p.Ty × q.Ty
 | .bk p=>p.Ty
 | .lo u m _ _ p=>TF2 u m × ((nx:TF2 u m)→((Nat→Value)→TF2 u m) × (p nx).Ty)
def lhs:(p:Pl)→p.Ty
 | .lf=>()
 | .sq _ F p q=>(lhs p,fun _=>F,lhs q)
 | .pr _ _ F q=>(fun _=>F,lhs q)
 | .sk p=>lhs p
 | .cd p q=>(lhs p,lhs q)
 | .bk p=>lhs p
 | .lo _ _ L B p=>(L,fun nx=>(fun _=>B nx,lhs (p nx)))
def rhs (P:Program) (N:Nat):(p:Pl)→Code→Ks→p.Ty
 | .lf,_,_=>()
 | .sq l F p q,c,K=>match c with
   | .seq x y=>(rhs P N p x { norm:=tm l F,ret:=K.ret,ex:=K.ex },ab l fun ρ w=>plW P N q y K ρ w,rhs P N q y K)
   | _=>lhs (.sq l F p q)
 | .pr n l F q,c,K=>(ab l fun ρ w=>plW P N q (aftC n c) K ρ w,rhs P N q (aftC n c) K)
 | .sk p,c,K=>match c with
   | .seq x _=>rhs P N p x K
   | _=>lhs p
 | .cd p q,c,K=>match c with
   | .cond _ x y=>(rhs P N p x K,rhs P N q y K)
   | _=>(lhs p,lhs q)
 | .bk p,c,K=>match c with
   | .block id c=>rhs P N p c { norm:=K.norm,ret:=K.ret,ex:=(id,K.norm) :: K.ex }
   | _=>lhs p
 | .lo u m L B p,c,K=>match c with
   | .loop c=>(lpG u m B,fun nx=>(ab u fun ρ=>ab m (fun ρ w=>plW P N (p nx) c { norm:=tmU u m nx,ret:=K.ret,ex:=K.ex } ρ w) ρ,rhs P N (p nx) c { norm:=tmU u m nx,ret:=K.ret,ex:=K.ex }))
   | _=>lhs (.lo u m L B p)
section
variable {P:Program} {N:Nat}
theorem preP_ok (hm:P.follows .mixedOrders=true) {l:RK}:∀ (n:Nat) (c:Code) {K:Ks} {ρ:Nat→Value} {w:World},preP P N n c { norm:=l,ret:=K.ret,ex:=K.ex } ρ w→(∀ ρ w,l ρ w→wpc P N (aftC n c) K ρ w)→wpc P N c K ρ w:=by
 intro n
 induction n with
 | zero =>
   intro c K ρ w h h2
   cases c <;> first | exact h.elim | skip
   exact qll _ (pt_sound hm _ h) h2
 | succ n ih =>
   intro c K ρ w h h2
   cases c <;> first | exact h.elim | skip
   exact qll _ (pt_sound hm _ h) fun ρ w h=>ih _ h h2
theorem ab2_ap {u m:Tl} {G:RK} {ρ:Nat→Value} {s:HV u} {t:HV m} (hs:atS u s ρ) (ht:atS m t ρ):ap m (ap u (ab u (fun ρ=>ab m G ρ) ρ) s) t=G ρ:=by
 rw [ap_ab u hs,ap_ab m ht]
theorem pl_sound (hm:P.follows .mixedOrders=true):∀ (p:Pl) (c:Code) {K:Ks} {ρ:Nat→Value} {w:World},lhs p=rhs P N p c K→plW P N p c K ρ w→wpc P N c K ρ w:=by
 intro p
 induction p with
 | lf=>intro c K ρ w _ h; exact pt_sound hm c h
 | sq l F p q ihp ihq =>
   intro c K ρ w e h
   cases c <;> first | exact h.elim | skip
   rename_i x y
   have e:(lhs p,(fun _=>F:(Nat→Value)→TF WP l),lhs q)=(rhs P N p x { norm:=tm l F,ret:=K.ret,ex:=K.ex },ab l fun ρ w=>plW P N q y K ρ w,rhs P N q y K):=e
   injection e with e1 e2
   injection e2 with e2 e3
   refine qll (tm l F) (ihp x e1 h) fun ρ w h=>?_
   obtain ⟨s,h1,h2⟩:=tm_el l h
   have e4:=congrFun e2 ρ
   have h2:ap l ((fun _=>F:(Nat→Value)→TF WP l) ρ) s w:=h2
   rw [e4,ap_ab l h1] at h2
   exact ihq y e3 h2
 | pr n l F q ihq =>
   intro c K ρ w e h
   have e:((fun _=>F:(Nat→Value)→TF WP l),lhs q)=(ab l fun ρ w=>plW P N q (aftC n c) K ρ w,rhs P N q (aftC n c) K):=e
   injection e with e2 e3
   refine preP_ok hm n c h fun ρ w h=>?_
   obtain ⟨s,h1,h2⟩:=tm_el l h
   have e4:=congrFun e2 ρ
   have h2:ap l ((fun _=>F:(Nat→Value)→TF WP l) ρ) s w:=h2
   rw [e4,ap_ab l h1] at h2
   exact ihq _ e3 h2
 | sk p ih =>
   intro c K ρ w e h
   cases c <;> first | exact h.elim | skip
   rename_i x y
   cases y <;> first | exact h.elim | skip
   refine qll _ (ih x (K:={ norm:=K.norm,ret:=K.ret,ex:=K.ex }) e h) fun ρ w h=>wpc_skip h
 | cd p q ihp ihq =>
   intro c K ρ w e h
   cases c <;> first | exact h.elim | skip
   rename_i c x y
   have e:(lhs p,lhs q)=(rhs P N p x K,rhs P N q y K):=e
   injection e with e1 e2
   have h:(match ev ρ c with
    | .bool b=>br b (plW P N p x K ρ w) (plW P N q y K ρ w)
    | _=>False):=h
   split at h
   · rename_i b hb
     exact wpc_cond hb (fun g=>ihp x e1 (br_t h g)) (fun g=>ihq y e2 (br_f h g))
   · exact h.elim
 | bk p ih =>
   intro c K ρ w e h
   cases c <;> first | exact h.elim | skip
   exact wpc_block (ih _ e h)
 | lo u m L B p ih =>
   intro c K ρ w e h
   cases c <;> first | exact h.elim | skip
   rename_i c
   have e:(L,fun nx=>((fun _=>B nx:(Nat→Value)→TF2 u m),lhs (p nx)))=((lpG u m B,fun nx=>(ab u fun ρ=>ab m (fun ρ w=>plW P N (p nx) c { norm:=tmU u m nx,ret:=K.ret,ex:=K.ex } ρ w) ρ,rhs P N (p nx) c { norm:=tmU u m nx,ret:=K.ret,ex:=K.ex })):TF2 u m × ((nx:TF2 u m)→((Nat→Value)→TF2 u m) × (p nx).Ty)):=e
   injection e with e1 e2
   obtain ⟨s,t,hs,ht,h⟩:=tmU_el u m h
   rw [e1,lpG,ap_cu,ap_cu] at h
   obtain ⟨I,μ,hI,hr⟩:=h
   refine wpc_loopS (α:=HV m) (fun t ρ=>atS u s ρ∧atS m t ρ) (fun t w=>ap m I t w) (fun t w=>ap m μ t w) t ⟨hs,ht⟩ hI ?_
   rintro t ρ w ⟨hs,ht⟩ hI
   have h:=allS_el m hr t w hI
   have e3:=congrFun e2 (nxG u m I μ s t w)
   injection e3 with e3 e4
   have e5:=congrFun e3 ρ
   have h:ap m (ap u ((fun _=>B (nxG u m I μ s t w):(Nat→Value)→TF2 u m) ρ) s) t w:=h
   rw [e5,ab2_ap hs ht] at h
   refine wpc_norm (ih _ c e4 h) fun ρ w h=>?_
   obtain ⟨s',t',hs',ht',h⟩:=tmU_el u m h
   rw [nxG,ap_cu,ap_cu] at h
   obtain ⟨g1,g2,g3⟩:=h
   have g1:=eqS_el u g1
   subst g1
   exact ⟨t',⟨hs',ht'⟩,g2,g3⟩
abbrev sV (s:Sl):Value:=.slice s.a s.len s.cap
abbrev nw (w:World) (c:Array Value) (t:Nat) (K:Addr→World→Prop):Prop:=lt (⟨World.heapSize w,0,none⟩:Addr) fun a=>lt (World.alloc w (.cells c t)) fun w'=>K a w'
abbrev qqf (f:Nat) (a:List Value) (w:World) (K:Sl→World→Prop):Prop:=Calls Tryz.prog f ⟨a⟩ w fun e w=>∃ r:Sl,e=.returned (.slice r.a r.len r.cap)∧K r w
abbrev qri (f:Nat) (a:List Value) (w:World) (K:Int→World→Prop):Prop:=Calls Tryz.prog f ⟨a⟩ w fun e w=>∃ r:Int,e=.returned (.int .i64 r)∧K r w
abbrev qqi (f:Nat) (a:List Value) (w:World) (K:Int→World→Prop):Prop:=Calls Tryz.prog f ⟨a⟩ w fun e w=>∃ r:Int,e=.returned (.int .u32 r)∧K r w
abbrev cr_G (f:Nat) (a:List Value) (w:World) (K:Array Value→World→Prop):Prop:=Calls Tryz.prog f ⟨a⟩ w fun e w=>∃ r:Array Value,e=.returned (.agg r)∧K r w
abbrev qxm (f:Nat) (a:List Value) (w:World) (K:Bool→World→Prop):Prop:=Calls Tryz.prog f ⟨a⟩ w fun e w=>∃ r:Bool,e=.returned (.bool r)∧K r w
abbrev cr_P (f:Nat) (a:List Value) (w:World) (K:Option Addr→World→Prop):Prop:=Calls Tryz.prog f ⟨a⟩ w fun e w=>∃ r:Option Addr,e=.returned (.pointer r)∧K r w
abbrev ct_ (f:Nat) (a:List Value) (w:World) (K:World→Prop):Prop:=Calls Tryz.prog f ⟨a⟩ w fun e w=>e=.returned (.tuple ⟨[]⟩)∧K w
abbrev qyb (f:Nat) (a:List Value) (w:World) (K:Sl→Int→World→Prop):Prop:=Calls Tryz.prog f ⟨a⟩ w fun e w=>∃ r0:Sl,∃ r1:Int,e=.returned (.tuple ⟨[.slice r0.a r0.len r0.cap,.int .i64 r1]⟩)∧K r0 r1 w
abbrev ct_PI (f:Nat) (a:List Value) (w:World) (K:Option Addr→Int→World→Prop):Prop:=Calls Tryz.prog f ⟨a⟩ w fun e w=>∃ r0:Option Addr,∃ r1:Int,e=.returned (.tuple ⟨[.pointer r0,.int .i64 r1]⟩)∧K r0 r1 w
abbrev ct_GI (f:Nat) (a:List Value) (w:World) (K:Array Value→Int→World→Prop):Prop:=Calls Tryz.prog f ⟨a⟩ w fun e w=>∃ r0:Array Value,∃ r1:Int,e=.returned (.tuple ⟨[.agg r0,.int .i64 r1]⟩)∧K r0 r1 w
abbrev ct_IB (f:Nat) (a:List Value) (w:World) (K:Int→Bool→World→Prop):Prop:=Calls Tryz.prog f ⟨a⟩ w fun e w=>∃ r0:Int,∃ r1:Bool,e=.returned (.tuple ⟨[.int .i64 r0,.bool r1]⟩)∧K r0 r1 w
abbrev ct_LB (f:Nat) (a:List Value) (w:World) (K:Sl→Bool→World→Prop):Prop:=Calls Tryz.prog f ⟨a⟩ w fun e w=>∃ r0:Sl,∃ r1:Bool,e=.returned (.tuple ⟨[.slice r0.a r0.len r0.cap,.bool r1]⟩)∧K r0 r1 w
abbrev ct_GB (f:Nat) (a:List Value) (w:World) (K:Array Value→Bool→World→Prop):Prop:=Calls Tryz.prog f ⟨a⟩ w fun e w=>∃ r0:Array Value,∃ r1:Bool,e=.returned (.tuple ⟨[.agg r0,.bool r1]⟩)∧K r0 r1 w
abbrev sL (n:Nat):Nat × Kd:=(n,.L)
abbrev sI (n:Nat):Nat × Kd:=(n,.I .i64)
abbrev sP (n:Nat):Nat × Kd:=(n,.P)
abbrev sA (n:Nat):Nat × Kd:=(n,.A)
abbrev sB (n:Nat):Nat × Kd:=(n,.B)
theorem qvb {f:FuncId} {fn:Func} {c:Code} {N:Nat} {args:List Value} {w:World} {Q:VWP} {A:Prop} (rs:List ResultVar) (hm:P.follows .mixedOrders=true)
 (hf:P.funcs[f]?=some fn) (hb:fn.body=some c) (hN:fn.ntmps=N) (hle:Nat.ble args.length N=true) (hrs:fn.results.toList=rs)
 (p:Pl) (e:(A,lhs p)=(plW P N p c { norm:=retK P rs Q,ret:=retK P rs Q,ex:=[] } (args0 args) w,rhs P N p c { norm:=retK P rs Q,ret:=retK P rs Q,ex:=[] })) (h:A):Calls P f ⟨args⟩ w (Ret Q):=by
 injection e with e1 e2
 rw [e1] at h
 exact calls_of_wpc rs hf hb hN hle hrs (pl_sound hm p c e2 h)
end
end Go.Proofs.YtonmgkkkiejicaaGreat
namespace Go.Proofs.YtonmgkkkiejicaaGreat
open Go Go.Proofs
set_option linter.unusedVariables false
set_option maxRecDepth 100000
def qte (s_0 prefix_1:ByteArray) (Q:VWP) (w:World):Prop :=
 qxm 58 [.string s_0,.string prefix_1] w fun r3 w2 =>
 Q (.bool r3) w2
theorem qte.ok (s_0:ByteArray) (prefix_1:ByteArray) (Q:VWP) (w:World) (h:qte s_0 prefix_1 Q w):Calls Tryz.prog 30 ⟨[.string s_0,.string prefix_1]⟩ w (Ret Q) :=
 qvb [.tmp 4] qkd Tryz.func30 rfl rfl rfl rfl .lf (by kernel_rfl) h
def qoc (s_0 prefix_1:ByteArray) (Q:VWP) (w:World):Prop :=
 br (decide (((ByteArray.size s_0:Int):Int) ≥ (ByteArray.size prefix_1:Int))) (
 bd (ByteArray.size prefix_1:Int) (ByteArray.size s_0) fun n1 =>
 lt (ByteArray.extract s_0 0 n1) fun x2 =>
 Q (.bool (ByteArray.toList x2 == ByteArray.toList prefix_1)) w) (
 Q (.bool false) w)
theorem qoc.ok (s_0:ByteArray) (prefix_1:ByteArray) (Q:VWP) (w:World) (h:qoc s_0 prefix_1 Q w):Calls Tryz.prog 58 ⟨[.string s_0,.string prefix_1]⟩ w (Ret Q) :=
 qvb [.tmp 4] qkd Tryz.func58 rfl rfl rfl rfl .lf (by kernel_rfl) h
def qrf (a_0 b_1:Sl) (Q:VWP) (w:World):Prop :=
 btS w a_0.a a_0.len fun x1 =>
 btS w b_1.a b_1.len fun x2 =>
 Q (.bool (ByteArray.toList x1 == ByteArray.toList x2)) w
theorem qrf.ok (a_0:Sl) (b_1:Sl) (Q:VWP) (w:World) (h:qrf a_0 b_1 Q w):Calls Tryz.prog 32 ⟨[sV a_0,sV b_1]⟩ w (Ret Q) :=
 qvb [.tmp 4] qkd Tryz.func32 rfl rfl rfl rfl .lf (by kernel_rfl) h
def qye (a_0 b_1:Sl) (Q:VWP) (w:World):Prop :=
 ∃ r3:Int,∃ w2:World,cfR Tryz.prog 109 [sV a_0,sV b_1] w (.int .i64 r3) w2 ∧
 Q (.int .i64 r3) w2
theorem qye.ok (a_0:Sl) (b_1:Sl) (Q:VWP) (w:World) (h:qye a_0 b_1 Q w):Calls Tryz.prog 97 ⟨[sV a_0,sV b_1]⟩ w (Ret Q) :=
 qvb [.tmp 4] qkd Tryz.func97 rfl rfl rfl rfl .lf (by kernel_rfl) h
def qo.j4 (newslice_6:Sl) (Q:VWP) (w:World):Prop :=
 Q (sV newslice_6) w
def qo.b1 (t25:Sl) (t26:Int) (newslice_6:Sl) (t27:Int) (Q:VWP) (nx1:Sl→Int→Sl→Int→WP) (w:World):Prop :=
 br (decide (t27 < t26)) (
 ixS t25.a t25.len t27 1 fun a1 =>
 ldL w a1 fun x2 =>
 rdO w x2.a (x2.len * 1) fun c3 =>
 apK Tryz.prog 5 w newslice_6.a newslice_6.len newslice_6.cap x2.len c3 fun s4 w5 =>
 lt (IntKind.i64.wrap (t27+1)) fun x6 =>
 nx1 t25 t26 s4 x6 w5) (
 qo.j4 newslice_6 Q w)
def qo.l1 (t25:Sl) (t26:Int) (newslice_6:Sl) (t27:Int) (Q:VWP) (w:World):Prop :=
 ∃ (I:Sl→Int→WP) (μ:Sl→Int→World→Nat),I newslice_6 t27 w∧∀ newslice_6:Sl,∀ t27:Int,∀ w:World,I newslice_6 t27 w→qo.b1 t25 t26 newslice_6 t27 Q (fun t25' t26' newslice_6' t27' w'=>(t25'=t25∧t26'=t26)∧I newslice_6' t27' w'∧μ newslice_6' t27' w' < μ newslice_6 t27 w) w
def qo.j5 (newslice_6 t25:Sl) (t26:Int) (t27:Int) (Q:VWP) (w:World):Prop :=
 qo.l1 t25 t26 newslice_6 t27 Q w
def qo.j3 (slices_0 newslice_6:Sl) (Q:VWP) (w:World):Prop :=
 qo.j5 newslice_6 slices_0 (slices_0.len:Int) 0 Q w
def qo.j2 (slices_0:Sl) (size_3:Int) (Q:VWP) (w:World):Prop :=
 qqf 54 [.slice none 0 0,.int .i64 size_3] w fun r9 w8 =>
 qo.j3 slices_0 r9 Q w8
def qo.b2 (slices_0 t9:Sl) (t10:Int) (size_3 t11:Int) (Q:VWP) (nx2:Sl→Sl→Int→Int→Int→WP) (w:World):Prop :=
 br (decide (t11 < t10)) (
 ixS t9.a t9.len t11 1 fun a10 =>
 ldL w a10 fun x11 =>
 lt (IntKind.i64.wrap (size_3+(x11.len:Int))) fun x12 =>
 br (decide (x12 < 0)) (
 False) (
 lt (IntKind.i64.wrap (t11+1)) fun x13 =>
 nx2 slices_0 t9 t10 x12 x13 w)) (
 qo.j2 slices_0 size_3 Q w)
def qo.l2 (slices_0 t9:Sl) (t10:Int) (size_3 t11:Int) (Q:VWP) (w:World):Prop :=
 ∃ (I:Int→Int→WP) (μ:Int→Int→World→Nat),I size_3 t11 w∧∀ size_3:Int,∀ t11:Int,∀ w:World,I size_3 t11 w→qo.b2 slices_0 t9 t10 size_3 t11 Q (fun slices_0' t9' t10' size_3' t11' w'=>(slices_0'=slices_0∧t9'=t9∧t10'=t10)∧I size_3' t11' w'∧μ size_3' t11' w' < μ size_3 t11 w) w
def qo.j6 (slices_0:Sl) (size_3:Int) (t9:Sl) (t10:Int) (t11:Int) (Q:VWP) (w:World):Prop :=
 qo.l2 slices_0 t9 t10 size_3 t11 Q w
def qo.j1 (slices_0:Sl) (size_3:Int) (Q:VWP) (w:World):Prop :=
 qo.j6 slices_0 size_3 slices_0 (slices_0.len:Int) 0 Q w
def qo (slices_0:Sl) (Q:VWP) (w:World):Prop :=
 qo.j1 slices_0 0 Q w
theorem qo.ok (slices_0:Sl) (Q:VWP) (w:World) (h:qo slices_0 Q w):Calls Tryz.prog 26 ⟨[sV slices_0]⟩ w (Ret Q) :=
 qvb [.tmp 2] qkd Tryz.func26 rfl rfl rfl rfl (.pr 1 [sL 0,sI 3] (fun a b w=>qo.j1 a b Q w) (.sq [sL 0,sI 3] (fun a b w=>qo.j2 a b Q w) (.sq [sL 0,sI 3,sL 9,sI 10,sI 11] (fun a b c d e w=>qo.j6 a b c d e Q w) .lf (.bk (.lo [sL 0,sL 9,sI 10] [sI 3,sI 11] (fun a b c d e w=>qo.l2 a b c d e Q w) (fun nx2 a b c d e w=>qo.b2 a b c d e Q nx2 w) fun nx2=>.lf))) (.sq [sL 0,sL 6] (fun a b w=>qo.j3 a b Q w) .lf (.sq [sL 6] (fun a w=>qo.j4 a Q w) (.sq [sL 6,sL 25,sI 26,sI 27] (fun a b c d w=>qo.j5 a b c d Q w) .lf (.bk (.lo [sL 25,sI 26] [sL 6,sI 27] (fun a b c d w=>qo.l1 a b c d Q w) (fun nx1 a b c d w=>qo.b1 a b c d Q nx1 w) fun nx1=>.lf))) .lf)))) (by kernel_rfl) h
def qsd (s_0:Sl) (n_1:Int) (Q:VWP) (w:World):Prop :=
 br (decide (n_1 < 0)) (
 False) (
 lt (IntKind.i64.wrap ((s_0.cap:Int) - (s_0.len:Int))) fun x1 =>
 lt (IntKind.i64.wrap (n_1 - x1)) fun x2 =>
 br (decide (x2 > 0)) (
 bd (s_0.cap:Int) s_0.cap fun n3 =>
 lt (⟨qfe s_0.a s_0.cap 0 1,n3 - 0,s_0.cap - 0⟩:Sl) fun s4 =>
 zrK Tryz.prog 5 s4.len x2 fun c5 =>
 apK Tryz.prog 5 w s4.a s4.len s4.cap (Int.toNat x2) c5 fun s6 w7 =>
 bd (s_0.len:Int) s6.cap fun n8 =>
 lt (⟨qfe s6.a s6.cap 0 1,n8 - 0,s6.cap - 0⟩:Sl) fun s9 =>
 Q (sV s9) w7) (
 Q (sV s_0) w))
theorem qsd.ok (s_0:Sl) (n_1:Int) (Q:VWP) (w:World) (h:qsd s_0 n_1 Q w):Calls Tryz.prog 54 ⟨[sV s_0,.int .i64 n_1]⟩ w (Ret Q) :=
 qvb [.tmp 4] qkd Tryz.func54 rfl rfl rfl rfl .lf (by kernel_rfl) h
def qce (s_0:Sl) (Q:VWP) (w:World):Prop :=
 br (Option.isNone s_0.a) (
 Q (.slice none 0 0) w) (
 nw w ⟨[]⟩ 39 fun a1 w2 =>
 rdO w2 s_0.a (s_0.len * 20) fun c3 =>
 apK Tryz.prog 39 w2 (some a1) 0 0 s_0.len c3 fun s4 w5 =>
 Q (sV s4) w5)
theorem qce.ok (s_0:Sl) (Q:VWP) (w:World) (h:qce s_0 Q w):Calls Tryz.prog 73 ⟨[sV s_0]⟩ w (Ret Q) :=
 qvb [.tmp 2] qkd Tryz.func73 rfl rfl rfl rfl .lf (by kernel_rfl) h
end Go.Proofs.YtonmgkkkiejicaaGreat
namespace Go.Proofs.YtonmgkkkiejicaaGreat
open Go Go.Proofs
set_option linter.unusedVariables false
set_option linter.unusedSimpArgs false
def Blk (w:World) (b:Nat) (l:List Value):Prop:=∃ t,w.heap[b]?=some (.cells ⟨l⟩ t (0,0))
structure Mod (F:List Nat) (w w':World):Prop where
 os:w'.os=w.os
 tape:w'.tape=w.tape
 output:w'.output=w.output
 size:w.heap.size≤w'.heap.size
 frame:∀ b,b < w.heap.size→b ∉ F→w'.heap[b]?=w.heap[b]?
theorem Mod.refl (F:List Nat) (w:World):Mod F w w:=⟨rfl,rfl,rfl,Nat.le_refl _,fun _ _ _=>rfl⟩
theorem Mod.trans {F G:List Nat} {a b c:World} (h:Mod F a b) (k:Mod G b c) (hG:∀ x ∈ G,x ∈ F ∨ a.heap.size≤x):Mod F a c :=
 ⟨k.os.trans h.os,k.tape.trans h.tape,k.output.trans h.output,Nat.le_trans h.size k.size,fun x hx hF=>by
   rw [k.frame x (Nat.lt_of_lt_of_le hx h.size) (fun hg=>by rcases hG x hg with h1 | h1; exact hF h1; omega),h.frame x hx hF]⟩
theorem Mod.mono {F G:List Nat} {a b:World} (h:Mod F a b) (hG:∀ x ∈ F,x ∈ G ∨ a.heap.size≤x):Mod G a b :=
 ⟨h.os,h.tape,h.output,h.size,fun x hx hF=>h.frame x hx fun hf=>by rcases hG x hf with h1 | h1; exact hF h1; omega⟩
theorem Mod.below {F:List Nat} {n:Nat} {w w':World} (h:Mod F w w') (hn:n≤w.heap.size) (hF:∀ x ∈ F,n≤x):Go.RowKit.Below n w w' :=
 ⟨h.os,h.tape,h.output,h.size,fun k hk=>h.frame k (by omega) fun hm=>by have:=hF k hm; omega⟩
theorem Blk.lt {w:World} {b:Nat} {l:List Value} (h:Blk w b l):b < w.heap.size:=by
 obtain ⟨t,h⟩:=h
 exact (Array.getElem?_eq_some_iff.1 h).1
theorem Blk.keep {F:List Nat} {w w':World} {b:Nat} {l:List Value} (h:Blk w b l) (m:Mod F w w') (hb:b ∉ F):Blk w' b l:=by
 have hl:=h.lt
 obtain ⟨t,h⟩:=h
 exact ⟨t,by rw [m.frame b hl hb]; exact h⟩
theorem Blk.cell {w:World} {b:Nat} {l:List Value} (h:Blk w b l) (o:Nat):w.cell? ⟨b,o,none⟩=l[o]?:=by
 obtain ⟨t,h⟩:=h
 simp [World.cell?,h]
theorem Blk.free {w:World} {b:Nat} {l:List Value} (h:Blk w b l) (o:Nat):w.frozen? ⟨b,o,none⟩=false:=by
 obtain ⟨t,h⟩:=h
 simp [World.frozen?,h]
theorem Blk.set {w:World} {b:Nat} {l:List Value} (h:Blk w b l) (o:Nat) (v:Value):Blk (w.setCell ⟨b,o,none⟩ v) b (l.set o v):=by
 obtain ⟨t,h⟩:=h
 refine ⟨t,?_⟩
 simp only [World.setCell,Array.getElem?_modify,if_true,h,Option.map_some]
 simp
theorem Blk.shape {w:World} {b:Nat} {l:List Value} (h:Blk w b l):∃ t,w.shape? b=some (t,l.length):=by
 obtain ⟨t,h⟩:=h
 exact ⟨t,by simp [World.shape?,h]⟩
theorem Mod.setCell (w:World) (b o:Nat) (v:Value):Mod [b] w (w.setCell ⟨b,o,none⟩ v) :=
 ⟨rfl,rfl,rfl,by simp,fun x hx hF=>by
   simp only [World.setCell,Array.getElem?_modify]
   rw [if_neg]
   intro h
   exact hF (by simp [h])⟩
theorem Mod.drew (w:World):Mod [] w w.drew:=⟨rfl,rfl,rfl,Nat.le_refl _,fun _ _ _=>rfl⟩
theorem Mod.alloc (w:World) (o:Obj):Mod [] w (w.alloc o):=⟨rfl,rfl,rfl,by simp,fun x hx _=>qhh w o x hx⟩
theorem Blk.new (w:World) (l:List Value) (t:TypeId):Blk (w.alloc (.cells ⟨l⟩ t)) w.heap.size l:=⟨t,by
 show (w.heap.push _)[w.heap.size]?=_
 rw [Array.getElem?_push_size]⟩
def over (l:List Value) (o:Nat):List Value→List Value
 | []=>l
 | v :: r=>over (l.set o v) (o+1) r
theorem over_eq (vs:List Value):∀ (l:List Value) (o:Nat),o+vs.length≤l.length→over l o vs=l.take o ++ vs ++ l.drop (o+vs.length):=by
 induction vs with
 | nil=>intro l o _; simp [over]
 | cons v r ih =>
   intro l o h
   simp only [List.length_cons] at h
   rw [over,ih _ _ (by simp; omega)]
   apply List.ext_getElem?
   intro i
   simp only [List.getElem?_append,List.length_append,List.length_take,List.length_set,List.length_cons]
   by_cases h1:i < o
   · have:i < min (o+1) l.length:=by omega
     have h2:i < min o l.length:=by omega
     have h3:i < min (o+1) l.length+r.length:=by omega
     have h4:i < min o l.length+(r.length+1):=by omega
     simp [h1,this,h2,h3,h4,List.getElem?_take,List.getElem?_set,show ¬ o=i by omega,show i < o+1 by omega]
   · by_cases h2:i=o
     · subst h2
       have a1:i < min (i+1) l.length:=by omega
       have a2:¬ i < min i l.length:=by omega
       have a3:i < min (i+1) l.length+r.length:=by omega
       have a4:i < min i l.length+(r.length+1):=by omega
       have a5:i - min i l.length=0:=by omega
       simp [a1,a2,a3,a4,a5,List.getElem?_take,show i < l.length by omega]
     · have b1:¬ i < min (o+1) l.length:=by omega
       have b2:¬ i < min o l.length:=by omega
       have e1:min (o+1) l.length=o+1:=by omega
       have e2:min o l.length=o:=by omega
       rw [e1,e2]
       by_cases h3:i < o+(r.length+1)
       · have c1:i < o+1+r.length:=by omega
         have c2:¬ i < o+1:=by omega
         rw [if_pos c1,if_neg c2,if_pos h3,if_neg h1]
         rw [show i - o=(i - (o+1))+1 by omega]
         simp
       · have c1:¬ i < o+1+r.length:=by omega
         rw [if_neg c1,if_neg h3]
         simp only [List.getElem?_drop]
         rw [List.getElem?_set,if_neg (by omega)]
         congr 1
         omega
theorem Blk.putAll {b:Nat}:∀ (vs:List Value) {w:World} {l:List Value} (o i:Nat),Blk w b l→Blk (putAll w ⟨b,o,none⟩ vs i) b (over l (o+i) vs)∧Mod [b] w (putAll w ⟨b,o,none⟩ vs i)
 | [],w,l,o,i,h=>⟨h,Mod.refl _ _⟩
 | v :: r,w,l,o,i,h=>by
   have ha:(⟨b,o,none⟩:Addr).add i=⟨b,o+i,none⟩:=by unfold Addr.add; split <;> simp_all
   unfold Go.Proofs.YtonmgkkkiejicaaGreat.putAll over
   rw [ha]
   obtain ⟨h1,h2⟩:=Blk.putAll r o (i+1) (h.set (o+i) v)
   rw [show o+(i+1)=o+i+1 by omega] at h1
   exact ⟨h1,(Mod.setCell w b (o+i) v).trans h2 (fun x hx=>Or.inl hx)⟩
theorem qmb (b o n:Nat):(⟨b,o,none⟩:Addr).add n=⟨b,o+n,none⟩:=by unfold Addr.add; split <;> simp_all
structure Hp (w0 w:World) (m:List (Nat × List Value)):Prop where
 mod:Mod (m.map (·.1)) w0 w
 blk:∀ p ∈ m,Blk w p.1 p.2
 nodup:(m.map (·.1)).Nodup
theorem Hp.start {w:World} {m:List (Nat × List Value)} (hb:∀ p ∈ m,Blk w p.1 p.2) (hn:(m.map (·.1)).Nodup):Hp w w m:=⟨Mod.refl _ _,hb,hn⟩
section
variable {w0 w:World} {m:List (Nat × List Value)} {b o:Nat} {l:List Value}
theorem Hp.drew (h:Hp w0 w m):Hp w0 w.drew m:=⟨h.mod.trans (Mod.drew w) (fun _ hx=>by cases hx),h.blk,h.nodup⟩
theorem Hp.alloc (h:Hp w0 w m) (l:List Value) (t:TypeId):Hp w0 (w.alloc (.cells ⟨l⟩ t)) ((w.heap.size,l) :: m):=by
 refine ⟨?_,?_,?_⟩
 · have h1:=h.mod.trans (Mod.alloc w (.cells ⟨l⟩ t)) (fun _ hx=>by cases hx)
   exact h1.mono fun x hx=>Or.inl (by simp [hx])
 · intro p hp
   rcases List.mem_cons.1 hp with rfl | hp
   · exact Blk.new w l t
   · exact (h.blk p hp).keep (Mod.alloc w _) (by simp)
 · rw [List.map_cons,List.nodup_cons]
   refine ⟨fun hm=>?_,h.nodup⟩
   rw [List.mem_map] at hm
   obtain ⟨p,hp,he⟩:=hm
   have:=(h.blk p hp).lt
   omega
theorem Hp.get (h:Hp w0 w m) (hm:(b,l) ∈ m):Blk w b l:=h.blk _ hm
theorem Hp.keep {F:List Nat} {w':World} (h:Hp w0 w m) (hm:Mod F w w') (hF:∀ x ∈ F,x ∉ m.map (·.1)∧w0.heap.size≤x):Hp w0 w' m :=
 ⟨h.mod.trans hm fun x hx=>Or.inr (hF x hx).2,fun p hp=>(h.blk p hp).keep hm fun hx=>(hF _ hx).1 (List.mem_map_of_mem hp),h.nodup⟩
end
section
variable {w0 w:World} {m:List (Nat × List Value)} {b o:Nat} {l:List Value}
theorem qgd {a:Addr} {K:Addr→Prop} (h:K a):nz (some a) K:=h
theorem qjc {α:Type} {e:α} {K:α→Prop} (h:K e):lt e K:=h
theorem qx {α:Type} {e e':α} {K:α→Prop} (he:e=e') (h:K e'):lt e K:=by subst he; exact h
theorem qsc {p:Prop} [Decidable p] {A B:Prop} (ht:p→A) (hf:¬ p→B):br (decide p) A B:=by
 by_cases h:p
 · simp only [h,decide_true]; exact ht h
 · simp only [h,decide_false]; exact hf h
theorem qmd {b:Bool} {A B:Prop} (ht:b=true→A) (hf:b=false→B):br b A B:=by
 cases b
 · exact hf rfl
 · exact ht rfl
theorem Blk.ldI {k:IntKind} {n:Int} {K:Int→Prop} (h:Blk w b l) (hv:l[o]?=some (.int k n)) (hk:K n):ldI k w ⟨b,o,none⟩ K:=⟨n,by rw [h.cell]; exact hv,hk⟩
theorem Blk.ldB {n:Bool} {K:Bool→Prop} (h:Blk w b l) (hv:l[o]?=some (.bool n)) (hk:K n):ldB w ⟨b,o,none⟩ K:=⟨n,by rw [h.cell]; exact hv,hk⟩
theorem Blk.ldP {n:Option Addr} {K:Option Addr→Prop} (h:Blk w b l) (hv:l[o]?=some (.pointer n)) (hk:K n):ldP w ⟨b,o,none⟩ K:=⟨n,by rw [h.cell]; exact hv,hk⟩
theorem Blk.ldL {n:Sl} {K:Sl→Prop} (h:Blk w b l) (hv:l[o]?=some (.slice n.a n.len n.cap)) (hk:K n):ldL w ⟨b,o,none⟩ K:=⟨n,by rw [h.cell]; exact hv,hk⟩
theorem Blk.ldS {n:ByteArray} {K:ByteArray→Prop} (h:Blk w b l) (hv:l[o]?=some (.string n)) (hk:K n):ldS w ⟨b,o,none⟩ K:=⟨n,by rw [h.cell]; exact hv,hk⟩
theorem Blk.ldM {n:Option Nat} {K:Option Nat→Prop} (h:Blk w b l) (hv:l[o]?=some (.map n)) (hk:K n):ldM w ⟨b,o,none⟩ K:=⟨n,by rw [h.cell]; exact hv,hk⟩
theorem Blk.ldA {n:Nat} {cs:Array Value} {K:Array Value→Prop} (h:Blk w b l) (hs:cs.size=n) (hv:∀ i,i < n→l[o+i]?=cs[i]?) (hk:K cs):ldA w ⟨b,o,none⟩ n K :=
 ⟨cs,hs,fun i hi=>by rw [qmb,h.cell]; exact hv i hi,hk⟩
theorem Blk.st {v:Value} {K:World→Prop} (h:Blk w b l) (ho:o < l.length) (hs:qec v) (hk:∀ w',Mod [b] w w'→Blk w' b (l.set o v)→K w'):st w ⟨b,o,none⟩ v K :=
 ⟨hs,⟨l[o],by rw [h.cell,List.getElem?_eq_getElem ho]⟩,h.free o,hk _ (Mod.setCell w b o v) (h.set o v)⟩
theorem stA_blk {cs:Array Value} {K:World→Prop} (h:Blk w b l) (ho:o+cs.size≤l.length) (hs:∀ v ∈ cs,qec v) (hk:∀ w',Mod [b] w w'→Blk w' b (l.take o ++ cs.toList ++ l.drop (o+cs.size))→K w'):stA w ⟨b,o,none⟩ cs K:=by
 refine ⟨fun i hi=>?_,hs,?_⟩
 · rw [qmb,h.cell,List.getElem?_eq_getElem (by omega)]
   exact ⟨⟨_,rfl⟩,h.free _⟩
 · obtain ⟨h1,h2⟩:=Blk.putAll cs.toList o 0 h
   rw [Nat.add_zero,over_eq _ _ _ (by simpa using ho)] at h1
   exact hk _ h2 (by simpa using h1)
theorem Hp.new {t:TypeId} {cs:Array Value} {K:Addr→World→Prop} (h:Hp w0 w m) (hk:∀ nb w',w0.heap.size≤nb→Hp w0 w' ((nb,cs.toList) :: m)→K ⟨nb,0,none⟩ w') :
 lt (⟨World.heapSize w,0,none⟩:Addr) fun a=>lt (World.alloc w (.cells cs t)) fun w'=>K a w' :=
 hk _ _ h.mod.size (h.alloc cs.toList t)
end
def Own (sz:Nat) (w:World) (s:Sl) (cs:List Value) (F:List Nat):Prop :=
 (s=⟨none,0,0⟩∧cs=[]∧F=[]) ∨ ∃ ob rest,s.a=some ⟨ob,0,none⟩∧Blk w ob (cs ++ rest)∧cs.length=s.len * sz∧(cs ++ rest).length=s.cap * sz∧F=[ob]
def Gr (n:Nat) (F F':List Nat):Prop:=∀ x ∈ F',x ∈ F ∨ n≤x
theorem Gr.refl (n:Nat) (F:List Nat):Gr n F F:=fun _ h=>Or.inl h
theorem Gr.trans {n n':Nat} {F G H:List Nat} (h:Gr n F G) (k:Gr n' G H) (hn:n≤n'):Gr n F H:=fun x hx=>by
 rcases k x hx with h1 | h1
 · exact h x h1
 · exact Or.inr (by omega)
theorem Own.lt {sz:Nat} {w:World} {s:Sl} {cs:List Value} {F:List Nat} (h:Own sz w s cs F):∀ x ∈ F,x < w.heap.size:=by
 rcases h with ⟨_,_,rfl⟩ | ⟨ob,rest,_,hb,_,_,rfl⟩
 · intro x hx; cases hx
 · intro x hx
   have:x=ob:=by simpa using hx
   subst this; exact hb.lt
theorem Own.keep {sz:Nat} {w w':World} {s:Sl} {cs:List Value} {F G:List Nat} (h:Own sz w s cs F) (m:Mod G w w') (hd:∀ x ∈ F,x ∉ G):Own sz w' s cs F:=by
 rcases h with h | ⟨ob,rest,h1,hb,h2,h3,rfl⟩
 · exact Or.inl h
 · exact Or.inr ⟨ob,rest,h1,hb.keep m (hd ob (by simp)),h2,h3,rfl⟩
theorem Own.len {sz:Nat} {w:World} {s:Sl} {cs:List Value} {F:List Nat} (h:Own sz w s cs F):cs.length=s.len * sz:=by
 rcases h with ⟨rfl,rfl,_⟩ | ⟨ob,rest,_,_,h2,_,_⟩
 · simp
 · exact h2
theorem Own.cell {sz:Nat} {w:World} {s:Sl} {cs:List Value} {F:List Nat} (h:Own sz w s cs F) {i:Nat} (hi:i < cs.length):∃ ob,s.a=some ⟨ob,0,none⟩∧w.cell? ⟨ob,i,none⟩=cs[i]?:=by
 rcases h with ⟨rfl,rfl,_⟩ | ⟨ob,rest,h1,hb,_,_,_⟩
 · simp at hi
 · exact ⟨ob,h1,by rw [hb.cell,List.getElem?_append_left hi]⟩
theorem Own.rdO {sz k:Nat} {w:World} {s:Sl} {cs:List Value} {F:List Nat} {K:Array Value→Prop} (h:Own sz w s cs F) (hk:k=cs.length) (hK:K ⟨cs⟩):rdO w s.a k K:=by
 subst hk
 rcases h with ⟨rfl,rfl,_⟩ | ⟨ob,rest,h1,hb,_,_,_⟩
 · exact ⟨rfl,hK⟩
 · rw [h1]
   refine ⟨⟨cs⟩,rfl,fun i hi=>?_,hK⟩
   rw [qmb,hb.cell,Nat.zero_add,List.getElem?_append_left hi]
   simp
theorem next_le (n c:Nat) (h:c < n) (hc:c≤n):Builtin.nextslicecap n c≤2 * n+1024:=by
 unfold Builtin.nextslicecap
 split
 · omega
 · split
   · omega
   · have grow:∀ (r c:Nat),c≤n→Builtin.growBy n r c≤2 * n+1024:=by
      intro r
      induction r with
      | zero=>intro c hc; simp [Builtin.growBy]; omega
      | succ r ih =>
        intro c hc
        unfold Builtin.growBy
        split
        · omega
        · by_cases h2:c+(c+768) / 4≤n
          · exact ih _ h2
          · have:∀ (r c:Nat),n < c→Builtin.growBy n r c=c:=by
             intro r c hc
             cases r with
             | zero=>rfl
             | succ r=>unfold Builtin.growBy; rw [if_pos (by omega)]
            rw [this _ _ (by omega)]
            omega
     exact grow 4 c (by omega)
theorem Own.append {P:Program} {elem:TypeId} {i:TypeInfo} {sz m:Nat} {w:World} {s:Sl} {cs:List Value} {F:List Nat} {new:Array Value} {K:Sl→World→Prop}
 (hi:P.info? elem=some i) (hsz:i.size=sz) (hsz0:0 < sz) (hz:(zc P elem).size=sz) (hb0:i.bytes ≠ 0) (hb:(2 * (s.len+m)+1024) * i.bytes≤2 ^ 48)
 (h:Own sz w s cs F) (hn:new.size=m * sz) (hst:∀ v ∈ new,qec v)
 (hk:∀ s' w' F',Own sz w' s' (cs ++ new.toList) F'→Mod F w w'→Gr w.heap.size F F'→s'.len=s.len+m→K s' w') :
 apK P elem w s.a s.len s.cap m new K:=by
 have hbo:P.bytesOf elem=i.bytes:=by simp [Program.bytesOf,hi]
 unfold apK withSz
 simp only [hi,hsz]
 have hgrow:∀ (old:List Value),old.length=s.len * sz→cs=old→s.len+m > s.cap→s.cap≤s.len+m→∀ c,s.len+m≤c →
  K ⟨newAt w,s.len+m,c⟩ (w.drew.alloc (.cells ((⟨old⟩:Array Value) ++ new ++ ⟨qmg (c - (s.len+m)) (zc P elem).toList⟩) elem)):=by
  intro old hold hcs _ _ c hc
  subst hcs
  have hbl:=Blk.new w.drew (cs ++ new.toList ++ qmg (c - (s.len+m)) (zc P elem).toList) elem
  have e:((⟨cs⟩:Array Value) ++ new ++ ⟨qmg (c - (s.len+m)) (zc P elem).toList⟩)=⟨cs ++ new.toList ++ qmg (c - (s.len+m)) (zc P elem).toList⟩:=by
   apply Array.ext'
   simp
  rw [e]
  refine hk _ _ [w.heap.size] (Or.inr ⟨w.heap.size,_,rfl,hbl,?_,?_,rfl⟩) ?_ ?_ rfl
  · simp [hold,hn,Nat.add_mul]
  · rw [List.length_append,List.length_append,qde,hold]
    have:(zc P elem).toList.length=sz:=by simpa using hz
    rw [this]
    simp only [Array.length_toList,hn]
    rw [← Nat.add_mul,← Nat.add_mul]
    congr 1
    omega
  · exact ((Mod.drew w).trans (Mod.alloc w.drew _) (fun _ hx=>by cases hx)).mono (fun _ hx=>by cases hx)
  · intro x hx
    have:x=w.heap.size:=by simpa using hx
    exact Or.inr (by omega)
 rcases h with ⟨rfl,rfl,rfl⟩ | ⟨ob,rest,h1,hbk,h2,h3,rfl⟩
 · split
   · rename_i hle
     have hm0:m=0:=by simpa using hle
     subst hm0
     have:new=#[]:=by
      apply Array.eq_empty_of_size_eq_zero
      simpa using hn
     subst this
     exact hk ⟨none,0,0⟩ w [] (Or.inl ⟨rfl,rfl,rfl⟩) (Mod.refl _ _) (Gr.refl _ _) rfl
   · rename_i hle
     refine ⟨⟨?_,by rw [hbo]; exact hb0⟩,⟨by simp,?_⟩⟩
     · rw [hbo]
       have:=next_le (0+m) 0 (by simp at hle ⊢; omega) (by omega)
       exact Nat.le_trans (Nat.mul_le_mul_right _ this) hb
     · exact hgrow [] (by simp) rfl (by simp at hle ⊢; omega) (by simp)
 · have hcap:s.len≤s.cap:=by
    have:=@List.length_append _ cs rest
    have h4:s.len * sz≤s.cap * sz:=by omega
    exact Nat.le_of_mul_le_mul_right h4 hsz0
   split
   · rename_i hle
     rw [h1]
     have ha:(⟨ob,0,none⟩:Addr).add (s.len * sz)=⟨ob,s.len * sz,none⟩:=by rw [qmb,Nat.zero_add]
     show stA w ((⟨ob,0,none⟩:Addr).add (s.len * sz)) new _
     rw [ha]
     have hle2:s.len * sz+m * sz≤s.cap * sz:=by rw [← Nat.add_mul]; exact Nat.mul_le_mul_right _ hle
     refine stA_blk hbk (by rw [hn]; omega) hst fun w' hm hb'=>?_
     rw [← h2,List.take_left' rfl,hn,List.drop_append,List.drop_of_length_le (by omega),List.nil_append,show cs.length+m * sz - cs.length=m * sz by omega] at hb'
     refine hk ⟨some ⟨ob,0,none⟩,s.len+m,s.cap⟩ w' [ob] (Or.inr ⟨ob,rest.drop (m * sz),rfl,hb',?_,?_,rfl⟩) hm (Gr.refl _ _) rfl
     · simp [h2,hn,Nat.add_mul]
     · simp only [List.length_append,List.length_drop,Array.length_toList,hn]
       rw [List.length_append] at h3
       omega
   · rename_i hle
     refine ⟨⟨?_,by rw [hbo]; exact hb0⟩,?_⟩
     · rw [hbo]
       have:=next_le (s.len+m) s.cap (by omega) (by omega)
       exact Nat.le_trans (Nat.mul_le_mul_right _ this) hb
     · rw [h1]
       refine ⟨⟨cs⟩,by simpa using h2,fun j hj=>?_,hgrow cs h2 rfl (by omega) (by omega)⟩
       rw [qmb,hbk.cell,Nat.zero_add,List.getElem?_append_left (by omega)]
       simp
end Go.Proofs.YtonmgkkkiejicaaGreat
namespace Go.Proofs.YtonmgkkkiejicaaGreat
open Go Go.Proofs
set_option linter.unusedVariables false
set_option linter.unusedSimpArgs false
theorem qle (x:Int):IntKind.u64.wrap x=x % 18446744073709551616:=by simp [IntKind.wrap,IntKind.bits,IntKind.signed]
theorem qui (x:Int):IntKind.u32.wrap x=x % 4294967296:=by simp [IntKind.wrap,IntKind.bits,IntKind.signed]
theorem qqj (x:Int):IntKind.u8.wrap x=x % 256:=by simp [IntKind.wrap,IntKind.bits,IntKind.signed]
theorem qh {x:Int} (h0 : -9223372036854775808≤x) (h1:x < 9223372036854775808):IntKind.i64.wrap x=x:=by
 simp only [IntKind.wrap,IntKind.bits,IntKind.signed,Bool.true_and]
 split <;> rename_i h <;> simp at h <;> omega
theorem wrap_i64_eq (x:Int):IntKind.i64.wrap x=(x+9223372036854775808) % 18446744073709551616 - 9223372036854775808:=by
 simp only [IntKind.wrap,IntKind.bits,IntKind.signed,Bool.true_and]
 split <;> rename_i h <;> simp at h <;> omega
theorem bits_pos (k:IntKind):8≤k.bits:=by cases k <;> decide
theorem wrap_fit (k:IntKind) {x:Int} (h0:0≤x) (h1:x < 2 ^ (k.bits - 1)):k.wrap x=x:=by
 have hb:=bits_pos k
 have h2:(2:Int) ^ k.bits=2 * 2 ^ (k.bits - 1):=by
  rw [show k.bits=(k.bits - 1)+1 by omega,Int.pow_succ]
  simp only [Nat.add_sub_cancel]
  omega
 have h3:x % 2 ^ k.bits=x:=Int.emod_eq_of_lt h0 (by omega)
 simp only [IntKind.wrap,h3]
 rw [if_neg]
 simp only [Bool.and_eq_true,decide_eq_true_eq,not_and,ge_iff_le,Int.not_le]
 exact fun _=>h1
theorem wrap_fit_nat (k:IntKind) {n:Nat} (h1:n < 2 ^ (k.bits - 1)):k.wrap (n:Int)=n :=
 wrap_fit k (by omega) (by exact_mod_cast h1)
theorem qrj (w:Nat) (x:Int):((BitVec.ofInt w x).toNat:Int)=x % 2 ^ w:=by
 rw [BitVec.toNat_ofInt]
 have:(0:Int)≤x % 2 ^ w:=Int.emod_nonneg _ (by
  have:(0:Int) < 2 ^ w:=Int.pow_pos (by decide)
  omega)
 have e:((2 ^ w:Nat):Int)=2 ^ w:=by simp
 rw [e]
 omega
theorem qsg (w n:Nat) (h:n < 2 ^ w):(BitVec.ofInt w (n:Int)).toNat=n:=by
 have h1:=qrj w n
 have:((n:Int)) % 2 ^ w=n:=Int.emod_eq_of_lt (by omega) (by exact_mod_cast h)
 omega
theorem pow_pred (k:IntKind):(2:Nat) ^ k.bits=2 * 2 ^ (k.bits - 1):=by
 have hb:=bits_pos k
 rw [show k.bits=(k.bits - 1)+1 by omega,Nat.pow_succ]
 simp only [Nat.add_sub_cancel]
 omega
theorem andV_mod (k:IntKind) (x:Int) {t:Nat} (ht:t < k.bits):andV k x (2 ^ t - 1)=x % 2 ^ t:=by
 have hp:=pow_pred k
 have h2:(2:Nat) ^ t≤2 ^ (k.bits - 1):=Nat.pow_le_pow_right (by decide) (by omega)
 have hpos:0 < (2:Nat) ^ t:=Nat.pow_pos (by decide)
 have e1:((2:Int) ^ t - 1)=((2 ^ t - 1:Nat):Int):=by
  rw [Int.ofNat_sub hpos]; simp
 unfold andV
 rw [e1,BitVec.toNat_and,qsg _ _ (by omega),Nat.and_two_pow_sub_one_eq_mod]
 have h3:=qrj k.bits x
 have hlt:(BitVec.ofInt k.bits x).toNat % 2 ^ t < 2 ^ t:=Nat.mod_lt _ hpos
 rw [wrap_fit_nat k (by omega),Int.natCast_emod,h3]
 have e2:((2 ^ t:Nat):Int)=2 ^ t:=by simp
 rw [e2]
 exact Int.emod_emod_of_dvd _ ⟨2 ^ (k.bits - t),by rw [← Int.pow_add]; congr 1; omega⟩
theorem qoh (k:IntKind) (x:Int) {t:Nat} (ht:t≤k.bits):shrV k x (t:Int)=x / 2 ^ t:=by
 unfold shrV
 rw [Int.toNat_natCast,Nat.min_eq_left ht]
 exact Int.fdiv_eq_ediv_of_nonneg _ (Int.le_of_lt (Int.pow_pos (by decide)))
theorem tdiv_nn {a b:Int} (ha:0≤a):a.tdiv b=a / b:=by
 exact Int.tdiv_eq_ediv_of_nonneg ha
theorem qml {a b:Int} (ha:0≤a):a.tmod b=a % b:=by
 exact Int.tmod_eq_emod_of_nonneg ha
end Go.Proofs.YtonmgkkkiejicaaGreat
