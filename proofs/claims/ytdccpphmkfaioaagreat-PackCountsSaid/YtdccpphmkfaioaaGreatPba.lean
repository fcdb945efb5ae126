/- Own texts as one, only what is reached (shake2.py). -/
import Derived.KernelRfl
import Derived.Laws.Sem
import Derived.Laws.World
import Derived.Orders
import Derived.OrdersIn
import Derived.RangeFuncCalls
import Derived.Test.YtdccpphmkfaioaaGreatProg
set_option linter.unusedSectionVars false
set_option linter.unusedVariables false
set_option linter.unusedSimpArgs false
namespace Go.Proofs.YtdccpphmkfaioaaGreat
open Go Go.Proofs
open Bool (and_eq_true false_eq_true or_eq_true)
open Go.IntKind (i64 signed)
open List (all_eq_true getD_eq_getElem?_getD getElem?_toArray mapM_cons mem_cons mem_range range)
open Nat (beq ble blt eq_of_beq_eq_true le_refl strongRecOn zero_add)
open Go.Program (bytesOf)
open Go.Sem (run_bind run_pure)
open Go.Proofs.Tryz (prog)
open Go.Value (iface int)
open Go.World (alloc_eq drew_eq)
abbrev OAd:=Option Addr
abbrev VWP:=Value→World→Prop
def hdF(c s:Nat):List Int:=if h:s=0 then[(c:Int)]else((c+128:Nat):Int)::hdF (s%128) (s/128)
termination_by s
decreasing_by omega
def hdE(k n:Nat):List Int:=hdF (k*16+n%16) (n/16)
theorem qpgb(c:Nat):hdF c 0=[(c:Int)]:=by rw[hdF,dif_pos rfl]
theorem qekb(c:Nat){s:Nat}(h:s≠0):hdF c s=((c+128:Nat):Int)::hdF (s%128) (s/128):=by rw[hdF,dif_neg h]
theorem hdF_ok:∀(s c:Nat),c<128->∀x∈hdF c s,0<=x/\x<256:=by
 intro s;induction s using strongRecOn with
 |ind s ih=>
  intro c hc x hx;by_cases h:s=0
  ·subst h;rw[qpgb]at hx;have:=List.mem_singleton.1 hx;omega
  ·rw[qekb c h]at hx;rcases mem_cons.1 hx with rfl|hx
   ·omega
   ·exact ih _ (by omega) _ (by omega) x hx
theorem qfkb:∀(j s c:Nat),s<128^j->1<=(hdF c s).length/\(hdF c s).length<=j+1:=by
 intro j;induction j with
 |zero=>intro s c h;have:s=0:=by simpa using h
        subst this;rw[qpgb];exact⟨le_refl _,le_refl _⟩
 |succ j ih=>
  intro s c h;by_cases h0:s=0
  ·subst h0;rw[qpgb];exact⟨le_refl _,by simp⟩
  ·rw[qekb c h0,List.length_cons];have:=ih (s/128) (s%128) (by rw[Nat.pow_succ]at h;omega);omega
theorem hdE_ok{k:Nat}(hk:k<8)(n:Nat):∀x∈hdE k n,0<=x/\x<256:=hdF_ok _ _ (by omega)
theorem qas(k:Nat){n:Nat}(hn:n<=1099511627776):1<=(hdE k n).length/\(hdE k n).length<=7:=qfkb 6 (n/16) _ (by rw[show(128:Nat)^6=4398046511104 by decide];omega)
theorem qjab(k:Nat){n:Nat}(hn:n<=16384):(hdE k n).length<=3:=(qfkb 2 (n/16) _ (by rw[show(128:Nat)^2=16384 by decide];omega)).2
def qfe:Value->Prop
 | .agg _=>False
 | .tuple _=>False
 |_=>True
def opOk(P:Program)(o:Oper)(ρ:Operand->Value)(w:World)(K:VWP):Prop:=
 match(execOp ρ o).run P w with
 | .ok (.value v) w'=>K v w'
 | .ok .skip w'=>K undef w'
 | .ok (.enter f args) w'=>Calls P f args w' λe w''=>∃v,e= .returned v/\K v w''
 | .ok (.round l f tmps az c) w'=>RoundIn Fence.wide 0 P l f tmps az c w' λe w''=>∃v,e= .returned v/\K v w''
 |_=>False
abbrev fw(r:Option Nat):Fence:={Fence.wide with round:=r}
theorem qkw{r:Option Nat}{n:Nat}{P:Program}{f:FuncId}{args:Array Value}{w:World}{R:Ending->World->Prop}:CallsIn (fw r) n P f args w R↔Calls P f args w R:=by
 show CallsIn Fence.wide n P f args w R↔_;exact callsIn_wide
theorem qbn{P:Program}{o:Oper}{ρ:Operand->Value}{w:World}{K K':VWP}(h:opOk P o ρ w K)(hk:∀v w',K v w'->K' v w'):opOk P o ρ w K':=by
 unfold opOk at*
 generalize (execOp ρ o).run P w=r at*
 cases r with
 |ok n w'=>
  cases n<;>simp only at h|-<;>first
   |exact hk _ _ h
   |exact Calls.mono h λe w'' ⟨v,he,hv⟩=>⟨v,he,hk _ _ hv⟩
   |exact RoundIn.mono h λe w'' ⟨v,he,hv⟩=>⟨v,he,hk _ _ hv⟩
   |exact h
 |halt x w'=>exact h
theorem qnsb{P:Program}{o:Oper}{ρ:Operand->Value}{w:World}{K:VWP}(h:opOk P o ρ w K)(c:Call):o.op≠ .defer c:=by
 intro he;unfold opOk at h;simp only[execOp,he,run_bind]at h;generalize (resolve ρ c o.type).run P w=r at h;cases r<;>exact h
theorem qmsb{P:Program}{o:Oper}{a:Act}{w:World}{next:Act->World->Prop}{Q:Exit->Act->World->Prop}(r:Option Nat)
 (h:opOk P o a.eval w λv w'=>next (a.put o.dst v) w'):o.wpIn (fw r) 0 P a w next Q:=by
 refine⟨λ_ _=>trivial,?_⟩
 rw[Oper.semAt_eq _ _ _ (qnsb h)]
 unfold opOk at h
 generalize (execOp a.eval o).run P w=x at*
 cases x with
 |ok n w'=>
  cases n<;>simp only[Oper.uponIn]at h|-<;>first
   |exact h
   |exact⟨λh=>(by cases h),qkw.2 (Calls.mono h λe w'' ⟨v,he,hv⟩=>by subst he;exact hv)⟩
   |exact⟨λh=>(by cases h),RoundIn.mono (F:=fw r) h λe w'' ⟨v,he,hv⟩=>by subst he;exact hv⟩
 |halt x w'=>exact h.elim
def qvk(P:Program)(ops:Array Oper)(i:Nat)(a:Act)(w:World)(K:Act->World->Prop):Prop:=
 match ops[i]? with
 |none=>K a w
 |some o=>if Region.wanted o (yielded ops a.tmps)then opOk P o a.eval w (λv w'=>K (a.put o.dst v) w')else K (a.put o.dst undef) w
theorem qrbb{P:Program}{ops:Array Oper}{i:Nat}{a:Act}{w:World}{K K':Act->World->Prop}(h:qvk P ops i a w K)(hk:∀a w,K a w->K' a w):qvk P ops i a w K':=by
 unfold qvk at*
 split
 ·rename_i ho;simp only[ho]at h;exact hk _ _ h
 ·rename_i o ho;simp only[ho]at h;split
  ·rename_i hw;simp only[hw,if_true]at h;exact qbn h λ_ _=>hk _ _
  ·rename_i hw;simp only[hw]at h;exact hk _ _ h
theorem qdq{P:Program}{ops:Array Oper}{Q:Exit->Act->World->Prop}{i:Nat}{a:Act}{w:World}{K:Act->World->Prop}(r:Option Nat)(h:qvk P ops i a w K):wpOpIn (fw r) 0 P ops Q i K a w:=by
 unfold qvk at h;unfold wpOpIn;split
 ·rename_i ho;simp only[ho]at h;exact h
 ·rename_i o ho;simp only[ho]at h;split
  ·rename_i hw;simp only[hw,if_true]at h;exact qmsb r h
  ·rename_i hw;simp only[hw]at h;exact⟨λ_ _=>trivial,h⟩
def opsOk(P:Program)(ops:Array Oper):List Nat->Act->World->(Act->World->Prop)->Prop
 |[],a,w,K=>K a w
 |i::rest,a,w,K=>qvk P ops i a w λa w=>opsOk P ops rest a w K
theorem qhv{P:Program}{ops:Array Oper}{Q:Exit->Act->World->Prop}{K:Act->World->Prop}(r:Option Nat)(hQ:∀a w,K a w->Q .normal a w):
 ∀(l:List Nat) (a:Act) (w:World),opsOk P ops l a w K->wpOpsIn (fw r) 0 P ops Q l a w:=by
 intro l
 induction l with
 |nil=>intro a w h;exact hQ _ _ h
 |cons i rest ih=>
  intro a w h
  rw[wpOpsIn_cons]
  exact wpOpIn_mono (λa w h=>ih a w h) (qdq r h)
def ev(ρ:Nat->Value):Operand->Value
 | .tmp t=>ρ t
 | .const v=>v
 | .global g=> .pointer (some ⟨g,0,none⟩)
 | .func f=> .func (.func f) #[] #[]
def upd(ρ:Nat->Value)(d:Nat)(v:Value):Nat->Value:=λt=>if t=d then v else ρ t
def putR(ρ:Nat->Value)(d:Option Nat)(v:Value):Nat->Value:=
 match d with
 |some d=>upd ρ d v
 |none=>ρ
def rel(ds:List Deferred)(N:Nat)(a:Act)(ρ:Nat->Value):Prop:=a.defers=ds/\a.tmps.size=N/\(λt=>a.tmps.getD t undef)=ρ
theorem qmp{ds:List Deferred}{N:Nat}{a:Act}{ρ:Nat->Value}(h:rel ds N a ρ):a.eval=ev ρ:=by
 funext x;cases x with
 |tmp t=>exact congrFun h.2.2 t
 |_=>rfl
theorem qrm{ds:List Deferred}{N:Nat}{a:Act}{ρ:Nat->Value}(h:rel ds N a ρ){d:Option Nat}(hd:∀t,d=some t->t<N)(v:Value):rel ds N (a.put d v) (putR ρ d v):=by
 cases d with
 |none=>exact h
 |some t=>
  obtain⟨h1,h2,h3⟩:=h;refine⟨h1,by simp[Act.put,h2],?_⟩;funext s;have ht:=hd t rfl;simp only[Act.put,putR,upd];by_cases hs:s=t
  ·subst hs;have:s<a.tmps.size:=by omega
   simp[this]
  ·have:=congrFun h3 s;simp only[if_neg hs];rw[<-this];simp only[Array.getD_eq_getD_getElem?];rw[Array.getElem?_setIfInBounds_ne (λh=>hs h.symm)]
def okAny(P:Program)(ops:Array Oper)(K:Act->World->Prop):Nat->Array Bool->Act->World->Prop
 |0,listed,a,w=>Region.ready .any ops listed=[]/\K a w
 |f+1,listed,a,w=>
  (Region.ready .any ops listed=[]->K a w)/\
  ∀i∈Region.ready .any ops listed,qvk P ops i a w (okAny P ops K f (listed.setIfInBounds i true))
theorem qeq{P:Program}{ops:Array Oper}{Q:Exit->Act->World->Prop}{K:Act->World->Prop}(r:Option Nat)(hQ:∀a w,K a w->Q .normal a w):
 ∀(f:Nat) (listed:Array Bool) (a:Act) (w:World),okAny P ops K f listed a w->wpAnyIn (fw r) 0 P .any ops Q f listed a w
 |0,_,_,_,h=>⟨h.1,hQ _ _ h.2⟩
 |f+1,_,_,_,h=>⟨λh0=>hQ _ _ (h.1 h0),λi hi=>wpOpIn_mono (λa w=>qeq r hQ f _ a w) (qdq r (h.2 i hi))⟩
theorem qyib{P:Program}{ops:Array Oper}{K:Act->World->Prop}{listed:Array Bool}{a:Act}{w:World}(hr:Region.ready .any ops listed=[])(hk:K a w):∀f,okAny P ops K f listed a w
 |0=>⟨hr,hk⟩
 |_+1=>⟨λ_=>hk,by rw[hr];simp⟩
def extA(w w':World):Prop:=∀b,b<w.heap.size->w'.heap[b]?=w.heap[b]?
theorem qei(w:World):extA w w:=λ_ _=>rfl
theorem qygb{a b c:World}(h:extA a b)(hs:a.heap.size<=b.heap.size)(k:extA b c):extA a c:=λi hi=>(k i (by omega)).trans (h i hi)
theorem qpkb{a b:World}(h:extA a b):a.heap.size<=b.heap.size:=by
 rcases Nat.eq_zero_or_pos a.heap.size with h0|h0
 ·omega
 ·have h1:=h (a.heap.size-1) (by omega);rw[Array.getElem?_eq_getElem (by omega:a.heap.size-1<a.heap.size)]at h1;have:=(Array.getElem?_eq_some_iff.1 h1).1;omega
theorem qhn(w:World)(o:Obj):extA w (w.alloc o):=λb hb=>by
 show(w.heap.push o)[b]?=_;rw[Array.getElem?_push,if_neg (by omega)]
def gives(P:Program)(ops:Array Oper)(rd:Bool)(o:Oper)(a:Act)(w:World)(v:Value):Prop:=(Region.wanted o (yielded ops a.tmps)=true/\∀w',(rd=true->extA w w')->(execOp a.eval o).run P w'= .ok (.value v) w')\/(Region.wanted o (yielded ops a.tmps)=false/\v=undef)
theorem qrgb{P:Program}{ops:Array Oper}{rd:Bool}{i:Nat}{o:Oper}{a:Act}{w:World}{v:Value}(ho:ops[i]?=some o)(h:gives P ops rd o a w v){K:Act->World->Prop}(hk:K (a.put o.dst v) w):qvk P ops i a w K:=by
 unfold qvk;simp only[ho];rcases h with⟨h1,h2⟩|⟨h1,rfl⟩
 ·simp only[h1,if_true,opOk,h2 w (λ_=>qei w)];exact hk
 ·simp only[h1];exact hk
theorem qjkb{P:Program}{ops:Array Oper}{rd:Bool}{o:Oper}{a:Act}{w w1:World}{v:Value}(h:gives P ops rd o a w v)(he:rd=true->extA w w1):gives P ops rd o a w1 v:=by
 rcases h with⟨h1,h2⟩|h
 ·exact Or.inl ⟨h1,λw' h'=>h2 w' λhr=>qygb (he hr) (qpkb (he hr)) (h' hr)⟩
 ·exact Or.inr h
def alike(ops:Array Oper)(o:Oper)(a b:Act):Prop:=∀t,t∈o.looksAt ops->a.tmps.getD t undef=b.tmps.getD t undef
theorem qqw{ops:Array Oper}{o:Oper}{a b:Act}(hs:∀cs bb,o.op≠ .select cs bb)(h:alike ops o a b):execOp a.eval o=execOp b.eval o:=
 execOp_congr o hs λx hx=>by
  cases x with
  |tmp t=>exact h t (List.mem_append_left _ (List.mem_filterMap.2 ⟨.tmp t,by simpa using hx,rfl⟩))
  |_=>rfl
theorem qem(ops:Array Oper)(ts:Array Value)(g:Nat):yielded ops ts g=match(ops[g]?).bind (·.dst)with
 |none=>none
 |some t=>match ts.getD t undef with
  | .bool b=>some b
  |_=>none:=by
 unfold yielded
 cases h:(ops[g]?).bind (·.dst)with
 |none=>rfl
 |some t=>
  simp only[Option.bind_some,Array.getD_eq_getD_getElem?]
  cases h2:ts[t]? with
  |none=>simp[undef]
  |some v=>cases v<;>simp
theorem qqs{ops:Array Oper}{o:Oper}{a b:Act}(h:alike ops o a b):Region.wanted o (yielded ops a.tmps)=Region.wanted o (yielded ops b.tmps):=by
 unfold Region.wanted;cases hg:o.guard with
 |none=>rfl
 |some gw=>
  obtain⟨g,want⟩:=gw;have:yielded ops a.tmps g=yielded ops b.tmps g:=by
   rw[qem,qem];cases ht:(ops[g]?).bind (·.dst)with
   |none=>rfl
   |some t=>
    have:=h t (List.mem_append_right _ (by simp[hg,ht]));simp only[this]
  simp only[this]
theorem qqcb{P:Program}{ops:Array Oper}{rd:Bool}{o:Oper}{a b:Act}{w:World}{v:Value}(hs:∀cs bb,o.op≠ .select cs bb)(h:alike ops o a b)(hg:gives P ops rd o a w v):gives P ops rd o b w v:=by
 unfold gives at*
 rw[<-qqw hs h,<-qqs h];exact hg
structure Stat(ops:Array Oper)(pre:Nat->Nat->Bool)(lz rd al:Nat->Bool):Prop where
 back:∀(j:Nat) (oj:Oper),ops[j]?=some oj->∀e∈oj.after,Region.binds .any e=true->e.on<j
 pre_edge:∀(i j:Nat) (oj:Oper),ops[j]?=some oj->pre i j=true->∃e∈oj.after,Region.binds .any e=true/\e.on<j/\(e.on=i\/pre i e.on=true)
 nosel:∀(j:Nat) (o:Oper) cs b,ops[j]?=some o->o.op≠ .select cs b
 nodup:∀(i j:Nat) (oi oj:Oper) (d:Nat),ops[i]?=some oi->ops[j]?=some oj->i≠j->oi.dst=some d->oj.dst≠some d
 raw:∀(i j:Nat) (oi oj:Oper) (d:Nat),ops[i]?=some oi->ops[j]?=some oj->i≠j->oi.dst=some d->d∈oj.looksAt ops->pre i j=true\/(lz i=false/\pre j i=true)
 self:∀(i:Nat) (oi:Oper) (d:Nat),ops[i]?=some oi->oi.dst=some d->lz i=true->d∉oi.looksAt ops
 rdw:∀(m i:Nat),m<ops.size->i<ops.size->rd m=true->lz m=true->lz i=false->al i=false->pre m i=true\/pre i m=true
def qav(ops:Array Oper)(listed:Array Bool):Prop:=∀j oj,ops[j]?=some oj->listed.getD j false=true->∀e∈oj.after,Region.binds .any e=true->listed.getD e.on false=true
theorem qtr{ops:Array Oper}{pre:Nat->Nat->Bool}{lz rd al:Nat->Bool}(S:Stat ops pre lz rd al){listed:Array Bool}(hc:qav ops listed):
 ∀(j i:Nat),pre i j=true->(∃oj,ops[j]?=some oj/\∀e∈oj.after,Region.binds .any e=true->listed.getD e.on false=true)->i<ops.size->(∀k,k<ops.size->∃o,ops[k]?=some o)->listed.getD i false=true:=by
 intro j
 induction j using strongRecOn with
 |_ j ih=>
  intro i hp ⟨oj,hoj,hall⟩ hi hex
  obtain⟨e,he,hb,hlt,h⟩:=S.pre_edge i j oj hoj hp
  have hl:=hall e he hb
  rcases h with rfl|h
  ·exact hl
  ·have hj:j<ops.size:=(Array.getElem?_eq_some_iff.1 hoj).1
   obtain⟨oe,hoe⟩:=hex e.on (by omega)
   exact ih e.on hlt i h ⟨oe,hoe,hc e.on oe hoe hl⟩ hi hex
theorem qyo(m j:Nat):(Array.replicate m false).getD j false=false:=by
 rcases Nat.lt_or_ge j m with h|h<;>simp[h]
theorem qve{listed:Array Bool}{i:Nat}(hi:i<listed.size):listed.getD i true=listed.getD i false:=by
 simp[hi]
def tree(P:Program)(ops:Array Oper)(lz rd al:Nat->Bool)(K:Act->World->Prop):Nat->Array Bool->Act->World->Prop
 |0,listed,a,w=>Region.ready .any ops listed=[]/\K a w
 |f+1,listed,a,w=>
  (∃i o v,i∈Region.ready .any ops listed/\lz i=true/\ops[i]?=some o/\gives P ops (rd i) o a w v/\tree P ops lz rd al K f (listed.setIfInBounds i true) (a.put o.dst v) w)\/
  ((∀i∈Region.ready .any ops listed,lz i=false)/\(Region.ready .any ops listed=[]->K a w)/\
    ∀i∈Region.ready .any ops listed,qvk P ops i a w λa' w'=>(al i=true->extA w w')/\tree P ops lz rd al K f (listed.setIfInBounds i true) a' w')
structure Inv(P:Program)(ops:Array Oper)(lz rd:Nat->Bool)(L S:Array Bool)(a b:Act)(w:World):Prop where
 sizeL:L.size=ops.size
 sizeS:S.size=ops.size
 sub:∀i,S.getD i false=true->L.getD i false=true
 clL:qav ops L
 clS:qav ops S
 miss:∀m om,ops[m]?=some om->L.getD m false=true->S.getD m false=false->lz m=true/\∃v,(∀c,alike ops om a c->gives P ops (rd m) om c w v)/\(∀d,om.dst=some d->d<a.tmps.size->a.tmps.getD d undef=v)
 defers:b.defers=a.defers
 size:b.tmps.size=a.tmps.size
 agree:∀t,(∀m om,ops[m]?=some om->L.getD m false=true->S.getD m false=false->om.dst≠some t)->b.tmps.getD t undef=a.tmps.getD t undef
theorem qrk(a:Act)(d:Option Nat)(v:Value)(t:Nat):(a.put d v).tmps.getD t undef=if d=some t/\t<a.tmps.size then v else a.tmps.getD t undef:=by
 cases d with
 |none=>simp[Act.put]
 |some s=>
  simp only[Act.put,Option.some.injEq,Array.getD_eq_getD_getElem?];by_cases h:s=t
  ·subst h;by_cases h2:s<a.tmps.size
   ·simp[h2]
   ·simp[h2]
  ·rw[Array.getElem?_setIfInBounds_ne h];simp[h]
theorem qon(a:Act)(d:Option Nat)(v:Value):(a.put d v).tmps.size=a.tmps.size:=by cases d<;>simp[Act.put]
theorem qtp(a:Act)(d:Option Nat)(v:Value):(a.put d v).defers=a.defers:=by cases d<;>rfl
theorem qwp{ops:Array Oper}{L:Array Bool}(hc:qav ops L){i:Nat}(hi:i∈Region.ready .any ops L):qav ops (L.setIfInBounds i true):=by
 obtain⟨_,o,ho,hall⟩:=mem_ready.1 hi;intro j oj hj hl e he hb;by_cases hij:i=j
 ·subst hij;have:oj=o:=Option.some.inj (hj.symm.trans ho);subst this
  exact getD_set_true (hall e he hb)
 ·rw[getD_set_ne false hij]at hl;exact getD_set_true (hc j oj hj hl e he hb)
theorem act_eq{a b:Act}(hd:b.defers=a.defers)(hs:b.tmps.size=a.tmps.size)(h:∀t,b.tmps.getD t undef=a.tmps.getD t undef):b=a:=by
 obtain⟨ta,da⟩:=a;obtain⟨tb,db⟩:=b;simp only at hd hs h;subst hd;congr 1;apply Array.ext hs;intro i h1 h2;have:=h i;simpa [h1,h2]using this
theorem qnp{ops:Array Oper}(k:Nat)(hk:k<ops.size):∃o,ops[k]?=some o:=⟨ops[k],Array.getElem?_eq_getElem hk⟩
theorem qso{P:Program}{ops:Array Oper}{pre:Nat->Nat->Bool}{lz rd al:Nat->Bool}(St:Stat ops pre lz rd al){L S:Array Bool}{a b:Act}{w:World}(I:Inv P ops lz rd L S a b w)
 {i m:Nat} (hi:i∈Region.ready .any ops S) (hm:m<ops.size) (hms:S.getD m false=false):pre m i=false:=by
 cases hp:pre m i with
 |false=>rfl
 |true=>
  obtain⟨_,o,ho,hall⟩:=mem_ready.1 hi
  have:=qtr St I.clS i m hp ⟨o,ho,hall⟩ hm qnp
  rw[hms]at this
  cases this
theorem qfv{P:Program}{ops:Array Oper}{pre:Nat->Nat->Bool}{lz rd al:Nat->Bool}(St:Stat ops pre lz rd al){L S:Array Bool}{a b:Act}{w:World}(I:Inv P ops lz rd L S a b w)
 {i:Nat} {o:Oper} (ho:ops[i]?=some o) (hi:i∈Region.ready .any ops S):alike ops o a b:=by
 intro t ht
 refine(I.agree t λm om hm hL hS hd=>?_).symm
 have hmlt:m<ops.size:=(Array.getElem?_eq_some_iff.1 hm).1
 have hlz:=(I.miss m om hm hL hS).1
 by_cases hmi:m=i
 ·subst hmi
  have:om=o:=Option.some.inj (hm.symm.trans ho)
  subst this
  exact St.self m om t hm hd hlz ht
 ·rcases St.raw m i om o t hm ho hmi hd ht with h|⟨h,_⟩
  ·rw[qso St I hi hmlt hS]at h;cases h
  ·rw[hlz]at h;cases h
theorem Inv.lazily{P:Program}{ops:Array Oper}{pre:Nat->Nat->Bool}{lz rd al:Nat->Bool}(St:Stat ops pre lz rd al){L S:Array Bool}{a b:Act}{w:World}(I:Inv P ops lz rd L S a b w)
 {i:Nat} {o:Oper} {v:Value} (ho:ops[i]?=some o) (hi:i∈Region.ready .any ops L) (hlz:lz i=true) (hg:gives P ops (rd i) o a w v):
 Inv P ops lz rd (L.setIfInBounds i true) S (a.put o.dst v) b w:=by
 obtain⟨hun,_,_,_⟩:=mem_ready.1 hi
 have hilt:i<ops.size:=(Array.getElem?_eq_some_iff.1 ho).1
 have hLi:L.getD i false=false:=by rw[<-qve (by rw[I.sizeL];exact hilt)];exact hun
 have hSi:S.getD i false=false:=by
  cases h:S.getD i false with
  |false=>rfl
  |true=>rw[I.sub i h]at hLi;cases hLi
 refine⟨by simp[I.sizeL],I.sizeS,λj hj=>getD_set_true (I.sub j hj),qwp I.clL hi,I.clS,?_,by rw[qtp];exact I.defers,by rw[qon];exact I.size,?_⟩
 ·intro m om hm hL hS
  by_cases hmi:i=m
  ·subst hmi
   have:om=o:=Option.some.inj (hm.symm.trans ho)
   subst this
   refine⟨hlz,v,λc hc=>?_,λd hd hlt=>?_⟩
   ·refine qqcb (St.nosel i om · · ho) (λt ht=>?_) hg
    rw[<-hc t ht,qrk]
    rw[if_neg]
    intro h
    exact St.self i om t ho h.1 hlz ht
   ·rw[qon]at hlt
    rw[qrk,if_pos ⟨hd,hlt⟩]
  ·rw[getD_set_ne false hmi]at hL
   obtain⟨h1,u,h2,h3⟩:=I.miss m om hm hL hS
   refine⟨h1,u,λc hc=>h2 c λt ht=>?_,λd hd hlt=>?_⟩
   ·rw[<-hc t ht,qrk,if_neg]
    intro h
    rcases St.raw i m o om t ho hm hmi h.1 ht with hp|⟨hz,_⟩
    ·have hmlt:m<ops.size:=(Array.getElem?_eq_some_iff.1 hm).1
     have:=qtr St I.clL m i hp ⟨om,hm,λe he hb=>I.clL m om hm hL e he hb⟩ hilt qnp
     rw[hLi]at this;cases this
    ·rw[hlz]at hz;cases hz
   ·rw[qon]at hlt
    rw[qrk,if_neg]
    ·exact h3 d hd hlt
    ·intro h
     exact St.nodup i m o om d ho hm hmi h.1 hd
 ·intro t ht
  rw[qrk,if_neg]
  ·refine I.agree t λm om hm hL hS=>?_
   refine ht m om hm ?_ hS
   exact getD_set_true hL
  ·intro h
   exact ht i o ho (by simp[I.sizeL,hilt]) hSi h.1
theorem Inv.caught{P:Program}{ops:Array Oper}{pre:Nat->Nat->Bool}{lz rd al:Nat->Bool}(St:Stat ops pre lz rd al){L S:Array Bool}{a b:Act}{w:World}(I:Inv P ops lz rd L S a b w)
 {m:Nat} {om:Oper} (hm:ops[m]?=some om) (hr:m∈Region.ready .any ops S) (hL:L.getD m false=true):
 ∃v,gives P ops (rd m) om b w v/\Inv P ops lz rd L (S.setIfInBounds m true) a (b.put om.dst v) w:=by
 obtain⟨hun,_,_,_⟩:=mem_ready.1 hr
 have hmlt:m<ops.size:=(Array.getElem?_eq_some_iff.1 hm).1
 have hSm:S.getD m false=false:=by rw[<-qve (by rw[I.sizeS];exact hmlt)];exact hun
 obtain⟨h1,v,h2,h3⟩:=I.miss m om hm hL hSm
 have hal:=qfv St I hm hr
 refine⟨v,h2 b hal,I.sizeL,by simp[I.sizeS],?_,I.clL,qwp I.clS hr,?_,by rw[qtp];exact I.defers,by rw[qon];exact I.size,?_⟩
 ·intro j hj
  by_cases hmj:m=j
  ·subst hmj;exact hL
  ·rw[getD_set_ne false hmj]at hj;exact I.sub j hj
 ·intro k ok hk hLk hSk
  have hmk:m≠k:=by
   intro h;subst h;simp[I.sizeS,hmlt]at hSk
  rw[getD_set_ne false hmk]at hSk
  exact I.miss k ok hk hLk hSk
 ·intro t ht
  rw[qrk]
  by_cases hd:om.dst=some t/\t<b.tmps.size
  ·rw[if_pos hd]
   exact(h3 t hd.1 (by rw[<-I.size];exact hd.2)).symm
  ·rw[if_neg hd]
   by_cases hd1:om.dst=some t
   ·have hlt:¬t<b.tmps.size:=λh=>hd ⟨hd1,h⟩
    have hlt2:¬t<a.tmps.size:=by rw[<-I.size];exact hlt
    simp[Array.getD_eq_getD_getElem?,hlt,hlt2]
   ·refine I.agree t λk ok hk hLk hSk hdk=>?_
    by_cases hmk:m=k
    ·subst hmk
     have:ok=om:=Option.some.inj (hk.symm.trans hm)
     subst this
     exact hd1 hdk
    ·exact ht k ok hk hLk (by rw[getD_set_ne false hmk];exact hSk) hdk
theorem Inv.acted{P:Program}{ops:Array Oper}{pre:Nat->Nat->Bool}{lz rd al:Nat->Bool}(St:Stat ops pre lz rd al){L S:Array Bool}{a b:Act}{w w':World}(I:Inv P ops lz rd L S a b w)
 {i:Nat} {o:Oper} (v:Value) (ho:ops[i]?=some o) (hi:i∈Region.ready .any ops S) (hiL:i∈Region.ready .any ops L) (hlz:lz i=false) (hal:al i=true->extA w w'):
 Inv P ops lz rd (L.setIfInBounds i true) (S.setIfInBounds i true) (a.put o.dst v) (b.put o.dst v) w':=by
 have hilt:i<ops.size:=(Array.getElem?_eq_some_iff.1 ho).1
 have hLi:L.getD i false=false:=by rw[<-qve (by rw[I.sizeL];exact hilt)];exact(mem_ready.1 hiL).1
 refine⟨by simp[I.sizeL],by simp[I.sizeS],?_,qwp I.clL hiL,qwp I.clS hi,?_,by rw[qtp,qtp];exact I.defers,by rw[qon,qon];exact I.size,?_⟩
 ·intro j hj
  by_cases hij:i=j
  ·subst hij;simp[I.sizeL,hilt]
  ·rw[getD_set_ne false hij]at hj|-;exact I.sub j hj
 ·intro m om hm hL hS
  have hmi:i≠m:=by
   intro h;subst h;simp[I.sizeS,hilt]at hS
  rw[getD_set_ne false hmi]at hL hS
  have hmlt:m<ops.size:=(Array.getElem?_eq_some_iff.1 hm).1
  obtain⟨h1,u,h2,h3⟩:=I.miss m om hm hL hS
  have hnp:=qso St I hi hmlt hS
  have hnq:pre i m=false:=by
   cases hp:pre i m with
   |false=>rfl
   |true=>
    have:=qtr St I.clL m i hp ⟨om,hm,λe he hb=>I.clL m om hm hL e he hb⟩ hilt qnp;rw[hLi]at this;cases this
  refine⟨h1,u,λc hc=>?_,λd hd hlt=>?_⟩
  ·refine qjkb (h2 c λt ht=>?_) λhr=>?_
   ·rw[<-hc t ht,qrk,if_neg]
    intro h
    rcases St.raw i m o om t ho hm hmi h.1 ht with hp|⟨_,hp⟩
    ·rw[hnq]at hp;cases hp
    ·rw[hnp]at hp;cases hp
   ·cases hali:al i with
    |true=>exact hal hali
    |false=>
     rcases St.rdw m i hmlt hilt hr h1 hlz hali with hp|hp
     ·rw[hnp]at hp;cases hp
     ·rw[hnq]at hp;cases hp
  ·rw[qon]at hlt
   rw[qrk,if_neg]
   ·exact h3 d hd hlt
   ·intro h
    exact St.nodup i m o om d ho hm hmi h.1 hd
 ·intro t ht
  rw[qrk,qrk,I.size]
  by_cases hd:o.dst=some t/\t<a.tmps.size
  ·rw[if_pos hd,if_pos hd]
  ·rw[if_neg hd,if_neg hd]
   refine I.agree t λm om hm hL hS=>?_
   have hmi:i≠m:=by
    intro h;subst h;rw[hLi]at hL;cases hL
   exact ht m om hm (by rw[getD_set_ne false hmi];exact hL) (by rw[getD_set_ne false hmi];exact hS)
def qwg(L S:Array Bool)(n:Nat):Nat:=((range n).filter λi=>L.getD i false&&!S.getD i false).length
theorem qgfb(p p':Nat->Bool)(m:Nat)(hm:p m=true)(hm':p' m=false)(ho:∀i,i≠m->p' i=p i):∀n,m<n->((range n).filter p').length+1=((range n).filter p).length:=by
 intro n;induction n with
 |zero=>intro h;omega
 |succ k ih=>
  intro h;rw[List.range_succ,List.filter_append,List.filter_append,List.length_append,List.length_append];by_cases hk:m=k
  ·subst hk;have e:(range m).filter p'=(range m).filter p:=List.filter_congr λi hi=>ho i (by have:=mem_range.1 hi;omega);rw[e];simp[hm,hm']
  ·have:=ih (by omega);have e:[k].filter p'=[k].filter p:=List.filter_congr λi hi=>ho i (by have:=List.mem_singleton.1 hi;omega);rw[e];omega
theorem qsn{L S:Array Bool}{n m:Nat}(hm:m<n)(hL:L.getD m false=true)(hS:S.getD m false=false)(hsz:m<S.size):qwg L (S.setIfInBounds m true) n+1=qwg L S n:=
 qgfb _ _ m (by rw[hL,hS];rfl) (by simp[hsz]) (λi hi=>by rw[getD_set_ne false (Ne.symm hi)]) n hm
theorem qay{L S:Array Bool}{n m:Nat}(hm:m<n)(hL:L.getD m false=false)(hS:S.getD m false=false)(hsz:m<L.size):qwg (L.setIfInBounds m true) S n=qwg L S n+1:=
 (qgfb _ _ m (by rw[hS];simp[hsz]) (by rw[hL];rfl) (λi hi=>by rw[getD_set_ne false (Ne.symm hi)]) n hm).symm
theorem qcab{L S:Array Bool}{n m:Nat}(hsL:m<L.size)(hsS:m<S.size)(hL:L.getD m false=false):qwg (L.setIfInBounds m true) (S.setIfInBounds m true) n=qwg L S n:=by
 unfold qwg;congr 1;apply List.filter_congr;intro i _;by_cases hmi:m=i
 ·subst hmi;simp[hsL,hsS];simp[hsL]at hL;simp[hL]
 ·rw[getD_set_ne false hmi,getD_set_ne false hmi]
theorem qox{P:Program}{ops:Array Oper}{pre:Nat->Nat->Bool}{lz rd al:Nat->Bool}(St:Stat ops pre lz rd al){L S:Array Bool}{a b:Act}{w:World}(I:Inv P ops lz rd L S a b w)
 (m:Nat):m<ops.size->L.getD m false=true->S.getD m false=false->∃q∈Region.ready .any ops S,L.getD q false=true:=by
 induction m using strongRecOn with
 |_ m ih=>
  intro hm hL hS
  obtain⟨om,hom⟩:=qnp m hm
  by_cases hall:∀e∈om.after,Region.binds .any e=true->S.getD e.on false=true
  ·exact⟨m,mem_ready.2 ⟨by rw[qve (by rw[I.sizeS];exact hm)];exact hS,om,hom,hall⟩,hL⟩
  ·have:∃e∈om.after,Region.binds .any e=true/\S.getD e.on false=false:=by
    apply Classical.byContradiction;intro hno;refine hall λe he hb=>?_;cases h:S.getD e.on false with
    |true=>rfl
    |false=>exact absurd ⟨e,he,hb,h⟩ hno
   obtain⟨e,he,hb,hSe⟩:=this
   have hlt:=St.back m om hom e he hb
   exact ih e.on hlt (by omega) (I.clL m om hom hL e he hb) hSe
theorem qms{P:Program}{ops:Array Oper}{pre:Nat->Nat->Bool}{lz rd al:Nat->Bool}(St:Stat ops pre lz rd al){L S:Array Bool}{a b:Act}{w:World}(I:Inv P ops lz rd L S a b w)
 (hr:Region.ready .any ops S=[]):∀i,i<ops.size->L.getD i false=true->S.getD i false=true:=by
 intro i hi hL
 cases hS:S.getD i false with
 |true=>rfl
 |false=>
  obtain⟨q,hq,_⟩:=qox St I i hi hL hS
  rw[hr]at hq
  cases hq
theorem qpo{P:Program}{ops:Array Oper}{lz rd:Nat->Bool}{L S:Array Bool}{a b:Act}{w:World}(I:Inv P ops lz rd L S a b w)
 (hall:∀i,i<ops.size->L.getD i false=true->S.getD i false=true):b=a/\S=L:=by
 refine⟨act_eq I.defers I.size λt=>I.agree t λm om hm hL hS=>?_,?_⟩
 ·have:=hall m (Array.getElem?_eq_some_iff.1 hm).1 hL
  rw[hS]at this;cases this
 ·apply Array.ext (by rw[I.sizeS,I.sizeL])
  intro i h1 h2
  have e1:=I.sub i
  have e2:=hall i (by rw[<-I.sizeS];exact h1)
  simp only[Array.getD_eq_getD_getElem?,h1,h2,Array.getElem?_eq_getElem,Option.getD_some]at e1 e2
  cases hs:S[i]<;>cases hl:L[i]<;>simp_all
theorem qqbb{P:Program}{ops:Array Oper}{i:Nat}{o:Oper}{a b:Act}{w:World}(ho:ops[i]?=some o)(hs:∀cs bb,o.op≠ .select cs bb)(hal:alike ops o a b){R:Act->World->Prop}
 (h:qvk P ops i a w R):qvk P ops i b w λb' w'=>∃v,b'=b.put o.dst v/\R (a.put o.dst v) w':=by
 unfold qvk at*
 simp only[ho]at*
 rw[<-qqs hal]
 split
 ·rename_i hw
  simp only[hw,if_true]at h
  unfold opOk at*
  rw[<-qqw hs hal]
  generalize (execOp a.eval o).run P w=r at*
  cases r with
  |ok n w'=>
   cases n<;>simp only at h|-<;>first
    |exact⟨_,rfl,h⟩
    |exact Calls.mono h λe w'' ⟨v,he,hv⟩=>⟨v,he,v,rfl,hv⟩
    |exact RoundIn.mono h λe w'' ⟨v,he,hv⟩=>⟨v,he,v,rfl,hv⟩
    |exact h
  |halt x w'=>exact h
 ·rename_i hw
  simp only[hw]at h
  exact⟨_,rfl,h⟩
theorem qyx{P:Program}{ops:Array Oper}{pre:Nat->Nat->Bool}{lz rd al:Nat->Bool}{K:Act->World->Prop}(St:Stat ops pre lz rd al):
 ∀(n f:Nat) (L S:Array Bool) (a b:Act) (w:World),2*f+qwg L S ops.size<=n->Inv P ops lz rd L S a b w->tree P ops lz rd al K f L a w->okAny P ops K (f+qwg L S ops.size) S b w:=by
 intro n
 induction n with
 |zero=>
  intro f L S a b w hn I h
  obtain rfl:f=0:=by omega
  have hm0:qwg L S ops.size=0:=by omega
  rw[hm0]
  obtain⟨hr,hk⟩:=h
  have hall:∀i,i<ops.size->L.getD i false=true->S.getD i false=true:=by
   intro i hi hL;cases hS:S.getD i false with
   |true=>rfl
   |false=>
    have:=qsn hi hL hS (by rw[I.sizeS];exact hi);omega
  obtain⟨rfl,rfl⟩:=qpo I hall
  exact⟨hr,hk⟩
 |succ n ih=>
  intro f L S a b w hn I h
  have caught:∀i∈Region.ready .any ops S,L.getD i false=true->∀g,f+qwg L S ops.size=g+1->qvk P ops i b w (okAny P ops K g (S.setIfInBounds i true)):=by
   intro i hi hL g hg;obtain⟨hun,o,ho,_⟩:=mem_ready.1 hi;have hilt:i<ops.size:=(Array.getElem?_eq_some_iff.1 ho).1;have hSi:S.getD i false=false:=by rw[<-qve (by rw[I.sizeS];exact hilt)];exact hun
   obtain⟨v,hgv,I'⟩:=I.caught St ho hi hL;have hms:=qsn hilt hL hSi (by rw[I.sizeS];exact hilt);refine qrgb ho hgv ?_;have:=ih f L (S.setIfInBounds i true) a (b.put o.dst v) w (by omega) I' h;rwa[show f+qwg L (S.setIfInBounds i true) ops.size=g by omega]at this
  have inL:∀i∈Region.ready .any ops S,L.getD i false=false->i∈Region.ready .any ops L:=by
   intro i hi hL;obtain⟨hun,o,ho,hallp⟩:=mem_ready.1 hi;have hilt:i<ops.size:=(Array.getElem?_eq_some_iff.1 ho).1;exact mem_ready.2 ⟨by rw[qve (by rw[I.sizeL];exact hilt)];exact hL,o,ho,λe he hb=>I.sub _ (hallp e he hb)⟩
  cases f with
  |zero=>
   obtain⟨hr,hk⟩:=h
   have hnr:∀i∈Region.ready .any ops S,L.getD i false=true:=by
    intro i hi;cases hL:L.getD i false with
    |true=>rfl
    |false=>have:=inL i hi hL;rw[hr]at this;cases this
   cases hrs:Region.ready .any ops S with
   |nil=>
    obtain⟨rfl,rfl⟩:=qpo I (qms St I hrs)
    exact qyib hr hk _
   |cons q rest=>
    have hq:q∈Region.ready .any ops S:=by rw[hrs];simp
    have hLq:=hnr q hq
    obtain⟨hun,o,ho,_⟩:=mem_ready.1 hq
    have hilt:q<ops.size:=(Array.getElem?_eq_some_iff.1 ho).1
    have hSq:S.getD q false=false:=by rw[<-qve (by rw[I.sizeS];exact hilt)];exact hun
    have hms:=qsn hilt hLq hSq (by rw[I.sizeS];exact hilt)
    rw[show(0:Nat)+qwg L S ops.size=qwg L (S.setIfInBounds q true) ops.size+1 by omega]
    refine⟨λh0=>?_,λi hi=>caught i hi (hnr i hi) _ (by omega)⟩
    rw[hrs]at h0;cases h0
  |succ f=>
   rcases h with⟨i,o,v,hi,hlz,ho,hg,ht⟩|⟨hh,hend,hstep⟩
   ·have hilt:i<ops.size:=(Array.getElem?_eq_some_iff.1 ho).1
    have hLi:L.getD i false=false:=by rw[<-qve (by rw[I.sizeL];exact hilt)];exact(mem_ready.1 hi).1
    have hSi:S.getD i false=false:=by
     cases h:S.getD i false with
     |false=>rfl
     |true=>rw[I.sub i h]at hLi;cases hLi
    have hms:=qay hilt hLi hSi (by rw[I.sizeL];exact hilt)
    have:=ih f (L.setIfInBounds i true) S (a.put o.dst v) b w (by omega) (I.lazily St ho hi hlz hg) ht
    rwa[show f+qwg (L.setIfInBounds i true) S ops.size=f+1+qwg L S ops.size by omega]at this
   ·rw[show f+1+qwg L S ops.size=(f+qwg L S ops.size)+1 by omega]
    refine⟨λhrs=>?_,λi hi=>?_⟩
    ·obtain⟨rfl,rfl⟩:=qpo I (qms St I hrs)
     exact hend hrs
    ·cases hL:L.getD i false with
     |true=>exact caught i hi hL _ (by omega)
     |false=>
      have hiL:=inL i hi hL
      obtain⟨hun,o,ho,_⟩:=mem_ready.1 hi
      have hilt:i<ops.size:=(Array.getElem?_eq_some_iff.1 ho).1
      have h1:=qqbb (b:=b) ho (St.nosel i o · · ho) (qfv St I ho hi) (hstep i hiL)
      refine qrbb h1 ?_
      rintro b' w' ⟨v,rfl,hal,ht⟩
      have I':=I.acted St v ho hi hiL (hh i hiL) hal
      have hmb:qwg (L.setIfInBounds i true) (S.setIfInBounds i true) ops.size=qwg L S ops.size:=qcab (by rw[I.sizeL];exact hilt) (by rw[I.sizeS];exact hilt) hL
      have:=ih f _ _ _ _ w' (by rw[hmb];omega) I' ht
      rwa[hmb]at this
theorem qtfb{P:Program}{ops:Array Oper}{pre:Nat->Nat->Bool}{lz rd al:Nat->Bool}{K:Act->World->Prop}{Q:Exit->Act->World->Prop}{id:Nat}{a:Act}{w:World}
 (r:Option Nat) (hm:P.follows .mixedOrders=true) (St:Stat ops pre lz rd al) (hQ:∀a w,K a w->Q .normal a w)
 (h:tree P ops lz rd al K ops.size (Array.replicate ops.size false) a w.drew):(Code.region id ops true).wpIn (fw r) 0 P Q a w:=by
 refine wpIn_region_any hm (qeq r hQ _ _ _ _ ?_)
 have hz:∀i,(Array.replicate ops.size false).getD i false=false:=qyo _
 have hm0:qwg (Array.replicate ops.size false) (Array.replicate ops.size false) ops.size=0:=by
  unfold qwg;rw[List.length_eq_zero_iff,List.filter_eq_nil_iff];intro i _ hb;simp[hz]at hb
 have:=qyx (K:=K) St _ ops.size (Array.replicate ops.size false) (Array.replicate ops.size false) a a w.drew (le_refl _)
  ⟨by simp,by simp,λ_ h=>h,λj oj _ hl=>absurd hl (by rw[hz];decide),λj oj _ hl=>absurd hl (by rw[hz];decide),λm om _ hl=>absurd hl (by rw[hz];decide),rfl,rfl,λ_ _=>rfl⟩ h
 rw[hm0]at this
 exact this
structure Sl where
 a:Option Addr
 len:Nat
 cap:Nat
def asI(k:IntKind)(v:Value)(F:Int->Prop):Prop:=match v with
 | .int k' n=>if k'=k then F n else False
 |_=>False
def asB(v:Value)(F:Bool->Prop):Prop:=match v with
 | .bool n=>F n
 |_=>False
def asS(v:Value)(F:ByteArray->Prop):Prop:=match v with
 | .string n=>F n
 |_=>False
def asP(v:Value)(F:Option Addr->Prop):Prop:=match v with
 | .pointer n=>F n
 |_=>False
def asA(v:Value)(F:Addr->Prop):Prop:=match v with
 | .pointer (some n)=>F n
 |_=>False
def asL(v:Value)(F:Sl->Prop):Prop:=match v with
 | .slice a l c=>F ⟨a,l,c⟩
 |_=>False
def asM(v:Value)(F:Option Nat->Prop):Prop:=match v with
 | .map n=>F n
 |_=>False
def asG(v:Value)(F:Array Value->Prop):Prop:=match v with
 | .agg n=>F n
 |_=>False
def asF(v:Value)(F:Nat×Value->Prop):Prop:=match v with
 | .iface t x=>F (t,x)
 |_=>False
def asC0(f:Nat)(v:Value)(F:Prop):Prop:=match v with
 | .func (.func g) ⟨[]⟩ ⟨[]⟩=>match beq g f with
  |true=>F
  |false=>False
 |_=>False
def asC1(f:Nat)(v:Value)(F:Option Addr->Prop):Prop:=match v with
 | .func (.func g) ⟨[.pointer p]⟩ ⟨[]⟩=>match beq g f with
  |true=>F p
  |false=>False
 |_=>False
def asC2(f:Nat)(v:Value)(F:Option Addr->Prop):Prop:=match v with
 | .func (.func g) ⟨[]⟩ ⟨[.pointer p]⟩=>match beq g f with
  |true=>F p
  |false=>False
 |_=>False
def asV(v:Value)(F:Value->Prop):Prop:=F v
theorem qoqb{k:IntKind}{v:Value}{F:Int->Prop}(h:asI k v F):∃n,v= .int k n/\F n:=by
 unfold asI at h;split at h
 ·split at h
  ·rename_i hk;subst hk;exact⟨_,rfl,h⟩
  ·exact h.elim
 ·exact h.elim
theorem qqqb{v:Value}{F:Bool->Prop}(h:asB v F):∃n,v= .bool n/\F n:=by
 unfold asB at h;split at h<;>first|exact⟨_,rfl,h⟩|exact h.elim
theorem qkqb{v:Value}{F:ByteArray->Prop}(h:asS v F):∃n,v= .string n/\F n:=by
 unfold asS at h;split at h<;>first|exact⟨_,rfl,h⟩|exact h.elim
theorem qlqb{v:Value}{F:Option Addr->Prop}(h:asP v F):∃n,v= .pointer n/\F n:=by
 unfold asP at h;split at h<;>first|exact⟨_,rfl,h⟩|exact h.elim
theorem asA_el{v:Value}{F:Addr->Prop}(h:asA v F):∃n,v= .pointer (some n)/\F n:=by
 unfold asA at h;split at h<;>first|exact⟨_,rfl,h⟩|exact h.elim
theorem qnqb{v:Value}{F:Sl->Prop}(h:asL v F):∃n:Sl,v= .slice n.a n.len n.cap/\F n:=by
 unfold asL at h;split at h<;>first|exact⟨_,rfl,h⟩|exact h.elim
theorem qmqb{v:Value}{F:Option Nat->Prop}(h:asM v F):∃n,v= .map n/\F n:=by
 unfold asM at h;split at h<;>first|exact⟨_,rfl,h⟩|exact h.elim
theorem qpqb{v:Value}{F:Array Value->Prop}(h:asG v F):∃n,v= .agg n/\F n:=by
 unfold asG at h;split at h<;>first|exact⟨_,rfl,h⟩|exact h.elim
theorem asV_el{v:Value}{F:Value->Prop}(h:asV v F):∃n,v=n/\F n:=⟨_,rfl,h⟩
theorem asF_el{v:Value}{F:Nat×Value->Prop}(h:asF v F):∃n:Nat×Value,v= .iface n.1 n.2/\F n:=by
 unfold asF at h;split at h<;>first|exact⟨_,rfl,h⟩|exact h.elim
theorem qiub{f:Nat}{v:Value}{F:Prop}(h:asC0 f v F):v= .func (.func f) ⟨[]⟩ ⟨[]⟩/\F:=by
 unfold asC0 at h;split at h
 ·split at h
  ·rename_i hb;have:=eq_of_beq_eq_true hb;subst this;exact⟨rfl,h⟩
  ·exact h.elim
 ·exact h.elim
theorem qhub{f:Nat}{v:Value}{F:Option Addr->Prop}(h:asC1 f v F):∃n,v= .func (.func f) ⟨[.pointer n]⟩ ⟨[]⟩/\F n:=by
 unfold asC1 at h;split at h
 ·split at h
  ·rename_i hb;have:=eq_of_beq_eq_true hb;subst this;exact⟨_,rfl,h⟩
  ·exact h.elim
 ·exact h.elim
theorem qgub{f:Nat}{v:Value}{F:Option Addr->Prop}(h:asC2 f v F):∃n,v= .func (.func f) ⟨[]⟩ ⟨[.pointer n]⟩/\F n:=by
 unfold asC2 at h;split at h
 ·split at h
  ·rename_i hb;have:=eq_of_beq_eq_true hb;subst this;exact⟨_,rfl,h⟩
  ·exact h.elim
 ·exact h.elim
def asT(P:Program)(t:TypeId)(v:Value)(K:Value->Prop):Prop:=
 match P.underlying t with
 |some (.int k)=>asI k v λn=>K (.int k n)
 |some .bool=>asB v λn=>K (.bool n)
 |some .string=>asS v λn=>K (.string n)
 |some (.pointer _)=>asP v λn=>K (.pointer n)
 |some (.slice _)=>asL v λn=>K (.slice n.a n.len n.cap)
 |some (.map _ _)=>asM v λn=>K (.map n)
 |some (.struct _)=>asG v λn=>K (.agg n)
 |some (.array _ _)=>asG v λn=>K (.agg n)
 |some _=>K v
 |none=>False
theorem asT_el{P:Program}{t:TypeId}{v:Value}{K:Value->Prop}(h:asT P t v K):K v:=by
 unfold asT at h;split at h<;>first
  |exact h.elim
  |exact h
  |(have h':=qoqb h
    obtain⟨n,e,h'⟩:=h'
    rw[e];exact h')
  |(have h':=qqqb h
    obtain⟨n,e,h'⟩:=h'
    rw[e];exact h')
  |(have h':=qkqb h
    obtain⟨n,e,h'⟩:=h'
    rw[e];exact h')
  |(have h':=qlqb h
    obtain⟨n,e,h'⟩:=h'
    rw[e];exact h')
  |(have h':=qnqb h
    obtain⟨n,e,h'⟩:=h'
    rw[e];exact h')
  |(have h':=qmqb h
    obtain⟨n,e,h'⟩:=h'
    rw[e];exact h')
  |(have h':=qpqb h
    obtain⟨n,e,h'⟩:=h'
    rw[e];exact h')
def eqT(a b:Nat)(K:Prop):Prop:=match beq a b with
 |true=>K
 |false=>False
theorem eqT_el{a b:Nat}{K:Prop}(h:eqT a b K):a=b/\K:=by
 unfold eqT at h;split at h
 ·rename_i hb;exact⟨eq_of_beq_eq_true hb,h⟩
 ·exact h.elim
def br(b:Bool)(A B:Prop):Prop:=match b with
 |true=>A
 |false=>B
def nz(p:Option Addr)(K:Addr->Prop):Prop:=match p with
 |some a=>K a
 |none=>False
def ixS(base:Option Addr)(len:Nat)(i:Int)(sz:Nat)(K:Addr->Prop):Prop:=nz base λa=>(0<=i/\i<(len:Int))/\K (a.add (i.toNat*sz))
def ixA(a:Addr)(n:Nat)(i:Int)(sz:Nat)(K:Addr->Prop):Prop:=(0<=i/\i<(n:Int))/\K (a.add (i.toNat*sz))
def bd(i:Int)(y:Nat)(K:Nat->Prop):Prop:=(0<=i/\i<=(y:Int))/\K i.toNat
def qnf(a:Option Addr)(m l sz:Nat):Option Addr:=if m=l then a else a.map (·.add (l*sz))
def cutP(a:Addr)(m l sz:Nat):Option Addr:=some (if m=l then a else a.add (l*sz))
def qzi(k:IntKind)(x y:Int):Int:=k.wrap (x*2^(min y.toNat k.bits))
def qal(k:IntKind)(x y:Int):Int:=x.fdiv (2^(min y.toNat k.bits))
def qdj(k:IntKind)(x y:Int):Int:=k.wrap (BitVec.ofInt k.bits x&&&BitVec.ofInt k.bits y).toNat
def orV(k:IntKind)(x y:Int):Int:=k.wrap (BitVec.ofInt k.bits x|||BitVec.ofInt k.bits y).toNat
def qlk(k:IntKind)(x y:Int):Int:=k.wrap (BitVec.ofInt k.bits x^^^BitVec.ofInt k.bits y).toNat
def qbmb(k:IntKind)(x y:Int):Int:=k.wrap (BitVec.ofInt k.bits x&&&~~~BitVec.ofInt k.bits y).toNat
def ptI(k:IntKind)(cs:Array Value)(j:Nat)(K:Int->Prop):Prop:=∃n,cs[j]?=some (.int k n)/\K n
def ptB(cs:Array Value)(j:Nat)(K:Bool->Prop):Prop:=∃n,cs[j]?=some (.bool n)/\K n
def ptS(cs:Array Value)(j:Nat)(K:ByteArray->Prop):Prop:=∃n,cs[j]?=some (.string n)/\K n
def ptA(cs:Array Value)(j:Nat)(K:Option Addr->Prop):Prop:=∃n,cs[j]?=some (.pointer n)/\K n
def ptL(cs:Array Value)(j:Nat)(K:Sl->Prop):Prop:=∃n:Sl,cs[j]?=some (.slice n.a n.len n.cap)/\K n
def ptM(cs:Array Value)(j:Nat)(K:Option Nat->Prop):Prop:=∃n,cs[j]?=some (.map n)/\K n
def ptV(cs:Array Value)(j:Nat)(K:Value->Prop):Prop:=∃n,cs[j]?=some n/\K n
def ptF(cs:Array Value)(j:Nat)(K:Nat×Value->Prop):Prop:=∃n:Nat×Value,cs[j]?=some (.iface n.1 n.2)/\K n
def qmh(P:Program)(t:TypeId)(K:Nat->Prop):Prop:=match P.info? t with
 |some i=>K i.size
 |none=>False
def partP(P:Program)(t:TypeId)(cs:Array Value)(off:Nat)(K:Value->Prop):Prop:=
 match P.underlying t with
 |some (.int k)=>ptI k cs off λn=>K (.int k n)
 |some .bool=>ptB cs off λn=>K (.bool n)
 |some .string=>ptS cs off λn=>K (.string n)
 |some (.pointer _)=>ptA cs off λn=>K (.pointer n)
 |some (.slice _)=>ptL cs off λn=>K (.slice n.a n.len n.cap)
 |some (.map _ _)=>ptM cs off λn=>K (.map n)
 |some (.struct _)=>qmh P t λsz=>K (.agg (cs.extract off (off+sz)))
 |some (.array _ _)=>qmh P t λsz=>K (.agg (cs.extract off (off+sz)))
 |some (.func _ _ _)=>ptV cs off K
 |some (.interface _)=>ptF cs off λn=>K (.iface n.1 n.2)
 |_=>False
theorem qz{P:Program}{t:TypeId}{d:TypeDesc}(h:P.underlying t=some d)(w:World):(underlying t).run P w= .ok d w:=by
 simp[underlying,h]
theorem qhh{P:Program}{t:TypeId}{d:TypeInfo}(h:P.info? t=some d)(w:World):(typeInfo t).run P w= .ok d w:=by
 simp[typeInfo,h]
theorem qce{P:Program}{t:TypeId}{d:TypeInfo}(h:P.info? t=some d)(w:World):(sizeOf t).run P w= .ok d.size w:=by
 simp[sizeOf,qhh h]
theorem qxm{P:Program}{t:TypeId}{d:TypeDesc}(h:P.underlying t=some d)(w:World):(isAgg t).run P w= .ok (match d with| .struct _| .array _ _=>true|_=>false) w:=by
 simp[isAgg,qz h];cases d<;>rfl
def PV(P:Program)(s:Sem Value)(v:Value):Prop:=∀w,s.run P w= .ok v w
theorem quv{P:Program}{t:TypeId}{cs:Array Value}{off:Nat}{K:Value->Prop}(h:partP P t cs off K):∃v,PV P (part t cs off) v/\K v:=by
 unfold partP at h;split at h<;>first
  |exact h.elim
  |(rename_i hu
    obtain⟨n,hc,hk⟩:=h
    refine⟨_,λw=>?_,hk⟩
    simp[part,qxm hu,hc])
  |(rename_i hu
    unfold qmh at h
    split at h
    ·rename_i i hi
     refine⟨_,λw=>?_,h⟩
     simp[part,qxm hu,qce hi]
    ·exact h.elim)
def ints(k:IntKind)(l:List Int):Array Value:=⟨l.map λn=>int k n⟩
def eqA(k:IntKind)(n:Nat)(cs ds:Array Value)(K:Bool->Prop):Prop:=∃xs ys:List Int,cs=ints k xs/\ds=ints k ys/\xs.length=n/\ys.length=n/\K (xs==ys)
def sameK(k k':IntKind)(A:Prop):Prop:=if k=k' then A else False
def ptBin(P:Program)(op:BinOp)(t:TypeId)(x y:Value)(K:Value->Prop):Prop:=
 match x,y with
 | .int k a,.int k' b=>
  match op with
  | .add=>sameK k k' (K (.int k (k.wrap (a+b))))
  | .sub=>sameK k k' (K (.int k (k.wrap (a-b))))
  | .mul=>sameK k k' (K (.int k (k.wrap (a*b))))
  | .quo=>sameK k k' (b≠0/\K (.int k (k.wrap (a.tdiv b))))
  | .rem=>sameK k k' (b≠0/\K (.int k (a.tmod b)))
  | .and=>sameK k k' (K (.int k (qdj k a b)))
  | .or=>sameK k k' (K (.int k (orV k a b)))
  | .xor=>sameK k k' (K (.int k (qlk k a b)))
  | .andNot=>sameK k k' (K (.int k (qbmb k a b)))
  | .shl=>0<=b/\K (.int k (qzi k a b))
  | .shr=>0<=b/\K (.int k (qal k a b))
  | .eql=>sameK k k' (K (.bool (a==b)))
  | .neq=>sameK k k' (K (.bool (a !=b)))
  | .lss=>sameK k k' (K (.bool (decide (a<b))))
  | .leq=>sameK k k' (K (.bool (decide (a<=b))))
  | .gtr=>sameK k k' (K (.bool (decide (a>b))))
  | .geq=>sameK k k' (K (.bool (decide (a>=b))))
 | .string a,.string b=>
  match op with
  | .eql=>K (.bool (a.toList==b.toList))
  | .neq=>K (.bool (!(a.toList==b.toList)))
  | .add=>((a.size+b.size:Nat):Int)<=i64.max/\K (.string (a++b))
  | .lss=>K (.bool (Op.bytesLess a.toList b.toList))
  | .leq=>K (.bool (Op.bytesLess a.toList b.toList||a.toList==b.toList))
  | .gtr=>K (.bool (!(Op.bytesLess a.toList b.toList||a.toList==b.toList)))
  | .geq=>K (.bool (!(Op.bytesLess a.toList b.toList)))
  |_=>False
 | .bool a,.bool b=>
  match P.underlying t,op with
  |some .bool,.eql=>K (.bool (a==b))
  |some .bool,.neq=>K (.bool (!(a==b)))
  |_,_=>False
 | .pointer a,.pointer none=>
  match P.underlying t,op with
  |some (.pointer _),.eql=>K (.bool a.isNone)
  |some (.pointer _),.neq=>K (.bool (!a.isNone))
  |_,_=>False
 | .slice a _ _,.slice none _ _=>
  match P.underlying t,op with
  |some (.slice _),.eql=>K (.bool a.isNone)
  |some (.slice _),.neq=>K (.bool (!a.isNone))
  |_,_=>False
 | .map a,.map none=>
  match P.underlying t,op with
  |some (.map _ _),.eql=>K (.bool a.isNone)
  |some (.map _ _),.neq=>K (.bool (!a.isNone))
  |_,_=>False
 | .agg cs,.agg ds=>
  match P.underlying t with
  |some (.array n e)=>
   match P.underlying e with
   |some (.int k)=>qmh P e λsz=>match beq sz 1 with
    |true=>match op with
     | .eql=>eqA k n cs ds λb=>K (.bool b)
     | .neq=>eqA k n cs ds λb=>K (.bool (!b))
     |_=>False
    |false=>False
   |_=>False
  |_=>False
 |_,_=>False
theorem qhg{P:Program}{op:BinOp}{t:TypeId}{x y:Operand}{a b:Value}(ha:∀c,a≠ .agg c)(hn:a≠ .nilIface)(w:World):(eqGuard op t x y a b).run P w= .ok () w:=by
 unfold eqGuard;cases a<;>first|(exact absurd rfl (ha _))|exact absurd rfl hn|(cases op<;>rfl)
theorem qhr{P:Program}{t:TypeId}{d:TypeDesc}(h:P.underlying t=some d)(x y:Value)(w:World)(r:Bool)
 (hr:∀(n:Nat),(Op.equalIn (n+1) t x y).run P w= .ok r w):(Op.equal t x y).run P w= .ok r w:=hr 9999
theorem qzgb{P:Program}{t:TypeId}(h:P.underlying t=some .bool)(a b:Bool)(w:World):(Op.equal t (.bool a) (.bool b)).run P w= .ok (a==b) w:=
 qhr h _ _ w _ λn=>by rw[Op.equalIn,run_bind,qz h];rfl
theorem qqkb{P:Program}{t e:TypeId}(h:P.underlying t=some (.pointer e))(a:Option Addr)(w:World):(Op.equal t (.pointer a) (.pointer none)).run P w= .ok a.isNone w:=
 qhr h _ _ w _ λn=>by rw[Op.equalIn,run_bind,qz h];cases a<;>rfl
theorem qvcb{P:Program}{t e:TypeId}(h:P.underlying t=some (.slice e))(a:Option Addr)(n c n' c':Nat)(w:World):(Op.equal t (.slice a n c) (.slice none n' c')).run P w= .ok a.isNone w:=
 qhr h _ _ w _ λn=>by rw[Op.equalIn,run_bind,qz h];cases a<;>rfl
theorem qrkb{P:Program}{t e f:TypeId}(h:P.underlying t=some (.map e f))(a:Option Nat)(w:World):(Op.equal t (.map a) (.map none)).run P w= .ok a.isNone w:=
 qhr h _ _ w _ λn=>by rw[Op.equalIn,run_bind,qz h];cases a<;>rfl
theorem qpeb{k:IntKind}{l:List Int}{i:Nat}(h:i<l.length):(ints k l)[i]?=some (.int k l[i]):=by simp[ints,h]
theorem qaob{P:Program}(g:Nat->Bool)(w:World)(h:Nat->Option Bool×Unit->Sem (ForInStep (Option Bool×Unit))):∀(l:List Nat),
 (∀i∈l,(h i (none,())).run P w= .ok (if g i then ForInStep.yield (none,())else ForInStep.done (some false,())) w)->
 (forIn l (none,()) h).run P w= .ok (if l.all g then(none,())else(some false,())) w:=by
 intro l
 induction l with
 |nil=>intro _;simp
 |cons i r ih=>
  intro hb
  rw[List.forIn_cons,run_bind,hb i (by simp),Result.andThen_ok]
  cases hg:g i with
  |false=>simp[hg]
  |true=>
   simp only[if_true]
   rw[ih λj hj=>hb j (by simp[hj])]
   simp[hg]
theorem qskb{P:Program}{t e:TypeId}{n:Nat}{k:IntKind}{i:TypeInfo}(h:P.underlying t=some (.array n e))(he:P.underlying e=some (.int k))(hi:P.info? e=some i)(h1:i.size=1)(xs ys:List Int)(hx:xs.length=n)(hy:ys.length=n)(w:World):
 (Op.equal t (.agg (ints k xs)) (.agg (ints k ys))).run P w= .ok (xs==ys) w:=by
 show(Op.equalIn (9998+1+1) t _ _).run P w=_
 rw[Op.equalIn,run_bind,qz h,Result.andThen_ok]
 simp only[run_bind,qce hi,Result.andThen_ok,Std.Legacy.Range.forIn_eq_forIn_range']
 have hall:(List.range' 0 (Std.Legacy.Range.size [:n])).all (λj=>xs[j]?==ys[j]?)=(xs==ys):=by
  have hsz:Std.Legacy.Range.size [:n]=n:=by simp[Std.Legacy.Range.size]
  rw[hsz,Bool.eq_iff_iff,all_eq_true,beq_iff_eq];constructor
  ·intro ha;apply List.ext_getElem?;intro j;by_cases hj:j<n
   ·have:=ha j (by simp[List.mem_range'];omega);simpa using this
   ·rw[List.getElem?_eq_none (by omega),List.getElem?_eq_none (by omega)]
  ·rintro rfl j _;simp
 rw[qaob (λj=>xs[j]?==ys[j]?)]
 ·rw[hall,Result.andThen_ok]
  cases(xs==ys)<;>rfl
 ·intro j hj
  have hjn:j<n:=by
   simp[List.mem_range',Std.Legacy.Range.size]at hj;omega
  have hpx:(part e (ints k xs) (j*i.size)).run P w= .ok (.int k xs[j]) w:=by
   simp[part,qxm he,h1,qpeb (show j<xs.length by omega)]
  have hpy:(part e (ints k ys) (j*i.size)).run P w= .ok (.int k ys[j]) w:=by
   simp[part,qxm he,h1,qpeb (show j<ys.length by omega)]
  have heq:(Op.equalIn (9998+1) e (.int k xs[j]) (.int k ys[j])).run P w= .ok (xs[j]==ys[j]) w:=by
   rw[Op.equalIn,run_bind,qz he,Result.andThen_ok];simp
  simp only[run_bind,hpx,hpy,heq,Result.andThen_ok]
  have e1:(xs[j]?==ys[j]?)=(xs[j]==ys[j]):=by
   rw[List.getElem?_eq_getElem (by omega),List.getElem?_eq_getElem (by omega)];rfl
  rw[e1]
  cases(xs[j]==ys[j])<;>rfl
theorem qikb{P:Program}{op:BinOp}{t e:TypeId}{n:Nat}{k:IntKind}{x y:Operand}(h:P.underlying t=some (.array n e))(he:P.underlying e=some (.int k))(cs ds:Array Value)(w:World):
 (eqGuard op t x y (.agg cs) (.agg ds)).run P w= .ok () w:=by
 have hd:∃d,P.depth=d+1+1:=⟨2*(P.types.size+Made.depth),by unfold Program.depth;rfl⟩
 obtain⟨d,hd⟩:=hd
 have hg:P.eqGuardType P.depth t=false:=by
  rw[hd];simp[Program.eqGuardType,h,he]
 unfold eqGuard
 cases op<;>simp[hg]
theorem qtlb{P:Program}{op:BinOp}{t:TypeId}{x y:Value}{ox oy:Operand}{K:Value->Prop}(h:ptBin P op t x y K):
 ∃v,PV P (do eqGuard op t ox oy x y;binOp op t x y) v/\K v:=by
 unfold ptBin at h
 split at h
 ·rename_i k a k' b
  cases op<;>simp only[sameK]at h<;>first
   |(split at h<;>first
      |(rename_i hk
        subst hk
        first
         |(refine⟨_,λw=>?_,h⟩
           simp[qhg,binOp,Op.intArith,Op.intBits,Op.intCmp,qdj,orV,qlk,qbmb];done)
         |(obtain⟨h0,h⟩:=h
           refine⟨_,λw=>?_,h⟩
           simp[qhg,binOp,Op.intDiv,h0];done))
      |exact h.elim)
   |(obtain⟨h0,h⟩:=h
     refine⟨_,λw=>?_,h⟩
     have h1:¬b<0:=by omega
     simp[qhg,binOp,Op.shift,h1,qzi,qal])
 ·rename_i a b
  cases op<;>simp only at h<;>first
   |exact h.elim
   |(refine⟨_,λw=>?_,h⟩
     simp[qhg,binOp,Op.stringOp];done)
   |(obtain⟨h0,h⟩:=h
     refine⟨_,λw=>?_,h⟩
     have h1:¬((a.size+b.size:Nat):Int)>i64.max:=by omega
     simp only[run_bind,qhg (a:= .string a) (by simp) (by simp),Result.andThen_ok,binOp,Op.stringOp,if_neg h1]
     rfl)
 ·rename_i a b
  split at h<;>first
   |exact h.elim
   |(rename_i hu
     refine⟨_,λw=>?_,h⟩
     simp[qhg,binOp,qzgb hu])
 ·rename_i a
  split at h<;>first
   |exact h.elim
   |(rename_i hu
     refine⟨_,λw=>?_,h⟩
     cases a<;>simp[qhg,binOp,qqkb hu])
 ·rename_i a _ _ _ _
  split at h<;>first
   |exact h.elim
   |(rename_i hu
     refine⟨_,λw=>?_,h⟩
     cases a<;>simp[qhg,binOp,qvcb hu])
 ·rename_i a
  split at h<;>first
   |exact h.elim
   |(rename_i hu
     refine⟨_,λw=>?_,h⟩
     cases a<;>simp[qhg,binOp,qrkb hu])
 ·rename_i cs ds
  split at h<;>first|exact h.elim|skip
  rename_i n e hu
  split at h<;>first|exact h.elim|skip
  rename_i k he
  unfold qmh at h
  split at h<;>first|exact h.elim|skip
  rename_i i hi
  split at h<;>first|exact h.elim|skip
  rename_i hsz
  have h1:i.size=1:=eq_of_beq_eq_true hsz
  cases op<;>simp only at h<;>first
   |exact h.elim
   |(obtain⟨xs,ys,rfl,rfl,hx,hy,hk⟩:=h
     refine⟨_,λw=>?_,hk⟩
     simp[qikb hu he,binOp,qskb hu he hi h1 xs ys hx hy])
 ·exact h.elim
def ptNil(x:Value)(K:Value->Prop):Prop:=
 match x with
 | .pointer p=>nz p λa=>K (.pointer (some a))
 | .func (.func f) first captured=>K (.func (.func f) first captured)
 | .iface t v=>K (.iface t v)
 |_=>False
def ptUn(op:UnOp)(x:Value)(K:Value->Prop):Prop:=
 match op,x with
 | .not,.bool b=>K (.bool !b)
 | .neg,.int k n=>K (.int k (k.wrap (0-n)))
 | .xor,.int k n=>K (.int k (qlk k (if k.signed then -1 else k.max) n))
 |_,_=>False
def qdcb(P:Program)(src dst:TypeId)(x:Value)(K:Value->Prop):Prop:=
 match P.underlying src with
 |none=>False
 |some _=>
  match P.underlying dst,x with
  |some (.int k),.int _ n=>K (.int k (k.wrap n))
  |some .string,.string s=>K (.string s)
  |_,_=>False
def qmq(P:Program)(s:TypeId)(x:Value)(f:Nat)(K:Value->Prop):Prop:=
 match P.underlying s with
 |some (.struct fs)=>
  match fs[f]? with
  |some fd=>
   match x with
   | .pointer (some a)=>qmh P fd.type λsz=>if sz=0 then False else K (.pointer (some (a.add fd.offset)))
   |_=>False
  |none=>False
 |_=>False
def qccb(P:Program)(t:TypeId)(x:Value)(f:Nat)(K:Value->Prop):Prop:=
 match P.underlying t with
 |some (.struct fs)=>
  match fs[f]? with
  |some fd=>
   match x with
   | .agg cs=>partP P fd.type cs fd.offset K
   |_=>False
  |none=>False
 |_=>False
def qlq(P:Program)(t:TypeId)(x ix:Value)(K:Value->Prop):Prop:=
 match ix with
 | .int _ i=>
  match P.underlying t,x with
  |some (.slice e),.slice base len _=>qmh P e λsz=>ixS base len i sz λa=>K (.pointer (some a))
  |some (.array n e),.pointer (some a)=>qmh P e λsz=>ixA a n i sz λa=>K (.pointer (some a))
  |_,_=>False
 |_=>False
def qfq(s:ByteArray)(i:Nat):Int:=((s.data.toList.getD i 0).toNat:Int)
def qbcb(P:Program)(t:TypeId)(x ix:Value)(K:Value->Prop):Prop:=
 match ix with
 | .int _ i=>
  match P.underlying t,x with
  |some (.array n e),.agg cs=>qmh P e λsz=>(0<=i/\i<(n:Int))/\partP P e cs (i.toNat*sz) K
  |some .string,.string s=>(0<=i/\i<(s.size:Int))/\K (.int .u8 (qfq s i.toNat))
  |_,_=>False
 |_=>False
def bdO(x:Option Value)(y d:Nat)(K:Nat->Prop):Prop:=
 match x with
 |none=>K d
 |some (.int _ i)=>bd i y K
 |_=>False
def qybb(P:Program)(t:TypeId)(x:Value)(lo hi mx:Option Value)(K:Value->Prop):Prop:=
 match P.underlying t,x with
 |some (.slice e),.slice a len cap=>qmh P e λsz=>bdO mx cap cap λm=>bdO hi m len λh=>bdO lo h 0 λl=>K (.slice (qnf a m l sz) (h-l) (m-l))
 |some (.array n e),.pointer (some a)=>qmh P e λsz=>bdO mx n n λm=>bdO hi m n λh=>bdO lo h 0 λl=>K (.slice (cutP a m l sz) (h-l) (m-l))
 |some .string,.string s=>
  match mx with
  |none=>bdO hi s.size s.size λh=>bdO lo h 0 λl=>K (.string (s.extract l h))
  |some _=>False
 |_,_=>False
def qau(x:Value)(i:Nat)(K:Value->Prop):Prop:=
 match x with
 | .tuple vs=>match vs.toList[i]? with
  |some v=>K v
  |none=>False
 |_=>False
def ptMkI(P:Program)(t:TypeId)(x:Value)(K:Value->Prop):Prop:=
 match P.underlying t with
 |some (.interface _)=>False
 |some _=>K (.iface t x)
 |none=>False
def qrx(P:Program)(t:TypeId)(x:Value)(K:Value->Prop):Prop:=
 match P.underlying t,x with
 |some (.array n _),.slice a len _=>n<=len/\nz a λad=>K (.pointer (some ad))
 |_,_=>False
def qqx(P:Program)(x:Value)(asserted:TypeId)(ok:Bool)(K:Value->Prop):Prop:=
 match P.underlying asserted,x with
 |some (.interface _),_=>False
 |some _,.iface t v=>eqT t asserted (asT P asserted v λv=>match ok with
  |true=>K (.tuple #[v,.bool true])
  |false=>K v)
 |_,_=>False
def ptLen(P:Program)(t:TypeId)(x:Value)(K:Value->Prop):Prop:=
 match P.underlying t,x with
 |some .string,.string s=>K (.int .i64 s.size)
 |some (.slice _),.slice _ n _=>K (.int .i64 n)
 |some (.array n _),_=>K (.int .i64 n)
 |_,_=>False
def ptCap(P:Program)(t:TypeId)(x:Value)(K:Value->Prop):Prop:=
 match P.underlying t,x with
 |some (.slice _),.slice _ _ n=>K (.int .i64 n)
 |_,_=>False
def ptMin(l:List Value)(K:Value->Prop):Prop:=
 match l with
 |[.int k x,.int _ y]=>K (.int k (if y<x then y else x))
 |_=>False
def ptMax(l:List Value)(K:Value->Prop):Prop:=
 match l with
 |[.int k x,.int _ y]=>K (.int k (if y>x then y else x))
 |_=>False
def qlnb(P:Program)(c:Call):Bool:=
 match c.callee with
 | .builtin .len=>match c.argTypes.toList with
  |t::_=>match P.underlying t with
   |some (.map _ _)=>false
   |_=>true
  |[]=>false
 | .builtin .cap=>true
 | .builtin .min=>true
 | .builtin .max=>true
 |_=>false
def qknb(P:Program)(src dst:TypeId):Bool:=
 match P.underlying src,P.underlying dst with
 |some (.int _),some (.int _)=>true
 |some .string,some .string=>true
 |_,_=>false
def isPure(P:Program)(o:Oper):Bool:=
 match o.op with
 | .move _| .assign _| .pick .. | .nilCheck _| .binOp .. | .unOp .. | .fieldAddr .. | .field .. | .indexAddr .. | .index .. | .slice .. | .extract .. | .makeInterface .. | .makeFunc .. | .sliceToArrayPointer .. | .typeAssert .. =>true
 | .convert s d _=>qknb P s d
 | .call c=>qlnb P c
 |_=>false
def qqib(c a b:Value)(K:Value->Prop):Prop:=
 match c with
 | .bool t=>br t (K a) (K b)
 |_=>False
def qrr(P:Program)(ρ:Operand->Value)(c:Call)(K:Value->Prop):Prop:=
 match c.callee,c.args.toList with
 | .builtin .len,[x]=>match c.argTypes.toList with
  |t::_=>ptLen P t (ρ x) K
  |[]=>False
 | .builtin .cap,[x]=>match c.argTypes.toList with
  |t::_=>ptCap P t (ρ x) K
  |[]=>False
 | .builtin .min,l=>ptMin (l.map ρ) K
 | .builtin .max,l=>ptMax (l.map ρ) K
 |_,_=>False
def ptP(P:Program)(o:Oper)(ρ:Operand->Value)(K:Value->Prop):Prop:=
 match o.op with
 | .move x=>K (ρ x)
 | .assign x=>K (ρ x)
 | .pick c a b=>qqib (ρ c) (ρ a) (ρ b) K
 | .nilCheck x=>ptNil (ρ x) K
 | .binOp op t x y _=>ptBin P op t (ρ x) (ρ y) K
 | .unOp op _ x=>ptUn op (ρ x) K
 | .convert s d x=>qdcb P s d (ρ x) K
 | .fieldAddr s x f=>qmq P s (ρ x) f K
 | .field t x f=>qccb P t (ρ x) f K
 | .indexAddr t x i=>qlq P t (ρ x) (ρ i) K
 | .index t x i=>qbcb P t (ρ x) (ρ i) K
 | .slice t x lo hi mx=>qybb P t (ρ x) (lo.map ρ) (hi.map ρ) (mx.map ρ) K
 | .extract x i=>qau (ρ x) i K
 | .makeInterface t x=>ptMkI P t (ρ x) K
 | .makeFunc fn first captured=>K (.func fn ⟨first.toList.map ρ⟩ ⟨captured.toList.map ρ⟩)
 | .sliceToArrayPointer t x=>qrx P t (ρ x) K
 | .typeAssert x _ t ok=>qqx P (ρ x) t ok K
 | .call c=>qrr P ρ c K
 |_=>False
theorem qnh{P:Program}{s:Sem Value}{K:Value->Prop}(h:∃v,PV P s v/\K v):∃v,(∀w,(do pure (Next.value (<-s)):Sem Next).run P w= .ok (.value v) w)/\K v:=by
 obtain⟨v,hv,hk⟩:=h;exact⟨v,λw=>by simp[hv w],hk⟩
theorem qhk{P:Program}{k:IntKind}{i:Int}{y:Nat}{c:BoundsCode}(h:0<=i/\i<=(y:Int))(w:World):(Instr.sliceBound (.int k i) y c).run P w= .ok i.toNat w:=by
 simp[Instr.sliceBound,asIntOf,h]
theorem qbq{x:Value}{y d:Nat}{K:Nat->Prop}(h:bdO (some x) y d K):∃k i,x= .int k i/\(0<=i/\i<=(y:Int))/\K i.toNat:=by
 unfold bdO at h;cases x<;>first|exact h.elim|exact⟨_,_,rfl,h.1,h.2⟩
theorem qfs{P:Program}{isS:Bool}{len cap:Nat}{lo hi mx:Option Value}{K:Nat->Nat->Nat->Prop}
 (hh:mx.isSome=true->hi.isSome=true)
 (h:bdO mx cap cap λm=>bdO hi m len λhh=>bdO lo hh 0 λl=>K l hh m):
 ∃l hh m,(∀w,(Instr.sliceBounds isS len cap lo hi mx).run P w= .ok (l,hh,m) w)/\K l hh m:=by
 unfold Instr.sliceBounds
 cases mx with
 |none=>
  cases hi with
  |none=>
   cases lo with
   |none=>exact⟨_,_,_,λw=>by simp,h⟩
   |some v=>
    obtain⟨k,i,rfl,hb,h⟩:=qbq (K:=λl=>K l len cap) h
    exact⟨_,_,_,λw=>by simp[qhk hb],h⟩
  |some u=>
   obtain⟨k,i,rfl,hb,h⟩:=qbq (K:=λhh=>bdO lo hh 0 λl=>K l hh cap) h
   cases lo with
   |none=>exact⟨_,_,_,λw=>by simp[qhk hb],h⟩
   |some v=>
    obtain⟨k2,i2,rfl,hb2,h⟩:=qbq h
    exact⟨_,_,_,λw=>by simp[qhk hb,qhk hb2],h⟩
 |some x=>
  obtain⟨k0,i0,rfl,hb0,h⟩:=qbq h
  cases hi with
  |none=>simp at hh
  |some u=>
   obtain⟨k,i,rfl,hb,h⟩:=qbq h
   cases lo with
   |none=>exact⟨_,_,_,λw=>by simp[qhk hb0,qhk hb],h⟩
   |some v=>
    obtain⟨k2,i2,rfl,hb2,h⟩:=qbq h
    exact⟨_,_,_,λw=>by simp[qhk hb0,qhk hb,qhk hb2],h⟩
theorem qte{P:Program}{t:TypeId}{K:Nat->Prop}(h:qmh P t K):∃i,P.info? t=some i/\K i.size:=by
 unfold qmh at h;split at h
 ·exact⟨_,by assumption,h⟩
 ·exact h.elim
theorem qhjb{P:Program}{o:Oper}{ρ:Operand->Value}{x:Operand}{K:Value->Prop}(ho:o.op= .nilCheck x)(h:ptNil (ρ x) K):∃v,(∀w,(execOp ρ o).run P w= .ok (.value v) w)/\K v:=by
 unfold ptNil at h;split at h
 ·rename_i p hx;cases p with
  |none=>exact h.elim
  |some a=>exact⟨_,λw=>by simp[execOp,ho,hx],h⟩
 ·rename_i f c d hx;exact⟨_,λw=>by simp[execOp,ho,hx],h⟩
 ·rename_i t v hx;exact⟨_,λw=>by simp[execOp,ho,hx],h⟩
 ·exact h.elim
theorem qumb{P:Program}{op:UnOp}{x:Value}{K:Value->Prop}(h:ptUn op x K):∃v,PV P (Op.unary op x) v/\K v:=by
 unfold ptUn at h;split at h<;>first
  |exact h.elim
  |exact⟨_,λw=>by simp[Op.unary,Op.intArith,Op.intBits,qlk],h⟩
theorem qbdb{P:Program}{src dst:TypeId}{x:Value}{K:Value->Prop}(h:qdcb P src dst x K):∃v,PV P (convert src dst x) v/\K v:=by
 unfold qdcb at h;split at h
 ·exact h.elim
 ·rename_i d hs;split at h<;>first
   |exact h.elim
   |(rename_i hd
     refine⟨_,λw=>?_,h⟩
     unfold convert
     rw[run_bind,qz hs,Result.andThen_ok,run_bind,qz hd,Result.andThen_ok]
     cases d<;>first|rfl|simp[Conv.intToInt])
theorem qru{P:Program}{s:TypeId}{x:Value}{f:Nat}{K:Value->Prop}(h:qmq P s x f K):∃v,PV P (Instr.fieldAt s x f) v/\K v:=by
 unfold qmq at h;split at h<;>first|exact h.elim|skip
 rename_i fs hu;split at h<;>first|exact h.elim|skip
 rename_i fd hf;split at h<;>first|exact h.elim|skip
 rename_i a;obtain⟨i,hi,h⟩:=qte h;split at h
 ·exact h.elim
 ·rename_i h0;refine⟨_,λw=>?_,h⟩;simp[Instr.fieldAt,qz hu,hf,Instr.sureAddr,fieldPlace,qce hi,h0]
theorem qucb{P:Program}{t:TypeId}{x:Value}{f:Nat}{K:Value->Prop}(h:qccb P t x f K):∃v,PV P (Instr.field t x f) v/\K v:=by
 unfold qccb at h;split at h<;>first|exact h.elim|skip
 rename_i fs hu;split at h<;>first|exact h.elim|skip
 rename_i fd hf;split at h<;>first|exact h.elim|skip
 rename_i cs;obtain⟨v,hv,hk⟩:=quv h;refine⟨v,λw=>?_,hk⟩;simp[Instr.field,qz hu,hf,asAgg,hv w]
theorem qhu{P:Program}{t:TypeId}{x ix:Value}{K:Value->Prop}(h:qlq P t x ix K):∃v,PV P (Instr.indexAt t x ix) v/\K v:=by
 unfold qlq at h;split at h<;>first|exact h.elim|skip
 rename_i k i;split at h<;>first|exact h.elim|skip
 ·rename_i e base len c hu;obtain⟨ii,hi,h⟩:=qte h;unfold ixS nz at h;split at h
  ·rename_i a;obtain⟨hb,h⟩:=h;refine⟨_,λw=>?_,h⟩;simp[Instr.indexAt,asIntOf,qz hu,hb,qce hi]
  ·exact h.elim
 ·rename_i n e a hu;obtain⟨ii,hi,h⟩:=qte h;obtain⟨hb,h⟩:=h;refine⟨_,λw=>?_,h⟩;simp[Instr.indexAt,asIntOf,qz hu,hb,qce hi,Instr.sureAddr]
theorem qmcb{P:Program}{t:TypeId}{x ix:Value}{K:Value->Prop}(h:qbcb P t x ix K):∃v,PV P (Instr.index t x ix) v/\K v:=by
 unfold qbcb at h;split at h<;>first|exact h.elim|skip
 rename_i k i;split at h<;>first|exact h.elim|skip
 ·rename_i n e cs hu;obtain⟨ii,hi,hb,h⟩:=qte h;obtain⟨v,hv,hk⟩:=quv h;refine⟨v,λw=>?_,hk⟩;simp[Instr.index,asIntOf,qz hu,hb,qce hi,hv w]
 ·rename_i s hu;obtain⟨hb,h⟩:=h;refine⟨_,λw=>?_,h⟩;have hlt:i.toNat<s.size:=by omega
  have e:s[i.toNat]?=some s[i.toNat]:=by simp[hlt]
  have e2:qfq s i.toNat=((s[i.toNat]).toNat:Int):=by
   unfold qfq;have:s.data.toList.getD i.toNat 0=s[i.toNat]:=by
    rw[getD_eq_getElem?_getD,Array.getElem?_toList,Array.getElem?_eq_getElem (by exact hlt)];rfl
   rw[this]
  simp[Instr.index,asIntOf,qz hu,hb.1,e,e2]
theorem qsbb{P:Program}{t:TypeId}{x:Value}{lo hi mx:Option Value}{K:Value->Prop}(hm:mx.isSome=true->hi.isSome=true)(h:qybb P t x lo hi mx K):∃v,PV P (Instr.sliceAt t x lo hi mx) v/\K v:=by
 unfold qybb at h;split at h<;>first|exact h.elim|skip
 ·rename_i e a len cap hu;obtain⟨ii,hi',h⟩:=qte h;obtain⟨l,hh,m,hr,hk⟩:=qfs (P:=P) (isS:=true) (K:=λl h m=>K (.slice (qnf a m l ii.size) (h-l) (m-l))) hm h;refine⟨_,λw=>?_,hk⟩;simp[Instr.sliceAt,qz hu,Instr.slice,hr w,qce hi',qnf]
 ·rename_i n e a hu;obtain⟨ii,hi',h⟩:=qte h;obtain⟨l,hh,m,hr,hk⟩:=qfs (P:=P) (isS:=false) (K:=λl h m=>K (.slice (cutP a m l ii.size) (h-l) (m-l))) hm h;refine⟨_,λw=>?_,hk⟩;simp[Instr.sliceAt,qz hu,Instr.sureAddr,hr w,qce hi',cutP]
 ·rename_i s hu;split at h<;>first|exact h.elim|skip
  obtain⟨l,hh,m,hr,hk⟩:=qfs (P:=P) (isS:=false) (mx:=none) (lo:=lo) (hi:=hi) (len:=s.size) (cap:=s.size) (K:=λl h m=>K (.string (s.extract l h))) (by simp) h;refine⟨_,λw=>?_,hk⟩;simp[Instr.sliceAt,qz hu,Instr.slice,hr w]
theorem qly{P:Program}{x:Value}{i:Nat}{K:Value->Prop}(h:qau x i K):∃v,PV P (Instr.extract x i) v/\K v:=by
 unfold qau at h;split at h<;>first|exact h.elim|skip
 rename_i vs;split at h<;>first|exact h.elim|skip
 rename_i v hv;refine⟨v,λw=>?_,h⟩;have:vs[i]?=some v:=by rw[<-Array.getElem?_toList];exact hv
 simp[Instr.extract,this]
theorem qjjb{P:Program}{t:TypeId}{x:Value}{K:Value->Prop}(h:ptMkI P t x K):∃v,PV P (Instr.makeInterface t x) v/\K v:=by
 unfold ptMkI at h;split at h<;>first|exact h.elim|skip
 rename_i d hd hu;refine⟨_,λw=>?_,h⟩;unfold Instr.makeInterface;rw[run_bind,qz hu,Result.andThen_ok];cases d<;>first|rfl|exact(hd _ rfl).elim
theorem qbbb{P:Program}{t:TypeId}{x:Value}{K:Value->Prop}(h:qrx P t x K):∃v,PV P (Instr.arrayAt t x) v/\K v:=by
 unfold qrx at h;split at h<;>first|exact h.elim|skip
 rename_i n e a len c hu;obtain⟨hl,h⟩:=h;unfold nz at h;split at h<;>first|exact h.elim|skip
 refine⟨_,λw=>?_,h⟩;have:¬len<n:=by omega
 simp[Instr.arrayAt,qz hu,this]
theorem qabb{P:Program}{x:Value}{xt t:TypeId}{ok:Bool}{K:Value->Prop}(h:qqx P x t ok K):∃v,PV P (Instr.typeAssert x xt t ok) v/\K v:=by
 unfold qqx at h;split at h<;>first|exact h.elim|skip
 rename_i d t' v hd hu;obtain⟨ht,h⟩:=eqT_el h;subst ht;have h:=asT_el h;cases ok with
 |true=>
  refine⟨_,λw=>?_,h⟩;unfold Instr.typeAssert;rw[run_bind,qz hu,Result.andThen_ok];cases d<;>first|exact(hd _ rfl).elim|simp
 |false=>
  refine⟨_,λw=>?_,h⟩;unfold Instr.typeAssert;rw[run_bind,qz hu,Result.andThen_ok];cases d<;>first|exact(hd _ rfl).elim|simp
theorem qnjb{P:Program}{t:TypeId}{ts:List TypeId}{ty:TypeId}{x:Value}{K:Value->Prop}(h:ptLen P t x K):∃v,PV P (Builtin.len_ ⟨t::ts⟩ ty #[x]) v/\K v:=by
 unfold ptLen at h;split at h<;>first
  |exact h.elim
  |(rename_i hu
    refine⟨_,λw=>?_,h⟩
    simp[Builtin.len_,qz hu,goInt])
theorem qllb{P:Program}{t:TypeId}{ts:List TypeId}{ty:TypeId}{x:Value}{K:Value->Prop}(h:ptCap P t x K):∃v,PV P (Builtin.cap_ ⟨t::ts⟩ ty #[x]) v/\K v:=by
 unfold ptCap at h;split at h<;>first
  |exact h.elim
  |(rename_i hu
    refine⟨_,λw=>?_,h⟩
    simp[Builtin.cap_,qz hu,goInt])
def slOk(o:Oper):Bool:=match o.op with
 | .slice _ _ _ none (some _)=>false
 |_=>true
theorem qjv{P:Program}{o:Oper}{ρ:Operand->Value}{c:Call}{K:Value->Prop}(ho:o.op= .call c)(h:qrr P ρ c K):
 ∃v,(∀w,(execOp ρ o).run P w= .ok (.value v) w)/\K v:=by
 obtain⟨callee,args,argTypes⟩:=c
 obtain⟨args⟩:=args
 obtain⟨argTypes⟩:=argTypes
 unfold qrr at h
 simp only at h
 split at h<;>first|exact h.elim|skip
 ·rename_i x
  split at h<;>first|exact h.elim|skip
  rename_i t ts
  obtain⟨v,hv,hk⟩:=qnjb (ts:=ts) (ty:=o.type) h
  exact⟨v,λw=>by simp[execOp,ho,resolve,invoke,builtin,hv w],hk⟩
 ·rename_i x
  split at h<;>first|exact h.elim|skip
  rename_i t ts
  obtain⟨v,hv,hk⟩:=qllb (ts:=ts) (ty:=o.type) h
  exact⟨v,λw=>by simp[execOp,ho,resolve,invoke,builtin,hv w],hk⟩
 ·rename_i l
  unfold ptMin at h
  split at h<;>first|exact h.elim|skip
  rename_i k x k' y hl
  refine⟨_,λw=>?_,h⟩
  have e:(List.map ρ args).toArray=#[int k x,int k' y]:=by rw[<-hl]
  simp[execOp,ho,resolve,invoke,builtin,e,Builtin.min_,Builtin.min2]
 ·rename_i l
  unfold ptMax at h
  split at h<;>first|exact h.elim|skip
  rename_i k x k' y hl
  refine⟨_,λw=>?_,h⟩
  have e:(List.map ρ args).toArray=#[int k x,int k' y]:=by rw[<-hl]
  simp[execOp,ho,resolve,invoke,builtin,e,Builtin.max_,Builtin.max2]
theorem qrib{P:Program}{o:Oper}{ρ:Operand->Value}{K:Value->Prop}(hs:slOk o=true)(h:ptP P o ρ K):
 ∃v,(∀w,(execOp ρ o).run P w= .ok (.value v) w)/\K v:=by
 unfold ptP at h
 split at h<;>first|exact h.elim|skip
 ·rename_i x ho;exact⟨_,λw=>by simp[execOp,ho],h⟩
 ·rename_i x ho;exact⟨_,λw=>by simp[execOp,ho],h⟩
 ·rename_i c a b ho
  unfold qqib at h
  split at h<;>first|exact h.elim|skip
  rename_i t ht
  cases t with
  |true=>exact⟨_,λw=>by simp[execOp,ho,ht,asBool],h⟩
  |false=>exact⟨_,λw=>by simp[execOp,ho,ht,asBool],h⟩
 ·rename_i x ho;exact qhjb ho h
 ·rename_i op t x y yt ho
  obtain⟨v,hv,hk⟩:=qnh (qtlb (ox:=x) (oy:=y) h)
  exact⟨v,λw=>by rw[<-hv w];simp[execOp,ho],hk⟩
 ·rename_i op t x ho
  obtain⟨v,hv,hk⟩:=qnh (qumb (P:=P) h)
  exact⟨v,λw=>by rw[<-hv w];simp[execOp,ho],hk⟩
 ·rename_i s d x ho
  obtain⟨v,hv,hk⟩:=qnh (qbdb h)
  exact⟨v,λw=>by rw[<-hv w];simp[execOp,ho],hk⟩
 ·rename_i s x f ho
  obtain⟨v,hv,hk⟩:=qnh (qru h)
  exact⟨v,λw=>by rw[<-hv w];simp[execOp,ho],hk⟩
 ·rename_i s x f ho
  obtain⟨v,hv,hk⟩:=qnh (qucb h)
  exact⟨v,λw=>by rw[<-hv w];simp[execOp,ho],hk⟩
 ·rename_i s x f ho
  obtain⟨v,hv,hk⟩:=qnh (qhu h)
  exact⟨v,λw=>by rw[<-hv w];simp[execOp,ho],hk⟩
 ·rename_i s x f ho
  obtain⟨v,hv,hk⟩:=qnh (qmcb h)
  exact⟨v,λw=>by rw[<-hv w];simp[execOp,ho],hk⟩
 ·rename_i t x lo hi mx ho
  obtain⟨v,hv,hk⟩:=qnh (qsbb (by
   unfold slOk at hs;rw[ho]at hs;cases hi<;>cases mx<;>simp_all) h)
  exact⟨v,λw=>by rw[<-hv w];simp[execOp,ho],hk⟩
 ·rename_i x i ho
  obtain⟨v,hv,hk⟩:=qnh (qly (P:=P) h)
  exact⟨v,λw=>by rw[<-hv w];simp[execOp,ho],hk⟩
 ·rename_i t x ho
  obtain⟨v,hv,hk⟩:=qnh (qjjb h)
  exact⟨v,λw=>by rw[<-hv w];simp[execOp,ho],hk⟩
 ·rename_i fn first captured ho
  obtain⟨first⟩:=first
  obtain⟨captured⟩:=captured
  exact⟨_,λw=>by simp[execOp,ho,Instr.makeFunc],h⟩
 ·rename_i t x ho
  obtain⟨v,hv,hk⟩:=qnh (qbbb h)
  exact⟨v,λw=>by rw[<-hv w];simp[execOp,ho],hk⟩
 ·rename_i x xt t ok ho
  obtain⟨v,hv,hk⟩:=qnh (qabb (xt:=xt) h)
  exact⟨v,λw=>by rw[<-hv w];simp[execOp,ho],hk⟩
 ·rename_i c ho
  exact qjv ho h
def ldI(k:IntKind)(w:World)(a:Addr)(K:Int->Prop):Prop:=∃n,w.cell? a=some (.int k n)/\K n
def ldB(w:World)(a:Addr)(K:Bool->Prop):Prop:=∃n,w.cell? a=some (.bool n)/\K n
def ldS(w:World)(a:Addr)(K:ByteArray->Prop):Prop:=∃n,w.cell? a=some (.string n)/\K n
def ldP(w:World)(a:Addr)(K:Option Addr->Prop):Prop:=∃n,w.cell? a=some (.pointer n)/\K n
def ldL(w:World)(a:Addr)(K:Sl->Prop):Prop:=∃n:Sl,w.cell? a=some (.slice n.a n.len n.cap)/\K n
def ldM(w:World)(a:Addr)(K:Option Nat->Prop):Prop:=∃n,w.cell? a=some (.map n)/\K n
def ldF(w:World)(a:Addr)(K:Nat×Value->Prop):Prop:=∃n:Nat×Value,w.cell? a=some (.iface n.1 n.2)/\K n
def ldV(w:World)(a:Addr)(K:Value->Prop):Prop:=∃n,w.cell? a=some n/\K n
def ldA(w:World)(a:Addr)(n:Nat)(K:Array Value->Prop):Prop:=∃cs:Array Value,cs.size=n/\(∀i,i<n->w.cell? (a.add i)=cs[i]?)/\K cs
def qsv(P:Program)(t:TypeId)(x:Value)(w:World)(K:Value->Prop):Prop:=
 match x with
 | .pointer (some a)=>
  match P.underlying t with
  |some (.int k)=>ldI k w a λn=>K (.int k n)
  |some .bool=>ldB w a λn=>K (.bool n)
  |some .string=>ldS w a λn=>K (.string n)
  |some (.pointer _)=>ldP w a λn=>K (.pointer n)
  |some (.slice _)=>ldL w a λn=>K (.slice n.a n.len n.cap)
  |some (.map _ _)=>ldM w a λn=>K (.map n)
  |some (.struct _)=>qmh P t λsz=>ldA w a sz λcs=>K (.agg cs)
  |some (.array _ _)=>qmh P t λsz=>ldA w a sz λcs=>K (.agg cs)
  |some (.func _ _ _)=>ldV w a K
  |some (.interface _)=>ldF w a λn=>K (.iface n.1 n.2)
  |_=>False
 |_=>False
theorem qvy{w w':World}(h:extA w w'){a:Addr}{v:Value}(hc:w.cell? a=some v):w'.cell? a=some v:=by
 have hb:=World.block_lt_of_cell? w a hc;unfold World.cell? at*
 rw[h a.block hb];exact hc
theorem qdab{P:Program}{w:World}{a:Addr}{cs:Array Value}:∀(n i:Nat) (acc:Array Value),i+n=cs.size->acc=cs.extract 0 i->(∀j,j<cs.size->w.cell? (a.add j)=cs[j]?)->
 (loadCellsFrom a i n acc).run P w= .ok cs w:=by
 intro n
 induction n with
 |zero=>
  intro i acc hi hacc _
  have:acc=cs:=by rw[hacc,show i=cs.size by omega];simp
  simp[loadCellsFrom,this]
 |succ n ih=>
  intro i acc hi hacc hc
  have hlt:i<cs.size:=by omega
  have h1:=hc i hlt
  rw[Array.getElem?_eq_getElem hlt]at h1
  unfold loadCellsFrom
  simp only[run_bind,run_load,h1,Result.andThen_ok]
  refine ih (i+1) _ (by omega) ?_ hc
  rw[hacc]
  apply Array.ext
  ·simp<;>omega
  ·intro j hj1 hj2
   simp at hj1 hj2
   by_cases hji:j=i
   ·subst hji;simp[Array.getElem_push]
   ·have h2:j<i:=by omega
    have h3:j<min i cs.size:=by omega
    simp[Array.getElem_push,h3]
theorem qvn{P:Program}{w:World}{a:Addr}{n:Nat}{cs:Array Value}(hs:cs.size=n)(hc:∀j,j<n->w.cell? (a.add j)=cs[j]?):(loadCells a n).run P w= .ok cs w:=by
 unfold loadCells;exact qdab n 0 #[] (by omega) (by simp) (by rw[hs];exact hc)
theorem qen{P:Program}{t:TypeId}{x:Value}{w:World}{K:Value->Prop}(h:qsv P t x w K):∃v,(∀w',extA w w'->(Instr.loadAt t x).run P w'= .ok v w')/\K v:=by
 unfold qsv at h;split at h<;>first|exact h.elim|skip
 rename_i a;split at h<;>first
  |exact h.elim
  |(rename_i hu
    obtain⟨n,hc,hk⟩:=h
    refine⟨_,λw' he=>?_,hk⟩
    simp[Instr.loadAt,Instr.sureAddr,loadVar,qxm hu,qvy he hc]
    done)
  |(rename_i hu
    obtain⟨i,hi,cs,hs,hc,hk⟩:=qte h
    refine⟨_,λw' he=>?_,hk⟩
    have hr:(loadCells a i.size).run P w'= .ok cs w':=qvn hs λj hj=>by
     have h1:=hc j hj;rw[Array.getElem?_eq_getElem (by omega)]at h1|-
     exact qvy he h1
    simp[Instr.loadAt,Instr.sureAddr,loadVar,qxm hu,qce hi,hr])
def st(w:World)(a:Addr)(v:Value)(K:World->Prop):Prop:=qfe v/\(∃u,w.cell? a=some u)/\w.frozen? a=false/\K (w.setCell a v)
def putAll(w:World)(a:Addr):List Value->Nat->World
 |[],_=>w
 |v::r,i=>putAll (w.setCell (a.add i) v) a r (i+1)
def stA(w:World)(a:Addr)(cs:Array Value)(K:World->Prop):Prop:=(∀i,i<cs.size->(∃u,w.cell? (a.add i)=some u)/\w.frozen? (a.add i)=false)/\(∀v∈cs,qfe v)/\K (putAll w a cs.toList 0)
def isAggT(P:Program)(t:TypeId):Bool:=match P.underlying t with
 |some (.struct _)=>true
 |some (.array _ _)=>true
 |_=>false
def qxbb(P:Program)(t:TypeId)(x v:Value)(w:World)(K:World->Prop):Prop:=
 match x with
 | .pointer (some a)=>
  if isAggT P t then
   match v with
   | .agg cs=>qmh P t λsz=>cs.size=sz/\stA w a cs K
   |_=>False
  else qmh P t λsz=>if sz=1 then st w a v K else False
 |_=>False
theorem qlv{v:Value}(h:qfe v):v.cells=#[v]:=by
 cases v<;>first|exact h.elim|rfl
theorem qfib{P:Program}{w:World}{a:Addr}{v:Value}(hs:qfe v){u:Value}(hu:w.cell? a=some u)(hf:w.frozen? a=false):(store a v).run P w= .ok () (w.setCell a v):=by
 have:v.oneCell'=true:=by cases v<;>first|exact hs.elim|rfl
 rw[run_store P w a v .plain this,hu];simp[hf]
theorem qes{w:World}{a b:Addr}{v:Value}(h:∃u,w.cell? b=some u):∃u,(w.setCell a v).cell? b=some u:=by
 obtain⟨u,hu⟩:=h;by_cases hab:a=b
 ·subst hab;exact⟨v,World.cell?_setCell_same w a v hu⟩
 ·exact⟨u,by rw[World.cell?_setCell_other w a b v hab];exact hu⟩
theorem qij{P:Program}{a:Addr}:∀(vs:List Value) (i:Nat) (w:World),(∀j,j<vs.length->(∃u,w.cell? (a.add (i+j))=some u)/\w.frozen? (a.add (i+j))=false)->(∀v∈vs,qfe v)->
 (storeCells a vs i).run P w= .ok () (putAll w a vs i):=by
 intro vs
 induction vs with
 |nil=>intro i w _ _;rfl
 |cons v r ih=>
  intro i w hc hs
  obtain⟨⟨u,hu⟩,hf⟩:=hc 0 (by simp)
  rw[Nat.add_zero]at hu hf
  unfold storeCells
  rw[run_bind,qfib (hs v (by simp)) hu hf,Result.andThen_ok]
  refine ih (i+1) _ (λj hj=>?_) (λv hv=>hs v (by simp[hv]))
  have:=hc (j+1) (by simp;omega)
  rw[show i+1+j=i+(j+1)by omega]
  exact⟨qes this.1,by rw[World.frozen?_setCell];exact this.2⟩
theorem qpbb{P:Program}{t:TypeId}{x v:Value}{w:World}{K:World->Prop}(h:qxbb P t x v w K):∃w',(Instr.storeAt t x v).run P w= .ok () w'/\K w':=by
 unfold qxbb at h;split at h<;>first|exact h.elim|skip
 rename_i a;split at h
 ·split at h<;>first|exact h.elim|skip
  rename_i cs;obtain⟨i,hi,hsz,hc,hst,hk⟩:=qte h;refine⟨_,?_,hk⟩;have hr:=qij (P:=P) (a:=a) cs.toList 0 w (λj hj=>by rw[zero_add];exact hc j (by simpa using hj)) (λv hv=>hst v (by simpa using hv));simp[Instr.storeAt,Instr.sureAddr,storeVar,qce hi,Value.cells,hsz,hr]
 ·obtain⟨i,hi,h⟩:=qte h;split at h<;>first|exact h.elim|skip
  rename_i h1;obtain⟨hs,⟨u,hu⟩,hf,hk⟩:=h;refine⟨_,?_,hk⟩;have hr:(storeCells a [v] 0).run P w= .ok () (w.setCell a v):=by
   have:=qij (P:=P) (a:=a) [v] 0 w (λj hj=>by
    have:j=0:=by simpa using hj
    subst this
    exact⟨⟨u,hu⟩,hf⟩) (λv' hv'=>(by simpa using hv':v'=v)▸hs)
   exact this
  simp[Instr.storeAt,Instr.sureAddr,storeVar,qce hi,qlv hs,h1,hr]
def zc(P:Program)(t:TypeId):Array Value:=match P.info? t with
 |some i=>match i.zero with
  |some v=>v.cells
  |none=>#[]
 |none=>#[]
def qao(P:Program)(t:TypeId):Bool:=match P.info? t with
 |some i=>i.zero.isSome
 |none=>false
theorem qam{P:Program}{t:TypeId}(h:qao P t=true)(w:World):∃v,(zeroValue t).run P w= .ok v w/\v.cells=zc P t:=by
 unfold qao at h;split at h
 ·rename_i i hi;cases hz:i.zero with
  |none=>rw[hz]at h;cases h
  |some v=>exact⟨v,by simp[zeroValue,qhh hi,hz],by simp[zc,hi,hz]⟩
 ·cases h
def newAt(w:World):Option Addr:=some ⟨w.heap.size,0,none⟩
def qgcb(P:Program)(t:TypeId)(w:World)(K:VWP):Prop:=
 if qao P t then K (.pointer (newAt w)) (w.alloc (.cells (zc P t) t))else False
def ptBox(t:TypeId)(v:Value)(w:World)(K:VWP):Prop:=K (.pointer (newAt w)) (w.alloc (.cells v.cells t))
theorem qjdb{P:Program}{t:TypeId}{w:World}{K:VWP}(h:qgcb P t w K):∃v w',(Instr.alloc t true (.tuple #[])).run P w= .ok v w'/\extA w w'/\K v w':=by
 unfold qgcb at h;split at h<;>first|exact h.elim|skip
 rename_i hz;obtain⟨v,hv,hc⟩:=qam hz w;refine⟨_,_,?_,qhn _ _,h⟩;simp[Instr.alloc,hv,newVar,newRow,hc,newAt]
theorem qqlb{P:Program}{t:TypeId}{v:Value}{w:World}{K:VWP}(h:ptBox t v w K):∃u w',(Instr.box t v).run P w= .ok u w'/\extA w w'/\K u w':=
 ⟨.pointer (newAt w),w.alloc (.cells v.cells t),by simp[Instr.box,newVar,newRow,newAt],qhn _ _,h⟩
def spl(l:List Value)(off:Nat)(cs:Array Value):List Value:=(cs.zipIdx.foldl (λ(a:Array Value) (x:Value×Nat)=>a.setIfInBounds (off+x.2) x.1) ⟨l⟩).toList
def fillL(place:Nat->Option (Nat×Nat))(total:Nat):List Value->List (Nat×Value)->(List Value->Prop)->Prop
 |l,[],K=>K l
 |l,(i,v)::r,K=>
  match place i with
  |none=>False
  |some (off,size)=>
   if off+size<=total then
    match v with
    | .agg cs=>cs.size=size/\fillL place total (spl l off cs) r K
    |v=>if size=1 then fillL place total (l.set off v) r K else False
   else False
theorem qsgb(off:Nat)(l:List (Value×Nat)):∀(a:Array Value),(l.foldl (λ(a:Array Value) (x:Value×Nat)=>a.setIfInBounds (off+x.2) x.1) a).size=a.size:=by
 induction l with
 |nil=>intro a;rfl
 |cons x r ih=>intro a;rw[List.foldl_cons,ih];simp
theorem qxfb(l:List Value)(off:Nat)(cs:Array Value):(spl l off cs).length=l.length:=by
 unfold spl;rw[<-Array.foldl_toList,Array.length_toList,qsgb];simp
theorem qoq(place:Nat->Option (Nat×Nat))(total:Nat){K:List Value->Prop}:∀(parts:List (Nat×Value)) (l:List Value),l.length=total->fillL place total l parts K->∃cells,Instr.fill place ⟨l⟩ parts=some cells/\K cells.toList:=by
 intro parts;induction parts with
 |nil=>intro l _ h;exact⟨⟨l⟩,rfl,h⟩
 |cons p r ih=>
  intro l hl h;obtain⟨i,v⟩:=p;unfold fillL at h;unfold Instr.fill;split at h
  ·exact h.elim
  ·rename_i off size hp;simp only[hp];split at h<;>first|exact h.elim|skip
   rename_i hle;split at h
   ·rename_i cs;obtain⟨hsz,h⟩:=h;have hc:(Value.agg cs).cells=cs:=rfl;obtain⟨cells,hf,hk⟩:=ih _ (by rw[qxfb];exact hl) h;refine⟨cells,?_,hk⟩;rw[hc,if_neg (by simp[hsz];omega)];rw[<-hf];rfl
   ·rename_i hna;split at h<;>first|exact h.elim|skip
    rename_i h1;have hc:v.cells=#[v]:=by cases v<;>first|rfl|exact(hna _ rfl).elim
    obtain⟨cells,hf,hk⟩:=ih _ (by simpa using hl) h;refine⟨cells,?_,hk⟩;rw[hc,if_neg (by simp;omega)];rw[<-hf];simp
def quk(P:Program)(fs:List Field):Option (List (Nat×Nat)):=
 match fs with
 |[]=>some []
 |f::r=>match P.info? f.type,quk P r with
  |some i,some l=>some ((f.offset,i.size)::l)
  |_,_=>none
def qfcb(P:Program)(t:TypeId)(parts:List (Nat×Value))(K:Value->Prop):Prop:=
 if qao P t then
  match P.underlying t with
  |some (.struct fs)=>
   match quk P fs.toList with
   |some pl=>fillL (λi=>pl[i]?) (zc P t).size (zc P t).toList parts λl=>K (.agg ⟨l⟩)
   |none=>False
  |some (.array _ e)=>qmh P e λsz=>fillL (λi=>some (i*sz,sz)) (zc P t).size (zc P t).toList parts λl=>K (.agg ⟨l⟩)
  |_=>False
 else False
theorem qdgb{P:Program}(fs:List Field):∀{pl:List (Nat×Nat)},quk P fs=some pl->∀w,(fs.mapM (λf=>do pure (f.offset,<-sizeOf f.type):Field->Sem (Nat×Nat))).run P w= .ok pl w:=by
 induction fs with
 |nil=>intro pl h w;simp[quk]at h;subst h;simp
 |cons f r ih=>
  intro pl h w;unfold quk at h;split at h
  ·rename_i i l hi hl;simp at h;subst h;rw[mapM_cons];simp[qce hi];have:=ih hl w;simp at this
   simp[this]
  ·cases h
theorem qfdb{P:Program}{t:TypeId}{parts:List (Nat×Value)}{K:Value->Prop}(h:qfcb P t parts K):∃v,PV P (Instr.build t ⟨parts⟩) v/\K v:=by
 unfold qfcb at h;split at h<;>first|exact h.elim|skip
 rename_i hz;split at h<;>first|exact h.elim|skip
 ·rename_i fs hu;split at h<;>first|exact h.elim|skip
  rename_i pl hpl;obtain⟨cells,hf,hk⟩:=qoq _ _ parts _ (by simp) h;refine⟨_,λw=>?_,hk⟩;obtain⟨v,hv,hc⟩:=qam hz w;have hm:(fs.mapM (λf=>do pure (f.offset,<-sizeOf f.type):Field->Sem (Nat×Nat))).run P w= .ok pl.toArray w:=by
   obtain⟨fs⟩:=fs;rw[List.mapM_toArray,Sem.run_map,qdgb fs hpl w];rfl
  simp only[Instr.build,run_bind,hv,Result.andThen_ok,qz hu,hm,hc];have e1:(λ(x:Nat)=>pl.toArray[x]?)=λ(i:Nat)=>pl[i]?:=by funext x;simp
  rw[show((⟨(zc P t).toList⟩:Array Value))=zc P t from rfl]at hf;simp only[e1,hf];rfl
 ·rename_i n e hu;obtain⟨i,hi,h⟩:=qte h;obtain⟨cells,hf,hk⟩:=qoq _ _ parts _ (by simp) h;refine⟨_,λw=>?_,hk⟩;obtain⟨v,hv,hc⟩:=qam hz w;simp[Instr.build,hv,qz hu,qce hi,hc,hf]
def qqm(n:Nat)(l:List Value):List Value:=match n with
 |0=>[]
 |n+1=>l++qqm n l
theorem qqi(n:Nat)(l:List Value):(qqm n l).length=n*l.length:=by
 induction n with
 |zero=>simp[qqm]
 |succ n ih=>simp[qqm,ih,Nat.succ_mul];omega
theorem qinb(n:Nat)(l:List Value)(i:Nat)(h:i<n*l.length):(qqm n l)[i]?=l[i%l.length]?:=by
 induction n generalizing i with
 |zero=>omega
 |succ n ih=>
  unfold qqm;by_cases hi:i<l.length
  ·rw[List.getElem?_append_left hi,Nat.mod_eq_of_lt hi]
  ·rw[List.getElem?_append_right (by omega),ih _ (by rw[Nat.succ_mul]at h;omega)];congr 1;rw[Nat.mod_eq_sub_mod (by omega:i>=l.length)]
theorem qoib(z:Array Value)(n m:Nat)(hm:m=n*z.size):(Array.range m).map (λi=>z[i%z.size]!)=⟨qqm n z.toList⟩:=by
 subst hm;apply Array.ext
 ·simp[qqi]
 ·intro i h1 h2;simp at h1;have h3:=qinb n z.toList i (by simpa using h1);have hz:i%z.size<z.size:=Nat.mod_lt _ (by
   rcases Nat.eq_zero_or_pos z.size with h|h
   ·rw[h]at h1;omega
   ·exact h)
  simp only[Array.length_toList,Array.getElem?_toList]at h3;rw[Array.getElem?_eq_getElem hz]at h3;have h4:(⟨qqm n z.toList⟩:Array Value)[i]?=some z[i%z.size]:=by simpa using h3
  rw[Array.getElem?_eq_getElem h2]at h4;simp only[Array.getElem_map,Array.getElem_range];rw[getElem!_pos z _ hz];exact(Option.some.inj h4).symm
theorem qbm(z:Array Value)(n:Nat):Builtin.zeroCells z n=⟨qqm n z.toList⟩:=qoib z n _ rfl
def qro(P:Program)(t:TypeId)(len:Nat)(parts:List (Nat×Value))(w:World)(K:VWP):Prop:=
 match P.underlying t with
 |some (.slice e)=>
  if qao P e then qmh P e λsz=>
   if len*sz<=2^24 then
    if(zc P e).size=sz then
     fillL (λi=>some (i*sz,sz)) (len*sz) (qqm len (zc P e).toList) parts λl=>K (.slice (newAt w) len len) (w.alloc (.cells ⟨l⟩ e))
    else False
   else False
  else False
 |_=>False
theorem qrs{P:Program}{t:TypeId}{len:Nat}{parts:List (Nat×Value)}{w:World}{K:VWP}(h:qro P t len parts w K):∃v w',(Instr.buildSlice t len ⟨parts⟩).run P w= .ok v w'/\extA w w'/\K v w':=by
 unfold qro at h;split at h<;>first|exact h.elim|skip
 rename_i e hu;split at h<;>first|exact h.elim|skip
 rename_i hz;obtain⟨i,hi,h⟩:=qte h;split at h<;>first|exact h.elim|skip
 rename_i hle;split at h<;>first|exact h.elim|skip
 rename_i hsz;obtain⟨v,hv,hc⟩:=qam hz w;obtain⟨cells,hf,hk⟩:=qoq _ _ parts _ (by rw[qqi];simp[hsz]) h;refine⟨_,_,?_,qhn _ _,hk⟩;have hle':¬len*i.size>2^24:=by omega
 unfold Instr.buildSlice;simp only[run_bind,qz hu,Result.andThen_ok,qce hi,if_neg hle'];by_cases h0:len*i.size=0
 ·have e1:qqm len (zc P e).toList=[]:=by
   apply List.eq_nil_of_length_eq_zero;rw[qqi];simp[hsz,h0]
  have e2:∀z:Array Value,(Array.range (len*i.size)).map (λx=>z[x%z.size]!)=#[]:=λz=>by rw[h0];simp
  rw[e1]at hf;simp only[h0,if_true,run_bind,run_pure,Result.andThen_ok];have e3:(Array.range 0).map (λx=>(#[]:Array Value)[x%(#[]:Array Value).size]!)=(⟨[]⟩:Array Value):=by simp
  rw[e3,hf];simp[newRow,newAt]
 ·have e2:(Array.range (len*i.size)).map (λx=>(zc P e)[x%(zc P e).size]!)=⟨qqm len (zc P e).toList⟩:=qoib _ _ _ (by rw[hsz]);simp only[h0,if_false,run_bind,hv,Result.andThen_ok,run_pure,hc,e2,hf];simp[newRow,newAt]
def rdO(w:World)(src:Option Addr)(k:Nat)(K:Array Value->Prop):Prop:=
 match src with
 |some a=>ldA w a k K
 |none=>k=0/\K #[]
def qudb(s:ByteArray)(n:Nat):Array Value:=(s.extract 0 n).data.map λb=> .int .u8 b.toNat
def srcK(P:Program)(x:Value)(sz:Nat)(w:World)(n:Nat)(K:Array Value->Prop):Prop:=
 match x with
 | .slice a _ _=>rdO w a (n*sz) K
 | .string s=>sz=1/\K (qudb s n)
 |_=>False
def qydb(x:Value)(K:Nat->Prop):Prop:=
 match x with
 | .slice _ n _=>K n
 | .string s=>K s.size
 |_=>False
theorem qtm{P:Program}{w w':World}(h:extA w w'){x:Value}{sz n:Nat}{cs:Array Value}(hs:cs.size=n*sz)(hr:∀a k c,x= .slice (some a) k c->∀j,j<n*sz->w.cell? (a.add j)=cs[j]?)
 (hr2:∀k c,x= .slice none k c->cs=#[]) (hr3:∀s,x= .string s->cs=qudb s n) (hx:∃m,Builtin.lenOf x=pure m):(Builtin.firstCells sz n x).run P w'= .ok cs w':=by
 cases x with
 |slice a k c=>
  cases a with
  |none=>rw[hr2 k c rfl];rfl
  |some a=>
   refine qvn hs λj hj=>?_
   have h1:=hr a k c rfl j hj
   rw[Array.getElem?_eq_getElem (by omega)]at h1|-
   exact qvy h h1
 |string s=>rw[hr3 s rfl];rfl
 |_=>obtain⟨m,hm⟩:=hx;cases hm
theorem qtz{P:Program}{x:Value}{sz n:Nat}{w:World}{K:Array Value->Prop}(hn:∃m,Builtin.lenOf x=pure m/\n<=m)(h:srcK P x sz w n K):
 ∃cs,K cs/\(∀w',extA w w'->(Builtin.firstCells sz n x).run P w'= .ok cs w'):=by
 obtain⟨m,hm,hle⟩:=hn
 unfold srcK at h
 split at h<;>first|exact h.elim|skip
 ·rename_i a k c
  unfold rdO at h
  split at h
  ·rename_i a
   obtain⟨cs,hs,hc,hk⟩:=h
   exact⟨cs,hk,λw' he=>qtm he hs (λa' k' c' e=>by cases e;exact hc) (λ_ _ e=>by cases e) (λ_ e=>by cases e) ⟨m,hm⟩⟩
  ·exact⟨#[],h.2,λw' he=>rfl⟩
 ·rename_i s
  obtain⟨h1,hk⟩:=h
  exact⟨_,hk,λw' he=>rfl⟩
def apK(P:Program)(elem:TypeId)(w:World)(base:Option Addr)(n cap m:Nat)(new:Array Value)(K:Sl->World->Prop):Prop:=
 qmh P elem λsz=>
  if n+m<=cap then
   match base with
   |some a=>stA w (a.add (n*sz)) new λw'=>K ⟨base,n+m,cap⟩ w'
   |none=>K ⟨base,n+m,cap⟩ w
  else
   (Builtin.nextslicecap (n+m) cap*P.bytesOf elem<=2^48/\P.bytesOf elem≠0)/\rdO w base (n*sz) λold=>
     ∀c,n+m<=c->K ⟨newAt w,n+m,c⟩ (w.drew.alloc (.cells (old++new++⟨qqm (c-(n+m)) (zc P elem).toList⟩) elem))
def qtbb(P:Program)(e:TypeId):Bool:=match P.info? e with
 |some i=>beq (zc P e).size i.size
 |none=>false
def zrK(P:Program)(e:TypeId)(n:Nat)(m:Int)(K:Array Value->Prop):Prop:=(0<=m/\m<=9223372036854775807/\m*(P.bytesOf e:Int)<=2^48/\(n:Int)+m<=9223372036854775807)/\K ⟨qqm m.toNat (zc P e).toList⟩
def qsx(P:Program)(ts:List TypeId)(args:List Value)(w:World)(K:VWP):Prop:=
 match ts,args with
 |t::t2::_,[.slice base n cap,x]=>
  match P.underlying t with
  |some (.slice e)=>
   match P.underlying t2 with
   |some (.int _)=>match x with
    | .int _ m=>if qao P e&&qtbb P e then zrK P e n m λnew=>apK P e w base n cap m.toNat new λs w'=>K (.slice s.a s.len s.cap) w' else False
    |_=>False
   |some _=>if qao P e then qydb x λm=>qmh P e λsz=>srcK P x sz w m λnew=>apK P e w base n cap m new λs w'=>K (.slice s.a s.len s.cap) w' else False
   |none=>False
  |_=>False
 |_,_=>False
theorem qtu(w:World):extA w w.drew:=λ_ _=>rfl
theorem qjz{x:Int}(h0:0<=x)(h1:x<=9223372036854775807):i64.wrap x=x:=by
 simp only[IntKind.wrap,IntKind.bits,signed];have:x%2^64=x:=Int.emod_eq_of_lt h0 (by omega);simp[this];omega
theorem qcbb{P:Program}{t t2 e:TypeId}{tr:List TypeId}{ty:TypeId}{base:Option Addr}{n cap:Nat}{kk kx:IntKind}{m:Int}{w:World}{K:VWP}(hu:P.underlying t=some (.slice e))(hu2:P.underlying t2=some (.int kk))(hz:qao P e=true)(hso:qtbb P e=true)
 (h:zrK P e n m λnew=>apK P e w base n cap m.toNat new λs w'=>K (.slice s.a s.len s.cap) w'):∃v w',(Builtin.append_ ⟨t::t2::tr⟩ ty ⟨[.slice base n cap,.int kx m]⟩).run P w= .ok v w'/\K v w':=by
 obtain⟨⟨h0,h1,h2,h3⟩,hap⟩:=h
 obtain⟨i,hi,h⟩:=qte hap
 clear hap
 have hb:(P.bytesOf e)=i.bytes:=by simp[bytesOf,hi]
 rw[hb]at h2
 have wm:=qjz h0 h1
 have c1:¬m<0:=by omega
 have c2:¬m*(i.bytes:Int)>2^48:=by omega
 have hsz:(zc P e).size=i.size:=by
  unfold qtbb at hso;rw[hi]at hso;exact eq_of_beq_eq_true hso
 have hnil:m.toNat*i.size=0->(⟨qqm m.toNat (zc P e).toList⟩:Array Value)=#[]:=by
  intro h0;have:qqm m.toNat (zc P e).toList=[]:=by
   apply List.eq_nil_of_length_eq_zero;rw[qqi];simp[hsz,h0]
  rw[this]
 have happ:∀w,(if m.toNat*i.size=0 then(pure #[]:Sem (Array Value))else do pure (Builtin.zeroCells (<-zeroValue e).cells m.toNat)).run P w= .ok ⟨qqm m.toNat (zc P e).toList⟩ w:=by
  intro w;split
  ·rename_i h0;rw[hnil h0];rfl
  ·obtain⟨v,hv,hvc⟩:=qam hz w;simp only[run_bind,hv,Result.andThen_ok,run_pure,hvc,qbm]
 split at h
 ·rename_i hle
  cases base with
  |none=>
   refine⟨_,w,?_,h⟩
   unfold Builtin.append_
   simp only[getElem?_toArray,List.getElem?_cons_zero,List.getElem?_cons_succ,run_bind,qz hu,qz hu2,qce hi,Result.andThen_ok,asInt,asIntOf,run_pure,wm,if_neg c1,if_neg c2,qhh hi,hle,Bool.not_true,false_eq_true,if_false,if_true,happ]
  |some a=>
   obtain⟨hc,hst,hk⟩:=h
   have hr:=qij (P:=P) (a:=a.add (n*i.size)) (qqm m.toNat (zc P e).toList) 0 w (λj hj=>by rw[zero_add];exact hc j (by simpa using hj)) (λv hv=>hst v (by simpa using hv))
   refine⟨_,_,?_,hk⟩
   unfold Builtin.append_
   simp only[getElem?_toArray,List.getElem?_cons_zero,List.getElem?_cons_succ,run_bind,qz hu,qz hu2,qce hi,Result.andThen_ok,asInt,asIntOf,run_pure,wm,if_neg c1,if_neg c2,qhh hi,hle,Bool.not_true,false_eq_true,if_false,if_true,happ,hr]
 ·rename_i hle
  obtain⟨⟨hb1,hb2⟩,h⟩:=h
  rw[hb]at hb1 hb2
  obtain⟨old,ho,hk⟩:∃old,(∀w',extA w w'->(Builtin.firstCells i.size n (.slice base n cap)).run P w'= .ok old w')/\∀c,n+m.toNat<=c->K (.slice (newAt w) (n+m.toNat) c) (w.drew.alloc (.cells (old++⟨qqm m.toNat (zc P e).toList⟩++⟨qqm (c-(n+m.toNat)) (zc P e).toList⟩) e)):=by
   unfold rdO at h;split at h
   ·rename_i a;obtain⟨cs,hs,hc,hk⟩:=h;exact⟨cs,λw' he=>qtm he hs (λa' k' c' e=>by cases e;exact hc) (λ_ _ e=>by cases e) (λ_ e=>by cases e) ⟨n,rfl⟩,hk⟩
   ·exact⟨#[],λw' he=>rfl,h.2⟩
  obtain⟨v,hv,hvc⟩:=qam hz w.drew
  have hb1':¬Builtin.nextslicecap (n+m.toNat) cap*i.bytes>2^48:=by omega
  have hb3:¬(((n+m.toNat:Nat):Int)>i64.max/\(True\/i.bytes=0)):=by
   have:i64.max=9223372036854775807:=rfl;rw[this];omega
  refine⟨_,_,?_,hk (n+m.toNat+w.tape w.drawn (.appendCap (n+m.toNat) cap e)%(2^63-(n+m.toNat))) (by omega)⟩
  have hq:(Question.appendCap (n+m.toNat) cap e).forced=false:=rfl
  have hcut:(Question.appendCap (n+m.toNat) cap e).cut (w.tape w.drawn (.appendCap (n+m.toNat) cap e))=n+m.toNat+w.tape w.drawn (.appendCap (n+m.toNat) cap e)%(2^63-(n+m.toNat)):=rfl
  have happ2:=happ w.drew
  simp only[qbm]at happ2
  unfold Builtin.append_
  simp only[getElem?_toArray,List.getElem?_cons_zero,List.getElem?_cons_succ,run_bind,qz hu,qz hu2,qce hi,Result.andThen_ok,asInt,asIntOf,run_pure,wm,if_neg c1,if_neg c2,qhh hi,if_neg hle,if_neg hb3,Bool.not_true,false_eq_true,if_false,if_true,if_neg hb1',run_choose,hq,hcut,run_askRoom,drew_eq,ho w.drew (qtu w),happ2,hv,hvc,newRow,run_newObj,alloc_eq,newAt,World.size_drew,qbm]
theorem qdbb{P:Program}{ts:List TypeId}{ty:TypeId}{args:List Value}{w:World}{K:VWP}(h:qsx P ts args w K):∃v w',(Builtin.append_ ⟨ts⟩ ty ⟨args⟩).run P w= .ok v w'/\K v w':=by
 unfold qsx at h;split at h<;>first|exact h.elim|skip
 rename_i t t2 tr base n cap x;split at h<;>first|exact h.elim|skip
 rename_i e hu;split at h<;>first|exact h.elim|skip
 ·rename_i kk hu2;split at h<;>first|exact h.elim|skip
  rename_i kx m;split at h<;>first|exact h.elim|skip
  rename_i hz;rw[and_eq_true]at hz;exact qcbb hu hu2 hz.1 hz.2 h
 rename_i d2 hni hu2;split at h<;>first|exact h.elim|skip
 rename_i hz;have hlen:∃m,Builtin.lenOf x=pure m/\(qmh P e λsz=>srcK P x sz w m λnew=>apK P e w base n cap m new λs w'=>K (.slice s.a s.len s.cap) w'):=by
  unfold qydb at h;split at h<;>first|exact h.elim|exact⟨_,rfl,h⟩
 obtain⟨m,hm,h⟩:=hlen;obtain⟨i,hi,h⟩:=qte h;obtain⟨new,hap,qqk⟩:=qtz ⟨m,hm,le_refl _⟩ h;clear h;obtain⟨i',hi',h⟩:=qte hap;clear hap;obtain rfl:i=i':=by rw[hi]at hi';exact(Option.some.inj hi')
 have hnz:(match d2 with| .int _=>true|_=>false)=false:=by cases d2<;>first|rfl|exact(hni _ rfl).elim
 have hb:(P.bytesOf e)=i.bytes:=by simp[bytesOf,hi]
 have hlr:∀w,(Builtin.lenOf x).run P w= .ok m w:=λw=>by rw[hm];rfl
 split at h
 ·rename_i hle;cases base with
  |none=>
   refine⟨_,w,?_,h⟩;unfold Builtin.append_;simp[qz hu,qz hu2,qce hi,hnz,hlr,hle,qqk w (qei w)]
  |some a=>
   obtain⟨hc,hst,hk⟩:=h;have hr:=qij (P:=P) (a:=a.add (n*i.size)) new.toList 0 w (λj hj=>by rw[zero_add];exact hc j (by simpa using hj)) (λv hv=>hst v (by simpa using hv));refine⟨_,_,?_,hk⟩;unfold Builtin.append_;simp[qz hu,qz hu2,qce hi,hnz,hlr,hle,qqk w (qei w),hr]
 ·rename_i hle;obtain⟨⟨hb1,hb2⟩,h⟩:=h;rw[hb]at hb1 hb2;obtain⟨old,ho,hk⟩:∃old,(∀w',extA w w'->(Builtin.firstCells i.size n (.slice base n cap)).run P w'= .ok old w')/\∀c,n+m<=c->K (.slice (newAt w) (n+m) c) (w.drew.alloc (.cells (old++new++⟨qqm (c-(n+m)) (zc P e).toList⟩) e)):=by
   unfold rdO at h;split at h
   ·rename_i a;obtain⟨cs,hs,hc,hk⟩:=h;exact⟨cs,λw' he=>qtm he hs (λa' k' c' e=>by cases e;exact hc) (λ_ _ e=>by cases e) (λ_ e=>by cases e) ⟨n,rfl⟩,hk⟩
   ·exact⟨#[],λw' he=>rfl,h.2⟩
  obtain⟨v,hv,hvc⟩:=qam hz w.drew;have hb1':¬Builtin.nextslicecap (n+m) cap*i.bytes>2^48:=by omega
  have hdr:∀x,w.drew.drew=x->True:=λ_ _=>trivial;refine⟨_,_,?_,hk (n+m+w.tape w.drawn (.appendCap (n+m) cap e)%(2^63-(n+m))) (by omega)⟩;have hq:(Question.appendCap (n+m) cap e).forced=false:=rfl;have hcut:(Question.appendCap (n+m) cap e).cut (w.tape w.drawn (.appendCap (n+m) cap e))=n+m+w.tape w.drawn (.appendCap (n+m) cap e)%(2^63-(n+m)):=rfl;unfold Builtin.append_;simp only[getElem?_toArray,List.getElem?_cons_zero,List.getElem?_cons_succ,run_bind,qz hu,qz hu2,qce hi,Result.andThen_ok,hlr,qhh hi,if_neg hle,hnz,run_pure,false_eq_true,if_false,false_or,hb2,and_false,if_neg hb1',run_choose,hq,hcut,run_askRoom,drew_eq,ho w.drew (qtu w),qqk w.drew (qtu w),hv,hvc,Bool.not_false,if_true,newRow,run_newObj,alloc_eq,newAt,World.size_drew,qbm]
def cpK(w:World)(base:Option Addr)(new:Array Value)(K:World->Prop):Prop:=match base with
 |some a=>stA w a new K
 |none=>K w
def qtib(P:Program)(ts:List TypeId)(args:List Value)(w:World)(K:VWP):Prop:=
 match ts,args with
 |t::_,[.slice base n _,x]=>
  match P.underlying t with
  |some (.slice e)=>qydb x λm=>qmh P e λsz=>srcK P x sz w (Nat.min m n) λnew=>cpK w base new λw'=>K (.int .i64 ((Nat.min m n:Nat):Int)) w'
  |_=>False
 |_,_=>False
theorem qdhb{P:Program}{ts:List TypeId}{ty:TypeId}{args:List Value}{w:World}{K:VWP}(h:qtib P ts args w K):∃v w',(Builtin.copy_ ⟨ts⟩ ty ⟨args⟩).run P w= .ok v w'/\K v w':=by
 unfold qtib at h;split at h<;>first|exact h.elim|skip
 rename_i t tr base n c x;split at h<;>first|exact h.elim|skip
 rename_i e hu;have hlen:∃m,Builtin.lenOf x=pure m/\(qmh P e λsz=>srcK P x sz w (Nat.min m n) λnew=>cpK w base new λw'=>K (.int .i64 ((Nat.min m n:Nat):Int)) w'):=by
  unfold qydb at h;split at h<;>first|exact h.elim|exact⟨_,rfl,h⟩
 obtain⟨m,hm,h⟩:=hlen;obtain⟨i,hi,h⟩:=qte h;obtain⟨new,h,qqk⟩:=qtz ⟨m,hm,Nat.min_le_left _ _⟩ h;have hlr:∀w,(Builtin.lenOf x).run P w= .ok m w:=λw=>by rw[hm];rfl
 cases base with
 |none=>
  refine⟨_,w,?_,h⟩;unfold Builtin.copy_;simp[qz hu,qce hi,hlr,qqk w (qei w),goInt]
 |some a=>
  obtain⟨hc,hst,hk⟩:=h;have hr:=qij (P:=P) (a:=a) new.toList 0 w (λj hj=>by rw[zero_add];exact hc j (by simpa using hj)) (λv hv=>hst v (by simpa using hv));refine⟨_,_,?_,hk⟩;unfold Builtin.copy_;simp[qz hu,qce hi,hlr,qqk w (qei w),hr,goInt]
def mkK(P:Program)(elem:TypeId)(w:World)(l c:Int)(K:Sl->World->Prop):Prop:=(0<=l/\l<=c/\c<=9223372036854775807/\(P.bytesOf elem:Int)*c<=2^48)/\K ⟨newAt w,l.toNat,c.toNat⟩ (w.alloc (.cells ⟨qqm c.toNat (zc P elem).toList⟩ elem))
def qsib(P:Program)(t:TypeId)(l c:Value)(w:World)(K:VWP):Prop:=
 match P.underlying t,l,c with
 |some (.slice e),.int _ l,.int _ c=>if qao P e then qmh P e λsz=>if(zc P e).size=sz then mkK P e w l c λs w'=>K (.slice s.a s.len s.cap) w' else False else False
 |_,_,_=>False
theorem qnt{x:Int}(h0:0<=x)(h1:x<=9223372036854775807):i64.wrap x=x:=by
 simp only[IntKind.wrap,IntKind.bits,signed];have:x%2^64=x:=Int.emod_eq_of_lt h0 (by omega);simp[this];omega
theorem qfgb{P:Program}{t:TypeId}{l c:Value}{w:World}{K:VWP}(h:qsib P t l c w K):∃v w',(Instr.makeSlice t l c).run P w= .ok v w'/\extA w w'/\K v w':=by
 unfold qsib at h;split at h<;>first|exact h.elim|skip
 rename_i e kl l kc c hu;split at h<;>first|exact h.elim|skip
 rename_i hz;obtain⟨i,hi,h⟩:=qte h;split at h<;>first|exact h.elim|skip
 rename_i hsz;obtain⟨⟨h0,h1,h2,h3⟩,hk⟩:=h;have hb:(P.bytesOf e)=i.bytes:=by simp[bytesOf,hi]
 rw[hb]at h3;obtain⟨v,hv,hvc⟩:=qam hz w;refine⟨_,_,?_,qhn _ _,hk⟩;have wl:=qnt h0 (show l<=_ by omega);have wc:=qnt (show 0<=c by omega) h2;have c1:¬c<0:=by omega
 have c2:¬((i.bytes:Int)*c>2^48):=by omega
 have c3:¬l<0:=by omega
 have c4:¬l>c:=by omega
 unfold Instr.makeSlice;simp only[run_bind,qz hu,Result.andThen_ok,asInt,asIntOf,run_pure,qhh hi,wl,wc,c1,c2,c3,c4,decide_false,Bool.or_false,Bool.false_or,Bool.or_self,false_eq_true,if_false,qce hi];by_cases hn:c.toNat*i.size=0
 ·have e1:qqm c.toNat (zc P e).toList=[]:=by
   apply List.eq_nil_of_length_eq_zero;rw[qqi];simp[hsz,hn]
  have e3:Array.range 0=#[]:=rfl;simp[hn,e1,newRow,newAt,e3]
 ·have e2:(Array.range (c.toNat*i.size)).map (λx=>(zc P e)[x%(zc P e).size]!)=⟨qqm c.toNat (zc P e).toList⟩:=qoib _ _ _ (by rw[hsz]);simp only[hn,if_false,run_bind,hv,Result.andThen_ok,run_pure,hvc,e2,newRow,run_newObj,alloc_eq,run_askRoom,newAt]
def btS(w:World)(a:Option Addr)(n:Nat)(K:ByteArray->Prop):Prop:=
 match a with
 |none=>K ⟨#[]⟩
 |some a=>∃l:List UInt8,l.length=n/\(∀j,j<n->w.cell? (a.add j)=(l[j]?).map λb=>int .u8 (b.toNat:Int))/\K ⟨⟨l⟩⟩
def stB(w:World)(e:TypeId)(s:ByteArray)(K:Sl->World->Prop):Prop:=∀c,s.size<=c->K ⟨newAt w,s.size,c⟩ ((w.drew.alloc (.cells ⟨(s.data.toList.map λb=>int .u8 (b.toNat:Int))++qqm (c-s.size) [.int .u8 0]⟩ e)).freeze ⟨w.heap.size,c,none⟩ 1)
def mkStr(w:World)(a:Option Addr)(K:World->Prop):Prop:=nz a λa=>∃e n,w.shape? a.block=some (e,n)/\K (w.freeze ⟨a.block,n,none⟩ 1)
def qecb(P:Program)(src dst:TypeId)(x:Value)(w:World)(K:VWP):Prop:=
 match P.underlying src,P.underlying dst,x with
 |some (.slice e),some .string,.slice a n _=>
  match P.underlying e with
  |some (.int .u8)=>btS w a n λs=>K (.string s) w
  |_=>False
 |some .string,some (.slice e),.string s=>
  match P.underlying e with
  |some (.int .u8)=>stB w e s λsl w'=>K (.slice sl.a sl.len sl.cap) w'
  |_=>False
 |some (.slice _),some (.slice e),.slice a n c=>
  match beq src dst,P.underlying e with
  |true,some (.int .u8)=>mkStr w a λw'=>K (.slice a n c) w'
  |_,_=>False
 |_,_,_=>False
theorem qrcb{P:Program}(f:Value->ByteArray->Sem (ForInStep ByteArray))(hf:∀n s,f (.int .u8 n) s=pure (ForInStep.yield (s.push (UInt8.ofNat n.toNat))))(l:List UInt8):∀(s:ByteArray) (w:World),
 (forIn (m:=Sem) (l.map λb=>int .u8 (b.toNat:Int)) s f).run P w= .ok ⟨s.data++⟨l⟩⟩ w:=by
 induction l with
 |nil=>intro s w;simp
 |cons b r ih=>
  intro s w
  rw[List.map_cons,List.forIn_cons]
  simp only[hf,run_bind,run_pure,Result.andThen_ok]
  rw[ih]
  have e:UInt8.ofNat (b.toNat:Int).toNat=b:=by simp
  rw[e]
  congr 2
  apply Array.ext'
  simp[ByteArray.push]
theorem qnz{P:Program}{w:World}{a:Option Addr}{n c:Nat}{K:ByteArray->Prop}(h:btS w a n K):∃s,(Conv.bytesToString (.slice a n c)).run P w= .ok (.string s) w/\K s:=by
 unfold btS at h;split at h
 ·exact⟨_,rfl,h⟩
 ·rename_i a;obtain⟨l,hl,hc,hk⟩:=h;refine⟨_,?_,hk⟩;have hr:(loadCells a n).run P w= .ok (l.map λb=>int .u8 (b.toNat:Int)).toArray w:=qvn (by simp[hl]) λj hj=>by
   rw[hc j hj];simp
  unfold Conv.bytesToString;simp only[run_bind,hr,Result.andThen_ok,List.forIn_toArray];rw[qrcb _ (λ_ _=>rfl)];have e0:(⟨ByteArray.empty.data++⟨l⟩⟩:ByteArray)=⟨⟨l⟩⟩:=by
   show(⟨#[]++⟨l⟩⟩:ByteArray)=⟨⟨l⟩⟩;rw[Array.empty_append]
  rw[e0];rfl
theorem qcdb{P:Program}{src dst:TypeId}{x:Value}{w:World}{K:VWP}(h:qecb P src dst x w K):∃v w',(convert src dst x).run P w= .ok v w'/\K v w':=by
 unfold qecb at h;split at h<;>first|exact h.elim|skip
 ·rename_i e a n c hu hd;split at h<;>first|exact h.elim|skip
  rename_i he;obtain⟨s,hs,hk⟩:=qnz (c:=c) h;refine⟨_,_,?_,hk⟩;unfold convert;rw[run_bind,qz hu,Result.andThen_ok,run_bind,qz hd,Result.andThen_ok];show((do match<-underlying e with
   | .int .u8=>Conv.bytesToString (.slice a n c)
   | .int .i32=>Conv.runesToString (.slice a n c)
   | _ => stuck "Convert: a slice of what to string?" : Sem Value)).run P w = _
  rw[run_bind,qz he,Result.andThen_ok];exact hs
 ·rename_i e s hu hd;split at h<;>first|exact h.elim|skip
  rename_i he;refine⟨_,_,?_,h (s.size+w.tape w.drawn (.appendCap s.size 0 e)%(2^63-s.size)) (by omega)⟩;unfold convert;rw[run_bind,qz hu,Result.andThen_ok,run_bind,qz hd,Result.andThen_ok];show((do match<-underlying e with
   | .int .u8=>Conv.stringToBytes e s
   | .int .i32=>Conv.stringToRunes e s
   | _ => stuck "Convert: string to a slice of what?" : Sem Value)).run P w = _
  rw[run_bind,qz he,Result.andThen_ok];have hq:(Question.appendCap s.size 0 e).forced=false:=rfl;have hcut:(Question.appendCap s.size 0 e).cut (w.tape w.drawn (.appendCap s.size 0 e))=s.size+w.tape w.drawn (.appendCap s.size 0 e)%(2^63-s.size):=rfl;have hrep:∀k,(qqm k [int .u8 0])=List.replicate k (int .u8 0):=by
   intro k;induction k with
   |zero=>rfl
   |succ k ih=>simp[qqm,ih,List.replicate_succ]
  have hcells:(s.data.map (λb=>int .u8 (b.toNat:Int))++Array.replicate (s.size+w.tape w.drawn (.appendCap s.size 0 e)%(2^63-s.size)-s.size) (.int .u8 0):Array Value)=
   ⟨(s.data.toList.map λb=>int .u8 (b.toNat:Int))++qqm (s.size+w.tape w.drawn (.appendCap s.size 0 e)%(2^63-s.size)-s.size) [.int .u8 0]⟩:=by
   apply Array.ext'
   simp[hrep]
  show(Conv.stringToBytes e s).run P w=_;unfold Conv.stringToBytes;simp only[run_bind,run_choose,hq,hcut,false_eq_true,if_false,Result.andThen_ok,newRow,run_newObj,run_pure,drew_eq,hcells,alloc_eq];have hsh:∀(cs:Array Value),(w.drew.alloc (.cells cs e)).shape? w.drew.heap.size=some (e,cs.size):=λcs=>by
   have:(w.drew.heap.push (Obj.cells cs e))[w.drew.heap.size]?=some (.cells cs e):=Array.getElem?_push_size;simp only[World.shape?,World.alloc,this]
  simp only[markStringish,run_bind,run_shape,Result.andThen_ok,hsh,run_freeze,run_pure];have hl:((⟨(s.data.toList.map λb=>int .u8 (b.toNat:Int))++qqm (s.size+w.tape w.drawn (.appendCap s.size 0 e)%(2^63-s.size)-s.size) [.int .u8 0]⟩:Array Value)).size=s.size+w.tape w.drawn (.appendCap s.size 0 e)%(2^63-s.size):=by
   have hsz:s.data.toList.length=s.size:=by rw[Array.length_toList];rfl
   rw[List.size_toArray,List.length_append,List.length_map,qqi,hsz,List.length_singleton];omega
  rw[hl];rfl
 ·rename_i e0 e a n c hu hd;split at h<;>first|exact h.elim|skip
  rename_i hsd he;have hsd:=eq_of_beq_eq_true hsd;subst hsd;unfold mkStr nz at h;split at h<;>first|exact h.elim|skip
  rename_i a;obtain⟨e1,n1,hsh,hk⟩:=h;refine⟨_,_,?_,hk⟩;unfold convert;rw[run_bind,qz hu,Result.andThen_ok,run_bind,qz hd,Result.andThen_ok];show((do match src==src,<-underlying e with
   |true,.int .u8=>do markStringish a;pure (.slice (some a) n c)
   | _, _ => unsupported (.noEntry "convert/other") : Sem Value)).run P w = _
  rw[run_bind,qz he,Result.andThen_ok,beq_self_eq_true];simp[markStringish,hsh]
def exV(P:Program)(t:TypeId)(F:Value->Prop):Prop:=
 match P.underlying t with
 |some (.int k)=>∃n:Int,F (.int k n)
 |some .bool=>∃n:Bool,F (.bool n)
 |some .string=>∃n:ByteArray,F (.string n)
 |some (.pointer _)=>∃n:Option Addr,F (.pointer n)
 |some (.slice _)=>∃n:Sl,F (.slice n.a n.len n.cap)
 |some (.map _ _)=>∃n:Option Nat,F (.map n)
 |some (.struct _)=>∃n:Array Value,F (.agg n)
 |some (.array _ _)=>∃n:Array Value,F (.agg n)
 |some (.interface _)=>∃n:Nat×Value,F (.iface n.1 n.2)
 |some _=>∃n:Value,F n
 |none=>False
theorem qny{P:Program}{t:TypeId}{F:Value->Prop}(h:exV P t F):∃v,F v:=by
 unfold exV at h;split at h<;>first|exact h.elim|(obtain⟨n,h⟩:=h;exact⟨_,h⟩)
def exVs(P:Program):List TypeId->(List Value->Prop)->Prop
 |[],F=>F []
 |t::r,F=>exV P t λv=>exVs P r λvs=>F (v::vs)
theorem qnab{P:Program}:∀(ts:List TypeId) {F:List Value->Prop},exVs P ts F->∃v,F v
 |[],_,h=>⟨_,h⟩
 |t::r,F,h=>by
  obtain⟨v,h⟩:=qny (P:=P) (t:=t) (F:=λv=>exVs P r λvs=>F (v::vs)) h;obtain⟨vs,h⟩:=qnab r h;exact⟨_,h⟩
def exRes(P:Program)(t:TypeId)(F:Value->Prop):Prop:=
 match P.underlying t with
 |some (.tuple ts)=>exVs P ts.toList λvs=>F (.tuple ⟨vs⟩)
 |_=>exV P t F
theorem qsp{P:Program}{t:TypeId}{F:Value->Prop}(h:exRes P t F):∃v,F v:=by
 unfold exRes at h;split at h
 ·obtain⟨vs,h⟩:=qnab _ h;exact⟨_,h⟩
 ·exact qny h
def qvg(P:Program)(f:FuncId):Bool:=
 match P.funcs[f]? with
 | some fn => !(fn.name == "runtime.NumGoroutine") && fn.body.isSome
 |none=>false
def callK(P:Program)(f:FuncId)(args:List Value)(t:TypeId)(w:World)(K:VWP):Prop:=
 match qvg P f with
 |true=>Calls P f ⟨args⟩ w λe w'=>exRes P t λv=>e= .returned v/\K v w'
 |false=>False
def cfR(P:Program)(f:FuncId)(args:List Value)(w:World)(v:Value)(w':World):Prop:=(callFunc f ⟨args⟩).run P w= .ok (.value v) w'
def yd(P:Program)(l:Nat)(args:List Value)(w:World)(R:Ending->World->Prop):Prop:=∃(f:FuncId) (tm:Array Value) (az c:Code),(Instr.yield l ⟨args⟩).run P w= .ok (.round l f tm az c) w/\RoundIn Fence.wide 0 P l f tm az c w R
def callV(P:Program)(fv:Value)(args:List Value)(t:TypeId)(w:World)(K:VWP):Prop:=
 match fv with
 | .func (.func f) first cap=>match qvg P f with
  |true=>callK P f ((first.toList++args)++cap.toList) t w K
  |false=>exRes P t λv=>∃w':World,cfR P f ((first.toList++args)++cap.toList) w v w'/\K v w'
 | .func (.yield l) first _=>yd P l (first.toList++args) w λe w'=>exRes P t λv=>e= .returned v/\K v w'
 |_=>False
theorem qep{P:Program}{f:FuncId}{args:Array Value}(h:qvg P f=true)(w:World):(callFunc f args).run P w= .ok (.enter f args) w:=by
 unfold qvg at h;split at h
 ·rename_i fn hf;simp only[and_eq_true,Bool.not_eq_true']at h;obtain⟨h1,h2⟩:=h;unfold callFunc;simp only[run_bind,run_program,Result.andThen_ok,hf,h1,false_eq_true,if_false];cases hb:fn.body with
  |none=>rw[hb]at h2;cases h2
  |some b=>simp
 ·cases h
theorem qxy{P:Program}{o:Oper}{ρ:Operand->Value}{f:FuncId}{args:List Value}{t:TypeId}{w:World}{K:VWP}
 (he:∀h:qvg P f=true,(execOp ρ o).run P w= .ok (.enter f ⟨args⟩) w) (h:callK P f args t w K):opOk P o ρ w K:=by
 unfold callK at h
 split at h
 ·rename_i hp
  unfold opOk
  rw[he hp]
  exact Calls.mono h λe w' hr=>qsp hr
 ·exact h.elim
theorem qcpb{P:Program}{o:Oper}{ρ:Operand->Value}{c:Call}{x:Operand}{w:World}{K:VWP}(ho:o.op= .call c)(hc:c.callee= .value x)
 (h:callV P (ρ x) (c.args.toList.map ρ) o.type w K):opOk P o ρ w K:=by
 unfold callV at h
 split at h
 ·rename_i f first cap hx
  have e:(⟨(first.toList++c.args.toList.map ρ)++cap.toList⟩:Array Value)=(first++c.args.map ρ)++cap:=by
   apply Array.ext';simp
  have ee:(execOp ρ o).run P w=(callFunc f ⟨(first.toList++c.args.toList.map ρ)++cap.toList⟩).run P w:=by
   rw[e];simp only[execOp,ho,resolve,hc,hx,Deferred.ofValue,run_bind,run_pure,Result.andThen_ok,invoke]
  split at h
  ·refine qxy (λhp=>?_) h
   rw[ee]
   exact qep hp w
  ·obtain⟨v,w',hr,hk⟩:=qsp h
   unfold cfR at hr
   unfold opOk
   rw[ee,hr]
   exact hk
 ·rename_i l first cap hx
  obtain⟨f,tm,az,b,hy,hr⟩:=h
  have e:(⟨first.toList++c.args.toList.map ρ⟩:Array Value)=first++c.args.map ρ:=by
   apply Array.ext';simp
  have ee:(execOp ρ o).run P w= .ok (.round l f tm az b) w:=by
   rw[<-hy,e];simp only[execOp,ho,resolve,hc,hx,Deferred.ofValue,run_bind,run_pure,Result.andThen_ok,invoke]
  unfold opOk
  rw[ee]
  exact RoundIn.mono hr λe w' h=>qsp h
 ·exact h.elim
def qpx(P:Program)(recv:Value)(name:String)(args:List Value)(t:TypeId)(w:World)(K:VWP):Prop:=
 match recv with
 | .iface it v=>
  match P.info? it with
  |some i=>
   match i.methods.toList.find? (λm=>m.name==name)with
   |some m=>
    match m.path.toList,m.func,P.underlying it with
    |[],some (f,true),some (.pointer _)=>callK P f (v::args) t w K
    |[],some (f,false),some (.pointer e)=>match v with
     | .pointer (some a)=>qsv P e (.pointer (some a)) w λx=>callK P f (x::args) t w K
     |_=>False
    |_,_,_=>False
   |none=>False
  |none=>False
 |_=>False
theorem qnkb{α:Type}(xs:Array α)(p:α->Bool):xs.find? p=xs.toList.find? p:=by
 rw[Array.find?_toList]
theorem qdrb(a1:Array TypeId)(t:TypeId)(a:Addr)(s m:ByteArray):Builtin.ssaWrapNilChk_ a1 t #[.pointer (some a),.string s,.string m]=pure (.pointer (some a)):=rfl
theorem qbw{P:Program}{o:Oper}{ρ:Operand->Value}{c:Call}{x:Operand}{name:String}{w:World}{it:TypeId}{v u:Value}{f:FuncId}(ho:o.op= .call c)(hc:c.callee= .invoke x name)(hx:ρ x= .iface it v)
 (hm:∀fuel,(method (fuel+1) it v name).run P w= .ok (f,u) w) (hpl:qvg P f=true):(execOp ρ o).run P w= .ok (.enter f ⟨u::c.args.toList.map ρ⟩) w:=by
 have hfuel:∃k,P.types.size+Made.depth=k+1:=⟨P.types.size+Made.depth-1,by unfold Made.depth;omega⟩
 obtain⟨fuel,hfuel⟩:=hfuel
 have hargs:(#[u]++(#[iface it v]++c.args.map ρ).extract 1 (#[iface it v]++c.args.map ρ).size:Array Value)=⟨u::c.args.toList.map ρ⟩:=by
  apply Array.ext';simp;rw[List.take_of_length_le (by simp)]
 have h1:(callMethod (.iface it v) name ((#[iface it v]++c.args.map ρ).extract 1 (#[iface it v]++c.args.map ρ).size)).run P w= .ok (.enter f ⟨u::c.args.toList.map ρ⟩) w:=by
  unfold callMethod;simp only[run_bind,run_program,Result.andThen_ok,hfuel,hm fuel,hargs];exact qep hpl w
 rw[<-h1]
 have h0:(#[iface it v]++c.args.map ρ:Array Value)[0]?=some (.iface it v):=by
  rw[Array.getElem?_append_left (by simp)];rfl
 have h2:(execOp ρ o).run P w=(invoke (.fn (.method name) #[]) (#[iface it v]++c.args.map ρ)).run P w:=by
  simp only[execOp,ho];show((resolve ρ c o.type).bind λd=>invoke d.target d.args).run P w=_;have:resolve ρ c o.type=pure {target:= .fn (.method name) #[],args:=#[iface it v]++c.args.map ρ}:=by
   unfold resolve;rw[hc];simp only[hx]
  rw[this];rfl
 rw[h2]
 show((do
  let some recv := (#[iface it v] ++ c.args.map ρ : Array Value)[0]? | stuck "call: a method without a receiver"
  callMethod recv name ((#[iface it v]++c.args.map ρ).extract 1 (#[iface it v]++c.args.map ρ).size):Sem Next)).run P w=_
 rw[h0]
theorem qacb{P:Program}{o:Oper}{ρ:Operand->Value}{c:Call}{x:Operand}{name:String}{w:World}{K:VWP}(ho:o.op= .call c)(hc:c.callee= .invoke x name)
 (h:qpx P (ρ x) name (c.args.toList.map ρ) o.type w K):opOk P o ρ w K:=by
 unfold qpx at h
 split at h<;>first|exact h.elim|skip
 rename_i it v hx
 split at h<;>first|exact h.elim|skip
 rename_i i hi
 split at h<;>first|exact h.elim|skip
 rename_i m hm
 have hf:i.methods.find? (λm=>m.name==name)=some m:=by rw[qnkb];exact hm
 split at h<;>first|exact h.elim|skip
 ·rename_i f e hp hfn hu
  refine qxy (λhpl=>qbw ho hc hx (λfuel=>?_) hpl) h
  simp only[method,run_bind,qhh hi,Result.andThen_ok,hf,hp,follow,run_pure,hfn,receiverAt,qz hu,Place.get]
 ·rename_i f e hp hfn hu
  split at h<;>first|exact h.elim|skip
  rename_i a
  obtain⟨u,hl,h⟩:=qen h
  have hlv:(loadVar e a).run P w= .ok u w:=by
   have:=hl w (qei w);simpa [Instr.loadAt,Instr.sureAddr]using this
  refine qxy (λhpl=>qbw ho hc hx (λfuel=>?_) hpl) h
  have hemp:m.path.isEmpty=true:=by
   rw[Array.isEmpty_iff];apply Array.ext';simpa using hp
  simp only[method,run_bind,qhh hi,Result.andThen_ok,hf,hp,follow,run_pure,hfn,receiverAt,qz hu,Place.get,hemp,if_true,strVal,qdrb,asAddr,hlv]
def qzsb(o:Oper):Bool:=match o.op with
 | .build .. =>true
 |_=>false
def pureO(P:Program)(o:Oper):Bool:=isPure P o||qzsb o
def ptPO(P:Program)(o:Oper)(ρ:Operand->Value)(K:Value->Prop):Prop:=
 match o.op with
 | .build t parts=>qfcb P t (parts.toList.map λp=>(p.1,ρ p.2)) K
 |_=>ptP P o ρ K
theorem qsr{P:Program}{o:Oper}{ρ:Operand->Value}{K:Value->Prop}(hs:slOk o=true)(h:ptPO P o ρ K):
 ∃v,(∀w,(execOp ρ o).run P w= .ok (.value v) w)/\K v:=by
 unfold ptPO at h
 split at h
 ·rename_i t parts ho
  obtain⟨v,hv,hk⟩:=qnh (qfdb h)
  refine⟨v,λw=>?_,hk⟩
  rw[<-hv w]
  have:(parts.map λ(i,x)=>(i,ρ x))=⟨parts.toList.map λp=>(p.1,ρ p.2)⟩:=by
   apply Array.ext';simp
  simp[execOp,ho,this]
 ·exact qrib hs h
def mmR(P:Program)(t:TypeId)(r:Option Value)(w:World)(n:Nat)(w':World):Prop:=(Instr.makeMap t r).run P w= .ok (.map (some n)) w'
def lkR(P:Program)(t:TypeId)(x i:Value)(ok:Bool)(w:World)(v:Value):Prop:=(Instr.lookup t x i ok).run P w= .ok v w
def muR(P:Program)(t:TypeId)(m k x:Value)(w w':World):Prop:=(Instr.mapUpdate t m k x).run P w= .ok () w'
def rgR(P:Program)(t:TypeId)(x:Value)(w:World)(n:Nat)(w':World):Prop:=(Instr.range t x).run P w= .ok (.pointer (some ⟨n,0,none⟩)) w'
def nxR(P:Program)(it:Value)(s:Bool)(t:TypeId)(w:World)(b:Bool)(r:List Value)(w':World):Prop:=(Instr.next it s t).run P w= .ok (.tuple ⟨.bool b::r⟩) w'
def enR(P:Program)(it:Value)(w:World)(k x:Value):Prop:=(Instr.entry it).run P w= .ok (.tuple ⟨[k,x]⟩) w
def lnR(P:Program)(ts:List TypeId)(t:TypeId)(vs:List Value)(w:World)(n:Int):Prop:=(Builtin.len_ ⟨ts⟩ t ⟨vs⟩).run P w= .ok (.int .i64 n) w
def deR(P:Program)(ts:List TypeId)(t:TypeId)(vs:List Value)(w w':World):Prop:=(Builtin.delete_ ⟨ts⟩ t ⟨vs⟩).run P w= .ok (.tuple ⟨[]⟩) w'
def meR(P:Program)(t:TypeId)(m k:Value)(w:World)(v:Value)(n:Int)(w':World):Prop:=(Instr.mapEntry t m k).run P w= .ok (.tuple ⟨[v,.int .i64 n]⟩) w'
def esR(P:Program)(t:TypeId)(m s x:Value)(w w':World):Prop:=(Instr.entryStore t m s x).run P w= .ok () w'
def entK(d:Option Nat):Bool:=match d with
 |some n=>beq n 28
 |none=>false
def ptH(P:Program)(o:Oper)(ρ:Operand->Value)(w:World)(K:VWP):Prop:=
 match o.op with
 | .load t a=>qsv P t (ρ a) w λv=>K v w
 | .store t a x=>qxbb P t (ρ a) (ρ x) w λw'=>K undef w'
 | .alloc t=>qgcb P t w K
 | .box t x=>ptBox t (ρ x) w K
 | .buildSlice t n parts=>qro P t n (parts.toList.map λp=>(p.1,ρ p.2)) w K
 | .makeSlice t l c=>qsib P t (ρ l) (ρ c) w K
 | .convert s d x=>qecb P s d (ρ x) w K
 | .makeMap t r=>∃n:Nat,∃w':World,mmR P t (r.map ρ) w n w'/\K (.map (some n)) w'
 | .lookup t x i ok=>exRes P o.type λv=>lkR P t (ρ x) (ρ i) ok w v/\K v w
 | .mapUpdate t m k x=>∃w':World,muR P t (ρ m) (ρ k) (ρ x) w w'/\K undef w'
 | .mapEntry t m k=>match P.underlying t with
  |some (.map _ e)=>exV P e λv=>∃n:Int,∃w':World,meR P t (ρ m) (ρ k) w v n w'/\K (.tuple ⟨[v,.int .i64 n]⟩) w'
  |_=>False
 | .entryStore t m s x=>∃w':World,esR P t (ρ m) (ρ s) (ρ x) w w'/\K undef w'
 | .range t x=>∃n:Nat,∃w':World,rgR P t (ρ x) w n w'/\K (.pointer (some ⟨n,0,none⟩)) w'
 | .next it s=>∃b:Bool,∃r:List Value,∃w':World,nxR P (ρ it) s o.type w b r w'/\K (.tuple ⟨.bool b::r⟩) w'
 | .entry it=>match entK o.dst with
  |true=>∃c:Array Value,∃d:Array Value,enR P (ρ it) w (.agg c) (.agg d)/\K (.tuple ⟨[.agg c,.agg d]⟩) w
  |false=>∃c:Array Value,∃d:Int,enR P (ρ it) w (.agg c) (.int .i64 d)/\K (.tuple ⟨[.agg c,.int .i64 d]⟩) w
 | .call c=>
  match c.callee with
  | .builtin .len=>∃n:Int,lnR P c.argTypes.toList o.type (c.args.toList.map ρ) w n/\K (.int .i64 n) w
  | .builtin .delete=>∃w':World,deR P c.argTypes.toList o.type (c.args.toList.map ρ) w w'/\K (.tuple ⟨[]⟩) w'
  | .builtin .append=>qsx P c.argTypes.toList (c.args.toList.map ρ) w K
  | .builtin .copy=>qtib P c.argTypes.toList (c.args.toList.map ρ) w K
  | .value x=>callV P (ρ x) (c.args.toList.map ρ) o.type w K
  | .invoke x name=>qpx P (ρ x) name (c.args.toList.map ρ) o.type w K
  |_=>False
 |_=>False
def qwf(o:Oper):Bool:=match o.op with
 | .alloc _| .box .. | .buildSlice .. | .makeSlice .. =>true
 |_=>false
theorem qvf{P:Program}{o:Oper}{ρ:Operand->Value}{w w':World}{v:Value}{K:VWP}(h:(execOp ρ o).run P w= .ok (.value v) w')(hk:K v w'):opOk P o ρ w K:=by
 unfold opOk;rw[h];exact hk
theorem qxz{P:Program}{o:Oper}{ρ:Operand->Value}{w:World}{K:VWP}(h:ptH P o ρ w K):opOk P o ρ w λv w'=>(qwf o=true->extA w w')/\K v w':=by
 unfold ptH at h;split at h<;>first|exact h.elim|skip
 ·rename_i t a ho;obtain⟨v,hv,hk⟩:=qen h;exact qvf (w':=w) (v:=v) (by simp[execOp,ho,hv w (qei w)]) ⟨λh=>by simp[qwf,ho]at h,hk⟩
 ·rename_i t a x ho;obtain⟨w',hw,hk⟩:=qpbb h;unfold opOk;have:(execOp ρ o).run P w= .ok .skip w':=by simp[execOp,ho,hw]
  rw[this];exact⟨λh=>by simp[qwf,ho]at h,hk⟩
 ·rename_i t ho;obtain⟨v,w',hr,he,hk⟩:=qjdb h;exact qvf (w':=w') (v:=v) (by simp[execOp,ho,hr]) ⟨λ_=>he,hk⟩
 ·rename_i t x ho;obtain⟨v,w',hr,he,hk⟩:=qqlb (P:=P) h;exact qvf (w':=w') (v:=v) (by simp[execOp,ho,hr]) ⟨λ_=>he,hk⟩
 ·rename_i t n parts ho;obtain⟨v,w',hr,he,hk⟩:=qrs h;have:(parts.map λ(i,x)=>(i,ρ x))=⟨parts.toList.map λp=>(p.1,ρ p.2)⟩:=by
   apply Array.ext';simp
  exact qvf (w':=w') (v:=v) (by simp[execOp,ho,this,hr]) ⟨λ_=>he,hk⟩
 ·rename_i t l c ho;obtain⟨v,w',hr,he,hk⟩:=qfgb h;exact qvf (w':=w') (v:=v) (by simp[execOp,ho,hr]) ⟨λ_=>he,hk⟩
 ·rename_i s d x ho;obtain⟨v,w',hr,hk⟩:=qcdb h;exact qvf (w':=w') (v:=v) (by simp[execOp,ho,hr]) ⟨λh=>by simp[qwf,ho]at h,hk⟩
 ·rename_i t r ho;obtain⟨n,w',hr,hk⟩:=h;unfold mmR at hr;exact qvf (w':=w') (v:= .map (some n)) (by simp[execOp,ho,hr]) ⟨λh=>by simp[qwf,ho]at h,hk⟩
 ·rename_i t x i ok ho;obtain⟨v,hr,hk⟩:=qsp h;unfold lkR at hr;exact qvf (w':=w) (v:=v) (by simp[execOp,ho,hr]) ⟨λh=>by simp[qwf,ho]at h,hk⟩
 ·rename_i t m k x ho;obtain⟨w',hr,hk⟩:=h;unfold muR at hr;unfold opOk;have:(execOp ρ o).run P w= .ok .skip w':=by simp[execOp,ho,hr]
  rw[this];exact⟨λh=>by simp[qwf,ho]at h,hk⟩
 ·rename_i t m k ho;split at h<;>first|exact h.elim|skip
  obtain⟨v,n,w',hr,hk⟩:=qny h;unfold meR at hr;exact qvf (w':=w') (v:= .tuple ⟨[v,.int .i64 n]⟩) (by simp[execOp,ho,hr]) ⟨λh=>by simp[qwf,ho]at h,hk⟩
 ·rename_i t m s x ho;obtain⟨w',hr,hk⟩:=h;unfold esR at hr;unfold opOk;have:(execOp ρ o).run P w= .ok .skip w':=by simp[execOp,ho,hr]
  rw[this];exact⟨λh=>by simp[qwf,ho]at h,hk⟩
 ·rename_i t x ho;obtain⟨n,w',hr,hk⟩:=h;unfold rgR at hr;exact qvf (w':=w') (v:= .pointer (some ⟨n,0,none⟩)) (by simp[execOp,ho,hr]) ⟨λh=>by simp[qwf,ho]at h,hk⟩
 ·rename_i it s ho;obtain⟨b,r,w',hr,hk⟩:=h;unfold nxR at hr;exact qvf (w':=w') (v:= .tuple ⟨.bool b::r⟩) (by simp[execOp,ho,hr]) ⟨λh=>by simp[qwf,ho]at h,hk⟩
 ·rename_i it ho;split at h
  ·obtain⟨c,d,hr,hk⟩:=h;unfold enR at hr;exact qvf (w':=w) (v:= .tuple ⟨[.agg c,.agg d]⟩) (by simp[execOp,ho,hr]) ⟨λh=>by simp[qwf,ho]at h,hk⟩
  ·obtain⟨c,d,hr,hk⟩:=h;unfold enR at hr;exact qvf (w':=w) (v:= .tuple ⟨[.agg c,.int .i64 d]⟩) (by simp[execOp,ho,hr]) ⟨λh=>by simp[qwf,ho]at h,hk⟩
 ·rename_i c ho;have e:(⟨c.args.toList.map ρ⟩:Array Value)=c.args.map ρ:=by apply Array.ext';simp
  split at h<;>first|exact h.elim|skip
  ·rename_i hc;obtain⟨n,hr,hk⟩:=h;unfold lnR at hr;rw[e]at hr;exact qvf (w':=w) (v:= .int .i64 n) (by simp[execOp,ho,resolve,hc,invoke,builtin,hr]) ⟨λh=>by simp[qwf,ho]at h,hk⟩
  ·rename_i hc;obtain⟨w',hr,hk⟩:=h;unfold deR at hr;rw[e]at hr;exact qvf (w':=w') (v:= .tuple ⟨[]⟩) (by simp[execOp,ho,resolve,hc,invoke,builtin,hr]) ⟨λh=>by simp[qwf,ho]at h,hk⟩
  ·rename_i hc;obtain⟨v,w',hr,hk⟩:=qdbb (ty:=o.type) h;refine qvf (w':=w') (v:=v) ?_ ⟨λh=>by simp[qwf,ho]at h,hk⟩;have e:(⟨c.args.toList.map ρ⟩:Array Value)=c.args.map ρ:=by apply Array.ext';simp
   rw[e]at hr;simp[execOp,ho,resolve,hc,invoke,builtin,hr]
  ·rename_i hc;obtain⟨v,w',hr,hk⟩:=qdhb (ty:=o.type) h;refine qvf (w':=w') (v:=v) ?_ ⟨λh=>by simp[qwf,ho]at h,hk⟩;have e:(⟨c.args.toList.map ρ⟩:Array Value)=c.args.map ρ:=by apply Array.ext';simp
   rw[e]at hr;simp[execOp,ho,resolve,hc,invoke,builtin,hr]
  ·rename_i x hc;exact qbn (qcpb ho hc h) λv w' hk=>⟨λh=>by simp[qwf,ho]at h,hk⟩
  ·rename_i x name hc;exact qbn (qacb ho hc h) λv w' hk=>⟨λh=>by simp[qwf,ho]at h,hk⟩
def ptOp(P:Program)(o:Oper)(ρ:Operand->Value)(w:World)(K:VWP):Prop:=
 match pureO P o with
 |true=>ptPO P o ρ λv=>K v w
 |false=>ptH P o ρ w K
theorem qcgb{P:Program}{o:Oper}{ρ:Operand->Value}{w:World}{K:VWP}(hs:slOk o=true)(h:ptOp P o ρ w K):opOk P o ρ w K:=by
 unfold ptOp at h;split at h
 ·obtain⟨v,hv,hk⟩:=qsr hs h;exact qvf (hv w) hk
 ·exact qbn (qxz h) λ_ _ hk=>hk.2
def qkab(ops:Array Oper)(o:Oper)(ρ:Nat->Value)(yes no:(Nat->Value)->Prop):Prop:=
 match o.guard with
 |none=>yes ρ
 |some (j,want)=>
  match(ops[j]?).bind (·.dst)with
  |none=>False
  |some d=>
   match ρ d with
   | .bool b=>
    match want with
    |true=>br b (yes (upd ρ d (.bool true))) (no (upd ρ d (.bool false)))
    |false=>br b (no (upd ρ d (.bool true))) (yes (upd ρ d (.bool false)))
   | .tuple _=>no ρ
   |_=>False
theorem qsdb{ρ:Nat->Value}{d:Nat}{v:Value}(h:ρ d=v):upd ρ d v=ρ:=by
 funext t;unfold upd;split
 ·rename_i e;subst e;exact h.symm
 ·rfl
theorem qxo{ds:List Deferred}{N:Nat}{ops:Array Oper}{o:Oper}{a:Act}{ρ:Nat->Value}{yes no:(Nat->Value)->Prop}(hr:rel ds N a ρ)(h:qkab ops o ρ yes no):
 (Region.wanted o (yielded ops a.tmps)=true/\yes ρ)\/(Region.wanted o (yielded ops a.tmps)=false/\no ρ):=by
 unfold qkab at h
 unfold Region.wanted
 split at h
 ·rename_i hg;exact Or.inl ⟨by simp[hg],h⟩
 ·rename_i j want hg
  simp only[hg]
  split at h<;>first|exact h.elim|skip
  rename_i d hd
  have hdd:a.tmps.getD d undef=ρ d:=congrFun hr.2.2 d
  split at h<;>first|exact h.elim|skip
  ·rename_i b hb
   have hy:yielded ops a.tmps j=some b:=by
    rw[qem,hd];simp only[hdd,hb]
   rw[hy]
   cases want<;>cases b<;>simp only[br]at h<;>rw[qsdb hb]at h<;>simp[h]
  ·rename_i vs hb
   have hy:yielded ops a.tmps j=none:=by
    rw[qem,hd];simp only[hdd,hb]
   rw[hy]
   exact Or.inr ⟨rfl,h⟩
def ptOps(P:Program)(ops:Array Oper):List Nat->(Nat->Value)->World->((Nat->Value)->World->Prop)->Prop
 |[],ρ,w,K=>K ρ w
 |i::rest,ρ,w,K=>
  match ops[i]? with
  |none=>False
  |some o=>qkab ops o ρ (λρ'=>ptOp P o (ev ρ') w λv w'=>ptOps P ops rest (putR ρ' o.dst v) w' K) (λρ'=>ptOps P ops rest (putR ρ' o.dst undef) w K)
def fitB(N:Nat)(ops:Array Oper):Bool:=ops.toList.all λo=>slOk o&&(match o.dst with
 |some d=>blt d N
 |none=>true)
theorem qqu{N:Nat}{ops:Array Oper}(h:fitB N ops=true){i:Nat}{o:Oper}(ho:ops[i]?=some o):slOk o=true/\∀d,o.dst=some d->d<N:=by
 unfold fitB at h;rw[all_eq_true]at h;have hm:o∈ops.toList:=by
  rw[<-Array.getElem?_toList]at ho;exact List.mem_of_getElem? ho
 have:=h o hm;simp only[and_eq_true]at this
 refine⟨this.1,λd hd=>?_⟩;have h2:=this.2;rw[hd]at h2;simpa [Nat.blt_eq]using h2
theorem qzbb{P:Program}{ds:List Deferred}{N:Nat}{ops:Array Oper}(hf:fitB N ops=true):∀(l:List Nat) {a:Act} {ρ:Nat->Value} {w:World} {K:(Nat->Value)->World->Prop},rel ds N a ρ->ptOps P ops l ρ w K->
 opsOk P ops l a w λa' w'=>∃ρ',rel ds N a' ρ'/\K ρ' w':=by
 intro l
 induction l with
 |nil=>intro a ρ w K hr h;exact⟨ρ,hr,h⟩
 |cons i rest ih=>
  intro a ρ w K hr h
  unfold ptOps at h
  split at h
  ·exact h.elim
  ·rename_i o ho
   obtain⟨hs,hd⟩:=qqu hf ho
   show qvk P ops i a w λa w=>opsOk P ops rest a w _
   unfold qvk
   simp only[ho]
   rcases qxo hr h with⟨hw,h⟩|⟨hw,h⟩
   ·simp only[hw,if_true]
    rw[qmp hr]
    exact qbn (qcgb hs h) λv w' hk=>ih (qrm hr hd v) hk
   ·simp only[hw]
    exact ih (qrm hr hd _) h
def maskE(acc:List Nat)(l:List Edge):Nat:=match l with
 |[]=>0
 |e::r=>if Region.binds .any e then 2^e.on|||(acc.getD e.on 0|||maskE acc r)else maskE acc r
def befs:List Oper->List Nat->List Nat
 |[],acc=>acc
 |o::r,acc=>befs r (acc++[maskE acc o.after.toList])
theorem qwr(acc:List Nat)(i:Nat):∀l,(maskE acc l).testBit i=true->∃e∈l,Region.binds .any e=true/\(e.on=i\/(acc.getD e.on 0).testBit i=true)
 |[],h=>by simp[maskE]at h
 |e::r,h=>by
  unfold maskE at h;split at h
  ·rename_i hb;rw[Nat.testBit_or,Nat.testBit_or,or_eq_true,or_eq_true]at h;rcases h with h|h|h
   ·refine⟨e,by simp,hb,Or.inl ?_⟩;rw[Nat.testBit_two_pow]at h;simpa using h
   ·exact⟨e,by simp,hb,Or.inr h⟩
   ·obtain⟨e',he,h'⟩:=qwr acc i r h;exact⟨e',by simp[he],h'⟩
  ·obtain⟨e',he,h'⟩:=qwr acc i r h;exact⟨e',by simp[he],h'⟩
theorem qdv:∀(l:List Oper) (acc:List Nat),∃t,befs l acc=acc++t
 |[],acc=>⟨[],by simp[befs]⟩
 |o::r,acc=>by
  obtain⟨t,ht⟩:=qdv r (acc++[maskE acc o.after.toList]);exact⟨maskE acc o.after.toList::t,by rw[befs,ht];simp⟩
theorem qkfb:∀(l:List Oper) (acc:List Nat) (j:Nat) (o:Oper),l[j]?=some o->∃acc',(befs l acc)[acc.length+j]?=some (maskE acc' o.after.toList)/\acc'.length=acc.length+j/\∃t,befs l acc=acc'++t
 |[],acc,j,o,h=>by simp at h
 |o::r,acc,0,o',h=>by
  simp at h;subst h;obtain⟨t,ht⟩:=qdv r (acc++[maskE acc o.after.toList]);refine⟨acc,?_,by simp,maskE acc o.after.toList::t,?_⟩
  ·rw[befs,ht];simp
  ·rw[befs,ht];simp
 |o::r,acc,j+1,o',h=>by
  simp at h;obtain⟨acc',h1,h2,t,h3⟩:=qkfb r (acc++[maskE acc o.after.toList]) j o' h;refine⟨acc',?_,?_,t,?_⟩
  ·rw[befs,<-h1];congr 1;simp;omega
  ·rw[h2];simp;omega
  ·rw[befs,h3]
def preO(bs:List Nat)(i j:Nat):Bool:=(bs.getD j 0).testBit i
def qyn(o:Oper):Bool:=match o.op with
 | .load .. =>true
 |_=>false
def mildO(P:Program)(o:Oper):Bool:=pureO P o||qyn o||qwf o
def qzv(ops:Array Oper)(o:Oper)(d:Nat):Bool:=(o.looksAt ops).contains d
def lzB(P:Program)(ops:Array Oper)(bs:List Nat)(i:Nat):Bool:=
 match ops[i]? with
 |none=>false
 |some o=>
  (pureO P o||qyn o)&&
  (match o.dst with
    |none=>true
    |some d=>(range ops.size).all λj=>match ops[j]? with
     |none=>true
     |some oj=>!qzv ops oj d||(!Nat.beq i j&&preO bs i j))&&
  (!qyn o||(range ops.size).all λj=>match ops[j]? with
    |none=>true
    |some oj=>mildO P oj||preO bs i j||preO bs j i)
def lzs(P:Program)(ops:Array Oper)(bs:List Nat):List Bool:=(range ops.size).map (lzB P ops bs)
def statB(P:Program)(ops:Array Oper)(bs:List Nat):Bool:=
 (range ops.size).all λj=>match ops[j]? with
   |none=>false
   |some oj=>
    (oj.after.toList.all λe=>!Region.binds .any e||blt e.on j)&&
    (match oj.op with
      | .select .. =>false
      |_=>true)&&
    ((range ops.size).all λi=>match ops[i]? with
      |none=>true
      |some oi=>beq i j||(match oi.dst with
       |none=>true
       |some d=>(match oj.dst with
         |some d'=>!Nat.beq d d'
         |none=>true)&&(!qzv ops oj d||preO bs i j||(!lzB P ops bs i&&preO bs j i))))
def lzF(P:Program)(ops:Array Oper)(i:Nat):Bool:=lzB P ops (befs ops.toList []) i
def rdF(ops:Array Oper)(i:Nat):Bool:=match ops[i]? with
 |some o=>qyn o
 |none=>false
def alF(P:Program)(ops:Array Oper)(i:Nat):Bool:=match ops[i]? with
 |some o=>mildO P o
 |none=>false
theorem qqrb{P:Program}{ops:Array Oper}(h:statB P ops (befs ops.toList [])=true):Stat ops (preO (befs ops.toList [])) (lzF P ops) (rdF ops) (alF P ops):=by
 have all:∀j oj,ops[j]?=some oj->_:=λj oj hj=>by
  have h1:=all_eq_true.1 h j (mem_range.2 (Array.getElem?_eq_some_iff.1 hj).1);simp only[hj]at h1;exact h1
 have back:∀(j:Nat) (oj:Oper),ops[j]?=some oj->∀e∈oj.after,Region.binds .any e=true->e.on<j:=by
  intro j oj hj e he hb;have h1:=all j oj hj;simp only[and_eq_true]at h1;have h2:=all_eq_true.1 h1.1.1 e (by simpa using he);rw[hb]at h2;simpa [Nat.blt_eq]using h2
 have pair:∀(i j:Nat) (oi oj:Oper) (d:Nat),ops[i]?=some oi->ops[j]?=some oj->i≠j->oi.dst=some d->oj.dst≠some d/\(d∈oj.looksAt ops->preO (befs ops.toList []) i j=true\/(lzF P ops i=false/\preO (befs ops.toList []) j i=true)):=by
  intro i j oi oj d hi hj hne hd;have h1:=all j oj hj;simp only[and_eq_true]at h1;have h2:=all_eq_true.1 h1.2 i (mem_range.2 (Array.getElem?_eq_some_iff.1 hi).1);simp only[hi,hd,or_eq_true,and_eq_true]at h2;have h2:=h2.resolve_left (λh=>hne (eq_of_beq_eq_true h));refine⟨λh=>?_,λhm=>?_⟩
  ·have:=h2.1;simp[h]at this
  ·have h3:=h2.2;have hc:qzv ops oj d=true:=by simpa [qzv]using hm
   simp only[hc,Bool.not_true,false_eq_true,false_or]at h3;rcases h3 with h3|h3
   ·exact Or.inl h3
   ·exact Or.inr ⟨by simpa [lzF]using h3.1,h3.2⟩
 have lzspec:∀(i:Nat) (o:Oper),ops[i]?=some o->lzF P ops i=true->
  (∀d,o.dst=some d->d∉o.looksAt ops)/\(qyn o=true->∀(j:Nat) (oj:Oper),ops[j]?=some oj->mildO P oj=true\/preO (befs ops.toList []) i j=true\/preO (befs ops.toList []) j i=true):=by
  intro i o hi hl
  unfold lzF lzB at hl
  simp only[hi,and_eq_true]at hl
  refine⟨λd hd hm=>?_,λhr j oj hj=>?_⟩
  ·have h2:=hl.1.2
   rw[hd]at h2
   have h3:=all_eq_true.1 h2 i (mem_range.2 (Array.getElem?_eq_some_iff.1 hi).1)
   simp only[hi]at h3
   have hc:qzv ops o d=true:=by simpa [qzv]using hm
   simp[hc]at h3
  ·have h2:=hl.2
   rw[hr]at h2
   simp only[Bool.not_true,Bool.false_or]at h2
   have h3:=all_eq_true.1 h2 j (mem_range.2 (Array.getElem?_eq_some_iff.1 hj).1)
   simp only[hj,or_eq_true]at h3
   rcases h3 with(h3|h3)|h3
   ·exact Or.inl h3
   ·exact Or.inr (Or.inl h3)
   ·exact Or.inr (Or.inr h3)
 refine⟨back,?_,?_,λi j oi oj d hi hj hne hd=>(pair i j oi oj d hi hj hne hd).1,λi j oi oj d hi hj hne hd hm=>(pair i j oi oj d hi hj hne hd).2 hm,λi oi d hi hd hl=>(lzspec i oi hi hl).1 d hd,?_⟩
 ·intro i j oj hj hp;unfold preO at hp;have hjl:ops.toList[j]?=some oj:=by rw[Array.getElem?_toList];exact hj
  obtain⟨acc',h1,h2,t,h3⟩:=qkfb ops.toList [] j oj hjl;simp only[List.length_nil,zero_add]at h1 h2;rw[getD_eq_getElem?_getD,h1,Option.getD_some]at hp;obtain⟨e,he,hb,h4⟩:=qwr acc' i _ hp;have hlt:=back j oj hj e (by simpa using he) hb;refine⟨e,by simpa using he,hb,hlt,?_⟩;rcases h4 with h4|h4
  ·exact Or.inl h4
  ·refine Or.inr ?_;unfold preO;rw[h3,getD_eq_getElem?_getD,List.getElem?_append_left (by omega),<-getD_eq_getElem?_getD];exact h4
 ·intro j o cs b hj heq;have h1:=all j o hj;simp[heq]at h1
 ·intro m i hm hi hr hl hz ha;obtain⟨om,hom⟩:=qnp m hm;obtain⟨oi,hoi⟩:=qnp i hi;have hr':qyn om=true:=by simpa [rdF,hom]using hr
  rcases(lzspec m om hom hl).2 hr' i oi hoi with h|h|h
  ·simp[alF,hoi,h]at ha
  ·exact Or.inl h
  ·exact Or.inr h
def depsL(o:Oper):List Nat:=(o.after.toList.filter λe=>Region.binds .any e).map (·.on)
def rdyL(ds:List (List Nat))(i m:Nat):List Nat:=
 match ds with
 |[]=>[]
 |d::r=>if !m.testBit i&&d.all (λj=>m.testBit j)then i::rdyL r (i+1) m else rdyL r (i+1) m
def bitsA(n m:Nat):Array Bool:=((range n).map λi=>m.testBit i).toArray
theorem qaq{n m i:Nat}(h:i<n)(d:Bool):(bitsA n m).getD i d=m.testBit i:=by
 simp[bitsA,h]
theorem qcv{n m i:Nat}(h:i<n):(bitsA n m).setIfInBounds i true=bitsA n (m|||2^i):=by
 apply Array.ext
 ·simp[bitsA]
 ·intro j h1 h2;simp only[bitsA,Array.size_setIfInBounds,List.size_toArray,List.length_map,List.length_range]at h1;have e1:(bitsA n (m|||2^i))[j]=(m.testBit j||decide (i=j)):=by
   simp only[bitsA,List.getElem_toArray,List.getElem_map,List.getElem_range,Nat.testBit_or,Nat.testBit_two_pow]
  rw[e1];by_cases hij:i=j
  ·subst hij;simp
  ·rw[Array.getElem_setIfInBounds_ne (h:=hij) (hj:=by simpa [bitsA]using h1)];simp[bitsA,hij]
theorem qjnb(ds:List (List Nat))(m:Nat):∀(k i:Nat),i∈rdyL ds k m↔k<=i/\m.testBit i=false/\∃d,ds[i-k]?=some d/\∀j∈d,m.testBit j=true:=by
 induction ds with
 |nil=>intro k i;simp[rdyL]
 |cons d r ih=>
  intro k i;unfold rdyL;have step:i∈rdyL r (k+1) m↔k+1<=i/\m.testBit i=false/\∃d',(d::r)[i-k]?=some d'/\∀j∈d',m.testBit j=true:=by
   rw[ih (k+1) i];constructor
   ·rintro⟨h1,h2,d',h3,h4⟩;refine⟨h1,h2,d',?_,h4⟩;rw[show i-k=(i-(k+1))+1 by omega];exact h3
   ·rintro⟨h1,h2,d',h3,h4⟩;refine⟨h1,h2,d',?_,h4⟩;rw[show i-k=(i-(k+1))+1 by omega]at h3;exact h3
  split
  ·rename_i hc;simp only[and_eq_true,Bool.not_eq_true',all_eq_true]at hc;rw[mem_cons,step];constructor
   ·rintro(rfl|⟨h1,h2⟩)
    ·exact⟨le_refl _,hc.1,d,by simp,hc.2⟩
    ·exact⟨by omega,h2⟩
   ·rintro⟨h1,h2,d',h3,h4⟩;by_cases hik:i=k
    ·exact Or.inl hik
    ·exact Or.inr ⟨by omega,h2,d',h3,h4⟩
  ·rename_i hc;rw[step];constructor
   ·rintro⟨h1,h2⟩;exact⟨by omega,h2⟩
   ·rintro⟨h1,h2,d',h3,h4⟩;by_cases hik:i=k
    ·exfalso;subst hik;simp at h3;subst h3;apply hc;simp only[and_eq_true,Bool.not_eq_true',all_eq_true];exact⟨h2,h4⟩
    ·exact⟨by omega,h2,d',h3,h4⟩
theorem qym{ops:Array Oper}(hb:∀(j:Nat) (oj:Oper),ops[j]?=some oj->∀e∈oj.after,Region.binds .any e=true->e.on<j)(m i:Nat):
 i∈Region.ready .any ops (bitsA ops.size m)↔i∈rdyL (ops.toList.map depsL) 0 m:=by
 rw[mem_ready,qjnb]
 simp only[Nat.zero_le,true_and,Nat.sub_zero,List.getElem?_map,Array.getElem?_toList]
 constructor
 ·rintro⟨h1,o,ho,h2⟩
  have hi:=(Array.getElem?_eq_some_iff.1 ho).1
  refine⟨by rw[qaq hi]at h1;exact h1,depsL o,by rw[ho];rfl,λj hj=>?_⟩
  unfold depsL at hj
  rw[List.mem_map]at hj
  obtain⟨e,he,rfl⟩:=hj
  rw[List.mem_filter]at he
  have he1:e∈o.after:=by simpa using he.1
  have:=h2 e he1 he.2
  rwa[qaq (by have:=hb i o ho e he1 he.2;omega)]at this
 ·rintro⟨h1,d,hd,h2⟩
  cases ho:ops[i]? with
  |none=>rw[ho]at hd;cases hd
  |some o=>
   rw[ho]at hd
   simp at hd
   have hi:=(Array.getElem?_eq_some_iff.1 ho).1
   refine⟨by rw[qaq hi];exact h1,o,rfl,λe he hbe=>?_⟩
   have hlt:=hb i o ho e he hbe
   rw[qaq (by omega)]
   refine h2 e.on ?_
   rw[<-hd]
   unfold depsL
   rw[List.mem_map]
   exact⟨e,by rw[List.mem_filter];exact⟨by simpa using he,hbe⟩,rfl⟩
def qpjb(P:Program)(o:Oper)(ρ:Operand->Value)(w:World)(K:Value->Prop):Prop:=
 match pureO P o with
 |true=>ptPO P o ρ K
 |false=>match o.op with
  | .load t a=>qsv P t (ρ a) w K
  |_=>False
def qcs(lz:List Bool):List Nat->Option Nat
 |[]=>none
 |i::r=>match lz.getD i false with
  |true=>some i
  |false=>qcs lz r
def allOf(X:Nat->Prop):List Nat->Prop
 |[]=>True
 |[i]=>X i
 |i::r=>X i/\allOf X r
theorem qebb{X:Nat->Prop}:∀{l:List Nat},allOf X l->∀i∈l,X i
 |[],_,i,h=>by cases h
 |[j],h,i,hi=>by have:i=j:=by simpa using hi
                 subst this;exact h
 |j::k::r,h,i,hi=>by
  rcases mem_cons.1 hi with rfl|hi
  ·exact h.1
  ·exact qebb h.2 i hi
def qls(P:Program)(ops:Array Oper)(ds:List (List Nat))(lz:List Bool)(K:(Nat->Value)->World->Prop):Nat->Nat->(Nat->Value)->World->Prop
 |0,m,ρ,w=>match rdyL ds 0 m with
  |[]=>K ρ w
  |_=>False
 |f+1,m,ρ,w=>
  match qcs lz (rdyL ds 0 m)with
  |some i=>match ops[i]? with
   |none=>False
   |some o=>qkab ops o ρ (λρ'=>qpjb P o (ev ρ') w λv=>qls P ops ds lz K f (m|||2^i) (putR ρ' o.dst v) w) (λρ'=>qls P ops ds lz K f (m|||2^i) (putR ρ' o.dst undef) w)
  |none=>match rdyL ds 0 m with
   |[]=>K ρ w
   |l=>allOf (λi=>match ops[i]? with
    |none=>False
    |some o=>qkab ops o ρ (λρ'=>ptOp P o (ev ρ') w λv w'=>qls P ops ds lz K f (m|||2^i) (putR ρ' o.dst v) w') (λρ'=>qls P ops ds lz K f (m|||2^i) (putR ρ' o.dst undef) w)) l
theorem qos{lz:List Bool}:∀{l:List Nat} {i:Nat},qcs lz l=some i->i∈l/\lz.getD i false=true
 |[],i,h=>by cases h
 |j::r,i,h=>by
  unfold qcs at h;split at h
  ·rename_i hj;cases h;exact⟨by simp,hj⟩
  ·have:=qos h;exact⟨by simp[this.1],this.2⟩
theorem qps{lz:List Bool}:∀{l:List Nat},qcs lz l=none->∀i∈l,lz.getD i false=false
 |[],_,i,h=>by cases h
 |j::r,h,i,hi=>by
  unfold qcs at h;split at h
  ·cases h
  ·rename_i hj;rcases mem_cons.1 hi with rfl|hi
   ·exact hj
   ·exact qps h i hi
theorem qxpb{P:Program}{ops:Array Oper}{i:Nat}(hi:i<ops.size):(lzs P ops (befs ops.toList [])).getD i false=lzF P ops i:=by
 simp[lzs,hi,lzF]
theorem qeab{ds:List Deferred}{P:Program}{ops:Array Oper}{o:Oper}{N:Nat}{a:Act}{ρ:Nat->Value}{w:World}{K:Value->Prop}{i:Nat}(ho:ops[i]?=some o)(hs:slOk o=true)(hr:rel ds N a ρ)
 (hw:Region.wanted o (yielded ops a.tmps)=true) (h:qpjb P o (ev ρ) w K):∃v,gives P ops (rdF ops i) o a w v/\K v:=by
 unfold qpjb at h
 split at h
 ·obtain⟨v,hv,hk⟩:=qsr hs h
  exact⟨v,Or.inl ⟨hw,λw' _=>by rw[qmp hr];exact hv w'⟩,hk⟩
 ·split at h<;>first|exact h.elim|skip
  rename_i t x hop
  obtain⟨v,hv,hk⟩:=qen h
  refine⟨v,Or.inl ⟨hw,λw' he=>?_⟩,hk⟩
  rw[qmp hr]
  have:=hv w' (he (by simp[rdF,ho,qyn,hop]))
  simp[execOp,hop,this]
theorem qwfb{ds:List Deferred}{P:Program}{N:Nat}{ops:Array Oper}(hf:fitB N ops=true)(St:Stat ops (preO (befs ops.toList [])) (lzF P ops) (rdF ops) (alF P ops)){K:(Nat->Value)->World->Prop}:
 ∀(f m:Nat) {a:Act} {ρ:Nat->Value} {w:World},rel ds N a ρ->qls P ops (ops.toList.map depsL) (lzs P ops (befs ops.toList [])) K f m ρ w->
  tree P ops (lzF P ops) (rdF ops) (alF P ops) (λa' w'=>∃ρ',rel ds N a' ρ'/\K ρ' w') f (bitsA ops.size m) a w:=by
 intro f
 induction f with
 |zero=>
  intro m a ρ w hr h
  unfold qls at h
  split at h
  ·rename_i hn
   refine⟨?_,ρ,hr,h⟩
   cases hrr:Region.ready .any ops (bitsA ops.size m)with
   |nil=>rfl
   |cons i r=>
    have:i∈Region.ready .any ops (bitsA ops.size m):=by rw[hrr];simp
    rw[qym St.back,hn]at this
    cases this
  ·exact h.elim
 |succ f ih=>
  intro m a ρ w hr h
  unfold qls at h
  split at h
  ·rename_i i hfi
   obtain⟨hm,hl⟩:=qos hfi
   have hready:=(qym St.back m i).2 hm
   split at h
   ·exact h.elim
   ·rename_i o ho
    have hi:=(Array.getElem?_eq_some_iff.1 ho).1
    rw[qxpb hi]at hl
    obtain⟨hs,hd⟩:=qqu hf ho
    refine Or.inl ?_
    rcases qxo hr h with⟨hw,h⟩|⟨hw,h⟩
    ·obtain⟨v,hg,hk⟩:=qeab ho hs hr hw h
     refine⟨i,o,v,hready,hl,ho,hg,?_⟩
     rw[qcv hi]
     exact ih _ (qrm hr hd v) hk
    ·refine⟨i,o,undef,hready,hl,ho,Or.inr ⟨hw,rfl⟩,?_⟩
     rw[qcv hi]
     exact ih _ (qrm hr hd _) h
  ·rename_i hfn
   have hnone:=qps hfn
   refine Or.inr ⟨λi hi=>?_,λhnil=>?_,λi hi=>?_⟩
   ·have hm:=(qym St.back m i).1 hi
    have hlt:i<ops.size:=by
     obtain⟨_,o,ho,_⟩:=mem_ready.1 hi;exact(Array.getElem?_eq_some_iff.1 ho).1
    rw[<-qxpb (P:=P) hlt]
    exact hnone i hm
   ·split at h
    ·exact⟨ρ,hr,h⟩
    ·rename_i hne
     exfalso
     cases hrl:rdyL (ops.toList.map depsL) 0 m with
     |nil=>exact hne hrl
     |cons i r=>
      have:i∈Region.ready .any ops (bitsA ops.size m):=(qym St.back m i).2 (by rw[hrl];simp)
      rw[hnil]at this
      cases this
   ·have hm:=(qym St.back m i).1 hi
    split at h
    ·rename_i hnil;rw[hnil]at hm;cases hm
    ·have hx:=qebb h i hm
     split at hx
     ·exact hx.elim
     ·rename_i o ho
      have hi':=(Array.getElem?_eq_some_iff.1 ho).1
      obtain⟨hs,hd⟩:=qqu hf ho
      rw[qcv hi']
      unfold qvk
      simp only[ho]
      rcases qxo hr hx with⟨hw,hx⟩|⟨hw,hx⟩
      ·simp only[hw,if_true]
       rw[qmp hr]
       unfold ptOp at hx
       split at hx
       ·rename_i hp
        obtain⟨v,hv,hk⟩:=qsr hs hx
        exact qvf (hv w) ⟨λ_=>qei w,ih _ (qrm hr hd v) hk⟩
       ·rename_i hp
        by_cases hload:qyn o=true
        ·unfold ptH at hx
         cases hop:o.op<;>simp only[hop]at hx<;>first|(simp[qyn,hop]at hload;done)|skip
         rename_i t x
         obtain⟨v,hv,hk⟩:=qen hx
         exact qvf (w':=w) (v:=v) (by simp[execOp,hop,hv w (qei w)]) ⟨λ_=>qei w,ih _ (qrm hr hd v) hk⟩
        ·refine qbn (qxz hx) λv w' hk=>⟨λha=>hk.1 ?_,ih _ (qrm hr hd v) hk.2⟩
         have:mildO P o=true:=by simpa [alF,ho]using ha
         simp only[mildO,hp,Bool.false_or,or_eq_true]at this
         exact this.resolve_left hload
      ·simp only[hw]
       exact⟨λ_=>qei w,ih _ (qrm hr hd _) hx⟩
section
abbrev RK:=(Nat->Value)->World->Prop
structure Ks where
 norm:RK
 ret:RK
 ex:List (Nat×RK)
def exitK:List (Nat×RK)->Nat->RK
 |[],_=>λ_ _=>False
 |(i,k)::r,id=>match beq i id with
  |true=>k
  |false=>exitK r id
def ptReg(P:Program)(N:Nat)(ops:Array Oper)(draw:Bool)(K:RK)(ρ:Nat->Value)(w:World):Prop:=
 match draw with
 |false=>match fitB N ops with
  |true=>ptOps P ops (range ops.size) ρ w K
  |false=>False
 |true=>match fitB N ops&&statB P ops (befs ops.toList [])with
  |true=>qls P ops (ops.toList.map depsL) (lzs P ops (befs ops.toList [])) K ops.size 0 ρ w.drew
  |false=>False
def pt(P:Program)(N:Nat):Code->Ks->RK
 | .skip,K,ρ,w=>K.norm ρ w
 | .region _ ops draw,K,ρ,w=>ptReg P N ops draw K.norm ρ w
 | .seq x y,K,ρ,w=>pt P N x {norm:=λρ w=>pt P N y K ρ w,ret:=K.ret,ex:=K.ex} ρ w
 | .cond c x y,K,ρ,w=>match ev ρ c with
  | .bool b=>br b (pt P N x K ρ w) (pt P N y K ρ w)
  |_=>False
 | .block id c,K,ρ,w=>pt P N c {norm:=K.norm,ret:=K.ret,ex:=(id,K.norm)::K.ex} ρ w
 | .exit id,K,ρ,w=>exitK K.ex id ρ w
 | .ret,K,ρ,w=>K.ret ρ w
 |_,_,_,_=>False
def toQ(ds:List Deferred)(N:Nat)(K:Ks):Exit->Act->World->Prop:=λe a w=>∃ρ,rel ds N a ρ/\(match e with
 | .normal=>K.norm ρ w
 | .ret=>K.ret ρ w
 | .exit id=>exitK K.ex id ρ w
 |_=>False)
def wpc(P:Program)(N:Nat)(c:Code)(K:Ks)(ρ:Nat->Value)(w:World):Prop:=∀r ds a,rel ds N a ρ->c.wpIn (fw r) 0 P (toQ ds N K) a w
section
variable {P:Program}{N:Nat}{K:Ks}{ρ:Nat->Value}{w:World}
theorem qgrb{id:Nat}{ops:Array Oper}{draw:Bool}(hm:P.follows .mixedOrders=true)(h:ptReg P N ops draw K.norm ρ w):wpc P N (.region id ops draw) K ρ w:=by
 intro r ds a hr;unfold ptReg at h;cases draw with
 |false=>
  simp only at h;split at h<;>first|exact h.elim|skip
  rename_i hf;exact wpIn_region (qhv r (λa w ⟨ρ',h1,h2⟩=>⟨ρ',h1,h2⟩) _ _ _ (qzbb hf _ hr h))
 |true=>
  simp only at h;split at h<;>first|exact h.elim|skip
  rename_i hf;rw[and_eq_true]at hf;have St:=qqrb hf.2;refine qtfb r hm St (K:=λa' w'=>∃ρ',rel ds N a' ρ'/\K.norm ρ' w') (λa w ⟨ρ',h1,h2⟩=>⟨ρ',h1,h2⟩) ?_;have:=qwfb hf.1 St ops.size 0 hr h;have e:bitsA ops.size 0=Array.replicate ops.size false:=by
   apply Array.ext
   ·simp[bitsA]
   ·intro i h1 h2;simp[bitsA]
  rw[e]at this
  exact this
theorem qot{x y:Code}(M:RK)(h:wpc P N x {norm:=M,ret:=K.ret,ex:=K.ex} ρ w)(h2:∀ρ w,M ρ w->wpc P N y K ρ w):wpc P N (.seq x y) K ρ w:=by
 intro r ds a hr;refine wpIn_seq (wpIn_mono (h r ds a hr) λe a' w' hq=>?_);obtain⟨ρ',hr',hk⟩:=hq;cases e with
 |normal=>exact h2 _ _ hk r ds a' hr'
 |ret=>exact⟨ρ',hr',hk⟩
 |exit id=>exact⟨ρ',hr',hk⟩
 |_=>exact hk.elim
theorem qrdb{c:Operand}{x y:Code}{b:Bool}(hb:ev ρ c= .bool b)(ht:b=true->wpc P N x K ρ w)(hf:b=false->wpc P N y K ρ w):wpc P N (.cond c x y) K ρ w:=by
 intro r ds a hr;exact wpIn_cond_split (t:=b) (by rw[qmp hr];exact hb) (λh=>ht h r ds a hr) (λh=>hf h r ds a hr)
theorem qkz{id:Nat}{c:Code}(h:wpc P N c {norm:=K.norm,ret:=K.ret,ex:=(id,K.norm)::K.ex} ρ w):wpc P N (.block id c) K ρ w:=by
 intro r ds a hr;refine wpIn_block (wpIn_mono (h r ds a hr) λe a' w' hq=>?_);obtain⟨ρ',hr',hk⟩:=hq;cases e with
 |normal=>exact⟨ρ',hr',hk⟩
 |ret=>exact⟨ρ',hr',hk⟩
 |exit id'=>
  simp only[exitK]at hk;by_cases hid:id=id'
  ·subst hid;have:beq id id=true:=by simp
   rw[this]at hk;simp only[Exit.inBlock,if_true];exact⟨ρ',hr',hk⟩
  ·have:beq id id'=false:=by
    cases hb:beq id id' with
    |false=>rfl
    |true=>exact absurd (eq_of_beq_eq_true hb) hid
   rw[this]at hk;simp only[Exit.inBlock,if_neg (λh:id'=id=>hid h.symm)];exact⟨ρ',hr',hk⟩
 |_=>exact hk.elim
theorem qsmb{c:Code}(I:RK)(μ:(Nat->Value)->World->Nat)(h0:I ρ w)
 (hround:∀ρ w,I ρ w->wpc P N c {norm:=λρ' w'=>I ρ' w'/\μ ρ' w'<μ ρ w,ret:=K.ret,ex:=K.ex} ρ w):wpc P N (.loop c) K ρ w:=by
 intro r ds a hr
 refine wpIn_loop (λa w=>∃ρ,rel ds N a ρ/\I ρ w) (λa w=>μ (λt=>a.tmps.getD t undef) w) ⟨ρ,hr,h0⟩ ?_
 rintro a1 w1 ⟨ρ1,hr1,hI⟩
 refine wpIn_mono (hround ρ1 w1 hI r ds a1 hr1) λe a' w' hq=>?_
 obtain⟨ρ',hr',hk⟩:=hq
 cases e with
 |normal=>
  refine⟨⟨ρ',hr',hk.1⟩,?_⟩
  rw[hr1.2.2,hr'.2.2]
  exact hk.2
 |ret=>exact⟨ρ',hr',hk⟩
 |exit id=>exact⟨ρ',hr',hk⟩
 |_=>exact hk.elim
theorem qpdb(h:K.norm ρ w):wpc P N .skip K ρ w:=λ_ _ a hr=>wpIn_skip ⟨ρ,hr,h⟩
theorem qfrb(h:K.ret ρ w):wpc P N .ret K ρ w:=λ_ _ a hr=>wpIn_ret ⟨ρ,hr,h⟩
theorem qtmb{id:Nat}(h:exitK K.ex id ρ w):wpc P N (.exit id) K ρ w:=λ_ _ a hr=>wpIn_exit ⟨ρ,hr,h⟩
end
theorem qjl{P:Program}{N:Nat}(hm:P.follows .mixedOrders=true):∀(c:Code) {K:Ks} {ρ:Nat->Value} {w:World},pt P N c K ρ w->wpc P N c K ρ w:=by
 intro c;induction c with
 |skip=>intro K ρ w h;exact qpdb h
 |region id ops draw=>intro K ρ w h;exact qgrb hm h
 |seq x y ihx ihy=>intro K ρ w h;exact qot _ (ihx h) λρ w h=>ihy h
 |cond c x y ihx ihy=>
  intro K ρ w h;unfold pt at h;split at h<;>first|exact h.elim|skip
  rename_i b hb;refine qrdb hb (λht=>?_) (λhf=>?_)
  ·subst ht;exact ihx h
  ·subst hf;exact ihy h
 |block id c ih=>intro K ρ w h;exact qkz (ih h)
 |loop c=>intro K ρ w h;exact h.elim
 |rangeFunc f ps az c=>intro K ρ w h;exact h.elim
 |exit id=>intro K ρ w h;exact qtmb h
 |scope c=>intro K ρ w h;exact h.elim
 |label l=>intro K ρ w h;exact h.elim
 |goto l=>intro K ρ w h;exact h.elim
 |ret=>intro K ρ w h;exact qfrb h
 |refuse s=>intro K ρ w h;exact h.elim
def resL(P:Program)(w:World)(ρ:Nat->Value):List ResultVar->(List Value->Prop)->Prop
 |[],F=>F []
 | .tmp t::r,F=>resL P w ρ r λvs=>F (ρ t::vs)
 | .cell a t::r,F=>match ρ a with
  | .pointer p=>nz p λad=>qsv P t (.pointer (some ad)) w λv=>resL P w ρ r λvs=>F (v::vs)
  |_=>False
def retK(P:Program)(rs:List ResultVar)(Q:VWP):RK:=λρ w=>resL P w ρ rs λvs=>match vs with
 |[v]=>Q v w
 |vs=>Q (.tuple ⟨vs⟩) w
def qzt(tmps:Array Value):ResultVar->Sem Value
 | .tmp t=>pure (tmps.getD t undef)
 | .cell a t=>do loadVar t (<-asAddr (tmps.getD a undef))
theorem qkx{P:Program}{w:World}{ρ:Nat->Value}{tmps:Array Value}(ht:(λt=>tmps.getD t undef)=ρ):∀(rs:List ResultVar) {F:List Value->Prop},resL P w ρ rs F->
 ∃vs,(rs.mapM (qzt tmps)).run P w= .ok vs w/\F vs
 |[],F,h=>⟨[],by simp,h⟩
 | .tmp t::r,F,h=>by
  obtain⟨vs,h1,h2⟩:=qkx ht r (F:=λvs=>F (ρ t::vs)) h;refine⟨_,?_,h2⟩;rw[mapM_cons];simp only[run_bind,qzt,run_pure,Result.andThen_ok,h1];rw[<-ht]
 | .cell a t::r,F,h=>by
  unfold resL at h;split at h<;>first|exact h.elim|skip
  rename_i p hp;unfold nz at h;split at h<;>first|exact h.elim|skip
  rename_i ad;obtain⟨v,hv,h⟩:=qen h;obtain⟨vs,h1,h2⟩:=qkx ht r (F:=λvs=>F (v::vs)) h;refine⟨_,?_,h2⟩;rw[mapM_cons];have e:tmps.getD a undef=ρ a:=congrFun ht a;have hl:(loadVar t ad).run P w= .ok v w:=by
   have:=hv w (qei w);simpa [Instr.loadAt,Instr.sureAddr]using this
  simp only[run_bind,qzt,run_pure,Result.andThen_ok,h1,e,hp,asAddr,hl]
theorem qqn{P:Program}{fn:Func}{w:World}{ρ:Nat->Value}{tmps:Array Value}(ht:(λt=>tmps.getD t undef)=ρ){Q:VWP}(h:retK P fn.results.toList Q ρ w):
 ∃v,(results fn tmps).run P w= .ok v w/\Q v w:=by
 obtain⟨vs,h1,h2⟩:=qkx ht _ h
 have hm:(fn.results.mapM (qzt tmps)).run P w= .ok vs.toArray w:=by
  have:fn.results.mapM (qzt tmps)=List.toArray<$>fn.results.toList.mapM (qzt tmps):=by
   rw[<-List.mapM_toArray]
  rw[this,Sem.run_map,h1];rfl
 have hres:results fn tmps=(fn.results.mapM (qzt tmps)>>=λvs=>pure (if h:vs.size=1 then vs[0]else .tuple vs)):=by
  unfold results;congr 1
 rw[hres]
 cases vs with
 |nil=>exact⟨_,by rw[run_bind,hm];simp,h2⟩
 |cons v r=>
  cases r with
  |nil=>exact⟨_,by rw[run_bind,hm];simp,h2⟩
  |cons u r=>exact⟨_,by rw[run_bind,hm];simp,h2⟩
def args0(args:List Value):Nat->Value:=λt=>args.getD t undef
def Ret(Q:VWP):Ending->World->Prop:=λe w=>∃v,e= .returned v/\Q v w
theorem qofb{N:Nat}{args:List Value}(hle':args.length<=N):rel [] N {tmps:=(⟨args⟩:Array Value)++Array.replicate (N-(⟨args⟩:Array Value).size) undef,defers:=[]} (args0 args):=by
 refine⟨rfl,by simp;omega,?_⟩;funext t;unfold args0;rw[Array.getD_eq_getD_getElem?,getD_eq_getElem?_getD,Array.getElem?_append];split
 ·simp
 ·rename_i ht;have ht':args.length<=t:=by simpa using ht
  rw[List.getElem?_eq_none ht'];rw[Array.getElem?_replicate];split<;>rfl
theorem qwab{P:Program}{f:FuncId}{fn:Func}{c:Code}{N:Nat}{args:List Value}{w:World}{Q:VWP}(rs:List ResultVar)
 (hf:P.funcs[f]?=some fn) (hb:fn.body=some c) (hN:fn.ntmps=N) (hle:ble args.length N=true) (hrs:fn.results.toList=rs)
 (h:wpc P N c {norm:=retK P rs Q,ret:=retK P rs Q,ex:=[]} (args0 args) w):Calls P f ⟨args⟩ w (Ret Q):=by
 subst hN hrs
 have hle':=Nat.le_of_ble_eq_true hle
 have hr:=qofb hle'
 refine calls_of_wp hf hb (wp_mono ((wpIn_wide (n:=0)).1 (h none [] _ hr)) λe a w hq=>?_)
 obtain⟨ρ,hrel,hk⟩:=hq
 cases e with
 |normal=>
  obtain⟨v,h1,h2⟩:=qqn hrel.2.2 hk
  exact⟨hrel.1,v,h1,v,rfl,h2⟩
 |ret=>
  obtain⟨v,h1,h2⟩:=qqn hrel.2.2 hk
  exact⟨hrel.1,v,h1,v,rfl,h2⟩
 |exit id=>exact hk.elim
 |_=>exact hk.elim
end
section
abbrev lt{α:Type}(e:α)(K:α->Prop):Prop:=K e
abbrev _root_.Go.World.heapSize(w:World):Nat:=w.heap.size
section
variable {P:Program}{N:Nat}{K:Ks}{ρ:Nat->Value}{w:World}
theorem br_t{b:Bool}{A B:Prop}(h:br b A B)(hb:b=true):A:=by subst hb;exact h
theorem br_f{b:Bool}{A B:Prop}(h:br b A B)(hb:b=false):B:=by subst hb;exact h
theorem qqdb{c:Code}{M M':RK}{r:RK}{x:List (Nat×RK)}(h:wpc P N c {norm:=M,ret:=r,ex:=x} ρ w)(hM:∀ρ w,M ρ w->M' ρ w):wpc P N c {norm:=M',ret:=r,ex:=x} ρ w:=by
 intro r ds a hr;refine wpIn_mono (h r ds a hr) λe a' w' hq=>?_;obtain⟨ρ',hr',hk⟩:=hq;cases e with
 |normal=>exact⟨ρ',hr',hM _ _ hk⟩
 |ret=>exact⟨ρ',hr',hk⟩
 |exit id=>exact⟨ρ',hr',hk⟩
 |_=>exact hk.elim
theorem qwhb{c:Code}{α:Type}(st:α->(Nat->Value)->Prop)(I:α->World->Prop)(μ:α->World->Nat)(s0:α)(h0:st s0 ρ)(hI:I s0 w)
 (hround:∀s ρ w,st s ρ->I s w->wpc P N c {norm:=λρ' w'=>∃s',st s' ρ'/\I s' w'/\μ s' w'<μ s w,ret:=K.ret,ex:=K.ex} ρ w):wpc P N (.loop c) K ρ w:=by
 let J:RK:=λρ w=>∃s,st s ρ/\I s w
 have hmin:∀ρ w,∃n,(∃s,st s ρ/\I s w)->(∃s,st s ρ/\I s w/\μ s w=n)/\∀s,st s ρ->I s w->n<=μ s w:=by
  intro ρ w;by_cases h:∃s,st s ρ/\I s w
  ·obtain⟨s,h1,h2⟩:=h;have key:∀(n:Nat) (s:α),μ s w=n->st s ρ->I s w->∃k,(∃s,st s ρ/\I s w/\μ s w=k)/\∀s,st s ρ->I s w->k<=μ s w:=by
    intro n;induction n using strongRecOn with
    |_ n ih=>
     intro s hn h1 h2;by_cases hl:∃s',st s' ρ/\I s' w/\μ s' w<n
     ·obtain⟨s',g1,g2,g3⟩:=hl;exact ih _ g3 s' rfl g1 g2
     ·refine⟨n,⟨s,h1,h2,hn⟩,λs' g1 g2=>?_⟩;rcases Nat.lt_or_ge (μ s' w) n with g|g
      ·exact absurd ⟨s',g1,g2,g⟩ hl
      ·exact g
   obtain⟨k,hk⟩:=key _ s rfl h1 h2;exact⟨k,λ_=>hk⟩
  ·exact⟨0,λh'=>absurd h' h⟩
 let ν:(Nat->Value)->World->Nat:=λρ w=>Classical.choose (hmin ρ w)
 refine qsmb J ν ⟨s0,h0,hI⟩ λρ w hJ=>?_
 obtain⟨⟨s1,h1,h2,h3⟩,_⟩:=Classical.choose_spec (hmin ρ w) hJ
 refine qqdb (hround s1 ρ w h1 h2) λρ' w' h=>?_
 obtain⟨s',a1,a2,a3⟩:=h
 refine⟨⟨s',a1,a2⟩,?_⟩
 have hle:=(Classical.choose_spec (hmin ρ' w') ⟨s',a1,a2⟩).2 s' a1 a2
 show Classical.choose (hmin ρ' w')<Classical.choose (hmin ρ w)
 omega
end
theorem qde:prog.follows .mixedOrders=true:=by kernel_rfl
end
section
def asQ(t:Nat)(v:Value)(F:Addr->Prop):Prop:=match v with
 | .iface g (.pointer (some p))=>match beq g t with
  |true=>F p
  |false=>False
 |_=>False
theorem asQ_el{t:Nat}{v:Value}{F:Addr->Prop}(h:asQ t v F):∃n,v= .iface t (.pointer (some n))/\F n:=by
 unfold asQ at h;split at h
 ·split at h
  ·rename_i hb;have:=eq_of_beq_eq_true hb;subst this;exact⟨_,rfl,h⟩
  ·exact h.elim
 ·exact h.elim
def cvB(P:Program)(x:Value)(args:List Value)(w:World)(K:Bool->World->Prop):Prop:=match x with
 | .func (.func f) first cap=>match qvg P f with
  |true=>match qvg P f with
   |true=>Calls P f ⟨(first.toList++args)++cap.toList⟩ w λe w'=>∃r:Bool,e= .returned (.bool r)/\K r w'
   |false=>False
  |false=>∃r:Bool,∃w':World,cfR P f ((first.toList++args)++cap.toList) w (.bool r) w'/\K r w'
 | .func (.yield l) first _=>yd P l (first.toList++args) w λe w'=>∃r:Bool,e= .returned (.bool r)/\K r w'
 |_=>False
def cv0(P:Program)(x:Value)(args:List Value)(w:World)(K:World->Prop):Prop:=match x with
 | .func (.func f) first cap=>match qvg P f with
  |true=>match qvg P f with
   |true=>Calls P f ⟨(first.toList++args)++cap.toList⟩ w λe w'=>e= .returned (.tuple ⟨[]⟩)/\K w'
   |false=>False
  |false=>∃w':World,cfR P f ((first.toList++args)++cap.toList) w (.tuple ⟨[]⟩) w'/\K w'
 | .func (.yield l) first _=>yd P l (first.toList++args) w λe w'=>e= .returned (.tuple ⟨[]⟩)/\K w'
 |_=>False
def cvL(P:Program)(x:Value)(args:List Value)(w:World)(K:Sl->World->Prop):Prop:=match x with
 | .func (.func f) first cap=>match qvg P f with
  |true=>match qvg P f with
   |true=>Calls P f ⟨(first.toList++args)++cap.toList⟩ w λe w'=>∃r:Sl,e= .returned (.slice r.a r.len r.cap)/\K r w'
   |false=>False
  |false=>∃r:Sl,∃w':World,cfR P f ((first.toList++args)++cap.toList) w (.slice r.a r.len r.cap) w'/\K r w'
 | .func (.yield l) first _=>yd P l (first.toList++args) w λe w'=>∃r:Sl,e= .returned (.slice r.a r.len r.cap)/\K r w'
 |_=>False
section
variable {P:Program}{f:FuncId}{first cap:Array Value}{args al:List Value}{w:World}
theorem cv0_i{K:World->Prop}(hp:qvg P f=true)(he:(first.toList++args)++cap.toList=al)(h:Calls P f ⟨al⟩ w λe w'=>e= .returned (.tuple ⟨[]⟩)/\K w'):cv0 P (.func (.func f) first cap) args w K:=by
 subst he;unfold cv0;simp only[hp];exact h
theorem cvL_i{K:Sl->World->Prop}(hp:qvg P f=true)(he:(first.toList++args)++cap.toList=al)(h:Calls P f ⟨al⟩ w λe w'=>∃r:Sl,e= .returned (.slice r.a r.len r.cap)/\K r w'):cvL P (.func (.func f) first cap) args w K:=by
 subst he;unfold cvL;simp only[hp];exact h
end
end
section
def asD2(f:Nat)(v:Value)(F:Option Addr×Option Addr->Prop):Prop:=match v with
 | .func (.func g) ⟨[]⟩ ⟨[.pointer p,.pointer q]⟩=>match beq g f with
  |true=>F (p,q)
  |false=>False
 |_=>False
theorem qfub{f:Nat}{v:Value}{F:Option Addr×Option Addr->Prop}(h:asD2 f v F):∃n:Option Addr×Option Addr,v= .func (.func f) ⟨[]⟩ ⟨[.pointer n.1,.pointer n.2]⟩/\F n:=by
 unfold asD2 at h;split at h
 ·split at h
  ·rename_i hb;have:=eq_of_beq_eq_true hb;subst this;exact⟨(_,_),rfl,h⟩
  ·exact h.elim
 ·exact h.elim
def asN(v:Value)(F:Nat×Array Value->Prop):Prop:=match v with
 | .func (.func g) ⟨[]⟩ b=>F (g,b)
 |_=>False
theorem asN_el{v:Value}{F:Nat×Array Value->Prop}(h:asN v F):∃n:Nat×Array Value,v= .func (.func n.1) ⟨[]⟩ n.2/\F n:=by
 unfold asN at h;split at h
 ·exact⟨(_,_),rfl,h⟩
 ·exact h.elim
inductive Kd where
 |L|P|A|G|S|B|M|V|F|N
 |I (k:IntKind)
 |Q (t:Nat)
 |c0 (f:Nat)
 |c1 (f:Nat)
 |c2 (f:Nat)
 |d2 (f:Nat)
def Kd.ty:Kd->Type
 | .L=>Sl
 | .P=>Option Addr
 | .A=>Addr
 | .G=>Array Value
 | .S=>ByteArray
 | .B=>Bool
 | .M=>Option Nat
 | .V=>Value
 | .F=>Nat×Value
 | .N=>Nat×Array Value
 | .I _=>Int
 | .Q _=>Addr
 | .c0 _=>Unit
 | .c1 _=>Option Addr
 | .c2 _=>Option Addr
 | .d2 _=>Option Addr×Option Addr
def Kd.val:(k:Kd)->k.ty->Value
 | .L,(x:Sl)=> .slice x.a x.len x.cap
 | .P,x=> .pointer x
 | .A,x=> .pointer (some x)
 | .G,x=> .agg x
 | .S,x=> .string x
 | .B,x=> .bool x
 | .M,x=> .map x
 | .V,x=>x
 | .F,(x:Nat×Value)=> .iface x.1 x.2
 | .N,(x:Nat×Array Value)=> .func (.func x.1) ⟨[]⟩ x.2
 | .I k,x=> .int k x
 | .Q t,x=> .iface t (.pointer (some x))
 | .c0 f,_=> .func (.func f) ⟨[]⟩ ⟨[]⟩
 | .c1 f,x=> .func (.func f) ⟨[.pointer x]⟩ ⟨[]⟩
 | .c2 f,x=> .func (.func f) ⟨[]⟩ ⟨[.pointer x]⟩
 | .d2 f,(x:Option Addr×Option Addr)=> .func (.func f) ⟨[]⟩ ⟨[.pointer x.1,.pointer x.2]⟩
def Kd.as:(k:Kd)->Value->(k.ty->Prop)->Prop
 | .L,v,X=>asL v X
 | .P,v,X=>asP v X
 | .A,v,X=>asA v X
 | .G,v,X=>asG v X
 | .S,v,X=>asS v X
 | .B,v,X=>asB v X
 | .M,v,X=>asM v X
 | .V,v,X=>asV v X
 | .F,v,X=>asF v X
 | .N,v,X=>asN v X
 | .I k,v,X=>asI k v X
 | .Q t,v,X=>asQ t v X
 | .c0 f,v,X=>asC0 f v (X ())
 | .c1 f,v,X=>asC1 f v X
 | .c2 f,v,X=>asC2 f v X
 | .d2 f,v,X=>asD2 f v X
theorem Kd.el{v:Value}:∀(k:Kd) {F:k.ty->Prop},k.as v F->∃x,v=k.val x/\F x
 | .L,_,h=>qnqb h
 | .P,_,h=>qlqb h
 | .A,_,h=>asA_el h
 | .G,_,h=>qpqb h
 | .S,_,h=>qkqb h
 | .B,_,h=>qqqb h
 | .M,_,h=>qmqb h
 | .V,_,h=>asV_el h
 | .F,_,h=>asF_el h
 | .N,_,h=>asN_el h
 | .I _,_,h=>qoqb h
 | .Q _,_,h=>asQ_el h
 | .c0 _,_,h=>⟨(),qiub h⟩
 | .c1 _,_,h=>qhub h
 | .c2 _,_,h=>qgub h
 | .d2 _,_,h=>qfub h
abbrev Tl:=List (Nat×Kd)
def TF(T:Type):Tl->Type
 |[]=>T
 |a::r=>a.2.ty->TF T r
abbrev WP:=World->Prop
def tm:(l:Tl)->TF WP l->RK
 |[],F,_,w=>F w
 |a::r,F,ρ,w=>a.2.as (ρ a.1) λx=>tm r (F x) ρ w
def ab{T:Type}:(l:Tl)->((Nat->Value)->T)->(Nat->Value)->TF T l
 |[],G,ρ=>G ρ
 |a::r,G,ρ=>λx=>ab r G (upd ρ a.1 (a.2.val x))
def HV:Tl->Type
 |[]=>Unit
 |a::r=>a.2.ty×HV r
def atS:(l:Tl)->HV l->(Nat->Value)->Prop
 |[],_,_=>True
 |a::r,s,ρ=>ρ a.1=a.2.val s.1/\atS r s.2 ρ
def ap{T:Type}:(l:Tl)->TF T l->HV l->T
 |[],F,_=>F
 |_::r,F,s=>ap r (F s.1) s.2
def cu{T:Type}:(l:Tl)->(HV l->T)->TF T l
 |[],F=>F ()
 |_::r,F=>λx=>cu r λs=>F (x,s)
def allS:(l:Tl)->(HV l->Prop)->Prop
 |[],F=>F ()
 |_::r,F=>∀x,allS r λs=>F (x,s)
def Kd.nb:Kd->Bool
 | .c0 _=>true
 |_=>false
def cj:List Prop->Prop
 |[]=>True
 |[a]=>a
 |a::b::r=>a/\cj (b::r)
def eqL:(l:Tl)->HV l->HV l->List Prop
 |[],_,_=>[]
 |a::r,s,t=>match a.2.nb with
  |true=>eqL r s.2 t.2
  |false=>(s.1=t.1)::eqL r s.2 t.2
def eqS(l:Tl)(s t:HV l):Prop:=cj (eqL l s t)
theorem cj_el{a:Prop}:∀{r:List Prop},cj (a::r)->a/\cj r
 |[],h=>⟨h,trivial⟩
 |_::_,h=>h
theorem Kd.nb_one:∀(k:Kd),k.nb=true->∀x y:k.ty,x=y
 | .c0 _,_,_,_=>rfl
theorem qamb{T:Type}:∀(l:Tl) (F:HV l->T) (s:HV l),ap l (cu l F) s=F s
 |[],F,s=>rfl
 |_::r,F,s=>qamb r (λt=>F (s.1,t)) s.2
theorem qcmb:∀(l:Tl) {F:HV l->Prop},allS l F->∀s,F s
 |[],_,h,_=>h
 |_::r,_,h,s=>qcmb r (h s.1) s.2
theorem qaqb:∀(l:Tl) {s t:HV l},eqS l s t->s=t
 |[],_,_,_=>rfl
 |a::r,s,t,h=>by
  have h:cj (match a.2.nb with
   |true=>eqL r s.2 t.2
   |false=>(s.1=t.1)::eqL r s.2 t.2):=h
  have e:s.1=t.1/\eqS r s.2 t.2:=by
   cases hb:a.2.nb with
   |true=>rw[hb]at h;exact⟨Kd.nb_one _ hb _ _,h⟩
   |false=>rw[hb]at h;exact cj_el h
  exact Prod.ext e.1 (qaqb r e.2)
theorem qdib:∀(l:Tl) {F:TF WP l} {ρ:Nat->Value} {w:World},tm l F ρ w->∃s,atS l s ρ/\ap l F s w
 |[],_,_,_,h=>⟨(),trivial,h⟩
 |a::r,F,ρ,w,h=>by
  obtain⟨x,e,h⟩:=Kd.el a.2 h;obtain⟨s,h1,h2⟩:=qdib r h;exact⟨(x,s),⟨e,h1⟩,h2⟩
theorem qjhb{T:Type}:∀(l:Tl) {G:(Nat->Value)->T} {ρ:Nat->Value} {s:HV l},atS l s ρ->ap l (ab l G ρ) s=G ρ
 |[],_,_,_,_=>rfl
 |a::r,G,ρ,s,h=>by
  have e:=qsdb h.1;show ap r (ab r G (upd ρ a.1 (a.2.val s.1))) s.2=G ρ;rw[e];exact qjhb r h.2
abbrev TF2(u m:Tl):=TF (TF WP m) u
def tmU:(u m:Tl)->TF2 u m->RK
 |[],m,F=>tm m F
 |a::r,m,F=>λρ w=>a.2.as (ρ a.1) λx=>tmU r m (F x) ρ w
theorem qeib:∀(u m:Tl) {F:TF2 u m} {ρ:Nat->Value} {w:World},tmU u m F ρ w->∃(s:HV u) (t:HV m),atS u s ρ/\atS m t ρ/\ap m (ap u F s) t w
 |[],m,_,_,_,h=>by
  obtain⟨t,h1,h2⟩:=qdib m h;exact⟨(),t,trivial,h1,h2⟩
 |a::r,m,F,ρ,w,h=>by
  obtain⟨x,e,h⟩:=Kd.el a.2 h;obtain⟨s,t,h1,h2,h3⟩:=qeib r m h;exact⟨(x,s),t,⟨e,h1⟩,h2,h3⟩
def nxG(u m:Tl)(I:TF WP m)(μ:TF (World->Nat) m)(s:HV u)(t:HV m)(w:World):TF2 u m:=cu u λs'=>cu m λt'=>λw'=>eqS u s' s/\ap m I t' w'/\ap m μ t' w'<ap m μ t w
def lpG(u m:Tl)(B:TF2 u m->TF2 u m):TF2 u m:=cu u λs=>cu m λt=>λw=>
 ∃(I:TF WP m) (μ:TF (World->Nat) m),ap m I t w/\allS m λt=>∀w:World,ap m I t w->ap m (ap u (B (nxG u m I μ s t w)) s) t w
inductive Pl:Type where
 |lf
 |sq (l:Tl) (F:TF WP l) (p q:Pl)
 |pr (n:Nat) (l:Tl) (F:TF WP l) (q:Pl)
 |sk (p:Pl)
 |cd (p q:Pl)
 |bk (p:Pl)
 |lo (u m:Tl) (L:TF2 u m) (B:TF2 u m->TF2 u m) (p:TF2 u m->Pl)
def preP(P:Program)(N:Nat):Nat->Code->Ks->RK
 |0,.seq a _,K=>pt P N a K
 |n+1,.seq a c,K=>pt P N a {norm:=preP P N n c K,ret:=K.ret,ex:=K.ex}
 |_,_,_=>λ_ _=>False
def aftC:Nat->Code->Code
 |0,.seq _ c=>c
 |n+1,.seq _ c=>aftC n c
 |_,c=>c
def plW(P:Program)(N:Nat):Pl->Code->Ks->RK
 | .lf,c,K=>pt P N c K
 | .sq l F p _,.seq x _,K=>plW P N p x {norm:=tm l F,ret:=K.ret,ex:=K.ex}
 | .pr n l F _,c,K=>preP P N n c {norm:=tm l F,ret:=K.ret,ex:=K.ex}
 | .sk p,.seq x .skip,K=>plW P N p x K
 | .cd p q,.cond c x y,K=>λρ w=>match ev ρ c with
  | .bool b=>br b (plW P N p x K ρ w) (plW P N q y K ρ w)
  |_=>False
 | .bk p,.block id c,K=>plW P N p c {norm:=K.norm,ret:=K.ret,ex:=(id,K.norm)::K.ex}
 | .lo u m L _ _,.loop _,_=>tmU u m L
 |_,_,_=>λ_ _=>False
def Pl.Ty:Pl->Type
 | .lf=>Unit
 | .sq l _ p q=>p.Ty×(((Nat->Value)->TF WP l)×q.Ty)
 | .pr _ l _ q=>((Nat->Value)->TF WP l)×q.Ty
 | .sk p=>p.Ty
 | .cd p q=>p.Ty×q.Ty
 | .bk p=>p.Ty
 | .lo u m _ _ p=>TF2 u m×((nx:TF2 u m)->((Nat->Value)->TF2 u m)×(p nx).Ty)
def lhs:(p:Pl)->p.Ty
 | .lf=>()
 | .sq _ F p q=>(lhs p,λ_=>F,lhs q)
 | .pr _ _ F q=>(λ_=>F,lhs q)
 | .sk p=>lhs p
 | .cd p q=>(lhs p,lhs q)
 | .bk p=>lhs p
 | .lo _ _ L B p=>(L,λnx=>(λ_=>B nx,lhs (p nx)))
def rhs(P:Program)(N:Nat):(p:Pl)->Code->Ks->p.Ty
 | .lf,_,_=>()
 | .sq l F p q,c,K=>match c with
  | .seq x y=>(rhs P N p x {norm:=tm l F,ret:=K.ret,ex:=K.ex},ab l λρ w=>plW P N q y K ρ w,rhs P N q y K)
  |_=>lhs (.sq l F p q)
 | .pr n l F q,c,K=>(ab l λρ w=>plW P N q (aftC n c) K ρ w,rhs P N q (aftC n c) K)
 | .sk p,c,K=>match c with
  | .seq x _=>rhs P N p x K
  |_=>lhs p
 | .cd p q,c,K=>match c with
  | .cond _ x y=>(rhs P N p x K,rhs P N q y K)
  |_=>(lhs p,lhs q)
 | .bk p,c,K=>match c with
  | .block id c=>rhs P N p c {norm:=K.norm,ret:=K.ret,ex:=(id,K.norm)::K.ex}
  |_=>lhs p
 | .lo u m L B p,c,K=>match c with
  | .loop c=>(lpG u m B,λnx=>(ab u λρ=>ab m (λρ w=>plW P N (p nx) c {norm:=tmU u m nx,ret:=K.ret,ex:=K.ex} ρ w) ρ,rhs P N (p nx) c {norm:=tmU u m nx,ret:=K.ret,ex:=K.ex}))
  |_=>lhs (.lo u m L B p)
section
variable {P:Program}{N:Nat}
theorem qfsb(hm:P.follows .mixedOrders=true){l:RK}:∀(n:Nat) (c:Code) {K:Ks} {ρ:Nat->Value} {w:World},preP P N n c {norm:=l,ret:=K.ret,ex:=K.ex} ρ w->(∀ρ w,l ρ w->wpc P N (aftC n c) K ρ w)->wpc P N c K ρ w:=by
 intro n;induction n with
 |zero=>
  intro c K ρ w h h2;cases c<;>first|exact h.elim|skip
  exact qot _ (qjl hm _ h) h2
 |succ n ih=>
  intro c K ρ w h h2;cases c<;>first|exact h.elim|skip
  exact qot _ (qjl hm _ h) λρ w h=>ih _ h h2
theorem ab2_ap{u m:Tl}{G:RK}{ρ:Nat->Value}{s:HV u}{t:HV m}(hs:atS u s ρ)(ht:atS m t ρ):ap m (ap u (ab u (λρ=>ab m G ρ) ρ) s) t=G ρ:=by
 rw[qjhb u hs,qjhb m ht]
theorem qrnb(hm:P.follows .mixedOrders=true):∀(p:Pl) (c:Code) {K:Ks} {ρ:Nat->Value} {w:World},lhs p=rhs P N p c K->plW P N p c K ρ w->wpc P N c K ρ w:=by
 intro p;induction p with
 |lf=>intro c K ρ w _ h;exact qjl hm c h
 |sq l F p q ihp ihq=>
  intro c K ρ w e h;cases c<;>first|exact h.elim|skip
  rename_i x y;have e:(lhs p,(λ_=>F:(Nat->Value)->TF WP l),lhs q)=(rhs P N p x {norm:=tm l F,ret:=K.ret,ex:=K.ex},ab l λρ w=>plW P N q y K ρ w,rhs P N q y K):=e;injection e with e1 e2;injection e2 with e2 e3;refine qot (tm l F) (ihp x e1 h) λρ w h=>?_;obtain⟨s,h1,h2⟩:=qdib l h;have e4:=congrFun e2 ρ;have h2:ap l ((λ_=>F:(Nat->Value)->TF WP l) ρ) s w:=h2;rw[e4,qjhb l h1]at h2;exact ihq y e3 h2
 |pr n l F q ihq=>
  intro c K ρ w e h;have e:((λ_=>F:(Nat->Value)->TF WP l),lhs q)=(ab l λρ w=>plW P N q (aftC n c) K ρ w,rhs P N q (aftC n c) K):=e;injection e with e2 e3;refine qfsb hm n c h λρ w h=>?_;obtain⟨s,h1,h2⟩:=qdib l h;have e4:=congrFun e2 ρ;have h2:ap l ((λ_=>F:(Nat->Value)->TF WP l) ρ) s w:=h2;rw[e4,qjhb l h1]at h2;exact ihq _ e3 h2
 |sk p ih=>
  intro c K ρ w e h;cases c<;>first|exact h.elim|skip
  rename_i x y;cases y<;>first|exact h.elim|skip
  refine qot _ (ih x (K:={norm:=K.norm,ret:=K.ret,ex:=K.ex}) e h) λρ w h=>qpdb h
 |cd p q ihp ihq=>
  intro c K ρ w e h;cases c<;>first|exact h.elim|skip
  rename_i c x y;have e:(lhs p,lhs q)=(rhs P N p x K,rhs P N q y K):=e;injection e with e1 e2;have h:(match ev ρ c with
   | .bool b=>br b (plW P N p x K ρ w) (plW P N q y K ρ w)
   |_=>False):=h
  split at h
  ·rename_i b hb;exact qrdb hb (λg=>ihp x e1 (br_t h g)) (λg=>ihq y e2 (br_f h g))
  ·exact h.elim
 |bk p ih=>
  intro c K ρ w e h;cases c<;>first|exact h.elim|skip
  exact qkz (ih _ e h)
 |lo u m L B p ih=>
  intro c K ρ w e h;cases c<;>first|exact h.elim|skip
  rename_i c;have e:(L,λnx=>((λ_=>B nx:(Nat->Value)->TF2 u m),lhs (p nx)))=((lpG u m B,λnx=>(ab u λρ=>ab m (λρ w=>plW P N (p nx) c {norm:=tmU u m nx,ret:=K.ret,ex:=K.ex} ρ w) ρ,rhs P N (p nx) c {norm:=tmU u m nx,ret:=K.ret,ex:=K.ex})):TF2 u m×((nx:TF2 u m)->((Nat->Value)->TF2 u m)×(p nx).Ty)):=e;injection e with e1 e2;obtain⟨s,t,hs,ht,h⟩:=qeib u m h;rw[e1,lpG,qamb,qamb]at h;obtain⟨I,μ,hI,hr⟩:=h;refine qwhb (α:=HV m) (λt ρ=>atS u s ρ/\atS m t ρ) (λt w=>ap m I t w) (λt w=>ap m μ t w) t ⟨hs,ht⟩ hI ?_;rintro t ρ w ⟨hs,ht⟩ hI;have h:=qcmb m hr t w hI;have e3:=congrFun e2 (nxG u m I μ s t w);injection e3 with e3 e4;have e5:=congrFun e3 ρ;have h:ap m (ap u ((λ_=>B (nxG u m I μ s t w):(Nat->Value)->TF2 u m) ρ) s) t w:=h;rw[e5,ab2_ap hs ht]at h;refine qqdb (ih _ c e4 h) λρ w h=>?_;obtain⟨s',t',hs',ht',h⟩:=qeib u m h;rw[nxG,qamb,qamb]at h;obtain⟨g1,g2,g3⟩:=h;have g1:=qaqb u g1;subst g1;exact⟨t',⟨hs',ht'⟩,g2,g3⟩
abbrev sV(s:Sl):Value:= .slice s.a s.len s.cap
abbrev nw(w:World)(c:Array Value)(t:Nat)(K:Addr->World->Prop):Prop:=lt (⟨World.heapSize w,0,none⟩:Addr) λa=>lt (World.alloc w (.cells c t)) λw'=>K a w'
abbrev qak(f:Nat)(a:List Value)(w:World)(K:Sl->World->Prop):Prop:=Calls prog f ⟨a⟩ w λe w=>∃r:Sl,e= .returned (.slice r.a r.len r.cap)/\K r w
abbrev qbk(f:Nat)(a:List Value)(w:World)(K:Int->World->Prop):Prop:=Calls prog f ⟨a⟩ w λe w=>∃r:Int,e= .returned (.int .i64 r)/\K r w
abbrev qlj(f:Nat)(a:List Value)(w:World)(K:Int->World->Prop):Prop:=Calls prog f ⟨a⟩ w λe w=>∃r:Int,e= .returned (.int .u32 r)/\K r w
abbrev qgv(f:Nat)(a:List Value)(w:World)(K:Array Value->World->Prop):Prop:=Calls prog f ⟨a⟩ w λe w=>∃r:Array Value,e= .returned (.agg r)/\K r w
abbrev qzcb(f:Nat)(a:List Value)(w:World)(K:Bool->World->Prop):Prop:=Calls prog f ⟨a⟩ w λe w=>∃r:Bool,e= .returned (.bool r)/\K r w
abbrev qchb(f:Nat)(a:List Value)(w:World)(K:Option Addr->World->Prop):Prop:=Calls prog f ⟨a⟩ w λe w=>∃r:Option Addr,e= .returned (.pointer r)/\K r w
abbrev ct_(f:Nat)(a:List Value)(w:World)(K:World->Prop):Prop:=Calls prog f ⟨a⟩ w λe w=>e= .returned (.tuple ⟨[]⟩)/\K w
abbrev qyu(f:Nat)(a:List Value)(w:World)(K:Sl->Int->World->Prop):Prop:=Calls prog f ⟨a⟩ w λe w=>∃r0:Sl,∃r1:Int,e= .returned (.tuple ⟨[.slice r0.a r0.len r0.cap,.int .i64 r1]⟩)/\K r0 r1 w
abbrev qsy(f:Nat)(a:List Value)(w:World)(K:Option Addr->Int->World->Prop):Prop:=Calls prog f ⟨a⟩ w λe w=>∃r0:Option Addr,∃r1:Int,e= .returned (.tuple ⟨[.pointer r0,.int .i64 r1]⟩)/\K r0 r1 w
abbrev qilb(f:Nat)(a:List Value)(w:World)(K:Array Value->Int->World->Prop):Prop:=Calls prog f ⟨a⟩ w λe w=>∃r0:Array Value,∃r1:Int,e= .returned (.tuple ⟨[.agg r0,.int .i64 r1]⟩)/\K r0 r1 w
abbrev qhw(f:Nat)(a:List Value)(w:World)(K:Int->Int->Bool->World->Prop):Prop:=Calls prog f ⟨a⟩ w λe w=>∃r0:Int,∃r1:Int,∃r2:Bool,e= .returned (.tuple ⟨[.int .i64 r0,.int .i64 r1,.bool r2]⟩)/\K r0 r1 r2 w
abbrev qhlb(f:Nat)(a:List Value)(w:World)(K:Int->Int->World->Prop):Prop:=Calls prog f ⟨a⟩ w λe w=>∃r0:Int,∃r1:Int,e= .returned (.tuple ⟨[.int .i64 r0,.int .i64 r1]⟩)/\K r0 r1 w
abbrev qflb(f:Nat)(a:List Value)(w:World)(K:Sl->Sl->World->Prop):Prop:=Calls prog f ⟨a⟩ w λe w=>∃r0:Sl,∃r1:Sl,e= .returned (.tuple ⟨[.slice r0.a r0.len r0.cap,.slice r1.a r1.len r1.cap]⟩)/\K r0 r1 w
abbrev qglb(f:Nat)(a:List Value)(w:World)(K:Int->Int->Int->Int->World->Prop):Prop:=Calls prog f ⟨a⟩ w λe w=>∃r0:Int,∃r1:Int,∃r2:Int,∃r3:Int,e= .returned (.tuple ⟨[.int .i64 r0,.int .i64 r1,.int .i64 r2,.int .i64 r3]⟩)/\K r0 r1 r2 r3 w
abbrev qqab(f:Nat)(a:List Value)(w:World)(K:Sl->Int->Int->World->Prop):Prop:=Calls prog f ⟨a⟩ w λe w=>∃r0:Sl,∃r1:Int,∃r2:Int,e= .returned (.tuple ⟨[.slice r0.a r0.len r0.cap,.int .i64 r1,.int .i64 r2]⟩)/\K r0 r1 r2 w
abbrev qwob(f:Nat)(a:List Value)(w:World)(K:Int->Bool->World->Prop):Prop:=Calls prog f ⟨a⟩ w λe w=>∃r0:Int,∃r1:Bool,e= .returned (.tuple ⟨[.int .i64 r0,.bool r1]⟩)/\K r0 r1 w
abbrev qxob(f:Nat)(a:List Value)(w:World)(K:Bool->Int->World->Prop):Prop:=Calls prog f ⟨a⟩ w λe w=>∃r0:Bool,∃r1:Int,e= .returned (.tuple ⟨[.bool r0,.int .i64 r1]⟩)/\K r0 r1 w
abbrev qgqb(f:Nat)(a:List Value)(w:World)(K:Int->Int->Int->World->Prop):Prop:=Calls prog f ⟨a⟩ w λe w=>∃r0:Int,∃r1:Int,∃r2:Int,e= .returned (.tuple ⟨[.int .i64 r0,.int .i64 r1,.int .i64 r2]⟩)/\K r0 r1 r2 w
abbrev qfqb(f:Nat)(a:List Value)(w:World)(K:Sl->Sl->Int->World->Prop):Prop:=Calls prog f ⟨a⟩ w λe w=>∃r0:Sl,∃r1:Sl,∃r2:Int,e= .returned (.tuple ⟨[.slice r0.a r0.len r0.cap,.slice r1.a r1.len r1.cap,.int .i64 r2]⟩)/\K r0 r1 r2 w
abbrev sL(n:Nat):Nat×Kd:=(n,.L)
abbrev sI(n:Nat):Nat×Kd:=(n,.I .i64)
abbrev sP(n:Nat):Nat×Kd:=(n,.P)
abbrev sA(n:Nat):Nat×Kd:=(n,.A)
abbrev sB(n:Nat):Nat×Kd:=(n,.B)
theorem qhc{f:FuncId}{fn:Func}{c:Code}{N:Nat}{args:List Value}{w:World}{Q:VWP}{A:Prop}(rs:List ResultVar)(hm:P.follows .mixedOrders=true)
 (hf:P.funcs[f]?=some fn) (hb:fn.body=some c) (hN:fn.ntmps=N) (hle:ble args.length N=true) (hrs:fn.results.toList=rs)
 (p:Pl) (e:(A,lhs p)=(plW P N p c {norm:=retK P rs Q,ret:=retK P rs Q,ex:=[]} (args0 args) w,rhs P N p c {norm:=retK P rs Q,ret:=retK P rs Q,ex:=[]})) (h:A):Calls P f ⟨args⟩ w (Ret Q):=by
 injection e with e1 e2
 rw[e1]at h
 exact qwab rs hf hb hN hle hrs (qrnb hm p c e2 h)
end
end
section
set_option maxRecDepth 100000
def qoc.j2(b_0:Sl)(Q:VWP)(w:World):Prop:=br (decide ((b_0.len:Int)>=8)) (Q (.tuple ⟨[.int .i64 0,.int .i64 0,.int .i64 0,.int .i64 5]⟩) w) (Q (.tuple ⟨[.int .i64 0,.int .i64 0,.int .i64 0,.int .i64 3]⟩) w)
def qoc.j5(b_0:Sl)(kind_2:Int)(size_3:Int)(t8:Sl)(t9 t10:Int)(Q:VWP)(nx1:Sl->Sl->Int->Int->Int->Int->WP)(w:World):Prop:=lt (i64.wrap (t10+1)) λx1=>nx1 b_0 t8 t9 kind_2 size_3 x1 w
def qoc.j7(b_0:Sl)(kind_2:Int)(size_3 i_6 c_7:Int)(t8:Sl)(t9 t10:Int)(Q:VWP)(nx1:Sl->Sl->Int->Int->Int->Int->WP)(w:World):Prop:=br (decide (c_7<128)) (lt (i64.wrap (i_6+1)) λx2=>Q (.tuple ⟨[.int .i64 kind_2,.int .i64 size_3,.int .i64 x2,.int .i64 0]⟩) w) (qoc.j5 b_0 kind_2 size_3 t8 t9 t10 Q nx1 w)
def qoc.j6(b_0:Sl)(kind_2:Int)(size_3 i_6 c_7:Int)(t8:Sl)(t9 t10:Int)(Q:VWP)(nx1:Sl->Sl->Int->Int->Int->Int->WP)(w:World):Prop:=br (i_6==8) (Q (.tuple ⟨[.int .i64 0,.int .i64 0,.int .i64 0,.int .i64 5]⟩) w) (br (i_6==0) ((0:Int)<=4/\lt (qal .u8 c_7 4) λx3=>lt (qdj .u8 x3 7) λx4=>lt (i64.wrap x4) λx5=>lt (qdj .u8 c_7 15) λx6=>lt (i64.wrap x6) λx7=>qoc.j7 b_0 x5 x7 i_6 c_7 t8 t9 t10 Q nx1 w) (lt (qdj .u8 c_7 127) λx8=>lt (i64.wrap x8) λx9=>lt (i64.wrap (i_6-1)) λx10=>lt (i64.wrap (7*x10)) λx11=>lt (i64.wrap (4+x11)) λx12=>(0:Int)<=x12/\lt (qzi .i64 x9 x12) λx13=>lt (orV .i64 size_3 x13) λx14=>qoc.j7 b_0 kind_2 x14 i_6 c_7 t8 t9 t10 Q nx1 w))
def qoc.j4(b_0:Sl)(kind_2:Int)(size_3:Int)(t8:Sl)(t9 t10:Int)(Q:VWP)(nx1:Sl->Sl->Int->Int->Int->Int->WP)(w:World):Prop:=ixS t8.a t8.len t10 1 λa15=>ldI .u8 w a15 λx16=>qoc.j6 b_0 kind_2 size_3 t10 x16 t8 t9 t10 Q nx1 w
def qoc.b1(b_0 t8:Sl)(t9:Int)(kind_2 size_3 t10:Int)(Q:VWP)(nx1:Sl->Sl->Int->Int->Int->Int->WP)(w:World):Prop:=br (decide (t10<t9)) (qoc.j4 b_0 kind_2 size_3 t8 t9 t10 Q nx1 w) (qoc.j2 b_0 Q w)
def qoc.l1(b_0 t8:Sl)(t9:Int)(kind_2 size_3 t10:Int)(Q:VWP)(w:World):Prop:=∃(I:Int->Int->Int->WP) (μ:Int->Int->Int->World->Nat),I kind_2 size_3 t10 w/\∀kind_2:Int,∀size_3:Int,∀t10:Int,∀w:World,I kind_2 size_3 t10 w->qoc.b1 b_0 t8 t9 kind_2 size_3 t10 Q (λb_0' t8' t9' kind_2' size_3' t10' w'=>(b_0'=b_0/\t8'=t8/\t9'=t9)/\I kind_2' size_3' t10' w'/\μ kind_2' size_3' t10' w'<μ kind_2 size_3 t10 w) w
def qoc.j3(b_0:Sl)(kind_2:Int)(size_3:Int)(t8:Sl)(t9 t10:Int)(Q:VWP)(w:World):Prop:=qoc.l1 b_0 t8 t9 kind_2 size_3 t10 Q w
def qoc.j1(b_0:Sl)(kind_2:Int)(size_3:Int)(Q:VWP)(w:World):Prop:=qoc.j3 b_0 kind_2 size_3 b_0 (b_0.len:Int) 0 Q w
def qoc(b_0:Sl)(Q:VWP)(w:World):Prop:=qoc.j1 b_0 0 0 Q w
theorem qoc.ok(b_0:Sl)(Q:VWP)(w:World)(h:qoc b_0 Q w):Calls prog 86 ⟨[sV b_0]⟩ w (Ret Q):=
 qhc [.tmp 2,.tmp 3,.tmp 4,.tmp 5] qde Tryz.func86 rfl rfl rfl rfl (.sq [sL 0,sI 2,sI 3] (λa b c w=>qoc.j1 a b c Q w) .lf (.sq [sL 0] (λa w=>qoc.j2 a Q w) (.sq [sL 0,sI 2,sI 3,sL 8,sI 9,sI 10] (λa b c d e f w=>qoc.j3 a b c d e f Q w) .lf (.bk (.lo [sL 0,sL 8,sI 9] [sI 2,sI 3,sI 10] (λa b c d e f w=>qoc.l1 a b c d e f Q w) (λnx1 a b c d e f w=>qoc.b1 a b c d e f Q nx1 w) λnx1=>(.pr 1 [sL 0,sI 2,sI 3,sL 8,sI 9,sI 10] (λa b c d e f w=>qoc.j4 a b c d e f Q nx1 w) (.sq [sL 0,sI 2,sI 3,sL 8,sI 9,sI 10] (λa b c d e f w=>qoc.j5 a b c d e f Q nx1 w) (.bk (.sq [sL 0,sI 2,sI 3,sI 6,(7,.I .u8),sL 8,sI 9,sI 10] (λa b c d e f g h w=>qoc.j6 a b c d e f g h Q nx1 w) .lf (.pr 1 [sL 0,sI 2,sI 3,sI 6,(7,.I .u8),sL 8,sI 9,sI 10] (λa b c d e f g h w=>qoc.j7 a b c d e f g h Q nx1 w) .lf))) .lf))))) .lf)) (by kernel_rfl) h
def qec.j3(c_8:Int)(out_9:Sl)(Q:VWP)(w:World):Prop:=nw w ⟨[.int .u8 c_8]⟩ 5 λa1 w2=>rdO w2 (some a1) (1*1) λc3=>apK prog 5 w2 out_9.a out_9.len out_9.cap 1 c3 λs4 w5=>qak 20 [sV s4] w5 λr8 w7=>Q (.tuple ⟨[sV r8,.int .i64 0]⟩) w7
def qec.b1(size_2 c_8:Int)(out_9:Sl)(Q:VWP)(nx1:Int->Int->Sl->WP)(w:World):Prop:=br (decide (size_2>0)) (lt (orV .u8 c_8 128) λx9=>nw w ⟨[.int .u8 x9]⟩ 5 λa10 w11=>rdO w11 (some a10) (1*1) λc12=>apK prog 5 w11 out_9.a out_9.len out_9.cap 1 c12 λs13 w14=>lt (qdj .i64 size_2 127) λx15=>lt (IntKind.u8.wrap x15) λx16=>(0:Int)<=7/\lt (qal .i64 size_2 7) λx17=>nx1 x17 x16 s13 w14) (qec.j3 c_8 out_9 Q w)
def qec.l1(size_2 c_8:Int)(out_9:Sl)(Q:VWP)(w:World):Prop:=∃(I:Int->Int->Sl->WP) (μ:Int->Int->Sl->World->Nat),I size_2 c_8 out_9 w/\∀size_2:Int,∀c_8:Int,∀out_9:Sl,∀w:World,I size_2 c_8 out_9 w->qec.b1 size_2 c_8 out_9 Q (λsize_2' c_8' out_9' w'=>(True)/\I size_2' c_8' out_9' w'/\μ size_2' c_8' out_9' w'<μ size_2 c_8 out_9 w) w
def qec.j4(size_2 c_8:Int)(out_9:Sl)(Q:VWP)(w:World):Prop:=qec.l1 size_2 c_8 out_9 Q w
def qec.j2(size_2 c_8:Int)(out_9:Sl)(Q:VWP)(w:World):Prop:=(0:Int)<=4/\lt (qal .i64 size_2 4) λx18=>qec.j4 x18 c_8 out_9 Q w
def qec.j1(b_0:Sl)(kind_1:Int)(size_2:Int)(Q:VWP)(w:World):Prop:=(0:Int)<=4/\lt (qzi .i64 kind_1 4) λx19=>lt (qdj .i64 size_2 15) λx20=>lt (orV .i64 x19 x20) λx21=>lt (IntKind.u8.wrap x21) λx22=>qak 61 [sV b_0] w λr25 w24=>qec.j2 size_2 x22 r25 Q w24
def qec(b_0:Sl)(kind_1:Int)(size_2:Int)(Q:VWP)(w:World):Prop:=br (decide (kind_1<1)) (Q (.tuple ⟨[.slice none 0 0,.int .i64 1]⟩) w) (br (decide (kind_1>7)) (Q (.tuple ⟨[.slice none 0 0,.int .i64 1]⟩) w) (br (decide (size_2<0)) (Q (.tuple ⟨[.slice none 0 0,.int .i64 1]⟩) w) (br (decide (size_2>1099511627776)) (Q (.tuple ⟨[.slice none 0 0,.int .i64 1]⟩) w) (qec.j1 b_0 kind_1 size_2 Q w))))
theorem qec.ok(b_0:Sl)(kind_1:Int)(size_2:Int)(Q:VWP)(w:World)(h:qec b_0 kind_1 size_2 Q w):Calls prog 39 ⟨[sV b_0,.int .i64 kind_1,.int .i64 size_2]⟩ w (Ret Q):=
 qhc [.tmp 6,.tmp 7] qde Tryz.func39 rfl rfl rfl rfl (.pr 1 [sL 0,sI 1,sI 2] (λa b c w=>qec.j1 a b c Q w) (.pr 1 [sI 2,(8,.I .u8),sL 9] (λa b c w=>qec.j2 a b c Q w) (.sq [(8,.I .u8),sL 9] (λa b w=>qec.j3 a b Q w) (.sq [sI 2,(8,.I .u8),sL 9] (λa b c w=>qec.j4 a b c Q w) .lf (.bk (.lo [] [sI 2,(8,.I .u8),sL 9] (λa b c w=>qec.l1 a b c Q w) (λnx1 a b c w=>qec.b1 a b c Q nx1 w) λnx1=> .lf))) .lf))) (by kernel_rfl) h
def qbh(e_0:OAd)(b_1:Sl)(Q:VWP)(w:World):Prop:=nz e_0 λa1=>ldI .i64 w (Addr.add a1 0) λx2=>br (x2==6) (qgqb 114 [sV b_1] w λr5 r6 r7 w4=>br (r7 !=0) (Q (.tuple ⟨[.int .i64 0,.int .i64 r7]⟩) w4) (br (decide (r5<1)) (Q (.tuple ⟨[.int .i64 0,.int .i64 2]⟩) w4) (nz e_0 λa8=>ldI .i64 w4 (Addr.add a8 24) λx9=>br (decide (r5>x9)) (Q (.tuple ⟨[.int .i64 0,.int .i64 2]⟩) w4) (nz e_0 λa10=>st w4 (Addr.add a10 2) (.int .i64 r5) λw11=>Q (.tuple ⟨[.int .i64 r6,.int .i64 0]⟩) w11)))) (br (x2==7) (br (decide ((b_1.len:Int)<20)) (Q (.tuple ⟨[.int .i64 0,.int .i64 3]⟩) w) (bd 20 b_1.cap λn12=>lt (⟨qnf b_1.a b_1.cap 0 1,n12-0,b_1.cap-0⟩:Sl) λs13=>20<=s13.len/\nz s13.a λa14=>ldA w a14 20 λc15=>nz e_0 λa16=>(c15).size=20/\stA w (Addr.add a16 3) c15 λw17=>Q (.tuple ⟨[.int .i64 20,.int .i64 0]⟩) w17)) (br (x2==0) (Q (.tuple ⟨[.int .i64 0,.int .i64 2]⟩) w) (br (x2==5) (Q (.tuple ⟨[.int .i64 0,.int .i64 2]⟩) w) (Q (.tuple ⟨[.int .i64 0,.int .i64 0]⟩) w))))
theorem qbh.ok(e_0:OAd)(b_1:Sl)(Q:VWP)(w:World)(h:qbh e_0 b_1 Q w):Calls prog 87 ⟨[.pointer e_0,sV b_1]⟩ w (Ret Q):=
 qhc [.tmp 4,.tmp 5] qde Tryz.func87 rfl rfl rfl rfl .lf (by kernel_rfl) h
def qol(b_0:Sl)(at_1:Int)(Q:VWP)(w:World):Prop:=nw w (zc prog 45) 45 λa1 w2=>nw w2 (zc prog 45) 45 λa3 w4=>((⟨[.int .i64 0,.int .i64 0,.int .i64 0,.int .u8 0,.int .u8 0,.int .u8 0,.int .u8 0,.int .u8 0,.int .u8 0,.int .u8 0,.int .u8 0,.int .u8 0,.int .u8 0,.int .u8 0,.int .u8 0,.int .u8 0,.int .u8 0,.int .u8 0,.int .u8 0,.int .u8 0,.int .u8 0,.int .u8 0,.int .u8 0,.slice none 0 0,.int .i64 at_1,.int .i64 0,.int .u32 0]⟩:Array Value)).size=27/\stA w4 a3 (⟨[.int .i64 0,.int .i64 0,.int .i64 0,.int .u8 0,.int .u8 0,.int .u8 0,.int .u8 0,.int .u8 0,.int .u8 0,.int .u8 0,.int .u8 0,.int .u8 0,.int .u8 0,.int .u8 0,.int .u8 0,.int .u8 0,.int .u8 0,.int .u8 0,.int .u8 0,.int .u8 0,.int .u8 0,.int .u8 0,.int .u8 0,.slice none 0 0,.int .i64 at_1,.int .i64 0,.int .u32 0]⟩:Array Value) λw5=>bd at_1 b_0.len λn6=>lt (⟨qnf b_0.a b_0.cap n6 1,b_0.len-n6,b_0.cap-n6⟩:Sl) λs7=>qglb 86 [sV s7] w5 λr10 r11 r12 r13 w9=>br (r13 !=0) (ldA w9 a3 27 λc14=>(c14).size=27/\stA w9 a1 c14 λw15=>ldA w15 a1 27 λc16=>Q (.tuple ⟨[.agg c16,.int .i64 r13]⟩) w15) (st w9 (Addr.add a3 0) (.int .i64 r10) λw17=>st w17 (Addr.add a3 1) (.int .i64 r11) λw18=>lt (i64.wrap (at_1+r12)) λx19=>bd x19 b_0.len λn20=>lt (⟨qnf b_0.a b_0.cap n20 1,b_0.len-n20,b_0.cap-n20⟩:Sl) λs21=>qhlb 87 [.pointer (some a3),sV s21] w18 λr24 r25 w23=>br (r25 !=0) (ldA w23 a3 27 λc26=>(c26).size=27/\stA w23 a1 c26 λw27=>ldA w27 a1 27 λc28=>Q (.tuple ⟨[.agg c28,.int .i64 r25]⟩) w27) (br (decide (r11>16384)) (ldA w23 a3 27 λc29=>(c29).size=27/\stA w23 a1 c29 λw30=>ldA w30 a1 27 λc31=>Q (.tuple ⟨[.agg c31,.int .i64 5]⟩) w30) (lt (i64.wrap (at_1+r12)) λx32=>lt (i64.wrap (x32+r24)) λx33=>bd x33 b_0.len λn34=>lt (⟨qnf b_0.a b_0.cap n34 1,b_0.len-n34,b_0.cap-n34⟩:Sl) λs35=>qqab 88 [sV s35,.int .i64 r11] w23 λr38 r39 r40 w37=>br (r40 !=0) (ldA w37 a3 27 λc41=>(c41).size=27/\stA w37 a1 c41 λw42=>ldA w42 a1 27 λc43=>Q (.tuple ⟨[.agg c43,.int .i64 r40]⟩) w42) (br (decide ((r38.len:Int)<r11)) (ldA w37 a3 27 λc44=>(c44).size=27/\stA w37 a1 c44 λw45=>ldA w45 a1 27 λc46=>Q (.tuple ⟨[.agg c46,.int .i64 2]⟩) w45) (lt (i64.wrap (r12+r24)) λx47=>lt (i64.wrap (x47+r39)) λx48=>st w37 (Addr.add a3 23) (sV r38) λw49=>st w49 (Addr.add a3 25) (.int .i64 x48) λw50=>ldI .i64 w50 (Addr.add a3 25) λx51=>lt (i64.wrap (at_1+x51)) λx52=>bd x52 b_0.cap λn53=>bd at_1 n53 λn54=>lt (⟨qnf b_0.a b_0.cap n54 1,n53-n54,b_0.cap-n54⟩:Sl) λs55=>qlj 89 [sV s55] w50 λr58 w57=>st w57 (Addr.add a3 26) (.int .u32 r58) λw59=>ldA w59 a3 27 λc60=>(c60).size=27/\stA w59 a1 c60 λw61=>ldA w61 a1 27 λc62=>Q (.tuple ⟨[.agg c62,.int .i64 0]⟩) w61)))))
theorem qol.ok(b_0:Sl)(at_1:Int)(Q:VWP)(w:World)(h:qol b_0 at_1 Q w):Calls prog 73 ⟨[sV b_0,.int .i64 at_1]⟩ w (Ret Q):=
 qhc [.cell 4 45,.tmp 5] qde Tryz.func73 rfl rfl rfl rfl .lf (by kernel_rfl) h
def qyj(b_0:Sl)(at_1:Int)(Q:VWP)(w:World):Prop:=nw w (zc prog 45) 45 λa1 w2=>br (decide (at_1<0)) (((⟨[.int .i64 0,.int .i64 0,.int .i64 0,.int .u8 0,.int .u8 0,.int .u8 0,.int .u8 0,.int .u8 0,.int .u8 0,.int .u8 0,.int .u8 0,.int .u8 0,.int .u8 0,.int .u8 0,.int .u8 0,.int .u8 0,.int .u8 0,.int .u8 0,.int .u8 0,.int .u8 0,.int .u8 0,.int .u8 0,.int .u8 0,.slice none 0 0,.int .i64 0,.int .i64 0,.int .u32 0]⟩:Array Value)).size=27/\stA w2 a1 (⟨[.int .i64 0,.int .i64 0,.int .i64 0,.int .u8 0,.int .u8 0,.int .u8 0,.int .u8 0,.int .u8 0,.int .u8 0,.int .u8 0,.int .u8 0,.int .u8 0,.int .u8 0,.int .u8 0,.int .u8 0,.int .u8 0,.int .u8 0,.int .u8 0,.int .u8 0,.int .u8 0,.int .u8 0,.int .u8 0,.int .u8 0,.slice none 0 0,.int .i64 0,.int .i64 0,.int .u32 0]⟩:Array Value) λw3=>ldA w3 a1 27 λc4=>Q (.tuple ⟨[.agg c4,.int .i64 1]⟩) w3) (br (decide (at_1>(b_0.len:Int))) (((⟨[.int .i64 0,.int .i64 0,.int .i64 0,.int .u8 0,.int .u8 0,.int .u8 0,.int .u8 0,.int .u8 0,.int .u8 0,.int .u8 0,.int .u8 0,.int .u8 0,.int .u8 0,.int .u8 0,.int .u8 0,.int .u8 0,.int .u8 0,.int .u8 0,.int .u8 0,.int .u8 0,.int .u8 0,.int .u8 0,.int .u8 0,.slice none 0 0,.int .i64 0,.int .i64 0,.int .u32 0]⟩:Array Value)).size=27/\stA w2 a1 (⟨[.int .i64 0,.int .i64 0,.int .i64 0,.int .u8 0,.int .u8 0,.int .u8 0,.int .u8 0,.int .u8 0,.int .u8 0,.int .u8 0,.int .u8 0,.int .u8 0,.int .u8 0,.int .u8 0,.int .u8 0,.int .u8 0,.int .u8 0,.int .u8 0,.int .u8 0,.int .u8 0,.int .u8 0,.int .u8 0,.int .u8 0,.slice none 0 0,.int .i64 0,.int .i64 0,.int .u32 0]⟩:Array Value) λw5=>ldA w5 a1 27 λc6=>Q (.tuple ⟨[.agg c6,.int .i64 1]⟩) w5) (qilb 73 [sV b_0,.int .i64 at_1] w2 λr9 r10 w8=>nw w8 (zc prog 45) 45 λa11 w12=>(r9).size=27/\stA w12 a11 r9 λw13=>br (r10 !=0) (((⟨[.int .i64 0,.int .i64 0,.int .i64 0,.int .u8 0,.int .u8 0,.int .u8 0,.int .u8 0,.int .u8 0,.int .u8 0,.int .u8 0,.int .u8 0,.int .u8 0,.int .u8 0,.int .u8 0,.int .u8 0,.int .u8 0,.int .u8 0,.int .u8 0,.int .u8 0,.int .u8 0,.int .u8 0,.int .u8 0,.int .u8 0,.slice none 0 0,.int .i64 0,.int .i64 0,.int .u32 0]⟩:Array Value)).size=27/\stA w13 a1 (⟨[.int .i64 0,.int .i64 0,.int .i64 0,.int .u8 0,.int .u8 0,.int .u8 0,.int .u8 0,.int .u8 0,.int .u8 0,.int .u8 0,.int .u8 0,.int .u8 0,.int .u8 0,.int .u8 0,.int .u8 0,.int .u8 0,.int .u8 0,.int .u8 0,.int .u8 0,.int .u8 0,.int .u8 0,.int .u8 0,.int .u8 0,.slice none 0 0,.int .i64 0,.int .i64 0,.int .u32 0]⟩:Array Value) λw14=>ldA w14 a1 27 λc15=>Q (.tuple ⟨[.agg c15,.int .i64 r10]⟩) w14) (ldA w13 a11 27 λc16=>(c16).size=27/\stA w13 a1 c16 λw17=>ldA w17 a1 27 λc18=>Q (.tuple ⟨[.agg c18,.int .i64 0]⟩) w17)))
theorem qyj.ok(b_0:Sl)(at_1:Int)(Q:VWP)(w:World)(h:qyj b_0 at_1 Q w):Calls prog 58 ⟨[sV b_0,.int .i64 at_1]⟩ w (Ret Q):=
 qhc [.cell 4 45,.tmp 5] qde Tryz.func58 rfl rfl rfl rfl .lf (by kernel_rfl) h
def qgc.j3(effort_1:Int)(e_2:Addr)(out_6:Sl)(Q:VWP)(w:World):Prop:=ldL w (Addr.add e_2 23) λx1=>qak 41 [sV x1,.int .i64 effort_1] w λr4 w3=>rdO w3 r4.a (r4.len*1) λc5=>apK prog 5 w3 out_6.a out_6.len out_6.cap r4.len c5 λs6 w7=>qak 20 [sV s6] w7 λr10 w9=>Q (.tuple ⟨[sV r10,.int .i64 0]⟩) w9
def qgc.j4(effort_1:Int)(e_2:Addr)(out_6:Sl)(t21:Bool)(Q:VWP)(w:World):Prop:=br t21 (Q (.tuple ⟨[.slice none 0 0,.int .i64 1]⟩) w) (ldI .i64 w (Addr.add e_2 0) λx11=>br (x11==6) (ldI .i64 w (Addr.add e_2 2) λx12=>qak 40 [sV out_6,.int .i64 x12] w λr15 w14=>qgc.j3 effort_1 e_2 r15 Q w14) (ldI .i64 w (Addr.add e_2 0) λx16=>br (x16==7) (lt (⟨cutP (Addr.add e_2 3) 20 0 1,20-0,20-0⟩:Sl) λs17=>rdO w s17.a (s17.len*1) λc18=>apK prog 5 w out_6.a out_6.len out_6.cap s17.len c18 λs19 w20=>qgc.j3 effort_1 e_2 s19 Q w20) (qgc.j3 effort_1 e_2 out_6 Q w)))
def qgc.j2(effort_1:Int)(e_2:Addr)(out_6:Sl)(err_7:Int)(Q:VWP)(w:World):Prop:=br (err_7 !=0) (qgc.j4 effort_1 e_2 out_6 true Q w) (ldI .i64 w (Addr.add e_2 0) λx21=>br (x21==5) (qgc.j4 effort_1 e_2 out_6 true Q w) (ldI .i64 w (Addr.add e_2 0) λx22=>br (x22==6) (ldI .i64 w (Addr.add e_2 2) λx23=>qgc.j4 effort_1 e_2 out_6 (decide (x23<1)) Q w) (qgc.j4 effort_1 e_2 out_6 false Q w)))
def qgc.j1(effort_1:Int)(e_2:Addr)(Q:VWP)(w:World):Prop:=ldL w (Addr.add e_2 23) λx24=>br (decide ((x24.len:Int)>16384)) (Q (.tuple ⟨[.slice none 0 0,.int .i64 1]⟩) w) (ldI .i64 w (Addr.add e_2 0) λx25=>ldL w (Addr.add e_2 23) λx26=>qyu 39 [.slice none 0 0,.int .i64 x25,.int .i64 (x26.len:Int)] w λr29 r30 w28=>qgc.j2 effort_1 e_2 r29 r30 Q w28)
def qgc(e_0:(Array Value))(effort_1:Int)(Q:VWP)(w:World):Prop:=nw w e_0 45 λa31 w32=>qgc.j1 effort_1 a31 Q w32
theorem qgc.ok(e_0:(Array Value))(effort_1:Int)(Q:VWP)(w:World)(h:qgc e_0 effort_1 Q w):Calls prog 17 ⟨[.agg e_0,.int .i64 effort_1]⟩ w (Ret Q):=
 qhc [.tmp 4,.tmp 5] qde Tryz.func17 rfl rfl rfl rfl (.sq [sI 1,sA 2] (λa b w=>qgc.j1 a b Q w) .lf (.pr 1 [sI 1,sA 2,sL 6,sI 7] (λa b c d w=>qgc.j2 a b c d Q w) (.sq [sI 1,sA 2,sL 6] (λa b c w=>qgc.j3 a b c Q w) (.bk (.sq [sI 1,sA 2,sL 6,sB 21] (λa b c d w=>qgc.j4 a b c d Q w) .lf .lf)) .lf))) (by kernel_rfl) h
end
end Go.Proofs.YtdccpphmkfaioaaGreat
