/- Own texts as one, only what is reached (shake.py). -/
import Derived.Test.YthdmmmfgjmmelaaGreatZdc
import Derived.DeepKeys4
import Derived.Maps.Keyed
import Derived.ProofKit
import Derived.Test.YthdmmmfgjmmelaaGreatProg
import Derived.Test.YthdmmmfgjmmelaaGreatRows
namespace Go.Proofs.YthdmmmfgjmmelaaGreat
open Go Go.ChangeShapes Go.WideShapes Go.ChangeAt Go.RowKit
set_option maxRecDepth 100000
set_option linter.unusedSimpArgs false
set_option linter.unusedVariables false
theorem strip_cut (rest : List (List Char)) : stripLifts liftWords ("cut".toList :: rest) = ([], "cut".toList :: rest) := by rfl
theorem make_of (P : Program) (rest : List (List Char)) (h : behindMainWord (wordsSigns P.initOrder.toList) = "cut".toList :: rest) : P.make = some .cut := by
 unfold Program.make
 rw [h]
 rfl
theorem lifts_of (P : Program) (rest : List (List Char)) (h : behindMainWord (wordsSigns P.initOrder.toList) = "cut".toList :: rest) : P.liftsFinal = false := by
 unfold Program.liftsFinal Program.headLifts
 rw [h,strip_cut]
 rfl
theorem enter_of (P : Program) (rest : List (List Char)) (h : behindMainWord (wordsSigns P.initOrder.toList) = "cut".toList :: rest) (h1 : P.laysLater = false) (h2 : P.bearsReflect = false) (h3 : P.doorRows = []) : P.mayEnter = true := by
 unfold Program.mayEnter
 rw [h]
 simp only [strip_cut,h1,h2]
 unfold Program.doorFits
 rw [h3]
 rfl
theorem joined_of {P:Program} {f:FuncId} {fn:Func} {s:ChangeSpec} {c:OpenClaim}
 (k1:c.wf (OpenSpec.ofChange s)=true) (k2:laidOutB P=true) (k3:mapsRowed P=true) (k4:fn.params.all (P.readableRec ·)=true) (k5:namedTie P c.named s.vars=true)
 (k6:(c.stops == [])=true) (k7:(P.stops == [])=true) (k8:(c.knobs == [])=true) (k9:(P.stopKnobs == [])=true)
 (k10:(c.inPlace == P.inPlace f)=true) (k11:(c.unfollowed == P.unfollowed f)=true) (k12:(c.recurses == P.recurses f)=true) (k13:(c.named == P.varsNamed f)=true)
 (k14:(c.maps == (fn.params.toList ++ s.plain.varTypes P).any (P.mapsRec ·))=true) (k15:(c.ifaces == (fn.params.toList ++ s.plain.varTypes P).any (P.ifacesRec ·))=true) (k16:(c.mapsOut == P.mapsAmong fn.resultTypes.toList)=true)
 (k17:(c.loops == (fn.params.toList ++ s.plain.varTypes P).any (P.loopsFrom ·))=true) (k18:(c.wideKeys == (fn.params.toList ++ s.plain.varTypes P ++ fn.resultTypes.toList).any (P.wideKeysFrom ·))=true)
 (k19:s.vars.all (P.varReadable ·)=true) (k20:fn.resultTypes.all (fun t=>P.readableRec t && decide (t < P.types.size))=true) (k21:(c.ifacesOut == fn.resultTypes.toList.any (P.ifacesRec ·))=true) (k22:(c.loopsOut == fn.resultTypes.toList.any (P.loopsFrom ·))=true)
 (k23:(c.plainKeys == P.plainKeys)=true) (k24:c.shortTexts.isNone=true) (k25:P.stopsHeard=true) (k26:P.mayEnter=true) (k27:(c.lifted == P.liftsFinal)=true) (k28:(P.make == some c.make)=true)
 (k29:(c.kinds == (if c.domain.isEmpty then [] else fn.params.toList.map fun t=>match P.underlying t with | some (.int k)=>some k | _=>none))=true) (k30:(c.pinned == c.pinnedBy)=true)
 (k31:(c.veiled == (fn.params.toList ++ s.plain.varTypes P ++ fn.resultTypes.toList).any (P.veiledRec ·))=true) (k32:c.veiledFits P fn.params.toList (fn.params.toList ++ s.plain.varTypes P ++ fn.resultTypes.toList)=true):joinedFacts P f fn s c=true:=by
 unfold joinedFacts
 rw [k1,k2,k3,k4,k5,k6,k7,k8,k9,k10,k11,k12,k13,k14,k15,k16,k17,k18,k19,k20,k21,k22,k23,k24,k25,k26,k27,k28,k30,k31,k32]
 simp only [Bool.true_and,Bool.and_true]
 exact k29
theorem head_ex {α:Type} {a:α} {l:List α} (h:l.head?=some a):∃ r,l=a :: r:=by
 cases l with
 | nil=>cases h
 | cons b r=>simp at h; subst h; exact ⟨r,rfl⟩
theorem init_eq:Tryz.prog.initOrder=String.ofList (List.map Char.ofNat [104,97,114,110,101,115,115,32,102,51,100,54,54,98,52,99,99,55,99,102,52,51,101,49,100,102,99,52,56,52,100,49,99,50,51,102,102,49,51,101,102,101,50,54,97,57,55,53,101,56,51,98,97,102,56,100,56,52,50,56,55,98,51,54,55,52,57,54,49,100,101,99,32,99,117,116,32,97,116,32,116,114,111,118,101,47,116,114,111,118,101,108,97,119,49,56,46,77,105,100,120,79,114,100,101,114,32,116,114,111,118,101,47,116,114,111,118,101,108,97,119,49,56,46,77,105,100,120,76,101,97,115,116,32,116,114,111,118,101,47,116,114,111,118,101,108,97,119,49,56,46,77,105,100,120,66,121,116,101,115,32,116,114,111,118,101,47,116,114,111,118,101,108,97,119,49,57,46,71,114,97,112,104,66,117,105,108,100,115,32,116,114,111,118,101,47,116,114,111,118,101,108,97,119,49,57,46,71,114,97,112,104,66,121,116,101,115,32,116,114,111,118,101,47,116,114,111,118,101,108,97,119,49,57,46,71,114,97,112,104,67,108,111,115,101,115,32,116,114,111,118,101,47,116,114,111,118,101,108,97,119,57,46,90,108,105,98,66,121,116,101,115,32,116,114,111,118,101,47,116,114,111,118,101,108,97,119,57,46,90,108,105,98,84,117,114,110,101,100,32,116,114,111,118,101,47,116,114,111,118,101,108,97,119,57,46,90,108,105,98,66,111,117,110,100,115,32,116,114,111,118,101,47,116,114,111,118,101,108,97,119,57,46,90,108,105,98,66,97,99,107,32,116,114,111,118,101,47,116,114,111,118,101,108,97,119,49,52,46,69,110,116,114,121,72,101,97,100,115,32,116,114,111,118,101,47,116,114,111,118,101,108,97,119,49,52,46,69,110,116,114,121,66,97,99,107,32,116,114,111,118,101,47,116,114,111,118,101,108,97,119,49,52,46,69,110,116,114,121,82,111,119,115,32,116,114,111,118,101,47,116,114,111,118,101,108,97,119,49,52,46,69,110,116,114,121,66,111,117,110,100,115,32,116,114,111,118,101,47,116,114,111,118,101,108,97,119,49,53,46,80,97,99,107,66,97,99,107,32,116,114,111,118,101,47,116,114,111,118,101,108,97,119,49,53,46,80,97,99,107,67,111,117,110,116,115]):=by kernel_rfl
theorem qvn : ∃ rest, behindMainWord (wordsSigns Tryz.prog.initOrder.toList) = "cut".toList :: rest := by
 rw [init_eq,String.toList_ofList]
 exact head_ex (by kernel_rfl)
theorem f_make:Tryz.prog.make=some .cut:=by
 obtain ⟨r,h⟩:=qvn
 exact make_of _ r h
theorem f_lifts:Tryz.prog.liftsFinal=false:=by
 obtain ⟨r,h⟩:=qvn
 exact lifts_of _ r h
theorem f_later:Tryz.prog.laysLater=false:=by kernel_rfl
theorem f_refl:Tryz.prog.bearsReflect=false:=by kernel_rfl
theorem f_doors:Tryz.prog.doorRows=[]:=by kernel_rfl
theorem f_enter:Tryz.prog.mayEnter=true:=by
 obtain ⟨r,h⟩:=qvn
 exact enter_of _ r h f_later f_refl f_doors
theorem f_laid:laidOutB Tryz.prog=true:=by kernel_rfl
theorem f_maps:mapsRowed Tryz.prog=true:=by kernel_rfl
theorem f_stops:(Tryz.prog.stops == [])=true:=by kernel_rfl
theorem f_knobs:(Tryz.prog.stopKnobs == [])=true:=by kernel_rfl
theorem f_heard:Tryz.prog.stopsHeard=true:=by kernel_rfl
theorem f_own:ownKnob Tryz.prog.godebug=none:=by kernel_rfl
end Go.Proofs.YthdmmmfgjmmelaaGreat
namespace Go.Proofs.YthdmmmfgjmmelaaGreat
open Go Go.Proofs Go.ChangeShapes Go.WideShapes Go.MapKept Go.Maps
set_option linter.unusedVariables false
set_option linter.unusedSimpArgs false
theorem keyed_deep {P:Program} (hl:laidOutB P=true) {m:Nat} (hm:m+1≤10000) {k:TypeId} (hrow:k < P.types.size) (hk:P.keyTypeAt m k=true) (hwide:(match P.underlying k with | some (.array _ _) | some (.struct _)=>true | _=>false)=true):Keyed P k :=
 Keyed.of_law (deep_law_laid hl hm hrow hk hwide)
def kvs (es:Array MapEntry):List (Value × Value):=es.toList.map fun e=>(e.key,e.val)
section
variable {P:Program} {w:World} {k e t:TypeId} {b:Nat} {es:Array MapEntry} {clock:Nat}
theorem map_look (K:Keyed P k) (ht:P.underlying t=some (.map k e)) (hb:w.heap[b]?=some (.map es clock)) (hks:∀ p ∈ kvs es,∃ l,keyOf P k p.1=some l) {z key:Value} (c:Bool) (hz:(zeroValue e).run P w=.ok z w) (hkey:∃ l,keyOf P k key=some l) :
 ((Instr.lookup t (.map (some b)) key c).run P w=.ok (if c then .tuple #[z,.bool false] else z) w∧∀ p ∈ kvs es,p.1 ≠ key) ∨
 ∃ (j:Nat) (p:Value × Value),(kvs es)[j]?=some p∧p.1=key∧(Instr.lookup t (.map (some b)) key c).run P w=.ok (if c then .tuple #[p.2,.bool true] else p.2) w:=by
 obtain ⟨l,hkey⟩:=hkey
 have hks':∀ x ∈ es.toList,∃ l,keyOf P k x.key=some l:=fun x hx=>hks (x.key,x.val) (List.mem_map.2 ⟨x,hx,rfl⟩)
 rcases K.find w hkey es.toList hks' with ⟨h1,h2⟩ | ⟨j,e0,h1,h2,h3⟩
 · refine Or.inl ⟨by simp [Instr.lookup,qz ht,MapKept.run_getObj_map hb,K.check w _ hkey,h1,hz,Result.andThen],fun p hp=>?_⟩
   obtain ⟨x,hx,rfl⟩:=List.mem_map.1 hp
   exact h2 x hx
 · refine Or.inr ⟨j,(e0.key,e0.val),?_,h3,by simp [Instr.lookup,qz ht,MapKept.run_getObj_map hb,K.check w _ hkey,h1,Result.andThen]⟩
   unfold kvs
   rw [List.getElem?_map,h2]
   rfl
theorem map_set (K:Keyed P k) (ht:P.underlying t=some (.map k e)) (hb:w.heap[b]?=some (.map es clock)) (hks:∀ p ∈ kvs es,∃ l,keyOf P k p.1=some l) {key val:Value} (hkey:∃ l,keyOf P k key=some l) :
 ∃ es' clock',(Instr.mapUpdate t (.map (some b)) key val).run P w=.ok () { w with heap:=w.heap.setIfInBounds b (.map es' clock') } ∧
  ((kvs es'=kvs es ++ [(key,val)]∧∀ p ∈ kvs es,p.1 ≠ key) ∨ ∃ (j:Nat) (p:Value × Value),(kvs es)[j]?=some p∧p.1=key∧kvs es'=(kvs es).set j (key,val)):=by
 obtain ⟨l,hkey⟩:=hkey
 have hks':∀ x ∈ es.toList,∃ l,keyOf P k x.key=some l:=fun x hx=>hks (x.key,x.val) (List.mem_map.2 ⟨x,hx,rfl⟩)
 rcases K.find w hkey es.toList hks' with ⟨h1,h2⟩ | ⟨j,e0,h1,h2,h3⟩
 · refine ⟨es.push ⟨key,val,clock⟩,clock+1,?_,Or.inl ⟨by simp [kvs],fun p hp=>?_⟩⟩
   · simp [Instr.mapUpdate,qz ht,MapKept.run_getObj_map hb,K.check w false hkey,h1,MapKept.run_setObj_map _ hb,Result.andThen]
   · obtain ⟨x,hx,rfl⟩:=List.mem_map.1 hp
     exact h2 x hx
 · have hj:es[j]?=some e0:=by simpa using h2
   refine ⟨es.modify j fun e=>{ e with key,val },clock,?_,Or.inr ⟨j,(e0.key,e0.val),?_,h3,?_⟩⟩
   · simp [Instr.mapUpdate,qz ht,MapKept.run_getObj_map hb,K.check w false hkey,h1,hj,h3,K.stays w hkey,MapKept.run_setObj_map _ hb,Result.andThen]
   · unfold kvs
     rw [List.getElem?_map,h2]
     rfl
   · unfold kvs
     apply List.ext_getElem?
     intro i
     simp only [List.getElem?_map,Array.getElem?_toList,Array.getElem?_modify,List.getElem?_set,List.length_map,Array.length_toList]
     by_cases hij:j=i
     · subst hij
       have hlt:j < es.size:=(Array.getElem?_eq_some_iff.1 hj).1
       simp [hj,hlt]
     · simp [hij]
theorem map_make (w:World) (ht:True):(Instr.makeMap t none).run P w=.ok (.map (some w.heap.size)) (w.alloc (.map #[] 0)):=by
 simp [Instr.makeMap,newObj,Sem.run,Result.andThen]
end
def mpA (b:Nat) (kv:List (Value × Value)):As where
 hd w F:=(∃ es clock,w.heap[b]?=some (.map es clock)∧kvs es=kv)∧F=[b]
 keep:=by
  rintro w w' F G ⟨⟨es,c,h,e⟩,rfl⟩ m hd
  have hl:b < w.heap.size:=(Array.getElem?_eq_some_iff.1 h).1
  exact ⟨⟨es,c,by rw [m.frame b hl (hd b (by simp))]; exact h,e⟩,rfl⟩
 lt:=by
  rintro w F ⟨⟨es,c,h,e⟩,rfl⟩ x hx
  have:x=b:=by simpa using hx
  subst this
  exact (Array.getElem?_eq_some_iff.1 h).1
section
variable {F0:List Nat} {w0 w:World} {ps rest:List As} {P:Program} {k e t:TypeId} {b:Nat} {kv:List (Value × Value)}
theorem St.mget (h:St F0 w0 w (mpA b kv :: ps)):∃ es clock,w.heap[b]?=some (.map es clock)∧kvs es=kv:=by
 obtain ⟨F,h,_⟩:=h.get
 exact h
theorem St.mlook (h:St F0 w0 w (mpA b kv :: ps)) (K:Keyed P k) (ht:P.underlying t=some (.map k e)) (hks:∀ p ∈ kv,∃ l,keyOf P k p.1=some l) {z key:Value} (c:Bool) (hz:(zeroValue e).run P w=.ok z w) (hkey:∃ l,keyOf P k key=some l) :
 (lkR P t (.map (some b)) key c w (if c then .tuple #[z,.bool false] else z)∧∀ p ∈ kv,p.1 ≠ key) ∨
 ∃ (j:Nat) (p:Value × Value),kv[j]?=some p∧p.1=key∧lkR P t (.map (some b)) key c w (if c then .tuple #[p.2,.bool true] else p.2):=by
 obtain ⟨es,clock,hb,rfl⟩:=h.mget
 exact map_look K ht hb hks c hz hkey
theorem St.mset {key val:Value} {X:World→Prop} (h:St F0 w0 w (mpA b kv :: ps)) (K:Keyed P k) (ht:P.underlying t=some (.map k e)) (hks:∀ p ∈ kv,∃ l,keyOf P k p.1=some l) (hkey:∃ l,keyOf P k key=some l)
 (hk:∀ kv' w',St F0 w0 w' (mpA b kv' :: ps)→((kv'=kv ++ [(key,val)]∧∀ p ∈ kv,p.1 ≠ key) ∨ ∃ (j:Nat) (p:Value × Value),kv[j]?=some p∧p.1=key∧kv'=kv.set j (key,val))→X w') :
 ∃ w',muR P t (.map (some b)) key val w w'∧X w':=by
 obtain ⟨f,⟨⟨es,clock,hb,rfl⟩,rfl⟩,hst⟩:=h.step
 obtain ⟨es',clock',h1,h2⟩:=map_set (val:=val) K ht hb hks hkey
 refine ⟨_,h1,hk (kvs es') _ (hst _ [b] _ ⟨rfl,rfl,rfl,by simp,fun x hx hF=>?_⟩ (Gr.refl _ _) ⟨⟨es',clock',?_,rfl⟩,rfl⟩) h2⟩
 · simp only [Array.getElem?_setIfInBounds]
   rw [if_neg (fun e=>hF (by simp [e]))]
 · have hl:b < w.heap.size:=(Array.getElem?_eq_some_iff.1 hb).1
   simp [Array.getElem?_setIfInBounds,hl]
theorem St.mmake {X:Nat→World→Prop} (h:St F0 w0 w ps) (hk:∀ mb w',St F0 w0 w' (mpA mb [] :: ps)→X mb w'):∃ n:Nat,∃ w':World,mmR P t none w n w'∧X n w':=by
 refine ⟨_,_,map_make w trivial,hk _ _ (h.add (f':=[w.heap.size]) (Mod.alloc w _) ⟨⟨#[],0,?_,rfl⟩,rfl⟩ ?_)⟩
 · show (w.heap.push _)[w.heap.size]?=_
   rw [Array.getElem?_push_size]
 · intro x hx
   have:x=w.heap.size:=by simpa using hx
   exact Or.inr (by omega)
end
end Go.Proofs.YthdmmmfgjmmelaaGreat
namespace Go.Proofs.YthdmmmfgjmmelaaGreat
open Go Go.Proofs
set_option linter.unusedVariables false
set_option maxRecDepth 100000
def qle (f_0:OAd) (at_1:Int) (Q:VWP) (w:World):Prop :=
 lt (⟨World.heapSize w,0,none⟩:Addr) fun a1 =>
 lt (World.alloc w (.cells (zc Tryz.prog 381) 381)) fun w2 =>
 nz f_0 fun a3 =>
 ldL w2 (Addr.add a3 0) fun x4 =>
 bd at_1 x4.len fun n5 =>
 lt (⟨qwf x4.a x4.cap n5 1,x4.len - n5,x4.cap - n5⟩:Sl) fun s6 =>
 3≤s6.len ∧
 nz s6.a fun a7 =>
 ldA w2 a7 3 fun c8 =>
 (c8).size=3 ∧
 stA w2 a1 c8 fun w9 =>
 ldA w9 a1 3 fun c10 =>
 Q (.agg c10) w9
theorem qle.ok (f_0:OAd) (at_1:Int) (Q:VWP) (w:World) (h:qle f_0 at_1 Q w):Calls Tryz.prog 275 ⟨[.pointer f_0,.int .i64 at_1]⟩ w (Ret Q):=by
 refine qp [.cell 4 381] Tryz.func275 rfl rfl rfl rfl ?_
 exact qg qpb _ (Eq.mp (by kernel_rfl) h)
def qqc.j2 (f_0:OAd) (at_1:Int) (Q:VWP) (w:World):Prop :=
 lt (World.drew w) fun w1 =>
 nz f_0 fun a2 =>
 (ldM w1 (Addr.add a2 1) fun x3 =>
 Calls Tryz.prog 275 ⟨[.pointer f_0,.int .i64 at_1]⟩ w1 fun e4 w5 =>
 ∃ r6:(Array Value),e4=.returned (.agg r6) ∧
 ∃ w7:World,muR Tryz.prog 311 (.map x3) (.agg r6) (.int .i64 at_1) w5 w7 ∧
 Q (.tuple ⟨[]⟩) w7)∧(
 Calls Tryz.prog 275 ⟨[.pointer f_0,.int .i64 at_1]⟩ w1 fun e8 w9 =>
 ∃ r10:(Array Value),e8=.returned (.agg r10) ∧
 ldM w9 (Addr.add a2 1) fun x11 =>
 ∃ w12:World,muR Tryz.prog 311 (.map x11) (.agg r10) (.int .i64 at_1) w9 w12 ∧
 Q (.tuple ⟨[]⟩) w12)
def qqc.j3 (f_0:OAd) (at_1:Int) (i_4:Int) (is_5:Bool) (Q:VWP) (w:World):Prop :=
 br is_5 (
 nz f_0 fun a13 =>
 ldL w (Addr.add a13 2) fun x14 =>
 ixS x14.a x14.len at_1 1 fun a15 =>
 st w a15 (.int .i64 i_4) fun w16 =>
 qqc.j2 f_0 at_1 Q w16) (
 qqc.j2 f_0 at_1 Q w)
def qqc.j1 (f_0:OAd) (at_1:Int) (Q:VWP) (w:World):Prop :=
 lt (World.drew w) fun w17 =>
 nz f_0 fun a18 =>
 (ldM w17 (Addr.add a18 1) fun x19 =>
 Calls Tryz.prog 275 ⟨[.pointer f_0,.int .i64 at_1]⟩ w17 fun e20 w21 =>
 ∃ r22:(Array Value),e20=.returned (.agg r22) ∧
 ∃ r23:Int,∃ r24:Bool,lkR Tryz.prog 311 (.map x19) (.agg r22) true w21 (.tuple ⟨[.int .i64 r23,.bool r24]⟩) ∧
 qqc.j3 f_0 at_1 r23 r24 Q w21)∧(
 Calls Tryz.prog 275 ⟨[.pointer f_0,.int .i64 at_1]⟩ w17 fun e25 w26 =>
 ∃ r27:(Array Value),e25=.returned (.agg r27) ∧
 ldM w26 (Addr.add a18 1) fun x28 =>
 ∃ r29:Int,∃ r30:Bool,lkR Tryz.prog 311 (.map x28) (.agg r27) true w26 (.tuple ⟨[.int .i64 r29,.bool r30]⟩) ∧
 qqc.j3 f_0 at_1 r29 r30 Q w26)
def qqc (f_0:OAd) (at_1:Int) (Q:VWP) (w:World):Prop :=
 nz f_0 fun a31 =>
 ldL w (Addr.add a31 2) fun x32 =>
 lt (⟨World.heapSize w,0,none⟩:Addr) fun a33 =>
 lt (World.alloc w (.cells ⟨[.int .i64 (-1)]⟩ 3)) fun w34 =>
 rdO w34 (some a33) (1 * 1) fun c35 =>
 apK Tryz.prog 3 w34 x32.a x32.len x32.cap 1 c35 fun s36 w37 =>
 nz f_0 fun a38 =>
 st w37 (Addr.add a38 2) (.slice s36.a s36.len s36.cap) fun w39 =>
 lt (IntKind.i64.wrap (at_1+3)) fun x40 =>
 nz f_0 fun a41 =>
 ldL w39 (Addr.add a41 0) fun x42 =>
 br (decide ((x40:Int) > ((x42.len:Nat):Int))) (
 Q (.tuple ⟨[]⟩) w39) (
 qqc.j1 f_0 at_1 Q w39)
theorem qqc.ok (f_0:OAd) (at_1:Int) (Q:VWP) (w:World) (h:qqc f_0 at_1 Q w):Calls Tryz.prog 200 ⟨[.pointer f_0,.int .i64 at_1]⟩ w (Ret Q):=by
 refine qp [] Tryz.func200 rfl rfl rfl rfl ?_
 refine qfb qpb (fun ρ w=>asP (ρ 0) fun f_0=>asI .i64 (ρ 1) fun at_1=>qqc.j1 f_0 at_1 Q w) (Eq.mp (by kernel_rfl) h) ?_
 intro ρ w h
 obtain ⟨f_0,e0,h⟩:=qr h
 obtain ⟨at_1,e1,h⟩:=qd h
 refine qb e0 (qb (qa e1 rfl) ?_)
 refine qu (fun ρ w=>asP (ρ 0) fun f_0=>asI .i64 (ρ 1) fun at_1=>qqc.j2 f_0 at_1 Q w) ?_ ?_
 · skip
   refine qu (fun ρ w=>asP (ρ 0) fun f_0=>asI .i64 (ρ 1) fun at_1=>asI .i64 (ρ 4) fun i_4=>asB (ρ 5) fun is_5=>qqc.j3 f_0 at_1 i_4 is_5 Q w) ?_ ?_
   · skip
     exact qg qpb _ (Eq.mp (by kernel_rfl) h)
   · intro ρ w h
     obtain ⟨f_0,e0,h⟩:=qr h
     obtain ⟨at_1,e1,h⟩:=qd h
     obtain ⟨i_4,e4,h⟩:=qd h
     obtain ⟨is_5,e5,h⟩:=qcd h
     refine qb e0 (qb (qa e1 rfl) (qb (qa (qa e4 rfl) rfl) (qb (qa (qa (qa e5 rfl) rfl) rfl) ?_)))
     exact qg qpb _ (Eq.mp (by kernel_rfl) h)
 · intro ρ w h
   obtain ⟨f_0,e0,h⟩:=qr h
   obtain ⟨at_1,e1,h⟩:=qd h
   refine qb e0 (qb (qa e1 rfl) ?_)
   exact qg qpb _ (Eq.mp (by kernel_rfl) h)
def qrc.j2 (n_7:Int) (Q:VWP) (w:World):Prop :=
 Q (.int .i64 n_7) w
def qrc.b1 (f_0:OAd) (i_1:Int) (k_2 n_7:Int) (Q:VWP) (nx1:OAd→Int→Int→Int→World→Prop) (w:World):Prop :=
 lt (World.drew w) fun w1 =>
 br (decide ((n_7:Int) < 258)) (
 lt (IntKind.i64.wrap (k_2+n_7)) fun x2 =>
 nz f_0 fun a3 =>
 ldL w1 (Addr.add a3 0) fun x4 =>
 br (decide ((x2:Int) < ((x4.len:Nat):Int))) (
 nz f_0 fun a5 =>
 ldL w1 (Addr.add a5 0) fun x6 =>
 lt (IntKind.i64.wrap (i_1+n_7)) fun x7 =>
 ixS x6.a x6.len x7 1 fun a8 =>
 ldI .u8 w1 a8 fun x9 =>
 nz f_0 fun a10 =>
 ldL w1 (Addr.add a10 0) fun x11 =>
 lt (IntKind.i64.wrap (k_2+n_7)) fun x12 =>
 ixS x11.a x11.len x12 1 fun a13 =>
 ldI .u8 w1 a13 fun x14 =>
 br ((x9:Int) == x14) (
 lt (IntKind.i64.wrap (n_7+1)) fun x15 =>
 nx1 f_0 i_1 k_2 x15 w1) (
 qrc.j2 n_7 Q w1)) (
 qrc.j2 n_7 Q w1)) (
 qrc.j2 n_7 Q w1)
def qrc.l1 (f_0:OAd) (i_1:Int) (k_2 n_7:Int) (Q:VWP) (w:World):Prop :=
 ∃ (I:Int→World→Prop) (μ:Int→World→Nat),I n_7 w∧∀ n_7:Int,∀ w:World,I n_7 w→qrc.b1 f_0 i_1 k_2 n_7 Q (fun f_0' i_1' k_2' n_7' w'=>(f_0'=f_0∧i_1'=i_1∧k_2'=k_2)∧I n_7' w'∧μ n_7' w' < μ n_7 w) w
def qrc.j1 (f_0:OAd) (i_1:Int) (k_2 n_7:Int) (Q:VWP) (w:World):Prop :=
 qrc.l1 f_0 i_1 k_2 n_7 Q w
def qrc (f_0:OAd) (i_1:Int) (k_2:Int) (Q:VWP) (w:World):Prop :=
 qrc.j1 f_0 i_1 k_2 0 Q w
theorem qrc.ok (f_0:OAd) (i_1:Int) (k_2:Int) (Q:VWP) (w:World) (h:qrc f_0 i_1 k_2 Q w):Calls Tryz.prog 276 ⟨[.pointer f_0,.int .i64 i_1,.int .i64 k_2]⟩ w (Ret Q):=by
 refine qp [.tmp 6] Tryz.func276 rfl rfl rfl rfl ?_
 refine qfb qpb (fun ρ w=>asP (ρ 0) fun f_0=>asI .i64 (ρ 1) fun i_1=>asI .i64 (ρ 2) fun k_2=>asI .i64 (ρ 7) fun n_7=>qrc.j1 f_0 i_1 k_2 n_7 Q w) (Eq.mp (by kernel_rfl) h) ?_
 intro ρ w h
 obtain ⟨f_0,e0,h⟩:=qr h
 obtain ⟨i_1,e1,h⟩:=qd h
 obtain ⟨k_2,e2,h⟩:=qd h
 obtain ⟨n_7,e7,h⟩:=qd h
 refine qb e0 (qb (qa e1 rfl) (qb (qa (qa e2 rfl) rfl) (qb (qa (qa (qa e7 rfl) rfl) rfl) ?_)))
 refine qu (fun ρ w=>asI .i64 (ρ 7) fun n_7=>qrc.j2 n_7 Q w) ?_ ?_
 · skip
   refine qcb ?_
   obtain ⟨I,μ,hI,hr⟩:=h
   refine qlb (α:=Int) (fun s ρ=>ρ 7=.int .i64 s∧ρ 0=.pointer f_0∧ρ 1=.int .i64 i_1∧ρ 2=.int .i64 k_2) (fun s w=>I s w) (fun s w=>μ s w) n_7 ⟨rfl,rfl,rfl,rfl⟩ hI ?_
   rintro n_7 ρ w ⟨e7,e0,e1,e2⟩ hI
   have h:=hr n_7 w hI
   clear hr
   obtain ⟨nx1,hnx⟩:∃ nx:OAd→Int→Int→Int→World→Prop,nx=(fun f_0' i_1' k_2' n_7' w'=>(f_0'=f_0∧i_1'=i_1∧k_2'=k_2)∧I n_7' w'∧μ n_7' w' < μ n_7 w):=⟨_,rfl⟩
   rw [← hnx] at h
   refine qsb (M:=fun ρ w=>asP (ρ 0) fun f_0=>asI .i64 (ρ 1) fun i_1=>asI .i64 (ρ 2) fun k_2=>asI .i64 (ρ 7) fun n_7=>nx1 f_0 i_1 k_2 n_7 w) ?_ (fun ρ w h=>?_)
   · skip
     refine qb e0 (qb (qa e1 rfl) (qb (qa (qa e2 rfl) rfl) (qb (qa (qa (qa e7 rfl) rfl) rfl) ?_)))
     exact qg qpb _ (Eq.mp (by kernel_rfl) h)
   · skip
     obtain ⟨f_0',e0',h⟩:=qr h
     obtain ⟨i_1',e1',h⟩:=qd h
     obtain ⟨k_2',e2',h⟩:=qd h
     obtain ⟨n_7',e7',h⟩:=qd h
     rw [hnx] at h
     obtain ⟨hu,hI2,hμ⟩:=h
     obtain ⟨rfl,rfl,rfl⟩:=hu
     exact ⟨n_7',⟨e7',e0',e1',e2'⟩,hI2,hμ⟩
 · intro ρ w h
   obtain ⟨n_7,e7,h⟩:=qd h
   refine qb e7 ?_
   exact qg qpb _ (Eq.mp (by kernel_rfl) h)
def qib.j3 (t6 t7:Int) (Q:VWP) (w:World):Prop :=
 Q (.tuple ⟨[.int .i64 t6,.int .i64 t7]⟩) w
def qib.j5 (d_0:OAd) (i_1:Int) (t2 t6 t7 t8:Int) (t9:Bool) (Q:VWP) (nx1:OAd→Int→Bool→Int→Int→Int→Int→World→Prop) (w:World):Prop :=
 lt (IntKind.i64.wrap (t2 - 1)) fun x1 =>
 nx1 d_0 i_1 t9 x1 t6 t7 t8 w
def qib.j6 (d_0:OAd) (i_1:Int) (t2 t6 t7 t8:Int) (t9:Bool) (Q:VWP) (nx1:OAd→Int→Bool→Int→Int→Int→Int→World→Prop) (w:World):Prop :=
 nz d_0 fun a2 =>
 ldL w (Addr.add a2 2) fun x3 =>
 ixS x3.a x3.len t8 1 fun a4 =>
 ldI .i64 w a4 fun x5 =>
 br (decide ((x5:Int) < 0)) (
 qib.j3 t6 t7 Q w) (
 br ((t6:Int) == 258) (
 qib.j3 t6 t7 Q w) (
 qib.j5 d_0 i_1 t2 t6 t7 x5 t9 Q nx1 w))
def qib.j4 (d_0:OAd) (i_1:Int) (t2 t6 t7 t8:Int) (t9:Bool) (Q:VWP) (nx1:OAd→Int→Bool→Int→Int→Int→Int→World→Prop) (w:World):Prop :=
 Calls Tryz.prog 276 ⟨[.pointer d_0,.int .i64 t8,.int .i64 i_1]⟩ w fun e6 w7 =>
 ∃ r8:Int,e6=.returned (.int .i64 r8) ∧
 br (decide ((r8:Int) > t6)) (
 lt (IntKind.i64.wrap (i_1 - t8)) fun x9 =>
 qib.j6 d_0 i_1 t2 r8 x9 t8 t9 Q nx1 w7) (
 qib.j6 d_0 i_1 t2 t6 t7 t8 t9 Q nx1 w7)
def qib.b1 (d_0:OAd) (i_1:Int) (t9:Bool) (t2:Int) (t6 t7 t8:Int) (Q:VWP) (nx1:OAd→Int→Bool→Int→Int→Int→Int→World→Prop) (w:World):Prop :=
 br t9 (
 br (decide ((t2:Int) > 0)) (
 lt (IntKind.i64.wrap (i_1 - t8)) fun x10 =>
 br (decide ((x10:Int)≤32768)) (
 qib.j4 d_0 i_1 t2 t6 t7 t8 t9 Q nx1 w) (
 qib.j3 t6 t7 Q w)) (
 qib.j3 t6 t7 Q w)) (
 qib.j3 t6 t7 Q w)
def qib.l1 (d_0:OAd) (i_1:Int) (t9:Bool) (t2:Int) (t6 t7 t8:Int) (Q:VWP) (w:World):Prop :=
 ∃ (I:Int→Int→Int→Int→World→Prop) (μ:Int→Int→Int→Int→World→Nat),I t2 t6 t7 t8 w∧∀ t2:Int,∀ t6:Int,∀ t7:Int,∀ t8:Int,∀ w:World,I t2 t6 t7 t8 w→qib.b1 d_0 i_1 t9 t2 t6 t7 t8 Q (fun d_0' i_1' t9' t2' t6' t7' t8' w'=>(d_0'=d_0∧i_1'=i_1∧t9'=t9)∧I t2' t6' t7' t8' w'∧μ t2' t6' t7' t8' w' < μ t2 t6 t7 t8 w) w
def qib.j2 (d_0:OAd) (i_1:Int) (t2 t6 t7 t8:Int) (t9:Bool) (Q:VWP) (w:World):Prop :=
 qib.l1 d_0 i_1 t9 t2 t6 t7 t8 Q w
def qib.j1 (d_0:OAd) (i_1:Int) (t2 t6 t7:Int) (Q:VWP) (w:World):Prop :=
 lt (IntKind.i64.wrap (i_1+3)) fun x11 =>
 nz d_0 fun a12 =>
 ldL w (Addr.add a12 0) fun x13 =>
 br (decide ((x11:Int) > ((x13.len:Nat):Int))) (
 Q (.tuple ⟨[.int .i64 0,.int .i64 0]⟩) w) (
 lt (World.drew w) fun w14 =>
 nz d_0 fun a15 =>
 (ldM w14 (Addr.add a15 1) fun x16 =>
 Calls Tryz.prog 275 ⟨[.pointer d_0,.int .i64 i_1]⟩ w14 fun e17 w18 =>
 ∃ r19:(Array Value),e17=.returned (.agg r19) ∧
 ∃ r20:Int,∃ r21:Bool,lkR Tryz.prog 311 (.map x16) (.agg r19) true w18 (.tuple ⟨[.int .i64 r20,.bool r21]⟩) ∧
 qib.j2 d_0 i_1 t2 t6 t7 r20 r21 Q w18)∧(
 Calls Tryz.prog 275 ⟨[.pointer d_0,.int .i64 i_1]⟩ w14 fun e22 w23 =>
 ∃ r24:(Array Value),e22=.returned (.agg r24) ∧
 ldM w23 (Addr.add a15 1) fun x25 =>
 ∃ r26:Int,∃ r27:Bool,lkR Tryz.prog 311 (.map x25) (.agg r24) true w23 (.tuple ⟨[.int .i64 r26,.bool r27]⟩) ∧
 qib.j2 d_0 i_1 t2 t6 t7 r26 r27 Q w23))
def qib (d_0:OAd) (i_1:Int) (t2:Int) (Q:VWP) (w:World):Prop :=
 qib.j1 d_0 i_1 t2 0 0 Q w
theorem qib.ok (d_0:OAd) (i_1:Int) (t2:Int) (Q:VWP) (w:World) (h:qib d_0 i_1 t2 Q w):Calls Tryz.prog 199 ⟨[.pointer d_0,.int .i64 i_1,.int .i64 t2]⟩ w (Ret Q):=by
 refine qp [.tmp 6,.tmp 7] Tryz.func199 rfl rfl rfl rfl ?_
 refine qu (fun ρ w=>asP (ρ 0) fun d_0=>asI .i64 (ρ 1) fun i_1=>asI .i64 (ρ 2) fun t2=>asI .i64 (ρ 6) fun t6=>asI .i64 (ρ 7) fun t7=>qib.j1 d_0 i_1 t2 t6 t7 Q w) ?_ ?_
 · skip
   exact qg qpb _ (Eq.mp (by kernel_rfl) h)
 · intro ρ w h
   obtain ⟨d_0,e0,h⟩:=qr h
   obtain ⟨i_1,e1,h⟩:=qd h
   obtain ⟨t2,e2,h⟩:=qd h
   obtain ⟨t6,e6,h⟩:=qd h
   obtain ⟨t7,e7,h⟩:=qd h
   refine qb e0 (qb (qa e1 rfl) (qb (qa (qa e2 rfl) rfl) (qb (qa (qa (qa e6 rfl) rfl) rfl) (qb (qa (qa (qa (qa e7 rfl) rfl) rfl) rfl) ?_))))
   refine qfb qpb (fun ρ w=>asP (ρ 0) fun d_0=>asI .i64 (ρ 1) fun i_1=>asI .i64 (ρ 2) fun t2=>asI .i64 (ρ 6) fun t6=>asI .i64 (ρ 7) fun t7=>asI .i64 (ρ 8) fun t8=>asB (ρ 9) fun t9=>qib.j2 d_0 i_1 t2 t6 t7 t8 t9 Q w) (Eq.mp (by kernel_rfl) h) ?_
   intro ρ w h
   obtain ⟨d_0,e0,h⟩:=qr h
   obtain ⟨i_1,e1,h⟩:=qd h
   obtain ⟨t2,e2,h⟩:=qd h
   obtain ⟨t6,e6,h⟩:=qd h
   obtain ⟨t7,e7,h⟩:=qd h
   obtain ⟨t8,e8,h⟩:=qd h
   obtain ⟨t9,e9,h⟩:=qcd h
   refine qb e0 (qb (qa e1 rfl) (qb (qa (qa e2 rfl) rfl) (qb (qa (qa (qa e6 rfl) rfl) rfl) (qb (qa (qa (qa (qa e7 rfl) rfl) rfl) rfl) (qb (qa (qa (qa (qa (qa e8 rfl) rfl) rfl) rfl) rfl) (qb (qa (qa (qa (qa (qa (qa e9 rfl) rfl) rfl) rfl) rfl) rfl) ?_))))))
   refine qu (fun ρ w=>asI .i64 (ρ 6) fun t6=>asI .i64 (ρ 7) fun t7=>qib.j3 t6 t7 Q w) ?_ ?_
   · skip
     refine qcb ?_
     obtain ⟨I,μ,hI,hr⟩:=h
     refine qlb (α:=Int × Int × Int × Int) (fun s ρ=>ρ 2=.int .i64 s.1∧ρ 6=.int .i64 s.2.1∧ρ 7=.int .i64 s.2.2.1∧ρ 8=.int .i64 s.2.2.2∧ρ 0=.pointer d_0∧ρ 1=.int .i64 i_1∧ρ 9=.bool t9) (fun s w=>I s.1 s.2.1 s.2.2.1 s.2.2.2 w) (fun s w=>μ s.1 s.2.1 s.2.2.1 s.2.2.2 w) (t2,t6,t7,t8) ⟨rfl,rfl,rfl,rfl,rfl,rfl,rfl⟩ hI ?_
     rintro ⟨t2,t6,t7,t8⟩ ρ w ⟨e2,e6,e7,e8,e0,e1,e9⟩ hI
     have h:=hr t2 t6 t7 t8 w hI
     clear hr
     obtain ⟨nx1,hnx⟩:∃ nx:OAd→Int→Bool→Int→Int→Int→Int→World→Prop,nx=(fun d_0' i_1' t9' t2' t6' t7' t8' w'=>(d_0'=d_0∧i_1'=i_1∧t9'=t9)∧I t2' t6' t7' t8' w'∧μ t2' t6' t7' t8' w' < μ t2 t6 t7 t8 w):=⟨_,rfl⟩
     rw [← hnx] at h
     refine qsb (M:=fun ρ w=>asP (ρ 0) fun d_0=>asI .i64 (ρ 1) fun i_1=>asB (ρ 9) fun t9=>asI .i64 (ρ 2) fun t2=>asI .i64 (ρ 6) fun t6=>asI .i64 (ρ 7) fun t7=>asI .i64 (ρ 8) fun t8=>nx1 d_0 i_1 t9 t2 t6 t7 t8 w) ?_ (fun ρ w h=>?_)
     · skip
       refine qb e0 (qb (qa e1 rfl) (qb (qa (qa e2 rfl) rfl) (qb (qa (qa (qa e6 rfl) rfl) rfl) (qb (qa (qa (qa (qa e7 rfl) rfl) rfl) rfl) (qb (qa (qa (qa (qa (qa e8 rfl) rfl) rfl) rfl) rfl) (qb (qa (qa (qa (qa (qa (qa e9 rfl) rfl) rfl) rfl) rfl) rfl) ?_))))))
       refine qu (fun ρ w=>asP (ρ 0) fun d_0=>asI .i64 (ρ 1) fun i_1=>asI .i64 (ρ 2) fun t2=>asI .i64 (ρ 6) fun t6=>asI .i64 (ρ 7) fun t7=>asI .i64 (ρ 8) fun t8=>asB (ρ 9) fun t9=>qib.j4 d_0 i_1 t2 t6 t7 t8 t9 Q nx1 w) ?_ ?_
       · skip
         exact qg qpb _ (Eq.mp (by kernel_rfl) h)
       · intro ρ w h
         obtain ⟨d_0,e0,h⟩:=qr h
         obtain ⟨i_1,e1,h⟩:=qd h
         obtain ⟨t2,e2,h⟩:=qd h
         obtain ⟨t6,e6,h⟩:=qd h
         obtain ⟨t7,e7,h⟩:=qd h
         obtain ⟨t8,e8,h⟩:=qd h
         obtain ⟨t9,e9,h⟩:=qcd h
         refine qb e0 (qb (qa e1 rfl) (qb (qa (qa e2 rfl) rfl) (qb (qa (qa (qa e6 rfl) rfl) rfl) (qb (qa (qa (qa (qa e7 rfl) rfl) rfl) rfl) (qb (qa (qa (qa (qa (qa e8 rfl) rfl) rfl) rfl) rfl) (qb (qa (qa (qa (qa (qa (qa e9 rfl) rfl) rfl) rfl) rfl) rfl) ?_))))))
         refine qu (fun ρ w=>asP (ρ 0) fun d_0=>asI .i64 (ρ 1) fun i_1=>asI .i64 (ρ 2) fun t2=>asI .i64 (ρ 6) fun t6=>asI .i64 (ρ 7) fun t7=>asI .i64 (ρ 8) fun t8=>asB (ρ 9) fun t9=>qib.j5 d_0 i_1 t2 t6 t7 t8 t9 Q nx1 w) ?_ ?_
         · skip
           refine qcb ?_
           refine qu (fun ρ w=>asP (ρ 0) fun d_0=>asI .i64 (ρ 1) fun i_1=>asI .i64 (ρ 2) fun t2=>asI .i64 (ρ 6) fun t6=>asI .i64 (ρ 7) fun t7=>asI .i64 (ρ 8) fun t8=>asB (ρ 9) fun t9=>qib.j6 d_0 i_1 t2 t6 t7 t8 t9 Q nx1 w) ?_ ?_
           · skip
             exact qg qpb _ (Eq.mp (by kernel_rfl) h)
           · intro ρ w h
             obtain ⟨d_0,e0,h⟩:=qr h
             obtain ⟨i_1,e1,h⟩:=qd h
             obtain ⟨t2,e2,h⟩:=qd h
             obtain ⟨t6,e6,h⟩:=qd h
             obtain ⟨t7,e7,h⟩:=qd h
             obtain ⟨t8,e8,h⟩:=qd h
             obtain ⟨t9,e9,h⟩:=qcd h
             refine qb e0 (qb (qa e1 rfl) (qb (qa (qa e2 rfl) rfl) (qb (qa (qa (qa e6 rfl) rfl) rfl) (qb (qa (qa (qa (qa e7 rfl) rfl) rfl) rfl) (qb (qa (qa (qa (qa (qa e8 rfl) rfl) rfl) rfl) rfl) (qb (qa (qa (qa (qa (qa (qa e9 rfl) rfl) rfl) rfl) rfl) rfl) ?_))))))
             exact qg qpb _ (Eq.mp (by kernel_rfl) h)
         · intro ρ w h
           obtain ⟨d_0,e0,h⟩:=qr h
           obtain ⟨i_1,e1,h⟩:=qd h
           obtain ⟨t2,e2,h⟩:=qd h
           obtain ⟨t6,e6,h⟩:=qd h
           obtain ⟨t7,e7,h⟩:=qd h
           obtain ⟨t8,e8,h⟩:=qd h
           obtain ⟨t9,e9,h⟩:=qcd h
           refine qb e0 (qb (qa e1 rfl) (qb (qa (qa e2 rfl) rfl) (qb (qa (qa (qa e6 rfl) rfl) rfl) (qb (qa (qa (qa (qa e7 rfl) rfl) rfl) rfl) (qb (qa (qa (qa (qa (qa e8 rfl) rfl) rfl) rfl) rfl) (qb (qa (qa (qa (qa (qa (qa e9 rfl) rfl) rfl) rfl) rfl) rfl) ?_))))))
           exact qg qpb _ (Eq.mp (by kernel_rfl) h)
     · skip
       obtain ⟨d_0',e0',h⟩:=qr h
       obtain ⟨i_1',e1',h⟩:=qd h
       obtain ⟨t9',e9',h⟩:=qcd h
       obtain ⟨t2',e2',h⟩:=qd h
       obtain ⟨t6',e6',h⟩:=qd h
       obtain ⟨t7',e7',h⟩:=qd h
       obtain ⟨t8',e8',h⟩:=qd h
       rw [hnx] at h
       obtain ⟨hu,hI2,hμ⟩:=h
       obtain ⟨rfl,rfl,rfl⟩:=hu
       exact ⟨(t2',t6',t7',t8'),⟨e2',e6',e7',e8',e0',e1',e9'⟩,hI2,hμ⟩
   · intro ρ w h
     obtain ⟨t6,e6,h⟩:=qd h
     obtain ⟨t7,e7,h⟩:=qd h
     refine qb e6 (qb (qa e7 rfl) ?_)
     exact qg qpb _ (Eq.mp (by kernel_rfl) h)
def qtc.j4 (out_7:Sl) (Q:VWP) (w:World):Prop :=
 Calls Tryz.prog 201 ⟨[.slice out_7.a out_7.len out_7.cap]⟩ w fun e1 w2 =>
 ∃ r3:Sl,e1=.returned (.slice r3.a r3.len r3.cap) ∧
 Q (.slice r3.a r3.len r3.cap) w2
def qtc.b2 (b_0:Sl) (f_5:OAd) (looks_6:Int) (out_7:Sl) (t47 at_8 t48:Int) (Q:VWP) (nx1:Sl→OAd→Int→Sl→Int→World→Prop) (nx2:Sl→OAd→Int→Sl→Int→Int→Int→World→Prop) (w:World):Prop :=
 br (decide ((t48:Int) < t47)) (
 Calls Tryz.prog 200 ⟨[.pointer f_5,.int .i64 at_8]⟩ w fun e4 w5 =>
 e4=.returned (.tuple ⟨[]⟩) ∧
 lt (IntKind.i64.wrap (at_8+1)) fun x6 =>
 lt (IntKind.i64.wrap (t48+1)) fun x7 =>
 nx2 b_0 f_5 looks_6 out_7 t47 x6 x7 w5) (
 nx1 b_0 f_5 looks_6 out_7 at_8 w)
def qtc.l2 (b_0:Sl) (f_5:OAd) (looks_6:Int) (out_7:Sl) (t47 at_8 t48:Int) (Q:VWP) (nx1:Sl→OAd→Int→Sl→Int→World→Prop) (w:World):Prop :=
 ∃ (I:Int→Int→World→Prop) (μ:Int→Int→World→Nat),I at_8 t48 w∧∀ at_8:Int,∀ t48:Int,∀ w:World,I at_8 t48 w→qtc.b2 b_0 f_5 looks_6 out_7 t47 at_8 t48 Q nx1 (fun b_0' f_5' looks_6' out_7' t47' at_8' t48' w'=>(b_0'=b_0∧f_5'=f_5∧looks_6'=looks_6∧out_7'=out_7∧t47'=t47)∧I at_8' t48' w'∧μ at_8' t48' w' < μ at_8 t48 w) w
def qtc.j9 (b_0:Sl) (f_5:OAd) (looks_6:Int) (out_7:Sl) (at_8 t47 t48:Int) (Q:VWP) (nx1:Sl→OAd→Int→Sl→Int→World→Prop) (w:World):Prop :=
 qtc.l2 b_0 f_5 looks_6 out_7 t47 at_8 t48 Q nx1 w
def qtc.j8 (b_0:Sl) (f_5:OAd) (looks_6:Int) (out_7:Sl) (at_8 n_9:Int) (t_11:Addr) (Q:VWP) (nx1:Sl→OAd→Int→Sl→Int→World→Prop) (w:World):Prop :=
 ldA w t_11 3 fun c8 =>
 (c8).size=3 ∧
 lt (⟨World.heapSize w,0,none⟩:Addr) fun a9 =>
 lt (World.alloc w (.cells ⟨(spl [.int .u8 0,.int .i64 0,.int .i64 0] 0 c8)⟩ 305)) fun w10 =>
 rdO w10 (some a9) (1 * 3) fun c11 =>
 apK Tryz.prog 305 w10 out_7.a out_7.len out_7.cap 1 c11 fun s12 w13 =>
 qtc.j9 b_0 f_5 looks_6 s12 at_8 n_9 0 Q nx1 w13
def qtc.j7 (b_0:Sl) (f_5:OAd) (looks_6:Int) (out_7:Sl) (at_8 n_9 d_10:Int) (Q:VWP) (nx1:Sl→OAd→Int→Sl→Int→World→Prop) (w:World):Prop :=
 lt (⟨World.heapSize w,0,none⟩:Addr) fun a14 =>
 lt (World.alloc w (.cells (zc Tryz.prog 305) 305)) fun w15 =>
 ((⟨[.int .u8 0,.int .i64 n_9,.int .i64 d_10]⟩:Array Value)).size=3 ∧
 stA w15 a14 (⟨[.int .u8 0,.int .i64 n_9,.int .i64 d_10]⟩:Array Value) fun w16 =>
 br (decide ((n_9:Int) < 3)) (
 ixS b_0.a b_0.len at_8 1 fun a17 =>
 ldI .u8 w16 a17 fun x18 =>
 ((⟨[.int .u8 x18,.int .i64 0,.int .i64 0]⟩:Array Value)).size=3 ∧
 stA w16 a14 (⟨[.int .u8 x18,.int .i64 0,.int .i64 0]⟩:Array Value) fun w19 =>
 qtc.j8 b_0 f_5 looks_6 out_7 at_8 1 a14 Q nx1 w19) (
 qtc.j8 b_0 f_5 looks_6 out_7 at_8 n_9 a14 Q nx1 w16)
def qtc.j6 (b_0:Sl) (f_5:OAd) (looks_6:Int) (out_7:Sl) (at_8:Int) (Q:VWP) (nx1:Sl→OAd→Int→Sl→Int→World→Prop) (w:World):Prop :=
 Calls Tryz.prog 199 ⟨[.pointer f_5,.int .i64 at_8,.int .i64 looks_6]⟩ w fun e20 w21 =>
 ∃ r22:Int,∃ r23:Int,e20=.returned (.tuple ⟨[.int .i64 r22,.int .i64 r23]⟩) ∧
 qtc.j7 b_0 f_5 looks_6 out_7 at_8 r22 r23 Q nx1 w21
def qtc.b1 (b_0:Sl) (f_5:OAd) (looks_6:Int) (out_7:Sl) (at_8:Int) (Q:VWP) (nx1:Sl→OAd→Int→Sl→Int→World→Prop) (w:World):Prop :=
 br (decide ((at_8:Int) < ((b_0.len:Nat):Int))) (
 qtc.j6 b_0 f_5 looks_6 out_7 at_8 Q nx1 w) (
 qtc.j4 out_7 Q w)
def qtc.l1 (b_0:Sl) (f_5:OAd) (looks_6:Int) (out_7:Sl) (at_8:Int) (Q:VWP) (w:World):Prop :=
 ∃ (I:Sl→Int→World→Prop) (μ:Sl→Int→World→Nat),I out_7 at_8 w∧∀ out_7:Sl,∀ at_8:Int,∀ w:World,I out_7 at_8 w→qtc.b1 b_0 f_5 looks_6 out_7 at_8 Q (fun b_0' f_5' looks_6' out_7' at_8' w'=>(b_0'=b_0∧f_5'=f_5∧looks_6'=looks_6)∧I out_7' at_8' w'∧μ out_7' at_8' w' < μ out_7 at_8 w) w
def qtc.j5 (b_0:Sl) (f_5:OAd) (looks_6:Int) (out_7:Sl) (at_8:Int) (Q:VWP) (w:World):Prop :=
 qtc.l1 b_0 f_5 looks_6 out_7 at_8 Q w
def qtc.j3 (b_0:Sl) (f_5:OAd) (looks_6:Int) (out_7:Sl) (Q:VWP) (w:World):Prop :=
 qtc.j5 b_0 f_5 looks_6 out_7 0 Q w
def qtc.j2 (b_0:Sl) (effort_1:Int) (f_5:OAd) (Q:VWP) (w:World):Prop :=
 lt (if (0:Int) > effort_1 then 0 else effort_1) fun x24 =>
 lt (if (4096:Int) < x24 then 4096 else x24) fun x25 =>
 qtc.j3 b_0 f_5 x25 ⟨none,0,0⟩ Q w
def qtc.j1 (b_0:Sl) (effort_1:Int) (Q:VWP) (w:World):Prop :=
 br (decide ((((b_0.len:Nat):Int):Int) > 262144)) (
 Q (.slice none 0 0) w) (
 ∃ n26:Nat,∃ w27:World,mmR Tryz.prog 311 none w n26 w27 ∧
 lt (⟨World.heapSize w27,0,none⟩:Addr) fun a28 =>
 lt (World.alloc w27 (.cells (⟨[.slice b_0.a b_0.len b_0.cap,.map (some n26),.slice none 0 0]⟩:Array Value) 313)) fun w29 =>
 qtc.j2 b_0 effort_1 (some a28) Q w29)
def qtc (b_0:Sl) (effort_1:Int) (Q:VWP) (w:World):Prop :=
 qtc.j1 b_0 effort_1 Q w
theorem qtc.ok (b_0:Sl) (effort_1:Int) (Q:VWP) (w:World) (h:qtc b_0 effort_1 Q w):Calls Tryz.prog 130 ⟨[.slice b_0.a b_0.len b_0.cap,.int .i64 effort_1]⟩ w (Ret Q):=by
 refine qp [.tmp 4] Tryz.func130 rfl rfl rfl rfl ?_
 refine qu (fun ρ w=>asL (ρ 0) fun b_0=>asI .i64 (ρ 1) fun effort_1=>qtc.j1 b_0 effort_1 Q w) ?_ ?_
 · skip
   exact qg qpb _ (Eq.mp (by kernel_rfl) h)
 · intro ρ w h
   obtain ⟨b_0,e0,h⟩:=ql h
   obtain ⟨effort_1,e1,h⟩:=qd h
   refine qb e0 (qb (qa e1 rfl) ?_)
   refine qfb qpb (fun ρ w=>asL (ρ 0) fun b_0=>asI .i64 (ρ 1) fun effort_1=>asP (ρ 5) fun f_5=>qtc.j2 b_0 effort_1 f_5 Q w) (Eq.mp (by kernel_rfl) h) ?_
   intro ρ w h
   obtain ⟨b_0,e0,h⟩:=ql h
   obtain ⟨effort_1,e1,h⟩:=qd h
   obtain ⟨f_5,e5,h⟩:=qr h
   refine qb e0 (qb (qa e1 rfl) (qb (qa (qa e5 rfl) rfl) ?_))
   refine qfb qpb (fun ρ w=>asL (ρ 0) fun b_0=>asP (ρ 5) fun f_5=>asI .i64 (ρ 6) fun looks_6=>asL (ρ 7) fun out_7=>qtc.j3 b_0 f_5 looks_6 out_7 Q w) (Eq.mp (by kernel_rfl) h) ?_
   intro ρ w h
   obtain ⟨b_0,e0,h⟩:=ql h
   obtain ⟨f_5,e5,h⟩:=qr h
   obtain ⟨looks_6,e6,h⟩:=qd h
   obtain ⟨out_7,e7,h⟩:=ql h
   refine qb e0 (qb (qa e5 rfl) (qb (qa (qa e6 rfl) rfl) (qb (qa (qa (qa e7 rfl) rfl) rfl) ?_)))
   refine qu (fun ρ w=>asL (ρ 7) fun out_7=>qtc.j4 out_7 Q w) ?_ ?_
   · skip
     refine qu (fun ρ w=>asL (ρ 0) fun b_0=>asP (ρ 5) fun f_5=>asI .i64 (ρ 6) fun looks_6=>asL (ρ 7) fun out_7=>asI .i64 (ρ 8) fun at_8=>qtc.j5 b_0 f_5 looks_6 out_7 at_8 Q w) ?_ ?_
     · skip
       exact qg qpb _ (Eq.mp (by kernel_rfl) h)
     · intro ρ w h
       obtain ⟨b_0,e0,h⟩:=ql h
       obtain ⟨f_5,e5,h⟩:=qr h
       obtain ⟨looks_6,e6,h⟩:=qd h
       obtain ⟨out_7,e7,h⟩:=ql h
       obtain ⟨at_8,e8,h⟩:=qd h
       refine qb e0 (qb (qa e5 rfl) (qb (qa (qa e6 rfl) rfl) (qb (qa (qa (qa e7 rfl) rfl) rfl) (qb (qa (qa (qa (qa e8 rfl) rfl) rfl) rfl) ?_))))
       refine qcb ?_
       obtain ⟨I,μ,hI,hr⟩:=h
       refine qlb (α:=Sl × Int) (fun s ρ=>ρ 7=.slice s.1.a s.1.len s.1.cap∧ρ 8=.int .i64 s.2∧ρ 0=.slice b_0.a b_0.len b_0.cap∧ρ 5=.pointer f_5∧ρ 6=.int .i64 looks_6) (fun s w=>I s.1 s.2 w) (fun s w=>μ s.1 s.2 w) (out_7,at_8) ⟨rfl,rfl,rfl,rfl,rfl⟩ hI ?_
       rintro ⟨out_7,at_8⟩ ρ w ⟨e7,e8,e0,e5,e6⟩ hI
       have h:=hr out_7 at_8 w hI
       clear hr
       obtain ⟨nx1,hnx⟩:∃ nx:Sl→OAd→Int→Sl→Int→World→Prop,nx=(fun b_0' f_5' looks_6' out_7' at_8' w'=>(b_0'=b_0∧f_5'=f_5∧looks_6'=looks_6)∧I out_7' at_8' w'∧μ out_7' at_8' w' < μ out_7 at_8 w):=⟨_,rfl⟩
       rw [← hnx] at h
       refine qsb (M:=fun ρ w=>asL (ρ 0) fun b_0=>asP (ρ 5) fun f_5=>asI .i64 (ρ 6) fun looks_6=>asL (ρ 7) fun out_7=>asI .i64 (ρ 8) fun at_8=>nx1 b_0 f_5 looks_6 out_7 at_8 w) ?_ (fun ρ w h=>?_)
       · skip
         refine qb e0 (qb (qa e5 rfl) (qb (qa (qa e6 rfl) rfl) (qb (qa (qa (qa e7 rfl) rfl) rfl) (qb (qa (qa (qa (qa e8 rfl) rfl) rfl) rfl) ?_))))
         refine qu (fun ρ w=>asL (ρ 0) fun b_0=>asP (ρ 5) fun f_5=>asI .i64 (ρ 6) fun looks_6=>asL (ρ 7) fun out_7=>asI .i64 (ρ 8) fun at_8=>qtc.j6 b_0 f_5 looks_6 out_7 at_8 Q nx1 w) ?_ ?_
         · skip
           exact qg qpb _ (Eq.mp (by kernel_rfl) h)
         · intro ρ w h
           obtain ⟨b_0,e0,h⟩:=ql h
           obtain ⟨f_5,e5,h⟩:=qr h
           obtain ⟨looks_6,e6,h⟩:=qd h
           obtain ⟨out_7,e7,h⟩:=ql h
           obtain ⟨at_8,e8,h⟩:=qd h
           refine qb e0 (qb (qa e5 rfl) (qb (qa (qa e6 rfl) rfl) (qb (qa (qa (qa e7 rfl) rfl) rfl) (qb (qa (qa (qa (qa e8 rfl) rfl) rfl) rfl) ?_))))
           refine qcb ?_
           refine qu (fun ρ w=>asL (ρ 0) fun b_0=>asP (ρ 5) fun f_5=>asI .i64 (ρ 6) fun looks_6=>asL (ρ 7) fun out_7=>asI .i64 (ρ 8) fun at_8=>asI .i64 (ρ 9) fun n_9=>asI .i64 (ρ 10) fun d_10=>qtc.j7 b_0 f_5 looks_6 out_7 at_8 n_9 d_10 Q nx1 w) ?_ ?_
           · skip
             exact qg qpb _ (Eq.mp (by kernel_rfl) h)
           · intro ρ w h
             obtain ⟨b_0,e0,h⟩:=ql h
             obtain ⟨f_5,e5,h⟩:=qr h
             obtain ⟨looks_6,e6,h⟩:=qd h
             obtain ⟨out_7,e7,h⟩:=ql h
             obtain ⟨at_8,e8,h⟩:=qd h
             obtain ⟨n_9,e9,h⟩:=qd h
             obtain ⟨d_10,e10,h⟩:=qd h
             refine qb e0 (qb (qa e5 rfl) (qb (qa (qa e6 rfl) rfl) (qb (qa (qa (qa e7 rfl) rfl) rfl) (qb (qa (qa (qa (qa e8 rfl) rfl) rfl) rfl) (qb (qa (qa (qa (qa (qa e9 rfl) rfl) rfl) rfl) rfl) (qb (qa (qa (qa (qa (qa (qa e10 rfl) rfl) rfl) rfl) rfl) rfl) ?_))))))
             refine qfb qpb (fun ρ w=>asL (ρ 0) fun b_0=>asP (ρ 5) fun f_5=>asI .i64 (ρ 6) fun looks_6=>asL (ρ 7) fun out_7=>asI .i64 (ρ 8) fun at_8=>asI .i64 (ρ 9) fun n_9=>asA (ρ 11) fun t_11=>qtc.j8 b_0 f_5 looks_6 out_7 at_8 n_9 t_11 Q nx1 w) (Eq.mp (by kernel_rfl) h) ?_
             intro ρ w h
             obtain ⟨b_0,e0,h⟩:=ql h
             obtain ⟨f_5,e5,h⟩:=qr h
             obtain ⟨looks_6,e6,h⟩:=qd h
             obtain ⟨out_7,e7,h⟩:=ql h
             obtain ⟨at_8,e8,h⟩:=qd h
             obtain ⟨n_9,e9,h⟩:=qd h
             obtain ⟨t_11,e11,h⟩:=qbf h
             refine qb e0 (qb (qa e5 rfl) (qb (qa (qa e6 rfl) rfl) (qb (qa (qa (qa e7 rfl) rfl) rfl) (qb (qa (qa (qa (qa e8 rfl) rfl) rfl) rfl) (qb (qa (qa (qa (qa (qa e9 rfl) rfl) rfl) rfl) rfl) (qb (qa (qa (qa (qa (qa (qa e11 rfl) rfl) rfl) rfl) rfl) rfl) ?_))))))
             refine qfb qpb (fun ρ w=>asL (ρ 0) fun b_0=>asP (ρ 5) fun f_5=>asI .i64 (ρ 6) fun looks_6=>asL (ρ 7) fun out_7=>asI .i64 (ρ 8) fun at_8=>asI .i64 (ρ 47) fun t47=>asI .i64 (ρ 48) fun t48=>qtc.j9 b_0 f_5 looks_6 out_7 at_8 t47 t48 Q nx1 w) (Eq.mp (by kernel_rfl) h) ?_
             intro ρ w h
             obtain ⟨b_0,e0,h⟩:=ql h
             obtain ⟨f_5,e5,h⟩:=qr h
             obtain ⟨looks_6,e6,h⟩:=qd h
             obtain ⟨out_7,e7,h⟩:=ql h
             obtain ⟨at_8,e8,h⟩:=qd h
             obtain ⟨t47,e47,h⟩:=qd h
             obtain ⟨t48,e48,h⟩:=qd h
             refine qb e0 (qb (qa e5 rfl) (qb (qa (qa e6 rfl) rfl) (qb (qa (qa (qa e7 rfl) rfl) rfl) (qb (qa (qa (qa (qa e8 rfl) rfl) rfl) rfl) (qb (qa (qa (qa (qa (qa e47 rfl) rfl) rfl) rfl) rfl) (qb (qa (qa (qa (qa (qa (qa e48 rfl) rfl) rfl) rfl) rfl) rfl) ?_))))))
             refine qcb ?_
             obtain ⟨I,μ,hI,hr⟩:=h
             refine qlb (α:=Int × Int) (fun s ρ=>ρ 8=.int .i64 s.1∧ρ 48=.int .i64 s.2∧ρ 0=.slice b_0.a b_0.len b_0.cap∧ρ 5=.pointer f_5∧ρ 6=.int .i64 looks_6∧ρ 7=.slice out_7.a out_7.len out_7.cap∧ρ 47=.int .i64 t47) (fun s w=>I s.1 s.2 w) (fun s w=>μ s.1 s.2 w) (at_8,t48) ⟨rfl,rfl,rfl,rfl,rfl,rfl,rfl⟩ hI ?_
             rintro ⟨at_8,t48⟩ ρ w ⟨e8,e48,e0,e5,e6,e7,e47⟩ hI
             have h:=hr at_8 t48 w hI
             clear hr
             obtain ⟨nx2,hnx⟩:∃ nx:Sl→OAd→Int→Sl→Int→Int→Int→World→Prop,nx=(fun b_0' f_5' looks_6' out_7' t47' at_8' t48' w'=>(b_0'=b_0∧f_5'=f_5∧looks_6'=looks_6∧out_7'=out_7∧t47'=t47)∧I at_8' t48' w'∧μ at_8' t48' w' < μ at_8 t48 w):=⟨_,rfl⟩
             rw [← hnx] at h
             refine qsb (M:=fun ρ w=>asL (ρ 0) fun b_0=>asP (ρ 5) fun f_5=>asI .i64 (ρ 6) fun looks_6=>asL (ρ 7) fun out_7=>asI .i64 (ρ 47) fun t47=>asI .i64 (ρ 8) fun at_8=>asI .i64 (ρ 48) fun t48=>nx2 b_0 f_5 looks_6 out_7 t47 at_8 t48 w) ?_ (fun ρ w h=>?_)
             · skip
               refine qb e0 (qb (qa e5 rfl) (qb (qa (qa e6 rfl) rfl) (qb (qa (qa (qa e7 rfl) rfl) rfl) (qb (qa (qa (qa (qa e8 rfl) rfl) rfl) rfl) (qb (qa (qa (qa (qa (qa e47 rfl) rfl) rfl) rfl) rfl) (qb (qa (qa (qa (qa (qa (qa e48 rfl) rfl) rfl) rfl) rfl) rfl) ?_))))))
               exact qg qpb _ (Eq.mp (by kernel_rfl) h)
             · skip
               obtain ⟨b_0',e0',h⟩:=ql h
               obtain ⟨f_5',e5',h⟩:=qr h
               obtain ⟨looks_6',e6',h⟩:=qd h
               obtain ⟨out_7',e7',h⟩:=ql h
               obtain ⟨t47',e47',h⟩:=qd h
               obtain ⟨at_8',e8',h⟩:=qd h
               obtain ⟨t48',e48',h⟩:=qd h
               rw [hnx] at h
               obtain ⟨hu,hI2,hμ⟩:=h
               obtain ⟨rfl,rfl,rfl,rfl,rfl⟩:=hu
               exact ⟨(at_8',t48'),⟨e8',e48',e0',e5',e6',e7',e47'⟩,hI2,hμ⟩
       · skip
         obtain ⟨b_0',e0',h⟩:=ql h
         obtain ⟨f_5',e5',h⟩:=qr h
         obtain ⟨looks_6',e6',h⟩:=qd h
         obtain ⟨out_7',e7',h⟩:=ql h
         obtain ⟨at_8',e8',h⟩:=qd h
         rw [hnx] at h
         obtain ⟨hu,hI2,hμ⟩:=h
         obtain ⟨rfl,rfl,rfl⟩:=hu
         exact ⟨(out_7',at_8'),⟨e7',e8',e0',e5',e6'⟩,hI2,hμ⟩
   · intro ρ w h
     obtain ⟨out_7,e7,h⟩:=ql h
     refine qb e7 ?_
     exact qg qpb _ (Eq.mp (by kernel_rfl) h)
def qzf (s_0:Sl) (Q:VWP) (w:World):Prop :=
 bd ((s_0.len:Nat):Int) s_0.cap fun n1 =>
 bd ((s_0.len:Nat):Int) n1 fun n2 =>
 lt (⟨qwf s_0.a n1 0 3,n2 - 0,n1 - 0⟩:Sl) fun s3 =>
 Q (.slice s3.a s3.len s3.cap) w
theorem qzf.ok (s_0:Sl) (Q:VWP) (w:World) (h:qzf s_0 Q w):Calls Tryz.prog 201 ⟨[.slice s_0.a s_0.len s_0.cap]⟩ w (Ret Q):=by
 refine qp [.tmp 2] Tryz.func201 rfl rfl rfl rfl ?_
 exact qg qpb _ (Eq.mp (by kernel_rfl) h)
end Go.Proofs.YthdmmmfgjmmelaaGreat
namespace Go.Proofs.YthdmmmfgjmmelaaGreat
open Go Go.Proofs
set_option linter.unusedVariables false
set_option linter.unusedSimpArgs false
attribute [local irreducible] apK cpK mkK br
abbrev tks (L:List Tk):List Value:=tri .u8 .i64 .i64 L
def tkC (t:Tk):List Value:=[.int .u8 t.1,.int .i64 t.2.1,.int .i64 t.2.2]
theorem zc_tok:zc Tryz.prog 305=⟨[.int .u8 0,.int .i64 0,.int .i64 0]⟩:=by kernel_rfl
theorem tks_snoc (L:List Tk) (t:Tk):tks (L ++ [t])=tks L ++ tkC t:=by simp [tri,tkC]
theorem qfl (t:Tk):∀ v ∈ (⟨tkC t⟩:Array Value),storable v:=by
 intro v hv
 have hv:v ∈ tkC t:=by simpa using hv
 simp [tkC] at hv
 rcases hv with rfl | rfl | rfl <;> trivial
section
variable {F0:List Nat} {w0 w:World} {ps rest:List As} {L:List Tk}
theorem Rd.ixT {s:Sl} {i:Int} {K:Addr→Prop} (h:Rd w 3 s (tks L)) (j:Nat) (hi:i=j) (hj:j < L.length)
 (hk:∀ a,w.cell? (a.add 0)=some (.int .u8 L[j].1)→w.cell? (a.add 1)=some (.int .i64 L[j].2.1)→w.cell? (a.add 2)=some (.int .i64 L[j].2.2)→K a):ixS s.a s.len i 3 K:=by
 subst hi
 have hl:=h.1
 rw [qrh] at hl
 refine h.ix (by decide) (by omega) (by omega) fun a ha=>?_
 rw [show ((j:Int)).toNat * 3=j * 3 by omega]
 obtain ⟨g1,g2,g3⟩:=tri_get .u8 .i64 .i64 L j hj
 refine hk _ ?_ ?_ ?_
 · rw [qvm,h.cell ha (by rw [qrh]; omega)]; exact g1
 · rw [qvm,h.cell ha (by rw [qrh]; omega)]; exact g2
 · rw [qvm,h.cell ha (by rw [qrh]; omega)]; exact g3
theorem ldA_tok {a:Addr} {t:Tk} {K:Array Value→Prop} (h0:w.cell? (a.add 0)=some (.int .u8 t.1)) (h1:w.cell? (a.add 1)=some (.int .i64 t.2.1)) (h2:w.cell? (a.add 2)=some (.int .i64 t.2.2)) (hk:K ⟨tkC t⟩):ldA w a 3 K :=
 ⟨⟨tkC t⟩,rfl,fun i hi=>by
   have:i=0 ∨ i=1 ∨ i=2:=by omega
   rcases this with rfl | rfl | rfl
   · rw [h0]; rfl
   · rw [h1]; rfl
   · rw [h2]; rfl,hk⟩
theorem St.ltok {s:Sl} {i:Int} {K:Array Value→Prop} (h:St F0 w0 w ps) [Rdb F0 w0 s ps 3 (tks L)] (j:Nat) (hi:i=j) (hj:j < L.length) (hk:K ⟨tkC L[j]⟩):ixS s.a s.len i 3 fun a=>ldA w a 3 K :=
 (h.rdb s).ixT j hi hj fun a h0 h1 h2=>ldA_tok h0 h1 h2 hk
theorem St.lt0 {s:Sl} {i:Int} {K:Int→Prop} (h:St F0 w0 w ps) [Rdb F0 w0 s ps 3 (tks L)] (j:Nat) (hi:i=j) (hj:j < L.length) (hk:K L[j].1):ixS s.a s.len i 3 fun a=>ldI .u8 w (Addr.add a 0) K :=
 (h.rdb s).ixT j hi hj fun a h0 h1 h2=>ldI_c h0 hk
theorem St.lt1 {s:Sl} {i:Int} {K:Int→Prop} (h:St F0 w0 w ps) [Rdb F0 w0 s ps 3 (tks L)] (j:Nat) (hi:i=j) (hj:j < L.length) (hk:K L[j].2.1):ixS s.a s.len i 3 fun a=>ldI .i64 w (Addr.add a 1) K :=
 (h.rdb s).ixT j hi hj fun a h0 h1 h2=>ldI_c h1 hk
theorem St.lt2 {s:Sl} {i:Int} {K:Int→Prop} (h:St F0 w0 w ps) [Rdb F0 w0 s ps 3 (tks L)] (j:Nat) (hi:i=j) (hj:j < L.length) (hk:K L[j].2.2):ixS s.a s.len i 3 fun a=>ldI .i64 w (Addr.add a 2) K :=
 (h.rdb s).ixT j hi hj fun a h0 h1 h2=>ldI_c h2 hk
theorem St.tokN {t:Tk} {K:Addr→World→Prop} (h:St F0 w0 w ps) (hk:∀ nb w',St F0 w0 w' (qjd nb (tkC t) :: ps)→K ⟨nb,0,none⟩ w') :
 lt (⟨World.heapSize w,0,none⟩:Addr) fun a=>lt (World.alloc w (.cells (zc Tryz.prog 305) 305)) fun w1=>(⟨tkC t⟩:Array Value).size=3∧Go.Proofs.YthdmmmfgjmmelaaGreat.stA w1 a ⟨tkC t⟩ fun w2=>K a w2:=by
 rw [zc_tok]
 refine h.new fun nb w h=>⟨rfl,?_⟩
 exact h.sA (l:=[.int .u8 0,.int .i64 0,.int .i64 0]) rfl rfl (qfl t) fun w h=>hk nb w h
end
end Go.Proofs.YthdmmmfgjmmelaaGreat
namespace Go.Proofs.YthdmmmfgjmmelaaGreat
set_option linter.unusedVariables false
set_option linter.unusedSimpArgs false
def qal (b:List Int) (i:Nat):Int × Int × Int:=(b.getD i 0,b.getD (i+1) 0,b.getD (i+2) 0)
def lastK (b:List Int) (k:Int × Int × Int):Nat→Option Nat
 | 0=>none
 | n+1=>if qal b n=k then some n else lastK b k n
theorem qam {b:List Int} {k:Int × Int × Int}:∀ {n i:Nat},lastK b k n=some i→i < n∧qal b i=k∧∀ j,i < j→j < n→qal b j ≠ k:=by
 intro n
 induction n with
 | zero=>intro i h; cases h
 | succ n ih =>
   intro i h
   rw [lastK] at h
   split at h
   · rename_i hk
     injection h with h
     subst h
     exact ⟨by omega,hk,fun j h1 h2=>by omega⟩
   · rename_i hk
     obtain ⟨h1,h2,h3⟩:=ih h
     refine ⟨by omega,h2,fun j h4 h5=>?_⟩
     by_cases e:j=n
     · subst e; exact hk
     · exact h3 j h4 (by omega)
def sameN (b:List Int) (i k:Nat):Nat→Nat→Nat
 | 0,n=>n
 | f+1,n=>if k+n < b.length∧b.getD (i+n) 0=b.getD (k+n) 0 then sameN b i k f (n+1) else n
def same (b:List Int) (i k:Nat):Nat:=sameN b i k 258 0
theorem qgr (b:List Int) (i k:Nat):∀ f n,(∀ j,j < n→k+j < b.length∧b.getD (i+j) 0=b.getD (k+j) 0) →
 n≤sameN b i k f n∧sameN b i k f n≤n+f∧(∀ j,j < sameN b i k f n→k+j < b.length∧b.getD (i+j) 0=b.getD (k+j) 0) ∧
 (sameN b i k f n < n+f→¬ (k+sameN b i k f n < b.length∧b.getD (i+sameN b i k f n) 0=b.getD (k+sameN b i k f n) 0)):=by
 intro f
 induction f with
 | zero=>intro n h; exact ⟨Nat.le_refl _,Nat.le_refl _,h,fun h1=>by simp [sameN] at h1⟩
 | succ f ih =>
   intro n h
   rw [sameN]
   split
   · rename_i hc
     obtain ⟨h1,h2,h3,h4⟩:=ih (n+1) (fun j hj=>by
      by_cases e:j=n
      · subst e; exact hc
      · exact h j (by omega))
     exact ⟨by omega,by omega,h3,fun hlt=>h4 (by omega)⟩
   · rename_i hc
     exact ⟨Nat.le_refl _,by omega,h,fun _=>hc⟩
theorem same_le (b:List Int) (i k:Nat):same b i k≤258:=by have:=(qgr b i k 258 0 (fun j hj=>by omega)).2.1; unfold same; omega
theorem same_eq {b:List Int} {i k j:Nat} (h:j < same b i k):k+j < b.length∧b.getD (i+j) 0=b.getD (k+j) 0:=(qgr b i k 258 0 (fun j hj=>by omega)).2.2.1 j h
def walkL (b:List Int) (at':Nat):Nat→Nat→Nat→Nat→Nat × Nat
 | 0,_,n,d=>(n,d)
 | f+1,i,n,d =>
   if 32768 < at' - i then (n,d)
   else
    let n':=if n < same b i at' then same b i at' else n
    let d':=if n < same b i at' then at' - i else d
    match lastK b (qal b i) i with
    | none=>(n',d')
    | some j=>if n'=258 then (n',d') else walkL b at' f j n' d'
def bestL (b:List Int) (at' looks:Nat):Nat × Nat :=
 if b.length < at'+3 then (0,0) else match lastK b (qal b at') at' with
  | none=>(0,0)
  | some i=>walkL b at' looks i 0 0
def goodC (b:List Int) (at':Nat) (x:Nat × Nat):Prop:=x.1=0 ∨ (x.1≤258∧1≤x.2∧x.2≤at'∧x.2≤32768∧at'+x.1≤b.length∧∀ j,j < x.1→b.getD (at' - x.2+j) 0=b.getD (at'+j) 0)
theorem goodC_same {b:List Int} {at' i:Nat} (hi:i < at') (hf:¬ 32768 < at' - i):goodC b at' (same b i at',at' - i):=by
 rcases Nat.eq_zero_or_pos (same b i at') with h0 | h0
 · exact Or.inl h0
 · right
   refine ⟨same_le _ _ _,by show 1≤at' - i; omega,by show at' - i≤at'; omega,by show at' - i≤32768; omega,?_,fun j hj=>?_⟩
   · have:=(same_eq (b:=b) (i:=i) (k:=at') (j:=same b i at' - 1) (by omega)).1
     show at'+same b i at'≤b.length
     omega
   · show b.getD (at' - (at' - i)+j) 0=_
     rw [show at' - (at' - i)=i by omega]
     exact (same_eq hj).2
theorem walkL_good (b:List Int) (at':Nat):∀ f i n d,i < at'→goodC b at' (n,d)→goodC b at' (walkL b at' f i n d):=by
 intro f
 induction f with
 | zero=>intro i n d _ h; exact h
 | succ f ih =>
   intro i n d hi h
   rw [walkL]
   split
   · exact h
   · rename_i hf
     have hg:goodC b at' (if n < same b i at' then same b i at' else n,if n < same b i at' then at' - i else d):=by
      by_cases hl:n < same b i at'
      · rw [if_pos hl,if_pos hl]; exact goodC_same hi hf
      · rw [if_neg hl,if_neg hl]; exact h
     simp only
     generalize (if n < same b i at' then same b i at' else n)=n2 at hg ⊢
     generalize (if n < same b i at' then at' - i else d)=d2 at hg ⊢
     split
     · exact hg
     · rename_i j hj
       have:=(qam hj).1
       split
       · exact hg
       · exact ih _ _ _ (by omega) hg
theorem qvr (b:List Int) (at' looks:Nat):goodC b at' (bestL b at' looks):=by
 unfold bestL
 split
 · exact Or.inl rfl
 · split
   · exact Or.inl rfl
   · rename_i i hi
     exact walkL_good _ _ _ _ _ _ (qam hi).1 (Or.inl rfl)
def stepL (b:List Int) (looks at':Nat):(Int × Int × Int) × Nat :=
 let x:=bestL b at' looks
 if x.1 < 3 then ((b.getD at' 0,0,0),1) else ((0,(x.1:Int),(x.2:Int)),x.1)
def findL (b:List Int) (looks:Nat):Nat→Nat→List (Int × Int × Int)
 | 0,_=>[]
 | f+1,at'=>if at' < b.length then (stepL b looks at').1 :: findL b looks f (at'+(stepL b looks at').2) else []
theorem qbn (b:List Int) (looks at':Nat):0 < (stepL b looks at').2:=by
 unfold stepL
 simp only
 split
 · exact Nat.zero_lt_one
 · simp only; omega
theorem stepL_le (b:List Int) (looks at':Nat) (h:at' < b.length):at'+(stepL b looks at').2≤b.length:=by
 unfold stepL
 simp only
 split
 · simp only; omega
 · rename_i h3
   simp only
   rcases qvr b at' looks with h1 | h1
   · omega
   · exact h1.2.2.2.2.1
theorem findL_fuel (b:List Int) (looks:Nat):∀ f g at',b.length - at'≤f→b.length - at'≤g→findL b looks f at'=findL b looks g at':=by
 intro f
 induction f with
 | zero =>
   intro g at' h1 h2
   cases g with
   | zero=>rfl
   | succ g=>rw [findL,findL,if_neg (by omega)]
 | succ f ih =>
   intro g at' h1 h2
   cases g with
   | zero=>rw [findL,findL,if_neg (by omega)]
   | succ g =>
     rw [findL,findL]
     split
     · have:=qbn b looks at'
       congr 1
       exact ih g _ (by omega) (by omega)
     · rfl
end Go.Proofs.YthdmmmfgjmmelaaGreat
namespace Go.Proofs.YthdmmmfgjmmelaaGreat
open Go Go.Proofs Go.ChangeShapes Go.WideShapes Go.MapKept Go.Maps
set_option linter.unusedVariables false
set_option linter.unusedSimpArgs false
attribute [local irreducible] apK cpK mkK br
abbrev kyL (k:Int × Int × Int):List Value:=[.int .u8 k.1,.int .u8 k.2.1,.int .u8 k.2.2]
def kyV (k:Int × Int × Int):Value:=.agg ⟨kyL k⟩
theorem kyV_inj {a b:Int × Int × Int} (h:kyV a=kyV b):a=b:=by
 obtain ⟨a1,a2,a3⟩:=a
 obtain ⟨b1,b2,b3⟩:=b
 simpa [kyV] using h
def kyB (k:Int × Int × Int):Prop:=(0≤k.1∧k.1 < 256)∧(0≤k.2.1∧k.2.1 < 256)∧(0≤k.2.2∧k.2.2 < 256)
theorem key_lit {P:Program} {t e:TypeId} {m:Nat} (h1:P.underlying t=some (.array 3 e)) (h2:P.underlying e=some (.int .u8)) (h3:P.cellsOf t=3) (h4:P.cellsOf e=1) (h5:P.keyType t=true) (h6:P.types.size+1=m+2) {k:Int × Int × Int} (hk:kyB k):∃ l,keyOf P t (kyV k)=some l:=by
 obtain ⟨⟨a1,a2⟩,⟨b1,b2⟩,⟨c1,c2⟩⟩:=hk
 have wf:∀ n:Int,0≤n→n < 256→(Lit.int .u8 n).wf=true:=by
  intro n h0 h1
  simp [Lit.wf,show IntKind.u8.min=0 from rfl,show IntKind.u8.max=255 from rfl]
  omega
 have e1:∀ n:Int,0≤n→n < 256→P.keyLits (m+1) e [.int .u8 n]=some [.int .u8 n]:=by
  intro n h0 h1
  unfold Program.keyLits
  rw [h2]
  simp [wf n h0 h1]
 have e2:∃ ls,P.keyLits (m+2) t (kyL k)=some ls:=by
  unfold Program.keyLits
  rw [h1]
  simp only [h3,h4]
  rw [if_pos (show (kyL k).length=3 from rfl),show List.range 3=[0,1,2] from rfl]
  simp [e1 _ a1 a2,e1 _ b1 b2,e1 _ c1 c2]
 obtain ⟨ls,e2⟩:=e2
 unfold keyOf
 rw [h1]
 have e3:(kyV k).formed P t=true:=by simp [kyV,Value.formed,h1,h3]
 have e4:(kyV k).cells.toList=kyL k:=rfl
 simp only [h5,e3,e4,h6,e2]
 exact ⟨_,rfl⟩
theorem ky_keyed:Keyed Tryz.prog 381:=keyed_deep f_laid (m:=2) (by omega) (of_decide_eq_true (by kernel_rfl)) (by kernel_rfl) (by kernel_rfl)
theorem ky_lit {k:Int × Int × Int} (hk:kyB k):∃ l,keyOf Tryz.prog 381 (kyV k)=some l :=
 key_lit (e:=5) (m:=Tryz.prog.types.size - 1) (by kernel_rfl) (by kernel_rfl) (by kernel_rfl) (by kernel_rfl) (by kernel_rfl) (by kernel_rfl) hk
theorem ky_map:Tryz.prog.underlying 311=some (.map 381 3):=by kernel_rfl
abbrev kvl (E:List ((Int × Int × Int) × Int)):List (Value × Value):=E.map fun e=>(kyV e.1,.int .i64 e.2)
section
variable {F0:List Nat} {w0 w:World} {ps rest:List As} {b:Nat} {E:List ((Int × Int × Int) × Int)} {k:Int × Int × Int}
theorem kvl_lit (hE:∀ e ∈ E,kyB e.1):∀ p ∈ kvl E,∃ l,keyOf Tryz.prog 381 p.1=some l:=by
 intro p hp
 obtain ⟨e,he,rfl⟩:=List.mem_map.1 hp
 exact ky_lit (hE e he)
theorem St.klook {K:Int→Bool→Prop} (h:St F0 w0 w ps) [PkF mpA b ps (kvl E) rest] (hE:∀ e ∈ E,kyB e.1) (hk:kyB k) (h1:(∀ e ∈ E,e.1 ≠ k)→K 0 false) (h2:∀ e ∈ E,e.1=k→K e.2 true) :
 ∃ r20:Int,∃ r21:Bool,lkR Tryz.prog 311 (.map (some b)) (.agg ⟨kyL k⟩) true w (.tuple ⟨[.int .i64 r20,.bool r21]⟩)∧K r20 r21:=by
 have hz:(zeroValue (3:TypeId)).run Tryz.prog w=.ok (.int .i64 0) w:=by kernel_rfl
 rcases (h.toF mpA b).mlook ky_keyed ky_map (kvl_lit hE) true hz (ky_lit hk) with ⟨h3,h4⟩ | ⟨j,p,h3,h4,h5⟩
 · refine ⟨0,false,h3,h1 fun e he hne=>?_⟩
   exact h4 (kyV e.1,.int .i64 e.2) (List.mem_map.2 ⟨e,he,rfl⟩) (by rw [hne])
 · rw [List.getElem?_map] at h3
   cases he:E[j]? with
   | none=>rw [he] at h3; cases h3
   | some e =>
     rw [he] at h3
     injection h3 with h3
     subst h3
     have hm:e ∈ E:=List.mem_of_getElem? he
     exact ⟨e.2,true,h5,h2 e hm (kyV_inj h4)⟩
theorem St.kset {v:Int} {K:World→Prop} (h:St F0 w0 w ps) [PkF mpA b ps (kvl E) rest] (hE:∀ e ∈ E,kyB e.1) (hk:kyB k)
 (hK:∀ E' w',St F0 w0 w' (mpA b (kvl E') :: rest)→((E'=E ++ [(k,v)]∧∀ e ∈ E,e.1 ≠ k) ∨ ∃ j,∃ e:(Int × Int × Int) × Int,E[j]?=some e∧e.1=k∧E'=E.set j (k,v))→K w') :
 ∃ w',muR Tryz.prog 311 (.map (some b)) (.agg ⟨kyL k⟩) (.int .i64 v) w w'∧K w':=by
 refine (h.toF mpA b).mset ky_keyed ky_map (kvl_lit hE) (ky_lit hk) fun kv' w' h he=>?_
 rcases he with ⟨rfl,h1⟩ | ⟨j,p,h1,h2,rfl⟩
 · refine hK (E ++ [(k,v)]) w' (by rw [show kvl (E ++ [(k,v)])=kvl E ++ [(.agg ⟨kyL k⟩,.int .i64 v)] by simp [kyV]]; exact h) (Or.inl ⟨rfl,fun e he hne=>?_⟩)
   exact h1 (kyV e.1,.int .i64 e.2) (List.mem_map.2 ⟨e,he,rfl⟩) (by rw [hne]; rfl)
 · rw [List.getElem?_map] at h1
   cases he:E[j]? with
   | none=>rw [he] at h1; cases h1
   | some e =>
     rw [he] at h1
     injection h1 with h1
     subst h1
     refine hK (E.set j (k,v)) w' (by rw [show kvl (E.set j (k,v))=(kvl E).set j (.agg ⟨kyL k⟩,.int .i64 v) by rw [kvl,List.map_set]; rfl]; exact h) (Or.inr ⟨j,e,he,kyV_inj h2,rfl⟩)
end
structure KM (b:List Int) (E:List ((Int × Int × Int) × Int)) (n:Nat):Prop where
 val:∀ (j:Nat) (e:(Int × Int × Int) × Int),E[j]?=some e→∃ i:Nat,e.2=(i:Int)∧lastK b e.1 n=some i
 all:∀ k i,lastK b k n=some i→∃ (j:Nat) (e:(Int × Int × Int) × Int),E[j]?=some e∧e.1=k
 one:∀ (i j:Nat) (e e':(Int × Int × Int) × Int),E[i]?=some e→E[j]?=some e'→e.1=e'.1→i=j
theorem KM.nil (b:List Int):KM b [] 0:=⟨fun j e h=>(by simp at h),fun k i h=>(by cases h),fun i j e e' h=>(by simp at h)⟩
theorem KM.next {b:List Int} {E E':List ((Int × Int × Int) × Int)} {n:Nat} (h:KM b E n)
 (he:(E'=E ++ [(qal b n,(n:Int))]∧∀ e ∈ E,e.1 ≠ qal b n) ∨ ∃ j,∃ e:(Int × Int × Int) × Int,E[j]?=some e∧e.1=qal b n∧E'=E.set j (qal b n,(n:Int))):KM b E' (n+1):=by
 rcases he with ⟨rfl,hn⟩ | ⟨j0,e0,hj0,he0,rfl⟩
 · have sn:∀ j e,(E ++ [(qal b n,(n:Int))])[j]?=some e→E[j]?=some e ∨ (j=E.length∧e=(qal b n,(n:Int))):=by
    intro j e hj
    rcases Nat.lt_or_ge j E.length with h1 | h1
    · rw [List.getElem?_append_left h1] at hj; exact Or.inl hj
    · rw [List.getElem?_append_right h1] at hj
      have:j=E.length:=by
       rcases Nat.eq_or_lt_of_le h1 with h2 | h2
       · exact h2.symm
       · rw [List.getElem?_eq_none (by simp; omega)] at hj; cases hj
      subst this
      simp at hj
      exact Or.inr ⟨rfl,hj.symm⟩
   refine ⟨fun j e hj=>?_,fun k i hi=>?_,fun i j e e' hi hj hk=>?_⟩
   · rcases sn j e hj with h1 | ⟨_,rfl⟩
     · obtain ⟨i,h2,h3⟩:=h.val j e h1
       refine ⟨i,h2,?_⟩
       rw [lastK,if_neg (fun e2=>hn e (List.mem_of_getElem? h1) e2.symm)]
       exact h3
     · refine ⟨n,rfl,?_⟩
       rw [lastK,if_pos rfl]
   · rw [lastK] at hi
     split at hi
     · rename_i hk
       exact ⟨E.length,(qal b n,(n:Int)),by simp,hk⟩
     · obtain ⟨j,e,h1,h2⟩:=h.all k i hi
       refine ⟨j,e,?_,h2⟩
       rw [List.getElem?_append_left (List.getElem?_eq_some_iff.1 h1).1]
       exact h1
   · rcases sn i e hi with h1 | ⟨rfl,rfl⟩
     · rcases sn j e' hj with h2 | ⟨rfl,rfl⟩
       · exact h.one i j e e' h1 h2 hk
       · exact absurd hk (hn e (List.mem_of_getElem? h1))
     · rcases sn j e' hj with h2 | ⟨rfl,rfl⟩
       · exact absurd hk.symm (hn e' (List.mem_of_getElem? h2))
       · rfl
 · have hlt:j0 < E.length:=(List.getElem?_eq_some_iff.1 hj0).1
   have sn:∀ j e,(E.set j0 (qal b n,(n:Int)))[j]?=some e→(j=j0∧e=(qal b n,(n:Int))) ∨ (j ≠ j0∧E[j]?=some e):=by
    intro j e hj
    rw [List.getElem?_set] at hj
    by_cases h1:j0=j
    · subst h1
      rw [if_pos rfl,if_pos hlt] at hj
      injection hj with hj
      exact Or.inl ⟨rfl,hj.symm⟩
    · rw [if_neg h1] at hj
      exact Or.inr ⟨fun e=>h1 e.symm,hj⟩
   refine ⟨fun j e hj=>?_,fun k i hi=>?_,fun i j e e' hi hj hk=>?_⟩
   · rcases sn j e hj with ⟨rfl,rfl⟩ | ⟨hne,h1⟩
     · refine ⟨n,rfl,?_⟩
       rw [lastK,if_pos rfl]
     · obtain ⟨i,h2,h3⟩:=h.val j e h1
       refine ⟨i,h2,?_⟩
       rw [lastK,if_neg (fun e2=>hne (h.one j j0 e e0 h1 hj0 (e2.symm.trans he0.symm)))]
       exact h3
   · rw [lastK] at hi
     split at hi
     · rename_i hk
       refine ⟨j0,(qal b n,(n:Int)),?_,hk⟩
       rw [List.getElem?_set,if_pos rfl,if_pos hlt]
     · rename_i hk
       obtain ⟨j,e,h1,h2⟩:=h.all k i hi
       refine ⟨j,e,?_,h2⟩
       rw [List.getElem?_set,if_neg,h1]
       intro hjj
       subst hjj
       rw [hj0] at h1
       injection h1 with h1
       subst h1
       exact hk (he0.symm.trans h2)
   · rcases sn i e hi with ⟨rfl,rfl⟩ | ⟨hne,h1⟩
     · rcases sn j e' hj with ⟨rfl,rfl⟩ | ⟨hne2,h2⟩
       · rfl
       · exact absurd (h.one j i e' e0 h2 hj0 (hk.symm.trans he0.symm)) hne2
     · rcases sn j e' hj with ⟨rfl,rfl⟩ | ⟨hne2,h2⟩
       · exact absurd (h.one i j e e0 h1 hj0 (hk.trans he0.symm)) hne
       · exact h.one i j e e' h1 h2 hk
def prI (b:List Int) (j:Nat):Int:=match lastK b (qal b j) j with
 | none=>-1
 | some i=>(i:Int)
structure FOK (b:List Int) (E:List ((Int × Int × Int) × Int)) (P:List Int) (n:Nat):Prop where
 len:P.length=n
 keys:∀ e ∈ E,kyB e.1
 map:n+2≤b.length→KM b E n
 row:∀ j,j < n→j+3≤b.length→P.getD j 0=prI b j
theorem key_b {b:List Int} (hb:∀ x ∈ b,0≤x∧x < 256) (i:Nat):kyB (qal b i):=by
 have:∀ j,0≤b.getD j 0∧b.getD j 0 < 256:=by
  intro j
  rcases Nat.lt_or_ge j b.length with h | h
  · rw [List.getD,List.getElem?_eq_getElem h]
    exact hb _ (List.getElem_mem h)
  · rw [List.getD,List.getElem?_eq_none h]
    decide
 exact ⟨this _,this _,this _⟩
end Go.Proofs.YthdmmmfgjmmelaaGreat
namespace Go.Proofs.YthdmmmfgjmmelaaGreat
open Go Go.Proofs
set_option linter.unusedVariables false
set_option linter.unusedSimpArgs false
attribute [local irreducible] apK cpK mkK br
def finA (fb mb:Nat) (s p:Sl) (E:List ((Int × Int × Int) × Int)) (P:List Int):As :=
 andA (qjd fb [.slice s.a s.len s.cap,.map (some mb),.slice p.a p.len p.cap]) (andA (mpA mb (kvl E)) (qmc 1 p (ivs .i64 P)))
section
variable {F0:List Nat} {w0 w:World} {ps rest:List As} {xs:List Int} {fb mb:Nat} {s p:Sl} {E:List ((Int × Int × Int) × Int)} {P:List Int}
theorem fin_o (h:St F0 w0 w (finA fb mb s p E P :: ps)):St F0 w0 w (qjd fb [.slice s.a s.len s.cap,.map (some mb),.slice p.a p.len p.cap] :: mpA mb (kvl E) :: qmc 1 p (ivs .i64 P) :: ps):=by
 unfold finA at h
 exact h.split.tail fun _ _ _ h=>h.split
theorem fin_c (h:St F0 w0 w (qjd fb [.slice s.a s.len s.cap,.map (some mb),.slice p.a p.len p.cap] :: mpA mb (kvl E) :: qmc 1 p (ivs .i64 P) :: ps)):St F0 w0 w (finA fb mb s p E P :: ps):=by
 unfold finA
 exact St.join (h.tail fun _ _ _ h=>h.join)
theorem nz_ldA {a:Option Addr} {k:Nat} {K:Array Value→Prop} (h:rdO w a k K) (hk:k ≠ 0):nz a fun a=>ldA w a k K:=by
 cases a with
 | none=>exact absurd h.1 hk
 | some a=>exact h
theorem take3 {i:Nat} (h:i+3≤xs.length):(xs.drop i).take (i+3 - i)=[(qal xs i).1,(qal xs i).2.1,(qal xs i).2.2]:=by
 rw [show i+3 - i=3 by omega]
 rw [List.drop_eq_getElem_cons (by omega),List.drop_eq_getElem_cons (by omega),List.drop_eq_getElem_cons (by omega)]
 show [xs[i],xs[i+1],xs[i+2]]=_
 simp [qal,List.getD,show i < xs.length by omega,show i+1 < xs.length by omega,show i+2 < xs.length by omega]
theorem qle.c {i:Nat} {K:Ending→World→Prop} (h:St F0 w0 w ps) [PkB fb ps [.slice s.a s.len s.cap,.map (some mb),.slice p.a p.len p.cap] rest] [Rdb F0 w0 s ps 1 (u8s xs)] (hc:s.len≤s.cap) (hi:i+3≤xs.length)
 (hk:∀ w',St F0 w0 w' ps→K (.returned (.agg ⟨kyL (qal xs i)⟩)) w'):Calls Tryz.prog 275 ⟨[.pointer (some ⟨fb,0,none⟩),.int .i64 (i:Int)]⟩ w K:=by
 have hl:=(h.rdb s).1
 rw [qx] at hl
 refine qnc (qle.ok _ _ _ _ ?_)
 unfold qle
 rw [show zc Tryz.prog 381=⟨[.int .u8 0,.int .u8 0,.int .u8 0]⟩ by kernel_rfl]
 refine h.new fun nb w h=>?_
 have h:St F0 w0 w (qjd nb [.int .u8 0,.int .u8 0,.int .u8 0] :: ps):=h
 refine qod (h.fL ?_)
 refine qzo rfl (by show i≤s.len; omega) ?_
 refine qwh ?_
 refine ⟨by show 3≤s.len - i; omega,?_⟩
 have hr:=(h.cutR s i (i+3) 0 (by omega) (by omega) hc (take3 hi)).rd h
 refine nz_ldA (hr.rdO (k:=3) rfl ⟨rfl,?_⟩) (by decide)
 refine h.sA (l:=[.int .u8 0,.int .u8 0,.int .u8 0]) (l':=kyL (qal xs i)) rfl rfl (qbh (l:=[(qal xs i).1,(qal xs i).2.1,(qal xs i).2.2])) fun w h=>?_
 refine h.lA rfl ?_
 exact hk w h.drop
theorem qrc.c {i k:Nat} {K:Ending→World→Prop} (h:St F0 w0 w ps) [PkB fb ps [.slice s.a s.len s.cap,.map (some mb),.slice p.a p.len p.cap] rest] [Rdb F0 w0 s ps 1 (u8s xs)] (hik:i < k) (hkl:k≤xs.length) (hlen:xs.length≤1000000)
 (hk:∀ w',St F0 w0 w' ps→K (.returned (.int .i64 (same xs i k:Int))) w'):Calls Tryz.prog 276 ⟨[.pointer (some ⟨fb,0,none⟩),.int .i64 (i:Int),.int .i64 (k:Int)]⟩ w K:=by
 have hl:=(h.rdb s).1
 rw [qx] at hl
 refine qnc (qrc.ok _ _ _ _ _ ?_)
 unfold qrc qrc.j1
 refine qpg (fun (m:Nat) (n':Int) w'=>n'=m∧m≤258∧sameN xs i k (258 - m) m=same xs i k∧St F0 w0 w' ps) (fun m=>258 - m) 0 ⟨rfl,by omega,rfl,h⟩ ?_
 clear h
 rintro m n' wL I μ ⟨rfl,hm,hs,h⟩ hin
 unfold qrc.b1
 refine h.drewK fun w h=>?_
 have done:sameN xs i k (258 - m) m=m→K (.returned (.int .i64 (m:Int))) w:=fun e=>by
  rw [e] at hs
  rw [← hs] at hk
  exact hk w h
 refine qxc (fun g=>?_) (fun g=>?_)
 · obtain ⟨f,hf⟩:∃ f,258 - m=f+1:=⟨258 - m - 1,by omega⟩
   rw [hf,sameN] at hs
   rw [hf,sameN] at done
   refine qw (qi (by omega) (by omega)) ?_
   refine qod (h.fL ?_)
   refine qxc (fun g1=>?_) (fun g1=>?_)
   · have g1:(k:Int)+m < (s.len:Int):=g1
     refine qod (h.fL ?_)
     refine qw (qi (by omega) (by omega)) ?_
     refine h.lx (s:=s) (i+m) (by omega) (by omega) ?_
     refine qod (h.fL ?_)
     refine qw (qi (by omega) (by omega)) ?_
     refine h.lx (s:=s) (k+m) (by omega) (by omega) ?_
     refine qqe (fun g2=>?_) (fun g2=>?_)
     · have g2:xs.getD (i+m) 0=xs.getD (k+m) 0:=by simpa using g2
       rw [if_pos ⟨by omega,g2⟩] at hs
       refine qw (qi (by omega) (by omega)) ?_
       exact ⟨⟨rfl,rfl,rfl⟩,hin (m+1) _ _ ⟨by omega,by omega,by rw [show 258 - (m+1)=f by omega]; exact hs,h⟩ (by omega)⟩
     · have g2:¬ xs.getD (i+m) 0=xs.getD (k+m) 0:=by simpa using g2
       exact done (if_neg fun e=>g2 e.2)
   · have g1:¬ (k:Int)+m < (s.len:Int):=g1
     exact done (if_neg fun e=>by omega)
 · rw [show 258 - m=0 by omega] at done
   exact done rfl
theorem qib.c {a L:Nat} {K:Ending→World→Prop} (h:St F0 w0 w (finA fb mb s p E P :: ps)) [Rdb F0 w0 s ps 1 (u8s xs)] (hb:∀ x ∈ xs,0≤x∧x < 256) (hc:s.len≤s.cap) (hlen:xs.length≤1000000) (hF:FOK xs E P a) (ha:a≤xs.length) (hL:L≤4096)
 (hk:∀ w',St F0 w0 w' (finA fb mb s p E P :: ps)→K (.returned (.tuple ⟨[.int .i64 ((bestL xs a L).1:Int),.int .i64 ((bestL xs a L).2:Int)]⟩)) w') :
 Calls Tryz.prog 199 ⟨[.pointer (some ⟨fb,0,none⟩),.int .i64 (a:Int),.int .i64 (L:Int)]⟩ w K:=by
 have hl:=(h.drop.rdb s).1
 rw [qx] at hl
 have h:=fin_o h
 refine qnc (qib.ok _ _ _ _ _ ?_)
 unfold qib qib.j1
 refine qw (qi (by omega) (by omega)) ?_
 refine qod (h.fL ?_)
 have ex:∀ (n d:Nat) (w:World),bestL xs a L=(n,d)→St F0 w0 w (qjd fb [.slice s.a s.len s.cap,.map (some mb),.slice p.a p.len p.cap] :: mpA mb (kvl E) :: qmc 1 p (ivs .i64 P) :: ps)→K (.returned (.tuple ⟨[.int .i64 (n:Int),.int .i64 (d:Int)]⟩)) w:=by
  intro n d w e h
  rw [e] at hk
  exact hk w (fin_c h)
 clear hk
 refine qxc (fun g=>?_) (fun g=>?_)
 · have g:(a:Int)+3 > (s.len:Int):=g
   exact ex 0 0 w (by unfold bestL; rw [if_pos (by omega)]) h
 have g:¬ (a:Int)+3 > (s.len:Int):=g
 have hM:=hF.map (by omega)
 refine h.drewK fun w h=>?_
 have j2:∀ (w:World) (r20:Int) (r21:Bool),((r21=false∧lastK xs (qal xs a) a=none) ∨ ∃ i:Nat,r20=(i:Int)∧r21=true∧lastK xs (qal xs a) a=some i) →
  St F0 w0 w (qjd fb [.slice s.a s.len s.cap,.map (some mb),.slice p.a p.len p.cap] :: mpA mb (kvl E) :: qmc 1 p (ivs .i64 P) :: ps)→qib.j2 (some ⟨fb,0,none⟩) (a:Int) (L:Int) 0 0 r20 r21 (fun v w'=>K (.returned v) w') w:=by
  intro w r20 r21 hr h
  unfold qib.j2
  rcases hr with ⟨rfl,e⟩ | ⟨i0,rfl,rfl,e⟩
  · refine loop4 (fun (u:Nat) (t2 t6 t7 t8:Int) w'=>t6=0∧t7=0∧St F0 w0 w' (qjd fb [.slice s.a s.len s.cap,.map (some mb),.slice p.a p.len p.cap] :: mpA mb (kvl E) :: qmc 1 p (ivs .i64 P) :: ps)) (fun _=>0) 0 ⟨rfl,rfl,h⟩ ?_
    rintro u t2 t6 t7 t8 w I μ ⟨rfl,rfl,h⟩ hin
    unfold qib.b1
    refine qik ?_
    exact ex 0 0 w (by unfold bestL; rw [if_neg (by omega),e]) h
  · have eb:bestL xs a L=walkL xs a L i0 0 0:=by unfold bestL; rw [if_neg (by omega),e]
    have hi0:=(qam e).1
    refine loop4 (fun (u:Nat × Nat × Nat × Nat) (t2 t6 t7 t8:Int) w'=>t2=u.1∧t6=u.2.1∧t7=u.2.2.1∧t8=u.2.2.2∧u.1≤4096∧u.2.2.2 < a∧u.2.1≤258∧walkL xs a u.1 u.2.2.2 u.2.1 u.2.2.1=walkL xs a L i0 0 0∧St F0 w0 w' (qjd fb [.slice s.a s.len s.cap,.map (some mb),.slice p.a p.len p.cap] :: mpA mb (kvl E) :: qmc 1 p (ivs .i64 P) :: ps)) (fun u=>u.1) (L,0,0,i0) ⟨rfl,rfl,rfl,rfl,hL,hi0,by simp,rfl,h⟩ ?_
    clear h
    rintro ⟨f,n,d,i⟩ t2 t6 t7 t8 wL I μ ⟨rfl,rfl,rfl,rfl,hf,hia,hn,hw,h⟩ hin
    simp only at hf hia hn hw h hin ⊢
    unfold qib.b1
    refine qum ?_
    refine qxc (fun g1=>?_) (fun g1=>?_)
    · obtain ⟨f',rfl⟩:∃ f',f=f'+1:=⟨f - 1,by omega⟩
      rw [walkL] at hw
      refine qw (qi (by omega) (by omega)) ?_
      refine qxc (fun g2=>?_) (fun g2=>?_)
      · rw [if_neg (by omega)] at hw
        simp only at hw
        unfold qib.j4
        refine qrc.c (xs:=xs) (i:=i) (k:=a) h hia ha hlen fun w h=>⟨_,rfl,?_⟩
        have hsl:=same_le xs i a
        have j6:∀ (n2 d2:Nat),n2=(if n < same xs i a then same xs i a else n)→d2=(if n < same xs i a then a - i else d)→qib.j6 (some ⟨fb,0,none⟩) (a:Int) ((f'+1:Nat):Int) (n2:Int) (d2:Int) (i:Int) true (fun v w'=>K (.returned v) w') (fun d_0' i_1' t9' t2' t6' t7' t8' w'=>(d_0'=some ⟨fb,0,none⟩∧i_1'=(a:Int)∧t9'=true)∧I t2' t6' t7' t8' w'∧μ t2' t6' t7' t8' w' < μ ((f'+1:Nat):Int) (n:Int) (d:Int) (i:Int) wL) w:=by
         intro n2 d2 e1 e2
         rw [← e1,← e2] at hw
         have hn2:n2≤258:=by rw [e1]; split <;> omega
         unfold qib.j6
         refine qod (h.fL ?_)
         refine h.lx (s:=p) i rfl (by rw [hF.len]; exact hia) ?_
         have hrow:=hF.row i hia (by omega)
         unfold prI at hrow
         rw [hrow]
         cases hj:lastK xs (qal xs i) i with
         | none =>
           rw [hj] at hw
           simp only at hw ⊢
           exact qxc (fun _=>ex n2 d2 w (eb.trans hw.symm) h) (fun g3=>absurd (by omega) g3)
         | some j =>
           rw [hj] at hw
           simp only at hw ⊢
           have hji:=(qam hj).1
           refine qxc (fun g3=>by omega) (fun g3=>?_)
           refine qqe (fun g4=>?_) (fun g4=>?_)
           · have g4:(n2:Int)=258:=by simpa using g4
             rw [if_pos (by omega)] at hw
             exact ex n2 d2 w (eb.trans hw.symm) h
           · have g4:¬ (n2:Int)=258:=by simpa using g4
             rw [if_neg (by omega)] at hw
             unfold qib.j5
             refine qw (qi (by omega) (by omega)) ?_
             exact ⟨⟨rfl,rfl,rfl⟩,hin (f',n2,d2,j) _ _ _ _ _ ⟨by simp only; omega,rfl,rfl,rfl,by simp only; omega,by simp only; omega,hn2,hw,h⟩ (by simp only; omega)⟩
        refine qxc (fun g3=>?_) (fun g3=>?_)
        · refine qw (show IntKind.i64.wrap ((a:Int) - i)=((a - i:Nat):Int) by rw [qi (by omega) (by omega)]; omega) ?_
          exact j6 _ _ (by rw [if_pos (by omega)]) (by rw [if_pos (by omega)])
        · exact j6 _ _ (by rw [if_neg (by omega)]) (by rw [if_neg (by omega)])
      · rw [if_pos (by omega)] at hw
        exact ex n d wL (eb.trans hw.symm) h
    · have:f=0:=by omega
      subst this
      exact ex n d wL (eb.trans hw.symm) h
 have lk:∀ (w:World),St F0 w0 w (qjd fb [.slice s.a s.len s.cap,.map (some mb),.slice p.a p.len p.cap] :: mpA mb (kvl E) :: qmc 1 p (ivs .i64 P) :: ps) →
  ∃ r20:Int,∃ r21:Bool,lkR Tryz.prog 311 (.map (some mb)) (.agg ⟨kyL (qal xs a)⟩) true w (.tuple ⟨[.int .i64 r20,.bool r21]⟩)∧qib.j2 (some ⟨fb,0,none⟩) (a:Int) (L:Int) 0 0 r20 r21 (fun v w'=>K (.returned v) w') w:=by
  intro w h
  refine h.klook hF.keys (key_b hb a) (fun hn=>j2 w 0 false (Or.inl ⟨rfl,?_⟩) h) (fun e he hek=>?_)
  · cases hj:lastK xs (qal xs a) a with
    | none=>rfl
    | some i =>
      obtain ⟨j,e,h1,h2⟩:=hM.all _ _ hj
      exact absurd h2 (hn e (List.mem_of_getElem? h1))
  · obtain ⟨j,hj⟩:=List.mem_iff_getElem?.1 he
    obtain ⟨i,h1,h2⟩:=hM.val j e hj
    rw [hek] at h2
    exact j2 w _ true (Or.inr ⟨i,h1,rfl,h2⟩) h
 refine qod ⟨?_,?_⟩
 · refine h.fM ?_
   exact qle.c (xs:=xs) (i:=a) h hc (by omega) fun w h=>⟨_,rfl,lk w h⟩
 · refine qle.c (xs:=xs) (i:=a) h hc (by omega) fun w h=>⟨_,rfl,?_⟩
   exact h.fM (lk w h)
theorem qqc.c {a:Nat} {K:Ending→World→Prop} (h:St F0 w0 w (finA fb mb s p E P :: ps)) [Rdb F0 w0 s ps 1 (u8s xs)] (hb:∀ x ∈ xs,0≤x∧x < 256) (hc:s.len≤s.cap) (hlen:xs.length≤1000000) (hF:FOK xs E P a) (ha:a < xs.length)
 (hk:∀ p' E' P' w',St F0 w0 w' (finA fb mb s p' E' P' :: ps)→FOK xs E' P' (a+1)→K (.returned (.tuple ⟨[]⟩)) w') :
 Calls Tryz.prog 200 ⟨[.pointer (some ⟨fb,0,none⟩),.int .i64 (a:Int)]⟩ w K:=by
 have hl:=(h.drop.rdb s).1
 rw [qx] at hl
 have hPl:=hF.len
 have h:=fin_o h
 refine qnc (qqc.ok _ _ _ _ ?_)
 unfold qqc
 refine qod (h.fL ?_)
 refine h.pushI (s:=p) (k:=.i64) (zs:=P) (by omega) fun p2 w h=>?_
 refine qod (h.fst trivial fun w h=>?_)
 have h:St F0 w0 w (qjd fb [.slice s.a s.len s.cap,.map (some mb),.slice p2.a p2.len p2.cap] :: mpA mb (kvl E) :: qmc 1 p2 (ivs .i64 (P ++ [-1])) :: ps):=h.sub
 refine qw (qi (by omega) (by omega)) ?_
 refine qod (h.fL ?_)
 have old:∀ j,j < a→(P ++ [-1]).getD j 0=P.getD j 0:=by
  intro j hj
  rw [List.getD,List.getElem?_append_left (by omega)]
  rfl
 refine qxc (fun g=>?_) (fun g=>?_)
 · have g:(a:Int)+3 > (s.len:Int):=g
   refine hk p2 E (P ++ [-1]) w (fin_c h) ⟨by simp [hPl],hF.keys,fun hle=>by omega,fun j hj hj3=>?_⟩
   rw [old j (by omega)]
   exact hF.row j (by omega) hj3
 have g:¬ (a:Int)+3 > (s.len:Int):=g
 have hM:=hF.map (by omega)
 unfold qqc.j1
 refine h.drewK fun w h=>?_
 have set:∀ (P2:List Int) (w:World),P2.length=a+1→(∀ j,j < a+1→j+3≤xs.length→P2.getD j 0=prI xs j)→St F0 w0 w (qjd fb [.slice s.a s.len s.cap,.map (some mb),.slice p2.a p2.len p2.cap] :: mpA mb (kvl E) :: qmc 1 p2 (ivs .i64 P2) :: ps) →
  ∃ w7:World,muR Tryz.prog 311 (.map (some mb)) (.agg ⟨kyL (qal xs a)⟩) (.int .i64 (a:Int)) w w7∧K (.returned (.tuple ⟨[]⟩)) w7:=by
  intro P2 w h1 h2 h
  refine h.kset hF.keys (key_b hb a) fun E' w h he=>?_
  refine hk p2 E' P2 w (fin_c h.sub) ⟨h1,?_,fun hle=>hM.next he,h2⟩
  rcases he with ⟨rfl,_⟩ | ⟨j,e,_,_,rfl⟩
  · intro e he
    rcases List.mem_append.1 he with he | he
    · exact hF.keys e he
    · have:e=(qal xs a,(a:Int)):=by simpa using he
      subst this
      exact key_b hb a
  · intro e2 he
    rcases List.mem_or_eq_of_mem_set he with he | rfl
    · exact hF.keys e2 he
    · exact key_b hb a
 have j2:∀ (P2:List Int) (w:World),P2.length=a+1→(∀ j,j < a+1→j+3≤xs.length→P2.getD j 0=prI xs j)→St F0 w0 w (qjd fb [.slice s.a s.len s.cap,.map (some mb),.slice p2.a p2.len p2.cap] :: mpA mb (kvl E) :: qmc 1 p2 (ivs .i64 P2) :: ps) →
  qqc.j2 (some ⟨fb,0,none⟩) (a:Int) (fun v w'=>K (.returned v) w') w:=by
  intro P2 w h1 h2 h
  unfold qqc.j2
  refine h.drewK fun w h=>?_
  refine qod ⟨?_,?_⟩
  · refine h.fM ?_
    exact qle.c (xs:=xs) (i:=a) h hc (by omega) fun w h=>⟨_,rfl,set P2 w h1 h2 h⟩
  · refine qle.c (xs:=xs) (i:=a) h hc (by omega) fun w h=>⟨_,rfl,?_⟩
    exact h.fM (set P2 w h1 h2 h)
 have j3:∀ (w:World) (r20:Int) (r21:Bool),((r21=false∧lastK xs (qal xs a) a=none) ∨ ∃ i:Nat,r20=(i:Int)∧r21=true∧lastK xs (qal xs a) a=some i) →
  St F0 w0 w (qjd fb [.slice s.a s.len s.cap,.map (some mb),.slice p2.a p2.len p2.cap] :: mpA mb (kvl E) :: qmc 1 p2 (ivs .i64 (P ++ [-1])) :: ps)→qqc.j3 (some ⟨fb,0,none⟩) (a:Int) r20 r21 (fun v w'=>K (.returned v) w') w:=by
  intro w r20 r21 hr h
  unfold qqc.j3
  rcases hr with ⟨rfl,e⟩ | ⟨i,rfl,rfl,e⟩
  · refine qik (j2 _ w (by simp [hPl]) (fun j hj hj3=>?_) h)
    rcases Nat.lt_or_ge j a with h1 | h1
    · rw [old j h1]; exact hF.row j h1 hj3
    · have:j=a:=by omega
      subst this
      unfold prI
      rw [e,List.getD,List.getElem?_append_right (by omega),hPl]
      simp
  · refine qum (qod (h.fL ?_))
    refine h.sx (s:=p2) a rfl (by simp [hPl]) fun w h=>?_
    refine j2 ((P ++ [-1]).set a (i:Int)) w (by simp [hPl]) (fun j hj hj3=>?_) h.sub
    rcases Nat.lt_or_ge j a with h1 | h1
    · rw [List.getD,List.getElem?_set,if_neg (by omega)]
      have:=old j h1
      rw [List.getD] at this
      rw [this]; exact hF.row j h1 hj3
    · have:j=a:=by omega
      subst this
      unfold prI
      rw [e,List.getD,List.getElem?_set,if_pos rfl,if_pos (by simp [hPl])]
      rfl
 have lk:∀ (w:World),St F0 w0 w (qjd fb [.slice s.a s.len s.cap,.map (some mb),.slice p2.a p2.len p2.cap] :: mpA mb (kvl E) :: qmc 1 p2 (ivs .i64 (P ++ [-1])) :: ps) →
  ∃ r20:Int,∃ r21:Bool,lkR Tryz.prog 311 (.map (some mb)) (.agg ⟨kyL (qal xs a)⟩) true w (.tuple ⟨[.int .i64 r20,.bool r21]⟩)∧qqc.j3 (some ⟨fb,0,none⟩) (a:Int) r20 r21 (fun v w'=>K (.returned v) w') w:=by
  intro w h
  refine h.klook hF.keys (key_b hb a) (fun hn=>j3 w 0 false (Or.inl ⟨rfl,?_⟩) h) (fun e he hek=>?_)
  · cases hj:lastK xs (qal xs a) a with
    | none=>rfl
    | some i =>
      obtain ⟨j,e,h1,h2⟩:=hM.all _ _ hj
      exact absurd h2 (hn e (List.mem_of_getElem? h1))
  · obtain ⟨j,hj⟩:=List.mem_iff_getElem?.1 he
    obtain ⟨i,h1,h2⟩:=hM.val j e hj
    rw [hek] at h2
    exact j3 w _ true (Or.inr ⟨i,h1,rfl,h2⟩) h
 refine qod ⟨?_,?_⟩
 · refine h.fM ?_
   exact qle.c (xs:=xs) (i:=a) h hc (by omega) fun w h=>⟨_,rfl,lk w h⟩
 · refine qle.c (xs:=xs) (i:=a) h hc (by omega) fun w h=>⟨_,rfl,?_⟩
   exact h.fM (lk w h)
end
end Go.Proofs.YthdmmmfgjmmelaaGreat
namespace Go.Proofs.YthdmmmfgjmmelaaGreat
open Go Go.Proofs
set_option linter.unusedVariables false
set_option linter.unusedSimpArgs false
attribute [local irreducible] apK cpK mkK br
class ElT (P:Program) (e:TypeId):Prop where
 info:∃ i,P.info? e=some i∧i.size=3∧i.bytes ≠ 0∧i.bytes≤48
 zc:(Go.Proofs.YthdmmmfgjmmelaaGreat.zc P e).size=3
instance elt_tok:ElT Tryz.prog 305:=⟨⟨Tryz.t305,by kernel_rfl,rfl,by decide,by decide⟩,by kernel_rfl⟩
theorem spl_tok (t:Tk):spl [.int .u8 0,.int .i64 0,.int .i64 0] 0 ⟨tkC t⟩=tkC t:=by kernel_rfl
section
variable {F0:List Nat} {w0 w:World} {ps rest:List As} {P:Program} {e:TypeId} {s:Sl} {L:List Tk} {xs:List Int}
theorem St.pushT {t:Tk} {K:Sl→World→Prop} [he:ElT P e] (h:St F0 w0 w ps) [PkO s ps 3 (tks L) rest] (hlen:L.length≤1000000000)
 (hk:∀ s' w',s'.len=s.len+1→St F0 w0 w' (qmc 3 s' (tks (L ++ [t])) :: rest)→K s' w') :
 lt (⟨World.heapSize w,0,none⟩:Addr) fun a=>lt (World.alloc w (.cells ⟨spl [.int .u8 0,.int .i64 0,.int .i64 0] 0 ⟨tkC t⟩⟩ e)) fun w1=>rdO w1 (some a) (1 * 3) fun c=>apK P e w1 s.a s.len s.cap 1 c K:=by
 rw [spl_tok]
 refine (h.toO s).new fun nb w h=>?_
 have h:St F0 w0 w (qjd nb (tkC t) :: qmc 3 s (tks L) :: rest):=h
 refine h.rdB rfl ?_
 have h:=h.drop
 have hl:=h.len
 rw [qrh] at hl
 obtain ⟨i,h1,h2,h3,h4⟩:=he.info
 refine St.append (i:=i) (sz:=3) (m:=1) h1 h2 (by decide) he.zc h3 ?_ h rfl (qfl t) fun s' w' h hl'=>hk s' w' hl' (by rw [tks_snoc]; exact h)
 refine Nat.le_trans (Nat.mul_le_mul_left _ h4) ?_
 omega
theorem qpp.c {cs:List Value} {K:Ending→World→Prop} (h:St F0 w0 w (rdA 3 s cs :: ps)) (hc:s.len≤s.cap)
 (hk:∀ s':Sl,s'.len=s.len→s'.cap=s.len→St F0 w0 w (rdA 3 s' cs :: ps)→K (.returned (.slice s'.a s'.len s'.cap)) w):Calls Tryz.prog 201 ⟨[.slice s.a s.len s.cap]⟩ w K:=by
 refine qnc (qzf.ok _ _ _ ?_)
 unfold qzf
 refine ⟨⟨by omega,by omega⟩,⟨by omega,by omega⟩,qwh ?_⟩
 refine hk ⟨_,_,_⟩ (by simp) (by simp) (h.recap ?_ (by simp))
 show qwf s.a _ 0 3=s.a
 unfold qwf
 split
 · rfl
 · cases s.a with
   | none=>rfl
   | some a=>simp [Addr.add]
theorem findL_step {b:List Int} {looks at':Nat} (h:at' < b.length):findL b looks (b.length - at') at'=(stepL b looks at').1 :: findL b looks (b.length - (at'+(stepL b looks at').2)) (at'+(stepL b looks at').2):=by
 obtain ⟨f,hf⟩:∃ f,b.length - at'=f+1:=⟨b.length - at' - 1,by omega⟩
 rw [hf,findL,if_pos h]
 congr 1
 have:=qbn b looks at'
 exact findL_fuel _ _ _ _ _ (by omega) (by omega)
theorem findL_makes (b:List Int) (looks:Nat):∀ f at',b.length - at'≤f→at'≤b.length→qxf b at' (findL b looks f at') b.length:=by
 intro f
 induction f with
 | zero =>
   intro at' h1 h2
   have:at'=b.length:=by omega
   subst this; exact qxf.nil _
 | succ f ih =>
   intro at' h1 h2
   rw [findL]
   split
   · rename_i hlt
     have hp:=qbn b looks at'
     have hle:=stepL_le b looks at' hlt
     have hr:=ih (at'+(stepL b looks at').2) (by omega) hle
     revert hr
     unfold stepL
     simp only
     split
     · intro hr; exact qxf.lit hlt hr
     · rename_i h3
       intro hr
       rcases qvr b at' looks with h4 | ⟨h4,h5,h6,h7,h8,h9⟩
       · omega
       · exact qxf.copy (by omega) h4 h5 h6 h7 h8 h9 hr
   · have:at'=b.length:=by omega
     subst this; exact qxf.nil _
def looksOf (e:Int):Nat:=(if 4096 < e then 4096 else e).toNat
theorem looksOf_le (e:Int):looksOf e≤4096:=by unfold looksOf; split <;> omega
theorem looks_eq (e:Int):(if (4096:Int) < (if (0:Int) > e then 0 else e) then 4096 else (if (0:Int) > e then 0 else e))=(looksOf e:Int):=by
 unfold looksOf
 by_cases h1:(0:Int) > e
 · rw [if_pos h1,if_neg (by decide),if_neg (by omega)]; omega
 · rw [if_neg h1]
   by_cases h2:4096 < e
   · rw [if_pos h2]; rfl
   · rw [if_neg h2]; omega
theorem qtc.c {e:Int} {K:Ending→World→Prop} (h:St F0 w0 w ps) [Rdb F0 w0 s ps 1 (u8s xs)] (hb:∀ x ∈ xs,0≤x∧x < 256) (hc:s.len≤s.cap) (hlen:xs.length≤262144)
 (hk:∀ s' w',s'.len=(findL xs (looksOf e) xs.length 0).length→s'.cap=s'.len→St F0 w0 w' (rdA 3 s' (tks (findL xs (looksOf e) xs.length 0)) :: ps)→K (.returned (.slice s'.a s'.len s'.cap)) w') :
 Calls Tryz.prog 130 ⟨[.slice s.a s.len s.cap,.int .i64 e]⟩ w K:=by
 have hl:=(h.rdb s).1
 rw [qx] at hl
 refine qnc (qtc.ok _ _ _ _ ?_)
 unfold qtc qtc.j1
 refine qxc (fun g=>by omega) (fun _=>?_)
 refine h.mmake fun mb w h=>?_
 refine h.new fun fb w h=>?_
 have h:=(h.nil 1).at2.at2
 have h:St F0 w0 w (finA fb mb s ⟨none,0,0⟩ [] [] :: ps):=fin_c h
 unfold qtc.j2
 refine qwh (qw (looks_eq e) ?_)
 have hlk:=looksOf_le e
 generalize looksOf e=looks at hk hlk ⊢
 unfold qtc.j3 qtc.j5
 refine qkh (fun (u:Nat × List Tk × Sl × List ((Int × Int × Int) × Int) × List Int) (o:Sl) (at':Int) w'=>at'=u.1∧u.1≤xs.length∧u.2.1.length≤u.1∧u.2.1 ++ findL xs looks (xs.length - u.1) u.1=findL xs looks xs.length 0∧FOK xs u.2.2.2.1 u.2.2.2.2 u.1∧St F0 w0 w' (qmc 3 o (tks u.2.1) :: finA fb mb s u.2.2.1 u.2.2.2.1 u.2.2.2.2 :: ps)) (fun u=>xs.length - u.1) (0,[],⟨none,0,0⟩,[],[])
  ⟨rfl,by simp,by simp,by simp,⟨rfl,by simp,fun _=>KM.nil xs,fun j hj _=>absurd hj (Nat.not_lt_zero j)⟩,h.nil 3⟩ ?_
 clear h
 rintro ⟨a,L,p,E,P⟩ o at' wL I μ ⟨rfl,ha,hLa,hf,hF,h⟩ hin
 simp only at ha hLa hf hF h hin ⊢
 unfold qtc.b1
 refine qxc (fun g=>?_) (fun g=>?_)
 · have hlt:a < xs.length:=by omega
   rw [findL_step hlt] at hf
   unfold qtc.j6
   have hle:=stepL_le xs looks a hlt
   have hp:=qbn xs looks a
   refine qib.c (xs:=xs) h.at1 hb hc (by omega) hF ha hlk fun w h=>⟨_,_,rfl,?_⟩
   unfold qtc.j7
   refine h.tokN (t:=(0,((bestL xs a looks).1:Int),((bestL xs a looks).2:Int))) fun nb w h=>?_
   have fin:∀ (t:Tk) (n:Nat) (w:World),(t,n)=stepL xs looks a→St F0 w0 w (qjd nb (tkC t) :: finA fb mb s p E P :: qmc 3 o (tks L) :: ps)→qtc.j8 s (some ⟨fb,0,none⟩) (looks:Int) o (a:Int) (n:Int) ⟨nb,0,none⟩ (fun v w'=>K (.returned v) w') (fun b' f' l' o' at'' w'=>(b'=s∧f'=some ⟨fb,0,none⟩∧l'=(looks:Int))∧I o' at'' w'∧μ o' at'' w' < μ o (a:Int) wL) w:=by
    intro t n w e h
    rw [← e] at hf hle hp
    simp only at hf hle hp
    unfold qtc.j8
    refine h.lA rfl ⟨rfl,?_⟩
    refine h.pushT (s:=o) (L:=L) (t:=t) (by omega) fun o2 w hol h=>?_
    have h:St F0 w0 w (qmc 3 o2 (tks (L ++ [t])) :: finA fb mb s p E P :: ps):=h.sub
    unfold qtc.j9
    refine qkh (fun (v:Nat × Sl × List ((Int × Int × Int) × Int) × List Int) (at' c':Int) w'=>c'=v.1∧at'=((a+v.1:Nat):Int)∧v.1≤n∧FOK xs v.2.2.1 v.2.2.2 (a+v.1)∧St F0 w0 w' (qmc 3 o2 (tks (L ++ [t])) :: finA fb mb s v.2.1 v.2.2.1 v.2.2.2 :: ps)) (fun v=>n - v.1) (0,p,E,P) ⟨rfl,rfl,by simp,hF,h⟩ ?_
    clear h
    rintro ⟨c,p2,E2,P2⟩ at2 c' w2 I2 μ2 ⟨rfl,rfl,hcn,hF2,h⟩ hin2
    simp only at hcn hF2 h hin2 ⊢
    unfold qtc.b2
    refine qxc (fun g2=>?_) (fun g2=>?_)
    · refine qqc.c (xs:=xs) h.at1 hb hc (by omega) hF2 (by omega) fun p3 E3 P3 w h hF3=>⟨rfl,?_⟩
      refine qw (qi (by omega) (by omega)) ?_
      refine qw (qi (by omega) (by omega)) ?_
      exact ⟨⟨rfl,rfl,rfl,rfl,rfl⟩,hin2 (c+1,p3,E3,P3) _ _ _ ⟨by simp,by simp only; omega,by simp only; omega,hF3,h.at1⟩ (by simp only; omega)⟩
    · have:c=n:=by omega
      subst this
      exact ⟨⟨rfl,rfl,rfl⟩,hin (a+c,L ++ [t],p2,E2,P2) _ _ _ ⟨rfl,hle,by simp; omega,by simpa using hf,hF2,h⟩ (by simp only; omega)⟩
   refine qxc (fun g2=>?_) (fun g2=>?_)
   · refine h.lx (s:=s) a rfl hlt ?_
     refine ⟨rfl,?_⟩
     refine h.sA (l:=tkC (0,((bestL xs a looks).1:Int),((bestL xs a looks).2:Int))) (l':=tkC (xs.getD a 0,0,0)) rfl rfl (qfl _) fun w h=>?_
     exact fin (xs.getD a 0,0,0) 1 w (by unfold stepL; simp only; rw [if_pos (by omega)]) h
   · exact fin _ _ w (by unfold stepL; simp only; rw [if_neg (by omega)]) h
 · have:a=xs.length:=by omega
   subst this
   rw [Nat.sub_self,show findL xs looks 0 xs.length=[] from rfl,List.append_nil] at hf
   unfold qtc.j4
   have hol:=h.len
   rw [qrh] at hol
   refine qpp.c h.ro (h.cap (by decide)) fun s2 h1 h2 h=>⟨s2,rfl,?_⟩
   rw [← hf] at hk
   exact hk s2 wL (by omega) (by omega) (h.tail fun _ _ _ h=>h.drop)
theorem tkCopy_b (d:Int):∀ k (out:List Int),(∀ x ∈ out,0≤x∧x < 256)→∀ x ∈ tkCopy d k out,0≤x∧x < 256:=by
 intro k
 induction k with
 | zero=>intro out h; exact h
 | succ k ih =>
   intro out h
   rw [tkCopy]
   refine ih _ fun x hx=>?_
   rcases List.mem_append.1 hx with hx | hx
   · exact h x hx
   · have:x=out.getD (out.length - d.toNat) 0:=by simpa using hx
     subst this
     rcases Nat.lt_or_ge (out.length - d.toNat) out.length with h1 | h1
     · rw [List.getD,List.getElem?_eq_getElem h1]
       exact h _ (List.getElem_mem h1)
     · rw [List.getD,List.getElem?_eq_none h1]
       decide
end
end Go.Proofs.YthdmmmfgjmmelaaGreat
namespace Go.Proofs.YthdmmmfgjmmelaaGreat
open Go Go.Proofs
set_option linter.unusedVariables false
set_option linter.unusedSimpArgs false
attribute [local irreducible] apK cpK mkK
theorem Rd.ldA {sz n i:Nat} {w:World} {s:Sl} {cs:List Value} {a:Addr} {c:Array Value} {K:Array Value→Prop} (h:Rd w sz s cs) (ha:s.a=some a) (hi:i+n≤cs.length) (hs:c.size=n) (hv:∀ j,j < n→cs[i+j]?=c[j]?) (hk:K c):ldA w (a.add i) n K :=
 ⟨c,hs,fun j hj=>by rw [qvm,h.cell ha (by omega)]; exact hv j hj,hk⟩
section
variable {F0:List Nat} {w0 w:World} {ps:List As}
end
end Go.Proofs.YthdmmmfgjmmelaaGreat
namespace Go.Proofs.YthdmmmfgjmmelaaGreat
open Go Go.Proofs
set_option linter.unusedVariables false
set_option linter.unusedSimpArgs false
attribute [local irreducible] apK cpK mkK br
section
variable {F0:List Nat} {w0 w:World} {ps rest rest2:List As}
theorem qhp {x:Int} (h0:0≤x) (h1:x < 18446744073709551616):IntKind.u64.wrap x=x:=by
 have e:IntKind.u64.wrap x=x % 18446744073709551616:=by simp [IntKind.wrap,IntKind.bits,IntKind.signed]
 rw [e]; omega
theorem qpk {e x:Int} (h0:0≤x) (h1:x≤24):pb e x=qm e x.toNat:=by
 unfold pb
 rw [if_pos ⟨h0,h1⟩]
theorem symP_x {v:Int} {dist:Bool} {n e x:Int} (h:symP v dist n e x):0≤x∧x≤14:=by
 rcases h with ⟨_,_,_,b,hz,_,_,_,h0⟩ | ⟨_,_,_,b,hz,_,_,_,h0⟩
 · have:=zdis_x n
   rw [hz] at this
   exact ⟨h0,this⟩
 · have:=zlen_x n
   rw [hz] at this
   exact ⟨h0,by simp only at this; omega⟩
end
end Go.Proofs.YthdmmmfgjmmelaaGreat
namespace Go.Proofs.YthdmmmfgjmmelaaGreat
open Go Go.Proofs
set_option linter.unusedVariables false
set_option maxRecDepth 100000
def qgh  (Q:VWP) (w:World):Prop :=
 lt (⟨World.heapSize w,0,none⟩:Addr) fun a1 =>
 lt (World.alloc w (.cells (zc Tryz.prog 426) 426)) fun w2 =>
 ((⟨[.int .i64 16,.int .i64 17,.int .i64 18,.int .i64 0,.int .i64 8,.int .i64 7,.int .i64 9,.int .i64 6,.int .i64 10,.int .i64 5,.int .i64 11,.int .i64 4,.int .i64 12,.int .i64 3,.int .i64 13,.int .i64 2,.int .i64 14,.int .i64 1,.int .i64 15]⟩:Array Value)).size=19 ∧
 stA w2 a1 (⟨[.int .i64 16,.int .i64 17,.int .i64 18,.int .i64 0,.int .i64 8,.int .i64 7,.int .i64 9,.int .i64 6,.int .i64 10,.int .i64 5,.int .i64 11,.int .i64 4,.int .i64 12,.int .i64 3,.int .i64 13,.int .i64 2,.int .i64 14,.int .i64 1,.int .i64 15]⟩:Array Value) fun w3 =>
 ldA w3 a1 19 fun c4 =>
 Q (.agg c4) w3
theorem qgh.ok  (Q:VWP) (w:World) (h:qgh  Q w):Calls Tryz.prog 318 ⟨[]⟩ w (Ret Q):=by
 refine qp [.cell 0 426] Tryz.func318 rfl rfl rfl rfl ?_
 exact qg qpb _ (Eq.mp (by kernel_rfl) h)
def qte (s_0:OAd) (sym_1:Int) (l_2:Sl) (Q:VWP) (w:World):Prop :=
 br ((sym_1:Int) == 16) (
 br ((((l_2.len:Nat):Int):Int) == 0) (
 Calls Tryz.prog 271 ⟨[.pointer s_0,.int .i64 2]⟩ w fun e1 w2 =>
 e1=.returned (.tuple ⟨[]⟩) ∧
 Q (.tuple ⟨[.int .i64 0,.int .i64 0]⟩) w2) (
 lt (World.drew w) fun w3 =>
 lt (IntKind.i64.wrap (((l_2.len:Nat):Int) - 1)) fun x4 =>
 ixS l_2.a l_2.len x4 1 fun a5 =>
 (ldI .i64 w3 a5 fun x6 =>
 Calls Tryz.prog 267 ⟨[.pointer s_0,.int .i64 2]⟩ w3 fun e7 w8 =>
 ∃ r9:Int,e7=.returned (.int .i64 r9) ∧
 lt (IntKind.i64.wrap (3+r9)) fun x10 =>
 Q (.tuple ⟨[.int .i64 x6,.int .i64 x10]⟩) w8)∧(
 Calls Tryz.prog 267 ⟨[.pointer s_0,.int .i64 2]⟩ w3 fun e11 w12 =>
 ∃ r13:Int,e11=.returned (.int .i64 r13) ∧
 lt (IntKind.i64.wrap (3+r13)) fun x14 =>
 ldI .i64 w12 a5 fun x15 =>
 Q (.tuple ⟨[.int .i64 x15,.int .i64 x14]⟩) w12))) (
 br ((sym_1:Int) == 17) (
 Calls Tryz.prog 267 ⟨[.pointer s_0,.int .i64 3]⟩ w fun e16 w17 =>
 ∃ r18:Int,e16=.returned (.int .i64 r18) ∧
 lt (IntKind.i64.wrap (3+r18)) fun x19 =>
 Q (.tuple ⟨[.int .i64 0,.int .i64 x19]⟩) w17) (
 br ((sym_1:Int) == 18) (
 Calls Tryz.prog 267 ⟨[.pointer s_0,.int .i64 7]⟩ w fun e20 w21 =>
 ∃ r22:Int,e20=.returned (.int .i64 r22) ∧
 lt (IntKind.i64.wrap (11+r22)) fun x23 =>
 Q (.tuple ⟨[.int .i64 0,.int .i64 x23]⟩) w21) (
 Q (.tuple ⟨[.int .i64 sym_1,.int .i64 1]⟩) w)))
theorem qte.ok (s_0:OAd) (sym_1:Int) (l_2:Sl) (Q:VWP) (w:World) (h:qte s_0 sym_1 l_2 Q w):Calls Tryz.prog 319 ⟨[.pointer s_0,.int .i64 sym_1,.slice l_2.a l_2.len l_2.cap]⟩ w (Ret Q):=by
 refine qp [.tmp 6,.tmp 7] Tryz.func319 rfl rfl rfl rfl ?_
 exact qg qpb _ (Eq.mp (by kernel_rfl) h)
def qub.j4 (newslice_7:Sl) (Q:VWP) (w:World):Prop :=
 Q (.slice newslice_7.a newslice_7.len newslice_7.cap) w
def qub.b1 (newslice_7:Sl) (n_8:Int) (Q:VWP) (nx1:Sl→Int→World→Prop) (w:World):Prop :=
 br (decide ((n_8:Int) < ((newslice_7.len:Nat):Int))) (
 lt (World.drew w) fun w1 =>
 bd n_8 newslice_7.len fun n2 =>
 lt (⟨qwf newslice_7.a newslice_7.cap n2 1,newslice_7.len - n2,newslice_7.cap - n2⟩:Sl) fun s3 =>
 bd n_8 newslice_7.cap fun n4 =>
 lt (⟨qwf newslice_7.a newslice_7.cap 0 1,n4 - 0,newslice_7.cap - 0⟩:Sl) fun s5 =>
 rdO w1 s5.a ((Nat.min s5.len s3.len) * 1) fun c6 =>
 cpK w1 s3.a c6 fun w7 =>
 lt (IntKind.i64.wrap (n_8+((Nat.min s5.len s3.len:Nat):Int))) fun x8 =>
 nx1 newslice_7 x8 w7) (
 qub.j4 newslice_7 Q w)
def qub.l1 (newslice_7:Sl) (n_8:Int) (Q:VWP) (w:World):Prop :=
 ∃ (I:Int→World→Prop) (μ:Int→World→Nat),I n_8 w∧∀ n_8:Int,∀ w:World,I n_8 w→qub.b1 newslice_7 n_8 Q (fun newslice_7' n_8' w'=>(newslice_7'=newslice_7)∧I n_8' w'∧μ n_8' w' < μ n_8 w) w
def qub.j3 (newslice_7:Sl) (n_8:Int) (Q:VWP) (w:World):Prop :=
 qub.l1 newslice_7 n_8 Q w
def qub.j2 (x_0:Sl) (lo_6:Int) (Q:VWP) (w:World):Prop :=
 lt (IntKind.i64.wrap lo_6) fun x9 =>
 mkK Tryz.prog 3 w x9 x9 fun s10 w11 =>
 rdO w11 x_0.a ((Nat.min x_0.len s10.len) * 1) fun c12 =>
 cpK w11 s10.a c12 fun w13 =>
 qub.j3 s10 ((Nat.min x_0.len s10.len:Nat):Int) Q w13
def qub.j1 (x_0:Sl) (count_1:Int) (Q:VWP) (w:World):Prop :=
 lt (IntKind.u64.wrap ((x_0.len:Nat):Int)) fun x14 =>
 lt (IntKind.u64.wrap count_1) fun x15 =>
 Calls Tryz.prog 341 ⟨[.int .u64 x14,.int .u64 x15]⟩ w fun e16 w17 =>
 ∃ r18:Int,∃ r19:Int,e16=.returned (.tuple ⟨[.int .u64 r18,.int .u64 r19]⟩) ∧
 br (decide ((r18:Int) > 0)) (
 False) (
 br (decide ((r19:Int) > 9223372036854775807)) (
 False) (
 qub.j2 x_0 r19 Q w17))
def qub (x_0:Sl) (count_1:Int) (Q:VWP) (w:World):Prop :=
 br (decide ((count_1:Int) < 0)) (
 False) (
 qub.j1 x_0 count_1 Q w)
theorem qub.ok (x_0:Sl) (count_1:Int) (Q:VWP) (w:World) (h:qub x_0 count_1 Q w):Calls Tryz.prog 320 ⟨[.slice x_0.a x_0.len x_0.cap,.int .i64 count_1]⟩ w (Ret Q):=by
 refine qp [.tmp 4] Tryz.func320 rfl rfl rfl rfl ?_
 refine qfb qpb (fun ρ w=>asL (ρ 0) fun x_0=>asI .i64 (ρ 1) fun count_1=>qub.j1 x_0 count_1 Q w) (Eq.mp (by kernel_rfl) h) ?_
 intro ρ w h
 obtain ⟨x_0,e0,h⟩:=ql h
 obtain ⟨count_1,e1,h⟩:=qd h
 refine qb e0 (qb (qa e1 rfl) ?_)
 refine qfb qpb (fun ρ w=>asL (ρ 0) fun x_0=>asI .u64 (ρ 6) fun lo_6=>qub.j2 x_0 lo_6 Q w) (Eq.mp (by kernel_rfl) h) ?_
 intro ρ w h
 obtain ⟨x_0,e0,h⟩:=ql h
 obtain ⟨lo_6,e6,h⟩:=qd h
 refine qb e0 (qb (qa e6 rfl) ?_)
 refine qfb qpb (fun ρ w=>asL (ρ 7) fun newslice_7=>asI .i64 (ρ 8) fun n_8=>qub.j3 newslice_7 n_8 Q w) (Eq.mp (by kernel_rfl) h) ?_
 intro ρ w h
 obtain ⟨newslice_7,e7,h⟩:=ql h
 obtain ⟨n_8,e8,h⟩:=qd h
 refine qb e7 (qb (qa e8 rfl) ?_)
 refine qu (fun ρ w=>asL (ρ 7) fun newslice_7=>qub.j4 newslice_7 Q w) ?_ ?_
 · skip
   refine qcb ?_
   obtain ⟨I,μ,hI,hr⟩:=h
   refine qlb (α:=Int) (fun s ρ=>ρ 8=.int .i64 s∧ρ 7=.slice newslice_7.a newslice_7.len newslice_7.cap) (fun s w=>I s w) (fun s w=>μ s w) n_8 ⟨rfl,rfl⟩ hI ?_
   rintro n_8 ρ w ⟨e8,e7⟩ hI
   have h:=hr n_8 w hI
   clear hr
   obtain ⟨nx1,hnx⟩:∃ nx:Sl→Int→World→Prop,nx=(fun newslice_7' n_8' w'=>(newslice_7'=newslice_7)∧I n_8' w'∧μ n_8' w' < μ n_8 w):=⟨_,rfl⟩
   rw [← hnx] at h
   refine qsb (M:=fun ρ w=>asL (ρ 7) fun newslice_7=>asI .i64 (ρ 8) fun n_8=>nx1 newslice_7 n_8 w) ?_ (fun ρ w h=>?_)
   · skip
     refine qb e7 (qb (qa e8 rfl) ?_)
     exact qg qpb _ (Eq.mp (by kernel_rfl) h)
   · skip
     obtain ⟨newslice_7',e7',h⟩:=ql h
     obtain ⟨n_8',e8',h⟩:=qd h
     rw [hnx] at h
     obtain ⟨hu,hI2,hμ⟩:=h
     obtain rfl:=hu
     exact ⟨n_8',⟨e8',e7'⟩,hI2,hμ⟩
 · intro ρ w h
   obtain ⟨newslice_7,e7,h⟩:=ql h
   refine qb e7 ?_
   exact qg qpb _ (Eq.mp (by kernel_rfl) h)
def qk.j7 (d_0:OAd) (t4:Int) (t11:Sl) (Q:VWP) (w:World):Prop :=
 nz d_0 fun a1 =>
 ldI .i64 w (Addr.add a1 3) fun x2 =>
 br ((x2:Int) != 0) (
 Q (.tuple ⟨[.slice none 0 0,.slice none 0 0]⟩) w) (
 lt (World.drew w) fun w3 =>
 bd t4 t11.cap fun n4 =>
 lt (⟨qwf t11.a t11.cap 0 1,n4 - 0,t11.cap - 0⟩:Sl) fun s5 =>
 bd t4 t11.len fun n6 =>
 lt (⟨qwf t11.a t11.cap n6 1,t11.len - n6,t11.cap - n6⟩:Sl) fun s7 =>
 Q (.tuple ⟨[.slice s5.a s5.len s5.cap,.slice s7.a s7.len s7.cap]⟩) w3)
def qk.j9 (d_0:OAd) (t4:Int) (t5:Int) (t10:OAd) (t11:Sl) (t12:Int) (t13:Int) (Q:VWP) (nx1:OAd→Int→Int→OAd→Sl→World→Prop) (w:World):Prop :=
 nz d_0 fun a8 =>
 ldI .i64 w (Addr.add a8 3) fun x9 =>
 br ((x9:Int) == 0) (
 lt (⟨World.heapSize w,0,none⟩:Addr) fun a10 =>
 lt (World.alloc w (.cells ⟨[.int .i64 t12]⟩ 3)) fun w11 =>
 Calls Tryz.prog 320 ⟨[.slice (some a10) 1 1,.int .i64 t13]⟩ w11 fun e12 w13 =>
 ∃ r14:Sl,e12=.returned (.slice r14.a r14.len r14.cap) ∧
 rdO w13 r14.a (r14.len * 1) fun c15 =>
 apK Tryz.prog 3 w13 t11.a t11.len t11.cap r14.len c15 fun s16 w17 =>
 nx1 d_0 t4 t5 t10 s16 w17) (
 nx1 d_0 t4 t5 t10 t11 w)
def qk.j8 (d_0:OAd) (t4:Int) (t5:Int) (t10:OAd) (t11:Sl) (Q:VWP) (nx1:OAd→Int→Int→OAd→Sl→World→Prop) (w:World):Prop :=
 Calls Tryz.prog 315 ⟨[.pointer d_0,.func (.func 316) ⟨[.pointer t10]⟩ ⟨[]⟩]⟩ w fun e18 w19 =>
 ∃ r20:Int,e18=.returned (.int .i64 r20) ∧
 Calls Tryz.prog 319 ⟨[.pointer d_0,.int .i64 r20,.slice t11.a t11.len t11.cap]⟩ w19 fun e21 w22 =>
 ∃ r23:Int,∃ r24:Int,e21=.returned (.tuple ⟨[.int .i64 r23,.int .i64 r24]⟩) ∧
 lt (IntKind.i64.wrap (t4+t5)) fun x25 =>
 lt (IntKind.i64.wrap (x25 - ((t11.len:Nat):Int))) fun x26 =>
 br (decide ((r24:Int) > x26)) (
 Calls Tryz.prog 271 ⟨[.pointer d_0,.int .i64 2]⟩ w22 fun e27 w28 =>
 e27=.returned (.tuple ⟨[]⟩) ∧
 qk.j9 d_0 t4 t5 t10 t11 r23 r24 Q nx1 w28) (
 qk.j9 d_0 t4 t5 t10 t11 r23 r24 Q nx1 w22)
def qk.b1 (d_0:OAd) (t4:Int) (t5:Int) (t10:OAd) (t11:Sl) (Q:VWP) (nx1:OAd→Int→Int→OAd→Sl→World→Prop) (w:World):Prop :=
 nz d_0 fun a29 =>
 ldI .i64 w (Addr.add a29 3) fun x30 =>
 br ((x30:Int) == 0) (
 lt (IntKind.i64.wrap (t4+t5)) fun x31 =>
 br (decide ((((t11.len:Nat):Int):Int) < x31)) (
 qk.j8 d_0 t4 t5 t10 t11 Q nx1 w) (
 qk.j7 d_0 t4 t11 Q w)) (
 qk.j7 d_0 t4 t11 Q w)
def qk.l1 (d_0:OAd) (t4:Int) (t5:Int) (t10:OAd) (t11:Sl) (Q:VWP) (w:World):Prop :=
 ∃ (I:Sl→World→Prop) (μ:Sl→World→Nat),I t11 w∧∀ t11:Sl,∀ w:World,I t11 w→qk.b1 d_0 t4 t5 t10 t11 Q (fun d_0' t4' t5' t10' t11' w'=>(d_0'=d_0∧t4'=t4∧t5'=t5∧t10'=t10)∧I t11' w'∧μ t11' w' < μ t11 w) w
def qk.j6 (d_0:OAd) (t4:Int) (t5:Int) (t10:OAd) (t11:Sl) (Q:VWP) (w:World):Prop :=
 qk.l1 d_0 t4 t5 t10 t11 Q w
def qk.j5 (d_0:OAd) (t4:Int) (t5:Int) (t6:Addr) (Q:VWP) (w:World):Prop :=
 lt (⟨cutP t6 19 0 1,19 - 0,19 - 0⟩:Sl) fun s32 =>
 Calls Tryz.prog 314 ⟨[.pointer d_0,.slice s32.a s32.len s32.cap,.bool false]⟩ w fun e33 w34 =>
 ∃ r35:OAd,e33=.returned (.pointer r35) ∧
 qk.j6 d_0 t4 t5 r35 ⟨none,0,0⟩ Q w34
def qk.b2 (d_0:OAd) (t4:Int) (t5:Int) (t6:Addr) (t32:Sl) (t33:Int) (t34:Int) (Q:VWP) (nx2:OAd→Int→Int→Addr→Sl→Int→Int→World→Prop) (w:World):Prop :=
 br (decide ((t34:Int) < t33)) (
 ixS t32.a t32.len t34 1 fun a36 =>
 ldI .i64 w a36 fun x37 =>
 Calls Tryz.prog 267 ⟨[.pointer d_0,.int .i64 3]⟩ w fun e38 w39 =>
 ∃ r40:Int,e38=.returned (.int .i64 r40) ∧
 ixA t6 19 x37 1 fun a41 =>
 st w39 a41 (.int .i64 r40) fun w42 =>
 lt (IntKind.i64.wrap (t34+1)) fun x43 =>
 nx2 d_0 t4 t5 t6 t32 t33 x43 w42) (
 qk.j5 d_0 t4 t5 t6 Q w)
def qk.l2 (d_0:OAd) (t4:Int) (t5:Int) (t6:Addr) (t32:Sl) (t33:Int) (t34:Int) (Q:VWP) (w:World):Prop :=
 ∃ (I:Int→World→Prop) (μ:Int→World→Nat),I t34 w∧∀ t34:Int,∀ w:World,I t34 w→qk.b2 d_0 t4 t5 t6 t32 t33 t34 Q (fun d_0' t4' t5' t6' t32' t33' t34' w'=>(d_0'=d_0∧t4'=t4∧t5'=t5∧t6'=t6∧t32'=t32∧t33'=t33)∧I t34' w'∧μ t34' w' < μ t34 w) w
def qk.j10 (d_0:OAd) (t4:Int) (t5:Int) (t6:Addr) (t32:Sl) (t33:Int) (t34:Int) (Q:VWP) (w:World):Prop :=
 qk.l2 d_0 t4 t5 t6 t32 t33 t34 Q w
def qk.j4 (d_0:OAd) (t4:Int) (t5:Int) (t6:Addr) (t7:Addr) (Q:VWP) (w:World):Prop :=
 Calls Tryz.prog 267 ⟨[.pointer d_0,.int .i64 4]⟩ w fun e44 w45 =>
 ∃ r46:Int,e44=.returned (.int .i64 r46) ∧
 lt (IntKind.i64.wrap (r46+4)) fun x47 =>
 bd x47 19 fun n48 =>
 lt (⟨cutP t7 19 0 1,n48 - 0,19 - 0⟩:Sl) fun s49 =>
 qk.j10 d_0 t4 t5 t6 s49 ((s49.len:Nat):Int) 0 Q w45
def qk.j3 (d_0:OAd) (t4:Int) (t5:Int) (Q:VWP) (w:World):Prop :=
 lt (⟨World.heapSize w,0,none⟩:Addr) fun a50 =>
 lt (World.alloc w (.cells (zc Tryz.prog 426) 426)) fun w51 =>
 Calls Tryz.prog 318 ⟨[]⟩ w51 fun e52 w53 =>
 ∃ r54:(Array Value),e52=.returned (.agg r54) ∧
 lt (⟨World.heapSize w53,0,none⟩:Addr) fun a55 =>
 lt (World.alloc w53 (.cells (zc Tryz.prog 426) 426)) fun w56 =>
 (r54).size=19 ∧
 stA w56 a55 r54 fun w57 =>
 qk.j4 d_0 t4 t5 a50 a55 Q w57
def qk.j2 (d_0:OAd) (t4:Int) (Q:VWP) (w:World):Prop :=
 Calls Tryz.prog 267 ⟨[.pointer d_0,.int .i64 5]⟩ w fun e58 w59 =>
 ∃ r60:Int,e58=.returned (.int .i64 r60) ∧
 lt (IntKind.i64.wrap (r60+1)) fun x61 =>
 br (decide ((x61:Int) > 30)) (
 Calls Tryz.prog 271 ⟨[.pointer d_0,.int .i64 2]⟩ w59 fun e62 w63 =>
 e62=.returned (.tuple ⟨[]⟩) ∧
 qk.j3 d_0 t4 x61 Q w63) (
 qk.j3 d_0 t4 x61 Q w59)
def qk.j1 (d_0:OAd) (Q:VWP) (w:World):Prop :=
 Calls Tryz.prog 267 ⟨[.pointer d_0,.int .i64 5]⟩ w fun e64 w65 =>
 ∃ r66:Int,e64=.returned (.int .i64 r66) ∧
 lt (IntKind.i64.wrap (r66+257)) fun x67 =>
 br (decide ((x67:Int) > 286)) (
 Calls Tryz.prog 271 ⟨[.pointer d_0,.int .i64 2]⟩ w65 fun e68 w69 =>
 e68=.returned (.tuple ⟨[]⟩) ∧
 qk.j2 d_0 x67 Q w69) (
 qk.j2 d_0 x67 Q w65)
def qk (d_0:OAd) (Q:VWP) (w:World):Prop :=
 qk.j1 d_0 Q w
theorem qk.ok (d_0:OAd) (Q:VWP) (w:World) (h:qk d_0 Q w):Calls Tryz.prog 270 ⟨[.pointer d_0]⟩ w (Ret Q):=by
 refine qp [.tmp 2,.tmp 3] Tryz.func270 rfl rfl rfl rfl ?_
 refine qu (fun ρ w=>asP (ρ 0) fun d_0=>qk.j1 d_0 Q w) ?_ ?_
 · skip
   exact qg qpb _ (Eq.mp (by kernel_rfl) h)
 · intro ρ w h
   obtain ⟨d_0,e0,h⟩:=qr h
   refine qb e0 ?_
   refine qfb qpb (fun ρ w=>asP (ρ 0) fun d_0=>asI .i64 (ρ 4) fun t4=>qk.j2 d_0 t4 Q w) (Eq.mp (by kernel_rfl) h) ?_
   intro ρ w h
   obtain ⟨d_0,e0,h⟩:=qr h
   obtain ⟨t4,e4,h⟩:=qd h
   refine qb e0 (qb (qa e4 rfl) ?_)
   refine qfb qpb (fun ρ w=>asP (ρ 0) fun d_0=>asI .i64 (ρ 4) fun t4=>asI .i64 (ρ 5) fun t5=>qk.j3 d_0 t4 t5 Q w) (Eq.mp (by kernel_rfl) h) ?_
   intro ρ w h
   obtain ⟨d_0,e0,h⟩:=qr h
   obtain ⟨t4,e4,h⟩:=qd h
   obtain ⟨t5,e5,h⟩:=qd h
   refine qb e0 (qb (qa e4 rfl) (qb (qa (qa e5 rfl) rfl) ?_))
   refine qfb qpb (fun ρ w=>asP (ρ 0) fun d_0=>asI .i64 (ρ 4) fun t4=>asI .i64 (ρ 5) fun t5=>asA (ρ 6) fun t6=>asA (ρ 7) fun t7=>qk.j4 d_0 t4 t5 t6 t7 Q w) (Eq.mp (by kernel_rfl) h) ?_
   intro ρ w h
   obtain ⟨d_0,e0,h⟩:=qr h
   obtain ⟨t4,e4,h⟩:=qd h
   obtain ⟨t5,e5,h⟩:=qd h
   obtain ⟨t6,e6,h⟩:=qbf h
   obtain ⟨t7,e7,h⟩:=qbf h
   refine qb e0 (qb (qa e4 rfl) (qb (qa (qa e5 rfl) rfl) (qb (qa (qa (qa e6 rfl) rfl) rfl) (qb (qa (qa (qa (qa e7 rfl) rfl) rfl) rfl) ?_))))
   refine qu (fun ρ w=>asP (ρ 0) fun d_0=>asI .i64 (ρ 4) fun t4=>asI .i64 (ρ 5) fun t5=>asA (ρ 6) fun t6=>qk.j5 d_0 t4 t5 t6 Q w) ?_ ?_
   · skip
     refine qu (fun ρ w=>asP (ρ 0) fun d_0=>asI .i64 (ρ 4) fun t4=>asI .i64 (ρ 5) fun t5=>asA (ρ 6) fun t6=>asL (ρ 32) fun t32=>asI .i64 (ρ 33) fun t33=>asI .i64 (ρ 34) fun t34=>qk.j10 d_0 t4 t5 t6 t32 t33 t34 Q w) ?_ ?_
     · skip
       exact qg qpb _ (Eq.mp (by kernel_rfl) h)
     · intro ρ w h
       obtain ⟨d_0,e0,h⟩:=qr h
       obtain ⟨t4,e4,h⟩:=qd h
       obtain ⟨t5,e5,h⟩:=qd h
       obtain ⟨t6,e6,h⟩:=qbf h
       obtain ⟨t32,e32,h⟩:=ql h
       obtain ⟨t33,e33,h⟩:=qd h
       obtain ⟨t34,e34,h⟩:=qd h
       refine qb e0 (qb (qa e4 rfl) (qb (qa (qa e5 rfl) rfl) (qb (qa (qa (qa e6 rfl) rfl) rfl) (qb (qa (qa (qa (qa e32 rfl) rfl) rfl) rfl) (qb (qa (qa (qa (qa (qa e33 rfl) rfl) rfl) rfl) rfl) (qb (qa (qa (qa (qa (qa (qa e34 rfl) rfl) rfl) rfl) rfl) rfl) ?_))))))
       refine qcb ?_
       obtain ⟨I,μ,hI,hr⟩:=h
       refine qlb (α:=Int) (fun s ρ=>ρ 34=.int .i64 s∧ρ 0=.pointer d_0∧ρ 4=.int .i64 t4∧ρ 5=.int .i64 t5∧ρ 6=.pointer (some t6)∧ρ 32=.slice t32.a t32.len t32.cap∧ρ 33=.int .i64 t33) (fun s w=>I s w) (fun s w=>μ s w) t34 ⟨rfl,rfl,rfl,rfl,rfl,rfl,rfl⟩ hI ?_
       rintro t34 ρ w ⟨e34,e0,e4,e5,e6,e32,e33⟩ hI
       have h:=hr t34 w hI
       clear hr
       obtain ⟨nx2,hnx⟩:∃ nx:OAd→Int→Int→Addr→Sl→Int→Int→World→Prop,nx=(fun d_0' t4' t5' t6' t32' t33' t34' w'=>(d_0'=d_0∧t4'=t4∧t5'=t5∧t6'=t6∧t32'=t32∧t33'=t33)∧I t34' w'∧μ t34' w' < μ t34 w):=⟨_,rfl⟩
       rw [← hnx] at h
       refine qsb (M:=fun ρ w=>asP (ρ 0) fun d_0=>asI .i64 (ρ 4) fun t4=>asI .i64 (ρ 5) fun t5=>asA (ρ 6) fun t6=>asL (ρ 32) fun t32=>asI .i64 (ρ 33) fun t33=>asI .i64 (ρ 34) fun t34=>nx2 d_0 t4 t5 t6 t32 t33 t34 w) ?_ (fun ρ w h=>?_)
       · skip
         refine qb e0 (qb (qa e4 rfl) (qb (qa (qa e5 rfl) rfl) (qb (qa (qa (qa e6 rfl) rfl) rfl) (qb (qa (qa (qa (qa e32 rfl) rfl) rfl) rfl) (qb (qa (qa (qa (qa (qa e33 rfl) rfl) rfl) rfl) rfl) (qb (qa (qa (qa (qa (qa (qa e34 rfl) rfl) rfl) rfl) rfl) rfl) ?_))))))
         exact qg qpb _ (Eq.mp (by kernel_rfl) h)
       · skip
         obtain ⟨d_0',e0',h⟩:=qr h
         obtain ⟨t4',e4',h⟩:=qd h
         obtain ⟨t5',e5',h⟩:=qd h
         obtain ⟨t6',e6',h⟩:=qbf h
         obtain ⟨t32',e32',h⟩:=ql h
         obtain ⟨t33',e33',h⟩:=qd h
         obtain ⟨t34',e34',h⟩:=qd h
         rw [hnx] at h
         obtain ⟨hu,hI2,hμ⟩:=h
         obtain ⟨rfl,rfl,rfl,rfl,rfl,rfl⟩:=hu
         exact ⟨t34',⟨e34',e0',e4',e5',e6',e32',e33'⟩,hI2,hμ⟩
   · intro ρ w h
     obtain ⟨d_0,e0,h⟩:=qr h
     obtain ⟨t4,e4,h⟩:=qd h
     obtain ⟨t5,e5,h⟩:=qd h
     obtain ⟨t6,e6,h⟩:=qbf h
     refine qb e0 (qb (qa e4 rfl) (qb (qa (qa e5 rfl) rfl) (qb (qa (qa (qa e6 rfl) rfl) rfl) ?_)))
     refine qfb qpb (fun ρ w=>asP (ρ 0) fun d_0=>asI .i64 (ρ 4) fun t4=>asI .i64 (ρ 5) fun t5=>asP (ρ 10) fun t10=>asL (ρ 11) fun t11=>qk.j6 d_0 t4 t5 t10 t11 Q w) (Eq.mp (by kernel_rfl) h) ?_
     intro ρ w h
     obtain ⟨d_0,e0,h⟩:=qr h
     obtain ⟨t4,e4,h⟩:=qd h
     obtain ⟨t5,e5,h⟩:=qd h
     obtain ⟨t10,e10,h⟩:=qr h
     obtain ⟨t11,e11,h⟩:=ql h
     refine qb e0 (qb (qa e4 rfl) (qb (qa (qa e5 rfl) rfl) (qb (qa (qa (qa e10 rfl) rfl) rfl) (qb (qa (qa (qa (qa e11 rfl) rfl) rfl) rfl) ?_))))
     refine qu (fun ρ w=>asP (ρ 0) fun d_0=>asI .i64 (ρ 4) fun t4=>asL (ρ 11) fun t11=>qk.j7 d_0 t4 t11 Q w) ?_ ?_
     · skip
       refine qcb ?_
       obtain ⟨I,μ,hI,hr⟩:=h
       refine qlb (α:=Sl) (fun s ρ=>ρ 11=.slice s.a s.len s.cap∧ρ 0=.pointer d_0∧ρ 4=.int .i64 t4∧ρ 5=.int .i64 t5∧ρ 10=.pointer t10) (fun s w=>I s w) (fun s w=>μ s w) t11 ⟨rfl,rfl,rfl,rfl,rfl⟩ hI ?_
       rintro t11 ρ w ⟨e11,e0,e4,e5,e10⟩ hI
       have h:=hr t11 w hI
       clear hr
       obtain ⟨nx1,hnx⟩:∃ nx:OAd→Int→Int→OAd→Sl→World→Prop,nx=(fun d_0' t4' t5' t10' t11' w'=>(d_0'=d_0∧t4'=t4∧t5'=t5∧t10'=t10)∧I t11' w'∧μ t11' w' < μ t11 w):=⟨_,rfl⟩
       rw [← hnx] at h
       refine qsb (M:=fun ρ w=>asP (ρ 0) fun d_0=>asI .i64 (ρ 4) fun t4=>asI .i64 (ρ 5) fun t5=>asP (ρ 10) fun t10=>asL (ρ 11) fun t11=>nx1 d_0 t4 t5 t10 t11 w) ?_ (fun ρ w h=>?_)
       · skip
         refine qb e0 (qb (qa e4 rfl) (qb (qa (qa e5 rfl) rfl) (qb (qa (qa (qa e10 rfl) rfl) rfl) (qb (qa (qa (qa (qa e11 rfl) rfl) rfl) rfl) ?_))))
         refine qu (fun ρ w=>asP (ρ 0) fun d_0=>asI .i64 (ρ 4) fun t4=>asI .i64 (ρ 5) fun t5=>asP (ρ 10) fun t10=>asL (ρ 11) fun t11=>qk.j8 d_0 t4 t5 t10 t11 Q nx1 w) ?_ ?_
         · skip
           exact qg qpb _ (Eq.mp (by kernel_rfl) h)
         · intro ρ w h
           obtain ⟨d_0,e0,h⟩:=qr h
           obtain ⟨t4,e4,h⟩:=qd h
           obtain ⟨t5,e5,h⟩:=qd h
           obtain ⟨t10,e10,h⟩:=qr h
           obtain ⟨t11,e11,h⟩:=ql h
           refine qb e0 (qb (qa e4 rfl) (qb (qa (qa e5 rfl) rfl) (qb (qa (qa (qa e10 rfl) rfl) rfl) (qb (qa (qa (qa (qa e11 rfl) rfl) rfl) rfl) ?_))))
           refine qcb ?_
           refine qfb qpb (fun ρ w=>asP (ρ 0) fun d_0=>asI .i64 (ρ 4) fun t4=>asI .i64 (ρ 5) fun t5=>asP (ρ 10) fun t10=>asL (ρ 11) fun t11=>asI .i64 (ρ 12) fun t12=>asI .i64 (ρ 13) fun t13=>qk.j9 d_0 t4 t5 t10 t11 t12 t13 Q nx1 w) (Eq.mp (by kernel_rfl) h) ?_
           intro ρ w h
           obtain ⟨d_0,e0,h⟩:=qr h
           obtain ⟨t4,e4,h⟩:=qd h
           obtain ⟨t5,e5,h⟩:=qd h
           obtain ⟨t10,e10,h⟩:=qr h
           obtain ⟨t11,e11,h⟩:=ql h
           obtain ⟨t12,e12,h⟩:=qd h
           obtain ⟨t13,e13,h⟩:=qd h
           refine qb e0 (qb (qa e4 rfl) (qb (qa (qa e5 rfl) rfl) (qb (qa (qa (qa e10 rfl) rfl) rfl) (qb (qa (qa (qa (qa e11 rfl) rfl) rfl) rfl) (qb (qa (qa (qa (qa (qa e12 rfl) rfl) rfl) rfl) rfl) (qb (qa (qa (qa (qa (qa (qa e13 rfl) rfl) rfl) rfl) rfl) rfl) ?_))))))
           exact qg qpb _ (Eq.mp (by kernel_rfl) h)
       · skip
         obtain ⟨d_0',e0',h⟩:=qr h
         obtain ⟨t4',e4',h⟩:=qd h
         obtain ⟨t5',e5',h⟩:=qd h
         obtain ⟨t10',e10',h⟩:=qr h
         obtain ⟨t11',e11',h⟩:=ql h
         rw [hnx] at h
         obtain ⟨hu,hI2,hμ⟩:=h
         obtain ⟨rfl,rfl,rfl,rfl⟩:=hu
         exact ⟨t11',⟨e11',e0',e4',e5',e10'⟩,hI2,hμ⟩
     · intro ρ w h
       obtain ⟨d_0,e0,h⟩:=qr h
       obtain ⟨t4,e4,h⟩:=qd h
       obtain ⟨t11,e11,h⟩:=ql h
       refine qb e0 (qb (qa e4 rfl) (qb (qa (qa e11 rfl) rfl) ?_))
       exact qg qpb _ (Eq.mp (by kernel_rfl) h)
end Go.Proofs.YthdmmmfgjmmelaaGreat
namespace Go.Proofs.YthdmmmfgjmmelaaGreat
open Go Go.Proofs
set_option linter.unusedVariables false
set_option maxRecDepth 100000
def qgm (x_0 y_1:Int) (Q:VWP) (w:World):Prop :=
 Calls Tryz.prog 348 ⟨[.int .u64 x_0,.int .u64 y_1]⟩ w fun e1 w2 =>
 ∃ r3:Int,∃ r4:Int,e1=.returned (.tuple ⟨[.int .u64 r3,.int .u64 r4]⟩) ∧
 Q (.tuple ⟨[.int .u64 r3,.int .u64 r4]⟩) w2
theorem qgm.ok (x_0:Int) (y_1:Int) (Q:VWP) (w:World) (h:qgm x_0 y_1 Q w):Calls Tryz.prog 341 ⟨[.int .u64 x_0,.int .u64 y_1]⟩ w (Ret Q):=by
 refine qp [.tmp 4,.tmp 5] Tryz.func341 rfl rfl rfl rfl ?_
 exact qg qpb _ (Eq.mp (by kernel_rfl) h)
def qfm (x_0 y_1:Int) (Q:VWP) (w:World):Prop :=
 lt (andV .u64 x_0 4294967295) fun x1 =>
 (0:Int)≤32 ∧
 lt (shrV .u64 x_0 32) fun x2 =>
 lt (andV .u64 y_1 4294967295) fun x3 =>
 (0:Int)≤32 ∧
 lt (shrV .u64 y_1 32) fun x4 =>
 lt (IntKind.u64.wrap (x1 * x3)) fun x5 =>
 lt (IntKind.u64.wrap (x2 * x3)) fun x6 =>
 (0:Int)≤32 ∧
 lt (shrV .u64 x5 32) fun x7 =>
 lt (IntKind.u64.wrap (x6+x7)) fun x8 =>
 lt (andV .u64 x8 4294967295) fun x9 =>
 (0:Int)≤32 ∧
 lt (shrV .u64 x8 32) fun x10 =>
 lt (IntKind.u64.wrap (x1 * x4)) fun x11 =>
 lt (IntKind.u64.wrap (x9+x11)) fun x12 =>
 lt (IntKind.u64.wrap (x2 * x4)) fun x13 =>
 lt (IntKind.u64.wrap (x13+x10)) fun x14 =>
 (0:Int)≤32 ∧
 lt (shrV .u64 x12 32) fun x15 =>
 lt (IntKind.u64.wrap (x14+x15)) fun x16 =>
 lt (IntKind.u64.wrap (x_0 * y_1)) fun x17 =>
 Q (.tuple ⟨[.int .u64 x16,.int .u64 x17]⟩) w
theorem qfm.ok (x_0:Int) (y_1:Int) (Q:VWP) (w:World) (h:qfm x_0 y_1 Q w):Calls Tryz.prog 348 ⟨[.int .u64 x_0,.int .u64 y_1]⟩ w (Ret Q):=by
 refine qp [.tmp 4,.tmp 5] Tryz.func348 rfl rfl rfl rfl ?_
 exact qg qpb _ (Eq.mp (by kernel_rfl) h)
end Go.Proofs.YthdmmmfgjmmelaaGreat
namespace Go.Proofs.YthdmmmfgjmmelaaGreat
open Go Go.Proofs
set_option linter.unusedVariables false
set_option linter.unusedSimpArgs false
attribute [local irreducible] apK cpK mkK br
def qxg:List Int:=[16,17,18,0,8,7,9,6,10,5,11,4,12,3,13,2,14,1,15]
def qsi (B:List Bool) (z:Z):Nat→List Int × Z
 | 0=>(List.replicate 19 0,z)
 | k+1=>((qsi B z k).1.set (qxg.getD k 0).toNat (qie B 3 (qsi B z k).2).1,(qie B 3 (qsi B z k).2).2)
def qye (B:List Bool) (sym:Int) (l:List Int) (z:Z):(Int × Int) × Z :=
 if sym=16 then (if l.length=0 then ((0,0),qdd 2 z) else ((l.getD (l.length - 1) 0,3+(qie B 2 z).1),(qie B 2 z).2))
 else if sym=17 then ((0,3+(qie B 3 z).1),(qie B 3 z).2)
 else if sym=18 then ((0,11+(qie B 7 z).1),(qie B 7 z).2)
 else ((sym,1),z)
def zllS (cl:List Int) (B:List Bool) (N:Nat) (l:List Int) (z:Z):List Int × Z :=
 let s:=qxi cl B z
 let a:=qye B s.1 l s.2
 let z3:=if (N:Int) - l.length < a.1.2 then qdd 2 a.2 else a.2
 (if z3.2.2=0 then l ++ List.replicate a.1.2.toNat a.1.1 else l,z3)
def zll (cl:List Int) (B:List Bool) (N:Nat):Nat→List Int→Z→List Int × Z
 | 0,l,z=>(l,z)
 | f+1,l,z=>if z.2.2 ≠ 0 ∨ N≤l.length then (l,z) else zll cl B N f (zllS cl B N l z).1 (zllS cl B N l z).2
def zcodeH (ls:List Int) (half:Bool) (z:Z):Z:=if z.2.2=0∧qji ls half ≠ 0 then qdd 2 z else z
def qoh (B:List Bool) (z:Z):(List Int × List Int) × Z :=
 let g1:=qie B 5 z
 let nl:=g1.1+257
 let g2:=qie B 5 (if 286 < nl then qdd 2 g1.2 else g1.2)
 let nd:=g2.1+1
 let g3:=qie B 4 (if 30 < nd then qdd 2 g2.2 else g2.2)
 let c:=qsi B g3.2 (g3.1+4).toNat
 let r:=zll c.1 B (nl+nd).toNat ((nl+nd).toNat+1) [] (zcodeH c.1 false c.2)
 if r.2.2.2 ≠ 0 then (([],[]),r.2) else ((r.1.take nl.toNat,r.1.drop nl.toNat),r.2)
def qyc (B:List Bool) (most:Int) (z:Z):Bool × Z :=
 let a:=qie B 1 z
 let k:=qie B 2 a.2
 if k.2.2.2 ≠ 0 then (false,k.2) else if k.1=0 then (a.1 == 1,zstored B most k.2) else if k.1=1 then (a.1 == 1,zblk qih qme B most k.2)
 else if k.1=2 then (a.1 == 1,let q:=qoh B k.2; if q.2.2.2 ≠ 0 then q.2 else zblk q.1.1 q.1.2 B most q.2) else (a.1 == 1,qdd 2 k.2)
inductive ZAll (B:List Bool) (most:Int):Nat→Z→Z→Prop
 | bad {z:Z} (he:(qyc B most z).2.2.2 ≠ 0):ZAll B most 0 z (qyc B most z).2
 | last {z:Z} (he:(qyc B most z).2.2.2=0) (hl:(qyc B most z).1=true):ZAll B most 0 z (qyc B most z).2
 | next {n:Nat} {z z':Z} (he:(qyc B most z).2.2.2=0) (hl:(qyc B most z).1=false) (hr:ZAll B most n (qyc B most z).2 z'):ZAll B most (n+1) z z'
section
variable {B:List Bool} {most:Int} {z:Z}
theorem qwk (n:Int) (h:z.1≤B.length):z.1≤(qie B n z).2.1∧(qie B n z).2.1≤B.length:=qym n h
theorem qlo {n:Int} (h:z.2.2 ≠ 0):qie B n z=(0,z):=by unfold qie; rw [if_pos h]
theorem zclr_len (k:Nat):(qsi B z k).1.length=19:=by
 induction k with
 | zero=>rfl
 | succ k ih=>rw [qsi,List.length_set,ih]
theorem zclr_p (h:z.1≤B.length) (k:Nat):z.1≤(qsi B z k).2.1∧(qsi B z k).2.1≤B.length:=by
 induction k with
 | zero=>exact ⟨Nat.le_refl _,h⟩
 | succ k ih =>
   have:=qwk (B:=B) (z:=(qsi B z k).2) 3 ih.2
   rw [qsi]
   exact ⟨by simp only; omega,this.2⟩
theorem zagain_p (sym:Int) (l:List Int) (h:z.1≤B.length):z.1≤(qye B sym l z).2.1∧(qye B sym l z).2.1≤B.length:=by
 unfold qye
 split
 · split
   · exact ⟨Nat.le_refl _,h⟩
   · exact qwk 2 h
 · split
   · exact qwk 3 h
   · split
     · exact qwk 7 h
     · exact ⟨Nat.le_refl _,h⟩
theorem qre (n:Int) (hn:n≤16):0≤(qie B n z).1∧(qie B n z).1 < 65536:=by
 have h1:=qqi (B:=B) (z:=z) n
 have h2:(2:Int) ^ n.toNat≤(65536:Int):=by
  have:=qvp (a:=n.toNat) (b:=16) (c:=65536) (by omega) (by decide)
  exact this
 omega
theorem zagain_n (sym:Int) (l:List Int):0≤(qye B sym l z).1.2∧(qye B sym l z).1.2≤70000∧((qye B sym l z).2.2.2=0→1≤(qye B sym l z).1.2):=by
 unfold qye
 split
 · split
   · exact ⟨Int.le_refl _,(show (0:Int)≤70000 by decide),fun h=>absurd h (qig (by decide))⟩
   · have:=qre (B:=B) (z:=z) 2 (by decide)
     simp only; omega
 · split
   · have:=qre (B:=B) (z:=z) 3 (by decide)
     simp only; omega
   · split
     · have:=qre (B:=B) (z:=z) 7 (by decide)
       simp only; omega
     · simp only; omega
theorem zllS_p {cl:List Int} {N:Nat} (l:List Int) (h:z.1≤B.length):z.1≤(zllS cl B N l z).2.1∧(zllS cl B N l z).2.1≤B.length:=by
 unfold zllS
 simp only
 have h1:=zsym_fwd (B:=B) cl (z:=z) h
 have h2:=zagain_p (B:=B) (qxi cl B z).1 l (z:=(qxi cl B z).2) h1.2
 have h3:=h1.1
 split
 · rw [qdp]; omega
 · omega
theorem zll_p {cl:List Int} {N:Nat}:∀ (f:Nat) (l:List Int) (z:Z),z.1≤B.length→z.1≤(zll cl B N f l z).2.1∧(zll cl B N f l z).2.1≤B.length:=by
 intro f
 induction f with
 | zero=>intro l z h; exact ⟨Nat.le_refl _,h⟩
 | succ f ih =>
   intro l z h
   rw [zll]
   split
   · exact ⟨Nat.le_refl _,h⟩
   · have h1:=zllS_p (cl:=cl) (N:=N) l h
     have:=ih (zllS cl B N l z).1 (zllS cl B N l z).2 h1.2
     omega
theorem zcodeH_p (ls:List Int) (half:Bool):(zcodeH ls half z).1=z.1:=by unfold zcodeH; split <;> rfl
theorem zlens_p (h:z.1≤B.length):z.1≤(qoh B z).2.1∧(qoh B z).2.1≤B.length:=by
 unfold qoh
 simp only
 have h1:=qwk (B:=B) (z:=z) 5 h
 generalize qie B 5 z=g1 at h1 ⊢
 have e1:(if 286 < g1.1+257 then qdd 2 g1.2 else g1.2).1=g1.2.1:=by split <;> rfl
 generalize (if 286 < g1.1+257 then qdd 2 g1.2 else g1.2)=y1 at e1 ⊢
 have h2:=qwk (B:=B) (z:=y1) 5 (by omega)
 generalize qie B 5 y1=g2 at h2 ⊢
 have e2:(if 30 < g2.1+1 then qdd 2 g2.2 else g2.2).1=g2.2.1:=by split <;> rfl
 generalize (if 30 < g2.1+1 then qdd 2 g2.2 else g2.2)=y2 at e2 ⊢
 have h3:=qwk (B:=B) (z:=y2) 4 (by omega)
 generalize qie B 4 y2=g3 at h3 ⊢
 have h4:=zclr_p (B:=B) (z:=g3.2) h3.2 (g3.1+4).toNat
 generalize qsi B g3.2 (g3.1+4).toNat=c at h4 ⊢
 have e5:=zcodeH_p (z:=c.2) c.1 false
 have h5:=zll_p (cl:=c.1) (N:=(g1.1+257+(g2.1+1)).toNat) (B:=B) ((g1.1+257+(g2.1+1)).toNat+1) [] (zcodeH c.1 false c.2) (by omega)
 split
 · simp only; omega
 · simp only; omega
theorem zllS_out {cl:List Int} {N:Nat} (l:List Int):(zllS cl B N l z).2.2.1=z.2.1:=by
 have ha:∀ (sym:Int) (l:List Int) (z:Z),(qye B sym l z).2.2.1=z.2.1:=by
  intro sym l z
  unfold qye
  split
  · split
    · rfl
    · exact qgd _
  · split
    · exact qgd _
    · split
      · exact qgd _
      · rfl
 unfold zllS
 simp only
 split
 · show (qye _ _ _ _).2.2.1=_
   rw [ha,qeh]
 · rw [ha,qeh]
theorem qxm:(qoh B z).2.2.1=z.2.1:=by
 have hcl:∀ k (z:Z),(qsi B z k).2.2.1=z.2.1:=by
  intro k z
  induction k with
  | zero=>rfl
  | succ k ih=>rw [qsi]; simp only; rw [qgd,ih]
 have hll:∀ cl N f l (z:Z),(zll cl B N f l z).2.2.1=z.2.1:=by
  intro cl N f
  induction f with
  | zero=>intro l z; rfl
  | succ f ih =>
    intro l z
    rw [zll]
    split
    · rfl
    · rw [ih,zllS_out]
 have hc:∀ ls half (z:Z),(zcodeH ls half z).2.1=z.2.1:=by intro ls half z; unfold zcodeH; split <;> rfl
 unfold qoh
 simp only
 have h1:=qgd (B:=B) (z:=z) 5
 generalize qie B 5 z=g1 at h1 ⊢
 have e1:(if 286 < g1.1+257 then qdd 2 g1.2 else g1.2).2.1=g1.2.2.1:=by split <;> rfl
 generalize (if 286 < g1.1+257 then qdd 2 g1.2 else g1.2)=y1 at e1 ⊢
 have h2:=qgd (B:=B) (z:=y1) 5
 generalize qie B 5 y1=g2 at h2 ⊢
 have e2:(if 30 < g2.1+1 then qdd 2 g2.2 else g2.2).2.1=g2.2.2.1:=by split <;> rfl
 generalize (if 30 < g2.1+1 then qdd 2 g2.2 else g2.2)=y2 at e2 ⊢
 have h3:=qgd (B:=B) (z:=y2) 4
 generalize qie B 4 y2=g3 at h3 ⊢
 have h4:=hcl (g3.1+4).toNat g3.2
 generalize qsi B g3.2 (g3.1+4).toNat=c at h4 ⊢
 have h5:=hll c.1 (g1.1+257+(g2.1+1)).toNat ((g1.1+257+(g2.1+1)).toNat+1) [] (zcodeH c.1 false c.2)
 rw [hc] at h5
 split
 · simp only; rw [h5,h4,h3,e2,h2,e1,h1]
 · simp only; rw [h5,h4,h3,e2,h2,e1,h1]
theorem qcp {cl:List Int} {N:Nat}:∀ (f:Nat) (l:List Int) (z:Z),l.length≤N→N < f+l.length→(zll cl B N f l z).2.2.2=0→(zll cl B N f l z).1.length=N:=by
 intro f
 induction f with
 | zero=>intro l z h1 h2 _; omega
 | succ f ih =>
   intro l z h1 h2 h3
   rw [zll] at h3 ⊢
   split at h3
   · rename_i hc
     rw [if_pos hc]
     rcases hc with hc | hc
     · exact absurd h3 hc
     · simp only; omega
   · rename_i hc
     rw [if_neg hc]
     have hstep:(zllS cl B N l z).1.length≤N∧((zllS cl B N l z).2.2.2=0→l.length < (zllS cl B N l z).1.length):=by
      have hn:=zagain_n (B:=B) (z:=(qxi cl B z).2) (qxi cl B z).1 l
      unfold zllS
      simp only
      split
      · rw [if_neg (qig (by decide))]
        exact ⟨h1,fun h=>absurd h (qig (by decide))⟩
      · rename_i hle
        split
        · rename_i h0
          have:=hn.2.2 h0
          rw [List.length_append,List.length_replicate]
          exact ⟨by omega,fun _=>by omega⟩
        · rename_i h0
          exact ⟨h1,fun h=>absurd h h0⟩
     by_cases h0:(zllS cl B N l z).2.2.2=0
     · exact ih _ _ hstep.1 (by have:=hstep.2 h0; omega) h3
     · exfalso
       have:∀ f l (z:Z),z.2.2 ≠ 0→zll cl B N f l z=(l,z):=by
        intro f l z hz
        cases f with
        | zero=>rfl
        | succ f=>rw [zll,if_pos (Or.inl hz)]
       rw [this _ _ _ h0] at h3
       exact h0 h3
theorem zlens_len (h:(qoh B z).2.2.2=0):257≤(qoh B z).1.1.length:=by
 unfold qoh at h ⊢
 simp only at h ⊢
 have hg1:=qre (B:=B) (z:=z) 5 (by decide)
 generalize qie B 5 z=g1 at h hg1 ⊢
 generalize (if 286 < g1.1+257 then qdd 2 g1.2 else g1.2)=y1 at h ⊢
 have hg2:=qre (B:=B) (z:=y1) 5 (by decide)
 generalize qie B 5 y1=g2 at h hg2 ⊢
 generalize qsi B (qie B 4 (if 30 < g2.1+1 then qdd 2 g2.2 else g2.2)).2 ((qie B 4 (if 30 < g2.1+1 then qdd 2 g2.2 else g2.2)).1+4).toNat=c at h ⊢
 have hl:=qcp (cl:=c.1) (B:=B) (N:=(g1.1+257+(g2.1+1)).toNat) ((g1.1+257+(g2.1+1)).toNat+1) [] (zcodeH c.1 false c.2) (by simp) (by simp)
 generalize zll c.1 B (g1.1+257+(g2.1+1)).toNat ((g1.1+257+(g2.1+1)).toNat+1) [] (zcodeH c.1 false c.2)=r at h hl ⊢
 split at h
 · rename_i h0
   exact absurd h h0
 · rename_i h0
   rw [if_neg h0]
   have:=hl (Classical.byContradiction h0)
   simp only [List.length_take]
   omega
theorem zblk_len2 {ll dl:List Int} (hm:most≤1000000) (h:z.2.1.length≤1000000):(zblk ll dl B most z).2.1.length≤1000000:=by
 unfold zblk
 simp only
 have e1:(qjg dl (qjg ll (if z.2.2=0∧ll.getD 256 0=0 then qdd 2 z else z))).2.1.length≤1000000:=by
  rw [qan,qan]
  split <;> exact h
 generalize qjg dl (qjg ll (if z.2.2=0∧ll.getD 256 0=0 then qdd 2 z else z))=z3 at e1 ⊢
 split
 · exact e1
 · exact zcoded_len hm _ _ e1
end
section
variable {F0:List Nat} {w0 w:World} {ps rest:List As} {s:Sl}
theorem St.cp {k:IntKind} {zs ys:List Int} {K:World→Prop} (h:St F0 w0 w (qmc 1 s (ivs k zs) :: ps)) (o:Nat) (ho:o+ys.length≤zs.length) (hk:∀ w',St F0 w0 w' (qmc 1 s (ivs k (zs.take o ++ ys ++ zs.drop (o+ys.length))) :: ps)→K w'):cpK w (qwf s.a s.cap o 1) ⟨ivs k ys⟩ K:=by
 unfold cpK
 have hl:=h.len
 rw [qx] at hl
 obtain ⟨f,hown,hst⟩:=h.step
 rcases hown with ⟨rfl,hnil,rfl⟩ | ⟨ob,rs,h1,hb,h2,h3,rfl⟩
 · have hz:zs=[]:=by simpa using hnil
   subst hz
   have hy:ys=[]:=List.length_eq_zero_iff.1 (by simp only [List.length_nil] at ho; omega)
   subst hy
   have e:qwf (none:Option Addr) 0 o 1=none:=by unfold qwf; split <;> rfl
   simp only [e]
   have:=hk w (by simpa using h)
   exact this
 · rw [List.length_append] at h3
   rw [qx] at h2 h3
   have e:qwf s.a s.cap o 1=some ⟨ob,if s.cap=o then 0 else o,none⟩:=by
    unfold qwf
    rw [h1]
    split
    · rfl
    · rw [Option.map_some,qnf,Nat.zero_add,Nat.mul_one]
   rw [e]
   simp only
   by_cases hc:s.cap=o
   · have hy:ys=[]:=List.length_eq_zero_iff.1 (by omega)
     subst hy
     rw [if_pos hc]
     refine qop hb (by simp) (by simp) fun w' hm hb'=>?_
     refine hk w' (hst w' [ob] _ hm (Gr.refl _ _) (Or.inr ⟨ob,rs,h1,?_,?_,?_,rfl⟩))
     · simpa using hb'
     · simp only [List.append_nil,List.length_nil,Nat.add_zero,List.take_append_drop]; rw [qx]; omega
     · simp only [List.append_nil,List.length_nil,Nat.add_zero,List.take_append_drop]; rw [List.length_append,qx]; omega
   · rw [if_neg hc]
     refine qop hb (by show o+(ivs k ys).length≤_; rw [qx,List.length_append,qx]; omega) qbh fun w' hm hb'=>?_
     have e2:(ivs k zs ++ rs).take o ++ (ivs k ys) ++ (ivs k zs ++ rs).drop (o+(ivs k ys).length)=ivs k (zs.take o ++ ys ++ zs.drop (o+ys.length)) ++ rs:=by
      rw [qx,List.take_append,List.drop_append,qx,show o - zs.length=0 by omega,show o+ys.length - zs.length=0 by omega,List.take_zero,List.append_nil,List.drop_zero,qgn,ivs_drop,ivs_app]
      rw [← List.append_assoc,ivs_app]
     have hb'':Blk w' ob (ivs k (zs.take o ++ ys ++ zs.drop (o+ys.length)) ++ rs):=by rw [← e2]; exact hb'
     refine hk w' (hst w' [ob] _ hm (Gr.refl _ _) (Or.inr ⟨ob,rs,h1,hb'',?_,?_,rfl⟩))
     · rw [qx]; simp only [List.length_append,List.length_take,List.length_drop]; omega
     · rw [List.length_append,qx]; simp only [List.length_append,List.length_take,List.length_drop]; omega
theorem St.cut0 {sz c:Nat} {cs:List Value} (h:St F0 w0 w (qmc sz s cs :: ps)):qwf s.a c 0 sz=s.a:=by
 obtain ⟨F,hown⟩:=h.own
 unfold qwf
 split
 · rfl
 · rcases hown with ⟨rfl,_,_⟩ | ⟨ob,rs,h1,_⟩
   · rfl
   · rw [h1,Option.map_some,qnf,Nat.zero_mul]
theorem Rd.rdOp {w:World} {s:Sl} {cs:List Value} {k:Nat} {K:Array Value→Prop} (h:Rd w 1 s cs) (hk:k≤cs.length) (hK:K ⟨cs.take k⟩):Go.Proofs.YthdmmmfgjmmelaaGreat.rdO w s.a k K:=by
 refine Rd.rdO (s:=⟨s.a,k,0⟩) (sz:=1) (cs:=cs.take k) ⟨by rw [List.length_take,Nat.mul_one]; exact Nat.min_eq_left hk,fun i hi=>?_⟩ (by rw [List.length_take]; omega) hK
 rw [List.length_take] at hi
 obtain ⟨a,ha,hc⟩:=h.2 i (by omega)
 exact ⟨a,ha,by rw [hc,List.getElem?_take,if_pos (by omega)]⟩
theorem qgm.c {n:Nat} {K:Ending→World→Prop} (hn:n < 4294967296) (hk:K (.returned (.tuple ⟨[.int .u64 0,.int .u64 n]⟩)) w):Calls Tryz.prog 341 ⟨[.int .u64 1,.int .u64 n]⟩ w K:=by
 refine qnc (qgm.ok _ _ _ _ ?_)
 unfold qgm
 refine qnc (qfm.ok _ _ _ _ ?_)
 unfold qfm
 have a1:andV .u64 (n:Int) 4294967295=n:=by
  have:=qap .u64 (n:Int) (t:=32) (by decide)
  rw [show ((2:Int) ^ 32 - 1)=4294967295 by decide] at this
  rw [this]
  omega
 have s1:∀ x:Int,0≤x→x < 4294967296→shrV .u64 x 32=0:=by
  intro x h0 h1
  have:=qnk .u64 x (t:=32) (by decide)
  rw [show ((32:Nat):Int)=32 from rfl] at this
  rw [this]
  show x / 4294967296=0
  omega
 have w0':IntKind.u64.wrap 0=0:=by decide
 refine qw (show _=(1:Int) by decide) ⟨by decide,?_⟩
 refine qw (s1 1 (by decide) (by decide)) ?_
 refine qw a1 ⟨by decide,?_⟩
 refine qw (s1 _ (by omega) (by omega)) ?_
 refine qw (show IntKind.u64.wrap (1 * (n:Int))=n by rw [Int.one_mul]; exact qhp (by omega) (by omega)) ?_
 refine qw (show IntKind.u64.wrap (0 * (n:Int))=0 by rw [Int.zero_mul]; exact w0') ⟨by decide,?_⟩
 refine qw (s1 _ (by omega) (by omega)) ?_
 refine qw (show _=(0:Int) by decide) (qw (show _=(0:Int) by decide) ⟨by decide,?_⟩)
 refine qw (s1 0 (by decide) (by decide)) ?_
 refine qw (show _=(0:Int) by decide) (qw (show _=(0:Int) by decide) (qw (show _=(0:Int) by decide) (qw (show _=(0:Int) by decide) ⟨by decide,?_⟩)))
 refine qw (s1 0 (by decide) (by decide)) ?_
 refine qw (show _=(0:Int) by decide) ?_
 refine qw (show IntKind.u64.wrap (1 * (n:Int))=n by rw [Int.one_mul]; exact qhp (by omega) (by omega)) ⟨_,_,rfl,hk⟩
theorem qub.c {x:Int} {n:Nat} {K:Ending→World→Prop} (h:St F0 w0 w ps) [Rdb F0 w0 s ps 1 (ivs .i64 [x])] (hn:n≤1000000)
 (hk:∀ t w',t.len=n→St F0 w0 w' (qmc 1 t (ivs .i64 (List.replicate n x)) :: ps)→K (.returned (.slice t.a t.len t.cap)) w'):Calls Tryz.prog 320 ⟨[.slice s.a s.len s.cap,.int .i64 n]⟩ w K:=by
 have hl:=(h.rdb s).1
 have hl:s.len=1:=by
  have h2:(ivs .i64 [x]).length=s.len * 1:=hl
  simp at h2
  omega
 refine qnc (qub.ok _ _ _ _ ?_)
 unfold qub
 refine qxc (fun g=>by omega) (fun _=>?_)
 unfold qub.j1
 rw [hl]
 refine qw (show _=(1:Int) by decide) ?_
 refine qw (qhp (by omega) (by omega)) ?_
 refine qgm.c (by omega) ⟨_,_,rfl,?_⟩
 refine qxc (fun g=>by omega) (fun _=>?_)
 refine qxc (fun g=>by omega) (fun _=>?_)
 unfold qub.j2
 refine qw (qi (by omega) (by omega)) ?_
 refine h.makeI (n:=n) rfl rfl (by omega) fun t w ht htc h=>?_
 rw [hl]
 have hmin:Nat.min 1 t.len=min 1 n:=by rw [ht]
 rw [hmin,Nat.mul_one]
 refine (h.drop.rdb s).rdOp (by rw [qx]; exact Nat.min_le_left _ _) ?_
 rw [qgn]
 have e1:[x].take (min 1 n)=List.replicate (min 1 n) x:=by
  rcases Nat.lt_or_ge n 1 with h0 | h0
  · have:n=0:=by omega
    subst this; rfl
  · rw [Nat.min_eq_left h0]; rfl
 rw [e1]
 rw [← h.cut0 (c:=t.cap)]
 refine h.cp 0 (by simp only [List.length_replicate]; omega) fun w h=>?_
 rw [List.take_zero,List.nil_append,Nat.zero_add,List.length_replicate,List.drop_replicate] at h
 unfold qub.j3
 refine qpg (fun (k:Nat) (k':Int) w'=>k'=k∧k≤n∧(1≤n→1≤k)∧St F0 w0 w' (qmc 1 t (ivs .i64 (List.replicate k x ++ List.replicate (n - k) 0)) :: ps)) (fun k=>n - k) (min 1 n) ⟨by omega,by omega,fun h=>by omega,h⟩ ?_
 clear h
 rintro k k' wL I μ ⟨rfl,hk1,hk2,h⟩ hin
 unfold qub.b1
 refine qxc (fun g=>?_) (fun g=>?_)
 · refine h.drewK fun w h=>?_
   refine qzo (n:=k) rfl (by omega) (qwh (qzo (n:=k) rfl (by omega) (qwh ?_)))
   dsimp only
   have hm:Nat.min (k - 0) (t.len - k)=min k (n - k):=by rw [ht,Nat.sub_zero]
   rw [hm,Nat.mul_one,h.cut0]
   refine h.ord.rdOp (by rw [qx]; simp only [List.length_append,List.length_replicate]; omega) ?_
   rw [qgn]
   have e2:(List.replicate k x ++ List.replicate (n - k) 0).take (min k (n - k))=List.replicate (min k (n - k)) x:=by
    rw [List.take_append_of_le_length (by rw [List.length_replicate]; omega),List.take_replicate]
    congr 1
    omega
   rw [e2]
   refine h.cp k (by simp only [List.length_append,List.length_replicate]; omega) fun w h=>?_
   refine qw (qi (by omega) (by omega)) ?_
   have hk3:=hk2 (by omega)
   refine ⟨rfl,hin (k+min k (n - k)) _ _ ⟨by omega,by omega,fun _=>by omega,?_⟩ (by omega)⟩
   have e3:(List.replicate k x ++ List.replicate (n - k) 0).take k ++ List.replicate (min k (n - k)) x ++ (List.replicate k x ++ List.replicate (n - k) 0).drop (k+(List.replicate (min k (n - k)) x).length)=List.replicate (k+min k (n - k)) x ++ List.replicate (n - (k+min k (n - k))) 0:=by
    rw [List.take_left' (by rw [List.length_replicate]),List.length_replicate,← List.drop_drop,List.drop_left' (by rw [List.length_replicate]),List.drop_replicate,List.replicate_append_replicate]
    congr 2
    omega
   rw [e3] at h
   exact h
 · have:k=n:=by omega
   subst this
   unfold qub.j4
   rw [Nat.sub_self,List.replicate_zero,List.append_nil] at h
   exact hk t wL ht h
end
end Go.Proofs.YthdmmmfgjmmelaaGreat
namespace Go.Proofs.YthdmmmfgjmmelaaGreat
open Go Go.Proofs
set_option linter.unusedVariables false
set_option linter.unusedSimpArgs false
attribute [local irreducible] apK cpK mkK br
section
variable {F0:List Nat} {w0 w:World} {ps rest rest2:List As} {sb rb V N:Nat} {most:Int} {z:Z}
theorem zc_19:zc Tryz.prog 426=⟨ivs .i64 (List.replicate 19 0)⟩:=by kernel_rfl
theorem qgh.c {K:Ending→World→Prop} (h:St F0 w0 w ps) (hk:∀ w',St F0 w0 w' ps→K (.returned (.agg ⟨ivs .i64 qxg⟩)) w'):Calls Tryz.prog 318 ⟨[]⟩ w K:=by
 refine qnc (qgh.ok _ _ ?_)
 unfold qgh
 refine h.new fun nb w h=>⟨rfl,?_⟩
 rw [zc_19] at h
 have h:St F0 w0 w (qjd nb (ivs .i64 (List.replicate 19 0)) :: ps):=h
 refine St.sA (n:=19) (l':=ivs .i64 qxg) h (by rfl) (by rfl) qbh fun w h=>?_
 refine h.lA (b:=nb) rfl ?_
 exact hk w h.drop
theorem qte.c {s:Sl} {sym:Int} {l:List Int} {K:Ending→World→Prop} (h:St F0 w0 w (ztA sb rb V N most z :: ps)) [Rdb F0 w0 s ps 1 (ivs .i64 l)] (hN:N≤137438953472) (hp:z.1≤8 * N) (hl:l.length≤1000000)
 (hk:∀ w',(qye (qm V (8 * N)) sym l z).2.1≤8 * N→St F0 w0 w' (ztA sb rb V N most (qye (qm V (8 * N)) sym l z).2 :: ps)→K (.returned (.tuple ⟨[.int .i64 (qye (qm V (8 * N)) sym l z).1.1,.int .i64 (qye (qm V (8 * N)) sym l z).1.2]⟩)) w') :
 Calls Tryz.prog 319 ⟨[.pointer (some ⟨sb,0,none⟩),.int .i64 sym,.slice s.a s.len s.cap]⟩ w K:=by
 have hls:=(h.rdb s).1
 rw [qx] at hls
 have hp':=(zagain_p (B:=qm V (8 * N)) (z:=z) sym l (by rw [qq]; exact hp)).2
 rw [qq] at hp'
 have hk:=fun w'=>hk w' hp'
 clear hp'
 refine qnc (qte.ok _ _ _ _ _ ?_)
 unfold qte
 unfold qye at hk
 have b2:=qre (B:=qm V (8 * N)) (z:=z) 2 (by decide)
 have b3:=qre (B:=qm V (8 * N)) (z:=z) 3 (by decide)
 have b7:=qre (B:=qm V (8 * N)) (z:=z) 7 (by decide)
 refine qqe (fun g=>?_) (fun g=>?_)
 · have g:sym=16:=by simpa using g
   rw [if_pos g] at hk
   refine qqe (fun g2=>?_) (fun g2=>?_)
   · have g2:(s.len:Int)=0:=by simpa using g2
     rw [if_pos (by omega)] at hk
     exact qcc.c h fun w h=>⟨rfl,hk w h⟩
   · have g2:(s.len:Int) ≠ 0:=by simpa using g2
     rw [if_neg (by omega)] at hk
     refine h.drewK fun w h=>?_
     refine qw (qi (by omega) (by omega)) ?_
     have hr:=h.rdb s
     refine hr.ix (by decide) (by omega) (by omega) fun a ha=>?_
     have ei:((s.len:Int) - 1).toNat * 1=l.length - 1:=by omega
     rw [ei]
     refine ⟨?_,?_⟩
     · refine hr.ldI ha (qsm (by omega)) ?_
       refine qic.c h hN hp fun w _ h=>⟨_,rfl,?_⟩
       exact qw (qi (by omega) (by omega)) (hk w h)
     · refine qic.c h hN hp fun w _ h=>⟨_,rfl,?_⟩
       refine qw (qi (by omega) (by omega)) ?_
       exact (h.rdb s).ldI ha (qsm (by omega)) (hk w h)
 have g:sym ≠ 16:=by simpa using g
 rw [if_neg g] at hk
 refine qqe (fun g=>?_) (fun g=>?_)
 · have g:sym=17:=by simpa using g
   rw [if_pos g] at hk
   refine qic.c h hN hp fun w _ h=>⟨_,rfl,?_⟩
   exact qw (qi (by omega) (by omega)) (hk w h)
 have g:sym ≠ 17:=by simpa using g
 rw [if_neg g] at hk
 refine qqe (fun g=>?_) (fun g=>?_)
 · have g:sym=18:=by simpa using g
   rw [if_pos g] at hk
   refine qic.c h hN hp fun w _ h=>⟨_,rfl,?_⟩
   exact qw (qi (by omega) (by omega)) (hk w h)
 have g:sym ≠ 18:=by simpa using g
 rw [if_neg g] at hk
 exact hk w h
theorem qk.loop {cb:Option Addr} {cl:List Int} {nl nd:Nat} {K:Ending→World→Prop} (h:St F0 w0 w (ztA sb rb V N most z :: ps)) (hc:z.2.2=0→∃ b,cb=some ⟨b,0,none⟩∧∃ rest,PkF hcA b ps cl rest) (hN:N≤137438953472) (hp:z.1≤8 * N) (hn:nl+nd≤200000)
 (hk0:∀ (t11:Sl) w',(zll cl (qm V (8 * N)) (nl+nd) (nl+nd+1) [] z).2.2.2=0→t11.len=nl+nd→t11.len≤t11.cap→St F0 w0 w' (ztA sb rb V N most (zll cl (qm V (8 * N)) (nl+nd) (nl+nd+1) [] z).2 :: rdA 1 t11 (ivs .i64 (zll cl (qm V (8 * N)) (nl+nd) (nl+nd+1) [] z).1) :: ps)→K (.returned (.tuple ⟨[.slice (qwf t11.a t11.cap 0 1) (nl - 0) (t11.cap - 0),.slice (qwf t11.a t11.cap nl 1) (t11.len - nl) (t11.cap - nl)]⟩)) w')
 (hk1:∀ w',(zll cl (qm V (8 * N)) (nl+nd) (nl+nd+1) [] z).2.2.2 ≠ 0→St F0 w0 w' (ztA sb rb V N most (zll cl (qm V (8 * N)) (nl+nd) (nl+nd+1) [] z).2 :: ps)→K (.returned (.tuple ⟨[.slice none 0 0,.slice none 0 0]⟩)) w') :
 qk.j6 (some ⟨sb,0,none⟩) (nl:Int) (nd:Int) cb ⟨none,0,0⟩ (fun v w'=>K (.returned v) w') w:=by
 have hBl:(qm (V:Int) (8 * N)).length=8 * N:=qq _ _
 generalize hR:zll cl (qm V (8 * N)) (nl+nd) (nl+nd+1) [] z=R at hk0 hk1
 have hRl:=qcp (cl:=cl) (B:=qm V (8 * N)) (N:=nl+nd) (nl+nd+1) [] z (by simp) (by simp)
 rw [hR] at hRl
 unfold qk.j6
 refine qpg (fun (a:Nat × List Int × Z) (t11:Sl) w'=>zll cl (qm V (8 * N)) (nl+nd) a.1 a.2.1 a.2.2=R∧a.2.2.1≤8 * N∧a.2.1.length≤nl+nd∧(a.2.2.2.2=0→z.2.2=0∧nl+nd < a.1+a.2.1.length)∧St F0 w0 w' (ztA sb rb V N most a.2.2 :: qmc 1 t11 (ivs .i64 a.2.1) :: ps)) (fun a=>a.1) (nl+nd+1,[],z) ⟨hR,hp,by simp,fun e=>⟨e,by simp⟩,(h.nil 1).at1⟩ ?_
 clear h hp hR
 rintro ⟨f,l,y⟩ t11 wL I μ ⟨hR,hp,hl,hf,h⟩ hin
 simp only at hR hp hl hf h hin ⊢
 have hol:=h.drop.len
 rw [qx] at hol
 have h0:=h
 unfold qk.b1
 obtain ⟨o,h⟩:=qzq h
 refine qod (h.fI ?_)
 have stop:(y.2.2 ≠ 0 ∨ nl+nd≤l.length)→qk.j7 (some ⟨sb,0,none⟩) (nl:Int) t11 (fun v w'=>K (.returned v) w') wL:=by
  intro hc
  have e:R=(l,y):=by
   rw [← hR]
   cases f with
   | zero=>rfl
   | succ f=>rw [zll,if_pos hc]
  rw [e] at hk0 hk1 hRl
  simp only at hk0 hk1 hRl
  unfold qk.j7
  refine qod (h.fI ?_)
  refine qqe (fun g=>?_) (fun g=>?_)
  · have g:y.2.2 ≠ 0:=by simpa using g
    exact hk1 wL g (h0.tail fun _ _ _ h=>h.drop)
  · have g:y.2.2=0:=by simpa using g
    have hll:=hRl g
    have hcap:=h0.drop.cap (by decide)
    refine h0.drewK fun w h0=>?_
    refine qzo (n:=nl) rfl (by omega) (qwh ?_)
    refine qzo (n:=nl) rfl (by omega) (qwh ?_)
    exact hk0 t11 w g (by omega) hcap (h0.tail fun _ _ _ h=>h.ro)
 refine qqe (fun g=>?_) (fun g=>stop (Or.inl (by simpa using g)))
 have g:y.2.2=0:=by simpa using g
 refine qw (qi (by omega) (by omega)) ?_
 refine qxc (fun g1=>?_) (fun g1=>stop (Or.inr (by omega)))
 obtain ⟨hz0,hfl⟩:=hf g
 obtain ⟨b,rfl,rest,ipk⟩:=hc hz0
 obtain ⟨f,rfl⟩:∃ f',f=f'+1:=⟨f - 1,by omega⟩
 rw [zll,if_neg (fun e=>by rcases e with e | e; exact e g; omega)] at hR
 unfold zllS at hR
 simp only at hR
 unfold qk.j8
 refine qfe.c (cb:=b) (ls:=cl) h0 hN hp fun w hle h=>⟨_,rfl,?_⟩
 generalize qxi cl (qm V (8 * N)) y=s at h hR hle ⊢
 refine qte.c (s:=t11) (l:=l) h hN hle (by omega) fun w hle2 h=>⟨_,_,rfl,?_⟩
 have hna:=zagain_n (B:=qm V (8 * N)) (z:=s.2) s.1 l
 generalize qye (qm V (8 * N)) s.1 l s.2=a at h hR hle2 hna ⊢
 refine qw (qi (by omega) (by omega)) ?_
 refine qw (qi (by omega) (by omega)) ?_
 have main:∀ (z3:Z) w,z3=(if ((nl+nd:Nat):Int) - l.length < a.1.2 then qdd 2 a.2 else a.2)→z3.1≤8 * N→St F0 w0 w (ztA sb rb V N most z3 :: qmc 1 t11 (ivs .i64 l) :: ps) →
  qk.j9 (some ⟨sb,0,none⟩) (nl:Int) (nd:Int) (some ⟨b,0,none⟩) t11 a.1.1 a.1.2 (fun v w'=>K (.returned v) w') (fun d_0' t4' t5' t10' t11' w'=>(d_0'=some ⟨sb,0,none⟩∧t4'=(nl:Int)∧t5'=(nd:Int)∧t10'=some ⟨b,0,none⟩)∧I t11' w'∧μ t11' w' < μ t11 wL) w:=by
  intro z3 w e hz3 h
  rw [← e] at hR
  have h0:=h
  unfold qk.j9
  obtain ⟨o,h⟩:=qzq h
  refine qod (h.fI ?_)
  refine qqe (fun g2=>?_) (fun g2=>?_)
  · have g2:z3.2.2=0:=by simpa using g2
    have hle3:a.1.2≤((nl+nd:Nat):Int) - l.length∧a.2.2.2=0:=by
     by_cases hc:((nl+nd:Nat):Int) - l.length < a.1.2
     · rw [if_pos hc] at e
       rw [e] at g2
       exact absurd g2 (qig (by decide))
     · rw [if_neg hc] at e
       exact ⟨by omega,by rw [← e]; exact g2⟩
    have hn1:=hna.2.2 hle3.2
    rw [if_pos g2] at hR
    have h:=h0
    refine h.new fun nb w h=>?_
    have h:St F0 w0 w (qjd nb (ivs .i64 [a.1.1]) :: ztA sb rb V N most z3 :: qmc 1 t11 (ivs .i64 l) :: ps):=h
    have h:=h.ownB (n:=1) rfl
    have en:a.1.2=((a.1.2.toNat:Nat):Int):=by omega
    rw [en]
    refine qub.c (s:=⟨some ⟨nb,0,none⟩,1,1⟩) (x:=a.1.1) h (by omega) fun t w ht h=>⟨t,rfl,?_⟩
    refine h.appI (s:=t11) (s2:=t) (by rw [List.length_replicate]; omega) fun t2 w h=>?_
    refine ⟨⟨rfl,rfl,rfl,rfl⟩,hin (f,l ++ List.replicate a.1.2.toNat a.1.1,z3) _ _ ⟨hR,hz3,by simp only [List.length_append,List.length_replicate]; omega,fun _=>⟨hz0,by simp only [List.length_append,List.length_replicate]; omega⟩,?_⟩ (by simp only; omega)⟩
    exact h.sub
  · have g2:z3.2.2 ≠ 0:=by simpa using g2
    rw [if_neg g2] at hR
    exact ⟨⟨rfl,rfl,rfl,rfl⟩,hin (f,l,z3) _ _ ⟨hR,hz3,by simp only; omega,fun e=>absurd e g2,h0⟩ (by simp only; omega)⟩
 refine qxc (fun g2=>?_) (fun g2=>?_)
 · refine qcc.c h fun w h=>⟨rfl,?_⟩
   exact main (qdd 2 a.2) w (by rw [if_pos (by omega)]) hle2 h
 · exact main a.2 w (by rw [if_neg (by omega)]) hle2 h
theorem zord_lt:∀ k,k < 19→0≤qxg.getD k 0∧qxg.getD k 0 < 19:=by decide
theorem cutP_zero (b c:Nat) (hc:c ≠ 0):cutP ⟨b,0,none⟩ c 0 1=some ⟨b,0,none⟩:=by
 unfold cutP
 rw [if_neg hc,qnf]
theorem blk_rdbp {nb n c:Nat} {k:IntKind} {l:List Int} [PkB nb ps (ivs k l) rest] (hn:n≤l.length):Rdb F0 w0 ⟨some ⟨nb,0,none⟩,n,c⟩ ps 1 (ivs k (l.take n)):=⟨fun h=>by
 have hb:=(h.toB nb).blk
 refine ⟨by rw [qx,List.length_take,Nat.mul_one]; exact Nat.min_eq_left hn,fun i hi=>⟨_,rfl,?_⟩⟩
 rw [qx,List.length_take] at hi
 rw [qnf,Nat.zero_add,hb.cell,← qgn,List.getElem?_take,if_pos (by omega)]⟩
theorem qvl {l:List Int} {n k:Nat} (h:k < n):(l.take n).getD k 0=l.getD k 0:=by simp [List.getD,List.getElem?_take,h]
theorem qk.c {K:Ending→World→Prop} (h:St F0 w0 w (ztA sb rb V N most z :: ps)) (hN:N≤137438953472) (hp:z.1≤8 * N)
 (hk0:∀ (t11:Sl) (l:List Int) (nl:Nat) w',(qoh (qm V (8 * N)) z).2.2.2=0→t11.len=l.length→nl≤t11.len→t11.len≤t11.cap→(qoh (qm V (8 * N)) z).1=(l.take nl,l.drop nl)→St F0 w0 w' (ztA sb rb V N most (qoh (qm V (8 * N)) z).2 :: rdA 1 t11 (ivs .i64 l) :: ps)→K (.returned (.tuple ⟨[.slice (qwf t11.a t11.cap 0 1) (nl - 0) (t11.cap - 0),.slice (qwf t11.a t11.cap nl 1) (t11.len - nl) (t11.cap - nl)]⟩)) w')
 (hk1:∀ w',(qoh (qm V (8 * N)) z).2.2.2 ≠ 0→St F0 w0 w' (ztA sb rb V N most (qoh (qm V (8 * N)) z).2 :: ps)→K (.returned (.tuple ⟨[.slice none 0 0,.slice none 0 0]⟩)) w') :
 Calls Tryz.prog 270 ⟨[.pointer (some ⟨sb,0,none⟩)]⟩ w K:=by
 have hBl:(qm (V:Int) (8 * N)).length=8 * N:=qq _ _
 refine qnc (qk.ok _ _ _ ?_)
 unfold qk qk.j1
 generalize hZ:qoh (qm V (8 * N)) z=Zr at hk0 hk1
 unfold qoh at hZ
 simp only at hZ
 refine qic.c h hN hp fun w hp1 h=>⟨_,rfl,?_⟩
 have hg1:=qre (B:=qm V (8 * N)) (z:=z) 5 (by decide)
 generalize qie (qm V (8 * N)) 5 z=g1 at h hZ hp1 hg1 ⊢
 refine qw (qi (by omega) (by omega)) ?_
 have j2:∀ (y1:Z) w,y1=(if 286 < g1.1+257 then qdd 2 g1.2 else g1.2)→y1.1≤8 * N→St F0 w0 w (ztA sb rb V N most y1 :: ps)→qk.j2 (some ⟨sb,0,none⟩) (g1.1+257) (fun v w'=>K (.returned v) w') w:=by
  intro y1 w e hp1 h
  rw [← e] at hZ
  unfold qk.j2
  refine qic.c h hN hp1 fun w hp2 h=>⟨_,rfl,?_⟩
  have hg2:=qre (B:=qm V (8 * N)) (z:=y1) 5 (by decide)
  generalize qie (qm V (8 * N)) 5 y1=g2 at h hZ hp2 hg2 ⊢
  refine qw (qi (by omega) (by omega)) ?_
  have j3:∀ (y2:Z) w,y2=(if 30 < g2.1+1 then qdd 2 g2.2 else g2.2)→y2.1≤8 * N→St F0 w0 w (ztA sb rb V N most y2 :: ps)→qk.j3 (some ⟨sb,0,none⟩) (g1.1+257) (g2.1+1) (fun v w'=>K (.returned v) w') w:=by
   intro y2 w e hp2 h
   rw [← e] at hZ
   unfold qk.j3
   refine h.new fun cb w h=>?_
   rw [zc_19] at h
   refine qgh.c h fun w h=>⟨_,rfl,?_⟩
   refine h.new fun ob w h=>⟨rfl,?_⟩
   rw [zc_19] at h
   have h:St F0 w0 w (qjd ob (ivs .i64 (List.replicate 19 0)) :: qjd cb (ivs .i64 (List.replicate 19 0)) :: ztA sb rb V N most y2 :: ps):=h
   refine St.sA (n:=19) (l':=ivs .i64 qxg) h (by rfl) (by rfl) qbh fun w h=>?_
   have h:St F0 w0 w (ztA sb rb V N most y2 :: qjd cb (ivs .i64 (List.replicate 19 0)) :: qjd ob (ivs .i64 qxg) :: ps):=h.sub
   unfold qk.j4
   refine qic.c h hN hp2 fun w hp3 h=>⟨_,rfl,?_⟩
   have hg3:=qqi (B:=qm V (8 * N)) (z:=y2) 4
   rw [show ((2:Int) ^ (4:Int).toNat)=16 by decide] at hg3
   generalize qie (qm V (8 * N)) 4 y2=g3 at h hZ hp3 hg3 ⊢
   refine qw (qi (by omega) (by omega)) ?_
   refine qzo (n:=(g3.1+4).toNat) (by omega) (by omega) (qwh ?_)
   rw [cutP_zero _ _ (by decide)]
   unfold qk.j10
   refine qpg (fun (k:Nat) (k':Int) w'=>k'=k∧k≤(g3.1+4).toNat∧(qsi (qm V (8 * N)) g3.2 k).2.1≤8 * N∧St F0 w0 w' (ztA sb rb V N most (qsi (qm V (8 * N)) g3.2 k).2 :: qjd cb (ivs .i64 (qsi (qm V (8 * N)) g3.2 k).1) :: qjd ob (ivs .i64 qxg) :: ps)) (fun k=>(g3.1+4).toNat - k) 0 ⟨rfl,by omega,hp3,h⟩ ?_
   clear h
   rintro k k' wL I μ ⟨rfl,hkn,hpk,h⟩ hin
   unfold qk.b2
   refine qxc (fun g=>?_) (fun g=>?_)
   · have g:(k:Int) < (((g3.1+4).toNat - 0:Nat):Int):=g
     have hk19:k < 19:=by omega
     have hz:=zord_lt k hk19
     have hcl:=zclr_len (B:=qm V (8 * N)) (z:=g3.2) k
     haveI:Rdb F0 w0 ⟨some ⟨ob,0,none⟩,(g3.1+4).toNat - 0,19 - 0⟩ (ztA sb rb V N most (qsi (qm V (8 * N)) g3.2 k).2 :: qjd cb (ivs .i64 (qsi (qm V (8 * N)) g3.2 k).1) :: qjd ob (ivs .i64 qxg) :: ps) 1 (ivs .i64 (qxg.take ((g3.1+4).toNat - 0))):=blk_rdbp (show _≤19 by omega)
     refine h.lx (s:=⟨some ⟨ob,0,none⟩,(g3.1+4).toNat - 0,19 - 0⟩) k rfl (by rw [List.length_take]; show k < min _ 19; omega) ?_
     rw [qvl (by omega)]
     refine qic.c h hN hpk fun w hpk2 h=>⟨_,rfl,?_⟩
     refine St.sa (b:=cb) (zs:=(qsi (qm V (8 * N)) g3.2 k).1) h (qxg.getD k 0).toNat (by omega) hcl (by omega) fun w h=>?_
     refine qw (qi (by omega) (by omega)) ?_
     refine ⟨⟨rfl,rfl,rfl,rfl,rfl,rfl⟩,hin (k+1) _ _ ⟨by omega,by omega,?_,?_⟩ (by omega)⟩
     · rw [qsi]; exact hpk2
     · rw [qsi]
       exact h.sub
   · have:k=(g3.1+4).toNat:=by
      have g:¬ (k:Int) < (((g3.1+4).toNat - 0:Nat):Int):=g
      omega
     subst this
     clear hin
     have hcl:=zclr_len (B:=qm V (8 * N)) (z:=g3.2) (g3.1+4).toNat
     generalize qsi (qm V (8 * N)) g3.2 (g3.1+4).toNat=c at h hZ hpk hcl ⊢
     unfold qk.j5
     rw [cutP_zero _ _ (by decide)]
     refine qwh ?_
     haveI:Rdb F0 w0 ⟨some ⟨cb,0,none⟩,19 - 0,19 - 0⟩ (qjd cb (ivs .i64 c.1) :: qjd ob (ivs .i64 qxg) :: ps) 1 (ivs .i64 c.1):=by
      have:=blk_rdbp (F0:=F0) (w0:=w0) (nb:=cb) (n:=19 - 0) (c:=19 - 0) (k:=.i64) (l:=c.1) (ps:=qjd cb (ivs .i64 c.1) :: qjd ob (ivs .i64 qxg) :: ps) (by omega)
      rwa [List.take_of_length_le (by omega)] at this
     obtain ⟨n1,hn1⟩:∃ n1:Nat,g1.1+257=n1:=⟨(g1.1+257).toNat,by omega⟩
     obtain ⟨n2,hn2⟩:∃ n2:Nat,g2.1+1=n2:=⟨(g2.1+1).toNat,by omega⟩
     rw [hn1,hn2] at hZ
     rw [hn1,hn2]
     have e12:((n1:Int)+(n2:Int)).toNat=n1+n2:=by omega
     rw [e12,Int.toNat_natCast] at hZ
     have fin:∀ (y4:Z) (cbo:Option Addr) (qs:List As) w,y4=zcodeH c.1 false c.2→y4.1≤8 * N→(y4.2.2=0→∃ b,cbo=some ⟨b,0,none⟩∧∃ rest,PkF hcA b qs c.1 rest)→(∀ (F0:List Nat) (w0 w:World),St F0 w0 w qs→St F0 w0 w ps)→St F0 w0 w (ztA sb rb V N most y4 :: qs)→qk.j6 (some ⟨sb,0,none⟩) (n1:Int) (n2:Int) cbo ⟨none,0,0⟩ (fun v w'=>K (.returned v) w') w:=by
      intro y4 cbo qs w e hp4 hcb hq h
      rw [← e] at hZ
      refine qk.loop (nl:=n1) (nd:=n2) (cl:=c.1) h hcb hN hp4 (by omega) (fun t11 w g ht hc h=>?_) (fun w g h=>?_)
      · rw [if_neg (fun e=>e g)] at hZ
        have hzl:=qcp (cl:=c.1) (B:=qm V (8 * N)) (N:=n1+n2) (n1+n2+1) [] y4 (by simp) (by simp) g
        subst hZ
        refine hk0 t11 _ n1 w g (by omega) (by omega) hc rfl (h.tail fun _ _ _ h=>h.tail fun _ _ _ h=>hq _ _ _ h)
      · rw [if_pos g] at hZ
        subst hZ
        exact hk1 w g (h.tail fun _ _ _ h=>hq _ _ _ h)
     refine qbd.c (s:=⟨some ⟨cb,0,none⟩,19 - 0,19 - 0⟩) (half:=false) h (fun hb w g0 gn h=>⟨_,rfl,?_⟩) (fun w g0 gn h=>⟨_,rfl,?_⟩) (fun g=>⟨_,rfl,?_⟩)
     · refine fin c.2 _ (hcA hb c.1 :: qjd cb (ivs .i64 c.1) :: qjd ob (ivs .i64 qxg) :: ps) w (by unfold zcodeH; rw [if_neg (fun e=>e.2 gn)]) hpk (fun _=>⟨hb,rfl,_,PkF.hd⟩) (fun _ _ _ h=>h.drop.drop.drop) h
     · refine fin (qdd 2 c.2) _ (qjd cb (ivs .i64 c.1) :: qjd ob (ivs .i64 qxg) :: ps) w (by unfold zcodeH; rw [if_pos ⟨g0,gn⟩]) hpk (fun e=>absurd e (qig (by decide))) (fun _ _ _ h=>h.drop.drop) h
     · refine fin c.2 _ (qjd cb (ivs .i64 c.1) :: qjd ob (ivs .i64 qxg) :: ps) _ (by unfold zcodeH; rw [if_neg (fun e=>g e.1)]) hpk (fun e=>absurd e g) (fun _ _ _ h=>h.drop.drop) h
  refine qxc (fun g=>?_) (fun g=>?_)
  · refine qcc.c h fun w h=>⟨rfl,?_⟩
    exact j3 (qdd 2 g2.2) w (by rw [if_pos (by omega)]) hp2 h
  · exact j3 g2.2 w (by rw [if_neg (by omega)]) hp2 h
 refine qxc (fun g=>?_) (fun g=>?_)
 · refine qcc.c h fun w h=>⟨rfl,?_⟩
   exact j2 (qdd 2 g1.2) w (by rw [if_pos (by omega)]) hp1 h
 · exact j2 g1.2 w (by rw [if_neg (by omega)]) hp1 h
end
end Go.Proofs.YthdmmmfgjmmelaaGreat
namespace Go.Proofs.YthdmmmfgjmmelaaGreat
open Go Go.Proofs
set_option linter.unusedVariables false
set_option linter.unusedSimpArgs false
attribute [local irreducible] apK cpK mkK br
section
variable {B:List Bool} {most:Int} {z:Z}
theorem zst_p:∀ (n:Nat) (z:Z),z.1≤B.length→z.1≤(zst B most n z).1∧(zst B most n z).1≤B.length:=by
 intro n
 induction n with
 | zero=>intro z h; exact ⟨Nat.le_refl _,h⟩
 | succ n ih =>
   intro z h
   have h1:=qwk (B:=B) (z:=z) 8 h
   have:=ih (qlm most (qie B 8 z).1 (qie B 8 z).2) (by rw [qdl]; exact h1.2)
   rw [qdl] at this
   rw [zst]
   omega
theorem zstored_p {N:Nat} (hB:B.length=8 * N) (h:z.1≤B.length):z.1≤(zstored B most z).1∧(zstored B most z).1≤B.length:=by
 unfold zstored
 simp only
 have h1:=qwk (B:=B) (z:=(8 * ((z.1+7) / 8),z.2.1,z.2.2)) 16 (by simp only; omega)
 generalize qie B 16 (8 * ((z.1+7) / 8),z.2.1,z.2.2)=g at h1 ⊢
 simp only at h1
 have h2:=qwk (B:=B) (z:=g.2) 16 h1.2
 generalize qie B 16 g.2=g2 at h2 ⊢
 split
 · omega
 · split
   · rw [qdp]; omega
   · split
     · rw [qdp]; omega
     · have:=zst_p (B:=B) (most:=most) g.1.toNat g2.2 h2.2
       omega
theorem zcoded_p {ll dl:List Int}:∀ (f:Nat) (z:Z),z.1≤B.length→z.1≤(qzd ll dl B most f z).1∧(qzd ll dl B most f z).1≤B.length:=by
 intro f
 induction f with
 | zero=>intro z h; exact ⟨Nat.le_refl _,h⟩
 | succ f ih =>
   intro z h
   rw [qzd]
   split
   · exact ⟨Nat.le_refl _,h⟩
   · simp only
     have h1:=zsym_fwd (B:=B) ll (z:=z) h
     generalize qxi ll B z=s at h1 ⊢
     unfold zfwd at h1
     split
     · exact h1
     · split
       · have:=ih (qlm most s.1 s.2) (by rw [qdl]; exact h1.2)
         rw [qdl] at this
         omega
       · have h2:=qpm (B:=B) (most:=most) dl s.1 (z:=s.2) h1.2
         unfold zfwd at h2
         have:=ih (zbehind dl B most s.1 s.2) h2.2
         omega
theorem zblk_p3 {ll dl:List Int} (h:z.1≤B.length):z.1≤(zblk ll dl B most z).1∧(zblk ll dl B most z).1≤B.length:=by
 unfold zblk
 simp only
 have e1:(qjg dl (qjg ll (if z.2.2=0∧ll.getD 256 0=0 then qdd 2 z else z))).1=z.1:=by
  rw [zcode_p,zcode_p]
  split <;> rfl
 generalize qjg dl (qjg ll (if z.2.2=0∧ll.getD 256 0=0 then qdd 2 z else z))=z3 at e1 ⊢
 split
 · omega
 · have:=zcoded_p (B:=B) (most:=most) (ll:=ll) (dl:=dl) (B.length+1) z3 (by omega)
   omega
theorem zget_on {n:Int} (h:(qie B n z).2.2.2=0):(qie B n z).2.1=z.1+n.toNat∧z.2.2=0:=by
 have h0:=zget_err h
 refine ⟨?_,h0⟩
 unfold qie at h ⊢
 rw [if_neg (fun e=>e h0)] at h ⊢
 split at h
 · rename_i hc
   rw [if_pos hc]
 · simp at h
theorem qcj {N:Nat} (hB:B.length=8 * N) (h:z.1≤B.length):z.1≤(qyc B most z).2.1∧(qyc B most z).2.1≤B.length∧((qyc B most z).2.2.2=0→z.1 < (qyc B most z).2.1):=by
 unfold qyc
 simp only
 have h1:=qwk (B:=B) (z:=z) 1 h
 generalize qie B 1 z=a at h1 ⊢
 have h2:=qwk (B:=B) (z:=a.2) 2 h1.2
 have h3:=zget_on (B:=B) (z:=a.2) (n:=2)
 generalize qie B 2 a.2=k at h2 h3 ⊢
 split
 · rename_i hk
   exact ⟨by simp only; omega,by simp only; omega,fun e=>absurd e hk⟩
 · rename_i hk
   have h3:=(h3 (Classical.byContradiction hk)).1
   have e2:(2:Int).toNat=2:=rfl
   rw [e2] at h3
   split
   · have:=zstored_p (B:=B) (most:=most) (z:=k.2) hB h2.2
     simp only; omega
   · split
     · have:=zblk_p3 (B:=B) (most:=most) (ll:=qih) (dl:=qme) (z:=k.2) h2.2
       simp only; omega
     · split
       · have h4:=zlens_p (B:=B) (z:=k.2) h2.2
         generalize qoh B k.2=q at h4 ⊢
         split
         · simp only; omega
         · have:=zblk_p3 (B:=B) (most:=most) (ll:=q.1.1) (dl:=q.1.2) (z:=q.2) h4.2
           simp only; omega
       · rw [qdp]
         simp only; omega
theorem qdj (hm:most≤1000000) (h:z.2.1.length≤1000000):(qyc B most z).2.2.1.length≤1000000:=by
 have hst:∀ n (z:Z),z.2.1.length≤1000000→(zst B most n z).2.1.length≤1000000:=fun n z=>zst_len hm n z
 unfold qyc
 simp only
 have h1:(qie B 1 z).2.2.1.length≤1000000:=by rw [qgd]; exact h
 generalize qie B 1 z=a at h1 ⊢
 have h2:(qie B 2 a.2).2.2.1.length≤1000000:=by rw [qgd]; exact h1
 generalize qie B 2 a.2=k at h2 ⊢
 split
 · exact h2
 · split
   · unfold zstored
     simp only
     have h3:(qie B 16 (8 * ((k.2.1+7) / 8),k.2.2.1,k.2.2.2)).2.2.1.length≤1000000:=by rw [qgd]; exact h2
     generalize qie B 16 (8 * ((k.2.1+7) / 8),k.2.2.1,k.2.2.2)=g at h3 ⊢
     have h4:(qie B 16 g.2).2.2.1.length≤1000000:=by rw [qgd]; exact h3
     generalize qie B 16 g.2=g2 at h4 ⊢
     split
     · exact h4
     · split
       · exact h4
       · split
         · exact h4
         · exact hst _ _ h4
   · split
     · exact zblk_len2 hm h2
     · split
       · have h5:(qoh B k.2).2.2.1.length≤1000000:=by rw [qxm]; exact h2
         generalize qoh B k.2=q at h5 ⊢
         split
         · exact h5
         · exact zblk_len2 hm h5
       · exact h2
theorem zall_ex {N:Nat} (hB:B.length=8 * N):∀ (d:Nat) (z:Z),z.1≤B.length→B.length - z.1≤d→∃ n z',ZAll B most n z z':=by
 intro d
 induction d with
 | zero =>
   intro z h1 h2
   have hp:=qcj (most:=most) hB h1
   by_cases he:(qyc B most z).2.2.2=0
   · have:=hp.2.2 he; omega
   · exact ⟨0,_,.bad he⟩
 | succ d ih =>
   intro z h1 h2
   have hp:=qcj (most:=most) hB h1
   by_cases he:(qyc B most z).2.2.2=0
   · cases hl:(qyc B most z).1
     · have:=hp.2.2 he
       obtain ⟨n,z',hr⟩:=ih (qyc B most z).2 hp.2.1 (by omega)
       exact ⟨n+1,z',.next he hl hr⟩
     · exact ⟨0,_,.last he hl⟩
   · exact ⟨0,_,.bad he⟩
theorem ZAll.out {n:Nat} {z z':Z} (h:ZAll B most n z z') (hm:most≤1000000) (hL:z.2.1.length≤1000000):z'.2.1.length≤1000000:=by
 induction h with
 | bad he=>exact qdj hm hL
 | last he hl=>exact qdj hm hL
 | next he hl hr ih=>exact ih (qdj hm hL)
end
section
variable {F0:List Nat} {w0 w:World} {ps rest rest2:List As} {sb rb V N:Nat} {most:Int} {z:Z}
theorem qv.bad {K:Ending→World→Prop} (h:St F0 w0 w (ztA sb rb V N most z :: ps)) (hz:z.2.2 ≠ 0)
 (hk:∀ w',St F0 w0 w' (ztA sb rb V N most z :: ps)→K (.returned (.tuple ⟨[]⟩)) w') :
 Calls Tryz.prog 269 ⟨[.pointer (some ⟨sb,0,none⟩),.slice none 0 0,.slice none 0 0]⟩ w K:=by
 refine qnc (qv.ok _ ⟨none,0,0⟩ ⟨none,0,0⟩ _ _ ?_)
 unfold qv
 have h0:=h
 obtain ⟨o,h⟩:=qzq h
 refine qod (h.fI ?_)
 refine qbi (by simpa using hz) ?_
 unfold qv.j1
 haveI:Rdb F0 w0 ⟨none,0,0⟩ ps 1 (ivs .i64 []):=Rdb.nil 0
 refine qbd.c (s:=⟨none,0,0⟩) (ls:=[]) (half:=true) h0 (fun cb w e1 e3 h=>absurd e1 hz) (fun w e1 e3 h=>absurd e1 hz) (fun _=>⟨_,rfl,?_⟩)
 refine qbd.c (s:=⟨none,0,0⟩) (ls:=[]) (half:=true) h0 (fun cb w e1 e3 h=>absurd e1 hz) (fun w e1 e3 h=>absurd e1 hz) (fun _=>⟨_,rfl,?_⟩)
 refine qod (h.fI ?_)
 exact qci (by simpa using hz) (hk w h0)
theorem qse.a {K:Ending→World→Prop} (h:St F0 w0 w (ztA sb rb V N most z :: ps)) (hN:N≤137438953472) (hp:z.1≤8 * N) (hm:most≤1000000) (hm0:0≤most) (hL:z.2.1.length≤1000000)
 (hk:∀ w',St F0 w0 w' (ztA sb rb V N most (qyc (qm V (8 * N)) most z).2 :: ps)→K (.returned (.bool (qyc (qm V (8 * N)) most z).1)) w') :
 Calls Tryz.prog 193 ⟨[.pointer (some ⟨sb,0,none⟩)]⟩ w K:=by
 have hBl:(qm (V:Int) (8 * N)).length=8 * N:=qq _ _
 refine qnc (qse.ok _ _ _ ?_)
 unfold qse
 unfold qyc at hk
 simp only at hk
 refine qic.c h hN hp fun w hg h=>⟨_,rfl,?_⟩
 have go:=qgd (B:=qm V (8 * N)) (z:=z) 1
 generalize qie (qm V (8 * N)) 1 z=a at h hk hg go ⊢
 refine qic.c h hN hg fun w hg2 h=>⟨_,rfl,?_⟩
 have go2:=qgd (B:=qm V (8 * N)) (z:=a.2) 2
 generalize qie (qm V (8 * N)) 2 a.2=k at h hk hg2 go2 ⊢
 have hkL:k.2.2.1.length≤1000000:=by rw [go2,go]; exact hL
 have h0:=h
 obtain ⟨o,h⟩:=qzq h
 refine qod (h.fI ?_)
 refine qqe (fun g=>?_) (fun g=>?_)
 · have g:k.2.2.2 ≠ 0:=by simpa using g
   rw [if_pos g] at hk
   exact hk w h0
 have g:k.2.2.2=0:=by simpa using g
 rw [if_neg (by simpa using g)] at hk
 refine qqe (fun g1=>?_) (fun g1=>?_)
 · have g1:k.1=0:=by simpa using g1
   rw [if_pos g1] at hk
   exact qbc.c h0 hN hg2 hm hm0 hkL fun w hle h=>⟨rfl,hk w h⟩
 have g1:¬ k.1=0:=by simpa using g1
 rw [if_neg g1] at hk
 refine qqe (fun g3=>?_) (fun g3=>?_)
 · have g3:k.1=1:=by simpa using g3
   rw [if_pos g3] at hk
   refine qbb.c h0 fun s t w hs ht h=>⟨s,t,rfl,?_⟩
   have h:St F0 w0 w (ztA sb rb V N most k.2 :: rdA 1 s (ivs .i64 qih) :: rdA 1 t (ivs .i64 qme) :: ps):=h.at2
   refine qv.c (s:=s) (t:=t) (ll:=qih) (dl:=qme) h (by rw [qqg]; decide) hN hg2 hm hkL fun w h=>⟨rfl,?_⟩
   exact hk w (h.tail fun _ _ _ h=>h.drop.drop)
 have g3:¬ k.1=1:=by simpa using g3
 rw [if_neg g3] at hk
 refine qqe (fun g4=>?_) (fun g4=>?_)
 · have g4:k.1=2:=by simpa using g4
   rw [if_pos g4] at hk
   have hlp:=zlens_p (B:=qm V (8 * N)) (z:=k.2) (by rw [hBl]; exact hg2)
   have hlo:=qxm (B:=qm V (8 * N)) (z:=k.2)
   have hll:=zlens_len (B:=qm V (8 * N)) (z:=k.2)
   rw [hBl] at hlp
   refine qk.c h0 hN hg2 (fun t11 l nl w e0 ht hnl hcap el h=>⟨⟨qwf t11.a t11.cap 0 1,nl - 0,t11.cap - 0⟩,⟨qwf t11.a t11.cap nl 1,t11.len - nl,t11.cap - nl⟩,rfl,?_⟩) (fun w e0 h=>⟨⟨none,0,0⟩,⟨none,0,0⟩,rfl,?_⟩)
   · have hll:=hll e0
     rw [if_neg (fun e=>e e0)] at hk
     rw [el] at hk hll
     simp only at hk hll
     haveI:=h.drop.cutR t11 0 nl (t11.cap - 0) (ys:=l.take nl) hnl (by omega) hcap (by rw [List.drop_zero,Nat.sub_zero])
     haveI:=h.drop.cutR t11 nl t11.len (t11.cap - nl) (ys:=l.drop nl) (by omega) hnl hcap (by rw [List.take_of_length_le (by rw [List.length_drop]; omega)])
     refine qv.c (s:=⟨qwf t11.a t11.cap 0 1,nl - 0,t11.cap - 0⟩) (t:=⟨qwf t11.a t11.cap nl 1,t11.len - nl,t11.cap - nl⟩) (ll:=l.take nl) (dl:=l.drop nl) h (by omega) hN hlp.2 hm (by rw [hlo]; exact hkL) fun w h=>⟨rfl,?_⟩
     exact hk w (h.tail fun _ _ _ h=>h.drop)
   · rw [if_pos e0] at hk
     refine qv.bad h e0 fun w h=>⟨rfl,?_⟩
     exact hk w h
 have g4:¬ k.1=2:=by simpa using g4
 rw [if_neg g4] at hk
 exact qcc.c h0 fun w h=>⟨rfl,hk w h⟩
def zinf (V N:Nat) (most:Int) (z':Z):Prop:=∃ n,ZAll (qm V (8 * N)) most n (0,[],0) z'
theorem zinf_ex (V N:Nat) (most:Int):∃ z',zinf V N most z':=by
 obtain ⟨n,z',h⟩:=zall_ex (B:=qm V (8 * N)) (most:=most) (N:=N) (qq _ _) (8 * N) (0,[],0) (Nat.zero_le _) (by rw [qq]; omega)
 exact ⟨z',n,h⟩
theorem qzb.a {s:Sl} {K:Ending→World→Prop} {z':Z} (h:St F0 w0 w ps) [Rdb F0 w0 s ps 1 (u8s (byt V N))] (hN:N≤137438953472) (hm:most≤262144) (hm0:0≤most) (hr:zinf V N most z')
 (hk:∀ t w',z'.2.2=0→t.len=z'.2.1.length→St F0 w0 w' (rdA 1 t (u8s z'.2.1) :: ps)→K (.returned (.tuple ⟨[.slice t.a t.len t.cap,.int .i64 (((z'.1+7) / 8:Nat):Int),.int .i64 0]⟩)) w')
 (hk2:∀ w',z'.2.2 ≠ 0→St F0 w0 w' ps→K (.returned (.tuple ⟨[.slice none 0 0,.int .i64 0,.int .i64 z'.2.2]⟩)) w') :
 Calls Tryz.prog 123 ⟨[.slice s.a s.len s.cap,.int .i64 most]⟩ w K:=by
 have hBl:(qm (V:Int) (8 * N)).length=8 * N:=qq _ _
 obtain ⟨n,hr⟩:=hr
 refine qnc (qzb.ok _ _ _ _ ?_)
 unfold qzb qzb.j1
 refine qxc (fun g=>by omega) fun _=>?_
 refine qxc (fun g=>by omega) fun _=>?_
 refine qug.c (V:=V) (N:=N) (s:=s) h (h.rdb s) hN fun rb w h=>⟨_,rfl,?_⟩
 refine h.new fun sb w h=>?_
 have h:=(h.nil 1).at2.at2
 have h:St F0 w0 w (ztA sb rb V N most (0,[],0) :: ps):=zt_c (o:=⟨none,0,0⟩) (p:=0) (out:=[]) (err:=0) h
 unfold qzb.j2 qzb.j4
 refine qpg (fun (a:Nat × Z × Bool) (b:Bool) w'=>b=a.2.2∧a.2.1.1≤8 * N∧a.2.1.2.1.length≤1000000∧a.2.1.2.2=0∧(a.2.2=false→∃ n,n < a.1∧ZAll (qm V (8 * N)) most n a.2.1 z')∧(a.2.2=true→a.2.1=z')∧St F0 w0 w' (ztA sb rb V N most a.2.1 :: ps)) (fun a=>a.1) (n+1,(0,[],0),false) ⟨rfl,Nat.zero_le _,by simp,rfl,fun _=>⟨n,by simp,hr⟩,fun e=>by simp at e,h⟩ ?_
 clear h hr
 rintro ⟨m,z,b⟩ b' wL I μ ⟨rfl,hp,hL,he0,hr,hd,h⟩ hin
 simp only at hp hL he0 hr hd h hin ⊢
 unfold qzb.b1
 cases b' with
 | false =>
   refine qum ?_
   obtain ⟨n,hn,hr⟩:=hr rfl
   refine qse.a h hN hp (by omega) hm0 hL fun w h=>⟨_,rfl,?_⟩
   have hL2:=qdj (B:=qm V (8 * N)) (most:=most) (by omega) hL
   have hle:=(qcj (most:=most) hBl (by rw [hBl]; exact hp)).2.1
   rw [hBl] at hle
   have h0:=h
   obtain ⟨o,h⟩:=qzq h
   refine qod (h.fI ?_)
   refine qqe (fun g=>?_) (fun g=>?_)
   · have g:(qyc (qm V (8 * N)) most z).2.2.2 ≠ 0:=by simpa using g
     refine h.drewK fun w h=>?_
     refine qod (h.fI ?_)
     cases hr with
     | bad he=>exact hk2 w g h.drop.drop.drop
     | last he _=>exact absurd he g
     | next he _ _=>exact absurd he g
   · have g:(qyc (qm V (8 * N)) most z).2.2.2=0:=by simpa using g
     cases hr with
     | bad he=>exact absurd g he
     | last he hl =>
       refine ⟨rfl,hin (0,(qyc (qm V (8 * N)) most z).2,true) _ _ ⟨hl,hle,hL2,g,fun e=>by simp at e,fun _=>rfl,h0⟩ (by simp only; omega)⟩
     | next he hl hr =>
       rename_i n2
       refine ⟨rfl,hin (n2+1,(qyc (qm V (8 * N)) most z).2,false) _ _ ⟨hl,hle,hL2,g,fun _=>⟨n2,by simp,hr⟩,fun e=>by simp at e,h0⟩ (by simp only; omega)⟩
 | true =>
   refine qik ?_
   have hd:=hd rfl
   subst hd
   unfold qzb.j3
   refine h.drewK fun w h=>?_
   obtain ⟨o,h⟩:=qzq h
   have hcap:=h.at2.cap (by decide)
   have hol:=h.at2.len
   rw [qx] at hol
   refine qod (h.fL (qod ⟨?_,?_⟩))
   · refine qad.c h.at2.ro hcap fun t h1 h2 h=>⟨t,rfl,?_⟩
     refine h.at1.fP ?_
     refine qoe.c (rb:=rb) (V:=V) (N:=N) (at':=z.1) h.at2 (by omega) fun h=>⟨_,rfl,?_⟩
     have h1:t.len=o.len:=h1
     exact hk t w he0 (by omega) (h.at1.tail fun _ _ _ h=>h.drop.drop)
   · refine h.fP ?_
     refine qad.c h.at2.ro hcap fun t h1 h2 h=>⟨t,rfl,?_⟩
     refine qoe.c (rb:=rb) (V:=V) (N:=N) (at':=z.1) h.at2 (by omega) fun h=>⟨_,rfl,?_⟩
     have h1:t.len=o.len:=h1
     exact hk t w he0 (by omega) (h.at1.tail fun _ _ _ h=>h.drop.drop)
end
end Go.Proofs.YthdmmmfgjmmelaaGreat
namespace Go.Proofs.YthdmmmfgjmmelaaGreat
open Go Go.Proofs
set_option linter.unusedVariables false
set_option linter.unusedSimpArgs false
def ofG (tab:Int→Int × Int × Bool) (v:Int):Nat→Int→Int × Int × Int→Int × Int × Int
 | 0,_,p=>p
 | f+1,k,p=>if (tab k).2.2=false ∨ v < (tab k).1 then p else ofG tab v f (k+1) (k,v - (tab k).1,(tab k).2.1)
def ofLen (v:Int):Int × Int × Int:=ofG qri v 40 257 (0,0,0)
def ofDis (v:Int):Int × Int × Int:=ofG qei v 40 0 (0,0,0)
theorem ofG_row {tab:Int→Int × Int × Bool} {Bs Xs:Nat→Int} {fr:Int} {m:Nat} {v:Int} (hrow:∀ j:Nat,j < m→tab (fr+j)=(Bs j,Xs j,true)) (hend:(tab (fr+m)).2.2=false) (h0:Bs 0≤v) (hm:0 < m) :
 ∀ (f j:Nat) (p:Int × Int × Int),j≤m→m < f+j→(0 < j→p=(fr+((j - 1:Nat):Int),v - Bs (j - 1),Xs (j - 1))∧Bs (j - 1)≤v) →
 ∃ i,i < m∧ofG tab v f (fr+j) p=(fr+(i:Int),v - Bs i,Xs i)∧Bs i≤v∧(i+1=m ∨ v < Bs (i+1)):=by
 intro f
 induction f with
 | zero=>intro j p h1 h2; omega
 | succ f ih =>
   intro j p h1 h2 h3
   rw [ofG]
   by_cases hj:j=m
   · subst hj
     rw [if_pos (Or.inl hend)]
     obtain ⟨h4,h5⟩:=h3 hm
     exact ⟨j - 1,by omega,h4,h5,Or.inl (by omega)⟩
   · have hr:=hrow j (by omega)
     rw [hr]
     simp only
     by_cases hv:v < Bs j
     · rw [if_pos (Or.inr hv)]
       have hj0:0 < j:=by
        rcases Nat.eq_zero_or_pos j with e | e
        · subst e; omega
        · exact e
       obtain ⟨h4,h5⟩:=h3 hj0
       exact ⟨j - 1,by omega,h4,h5,Or.inr (by rw [show j - 1+1=j by omega]; exact hv)⟩
     · rw [if_neg (by rintro (e | e); cases e; exact hv e)]
       have:=ih (j+1) (fr+(j:Int),v - Bs j,Xs j) (by omega) (by omega) (fun _=>⟨by simp,by simp; omega⟩)
       rw [show fr+((j+1:Nat):Int)=fr+(j:Int)+1 by omega] at this
       exact this
theorem qyl {v:Int} (h1:3≤v) (h2:v≤258):symP v false (ofLen v).1 (ofLen v).2.1 (ofLen v).2.2:=by
 have ch:∀ j:Nat,j < 28→tLenB.getD (j+1) 0≤tLenB.getD j 0+2 ^ (tLenX.getD j 0).toNat:=by decide
 have nn:∀ j:Nat,j < 29→0≤tLenX.getD j 0:=by decide
 obtain ⟨i,hi,he,hb,hn⟩:=ofG_row (tab:=qri) (Bs:=fun j=>tLenB.getD j 0) (Xs:=fun j=>tLenX.getD j 0) (fr:=257) (m:=29) (v:=v) (fun j hj=>by
  rw [zlen_t (by omega) (by omega),show (257+(j:Int) - 257).toNat=j by omega]) (by decide) h1 (by decide) 40 0 (0,0,0) (by decide) (by decide) (fun h=>by omega)
 have he:ofLen v=(257+(i:Int),v - tLenB.getD i 0,tLenX.getD i 0):=he
 rw [he]
 refine Or.inr ⟨rfl,by simp only; omega,by simp only; omega,tLenB.getD i 0,?_,rfl,hb,?_,nn i hi⟩
 · simp only
   rw [zlen_t (by omega) (by omega),show (257+(i:Int) - 257).toNat=i by omega]
 · show v < tLenB.getD i 0+2 ^ (tLenX.getD i 0).toNat
   rcases hn with hn | hn
   · have:i=28:=by omega
     subst this
     have e:tLenB.getD 28 0+2 ^ (tLenX.getD 28 0).toNat=259:=by decide
     omega
   · have:=ch i (by
      rcases Nat.lt_or_ge i 28 with h | h
      · exact h
      · have:i=28:=by omega
        subst this
        have e:tLenB.getD (28+1) 0=0:=by decide
        omega)
     omega
theorem qdk {v:Int} (h1:1≤v) (h2:v≤32768):symP v true (ofDis v).1 (ofDis v).2.1 (ofDis v).2.2:=by
 have ch:∀ j:Nat,j < 29→tDisB.getD (j+1) 0≤tDisB.getD j 0+2 ^ (tDisX.getD j 0).toNat:=by decide
 have nn:∀ j:Nat,j < 30→0≤tDisX.getD j 0:=by decide
 obtain ⟨i,hi,he,hb,hn⟩:=ofG_row (tab:=qei) (Bs:=fun j=>tDisB.getD j 0) (Xs:=fun j=>tDisX.getD j 0) (fr:=0) (m:=30) (v:=v) (fun j hj=>by
  rw [zdis_t (by omega) (by omega),show (0+(j:Int)).toNat=j by omega]) (by decide) h1 (by decide) 40 0 (0,0,0) (by decide) (by decide) (fun h=>by omega)
 have he:ofDis v=(0+(i:Int),v - tDisB.getD i 0,tDisX.getD i 0):=he
 rw [he]
 refine Or.inl ⟨rfl,by simp only; omega,by simp only; omega,tDisB.getD i 0,?_,rfl,hb,?_,nn i hi⟩
 · simp only
   rw [zdis_t (by omega) (by omega),show (0+(i:Int)).toNat=i by omega]
 · show v < tDisB.getD i 0+2 ^ (tDisX.getD i 0).toNat
   rcases hn with hn | hn
   · have:i=29:=by omega
     subst this
     have e:tDisB.getD 29 0+2 ^ (tDisX.getD 29 0).toNat=32769:=by decide
     omega
   · have:=ch i (by
      rcases Nat.lt_or_ge i 29 with h | h
      · exact h
      · have:i=29:=by omega
        subst this
        have e:tDisB.getD (29+1) 0=0:=by decide
        omega)
     omega
def okC (ls:List Int):Prop:=okL ls∧kr ls≤32768
def inC (ls:List Int) (s:Nat):Prop:=s < ls.length∧0 < ls.getD s 0
inductive Gx (ll dl:List Int):List Bool→List Int→Prop
 | nil:Gx ll dl [] []
 | lit {bits:List Bool} {out:List Int} {b:Int} (h:Gx ll dl bits out) (h0:0≤b) (h1:b < 256) (hl:inC ll b.toNat):Gx ll dl (bits ++ quc ll b.toNat) (out ++ [b])
 | copy {bits:List Bool} {out:List Int} {n d s e x s2 e2 x2:Int} (h:Gx ll dl bits out) (h3:3≤n) (h258:n≤258) (hd:1≤d) (hdo:d≤out.length) (hs:symP n false s e x) (hs2:symP d true s2 e2 x2) (hl:inC ll s.toNat) (hdl:inC dl s2.toNat) :
    Gx ll dl (bits ++ (quc ll s.toNat ++ (qm e x.toNat ++ (quc dl s2.toNat ++ qm e2 x2.toNat)))) (tkCopy d n.toNat out)
section
variable {B:List Bool} {most:Int} {ll dl:List Int}
theorem qxj {ls:List Int} {s:Nat} (h:inC ls s):1≤(quc ls s).length:=by
 rw [qmi]
 have:=h.2
 omega
theorem qcl {ls:List Int} {p s:Nat} {r:List Bool} {out:List Int} (hc:okC ls) (hs:inC ls s) (h:B.drop p=quc ls s ++ r):qxi ls B (p,out,0)=((s:Int),(p+(quc ls s).length,out,0)) :=
 zsym_at hc.1 hc.2 hs.1 hs.2 h
theorem qdr {p:Nat} {r:List Bool} {out:List Int} {n d s e x s2 e2 x2:Int} (hc:okC dl) (hn:3≤n) (hs:symP n false s e x) (hs2:symP d true s2 e2 x2) (hi:inC dl s2.toNat) (hd:1≤d) (hp:p≤B.length)
 (h:B.drop p=qm e x.toNat ++ (quc dl s2.toNat ++ (qm e2 x2.toNat ++ r))) :
 zbehind dl B most s (p,out,0)=zcp most d n.toNat (if (out.length:Int) < d then qdd 2 (p+((qm e x.toNat).length+((quc dl s2.toNat).length+(qm e2 x2.toNat).length)),out,0) else (p+((qm e x.toNat).length+((quc dl s2.toNat).length+(qm e2 x2.toNat).length)),out,0)):=by
 rcases hs with ⟨h1,_⟩ | ⟨_,hs0,hs1,b,hz,he,hb1,hb2,hx0⟩
 · cases h1
 rcases hs2 with ⟨_,hs20,hs21,b2,hz2,he2,hb3,hb4,hx20⟩ | ⟨h1,_⟩
 rotate_left
 · cases h1
 have hx:=zlen_x s
 have hx2:=zdis_x s2
 rw [hz] at hx
 rw [hz2] at hx2
 simp only at hx hx2
 have l1:=qvc h
 have h':=qoc h
 have l2:=qvc h'
 have h'':=qoc h'
 have l3:=qvc h''
 unfold zbehind
 simp only [hz]
 unfold zok
 simp only [if_true]
 rw [qbg h (by rw [qq]; omega) (by rw [qq]; omega) hp]
 simp only
 rw [qcl hc hi h']
 simp only
 rw [show ((s2.toNat:Nat):Int)=s2 by omega]
 simp only [hz2]
 simp only [if_true]
 rw [qbg h'' (by rw [qq]; omega) (by rw [qq]; omega) (by omega)]
 simp only
 rw [qcf (by omega) (by omega),qcf (by omega) (by omega),show b2+e2=d by omega,show b+e=n by omega]
 rw [show p+(qm e x.toNat).length+(quc dl s2.toNat).length+(qm e2 x2.toNat).length=p+((qm e x.toNat).length+((quc dl s2.toNat).length+(qm e2 x2.toNat).length)) by omega]
theorem qfp {p:Nat} {r:List Bool} {out:List Int} {b:Int} (hc:okC ll) (hi:inC ll b.toNat) (h0:0≤b) (h1:b < 256) (f:Nat) (h:B.drop p=quc ll b.toNat ++ r) :
 qzd ll dl B most (f+1) (p,out,0)=qzd ll dl B most f (qlm most b (p+(quc ll b.toNat).length,out,0)):=by
 rw [qzd,if_neg (by simp)]
 simp only
 rw [qcl hc hi h]
 simp only
 rw [if_neg (by omega),if_pos (by omega),show ((b.toNat:Nat):Int)=b by omega]
theorem qbo {p:Nat} {r:List Bool} {out:List Int} {s:Int} (hc:okC ll) (hi:inC ll s.toNat) (h0:257≤s) (h1:s≤285) (f:Nat) (h:B.drop p=quc ll s.toNat ++ r) :
 qzd ll dl B most (f+1) (p,out,0)=qzd ll dl B most f (zbehind dl B most s (p+(quc ll s.toNat).length,out,0)):=by
 rw [qzd,if_neg (by simp)]
 simp only
 rw [qcl hc hi h]
 simp only
 rw [if_neg (by omega),if_neg (by omega),show ((s.toNat:Nat):Int)=s by omega]
theorem zcodedG_end {p:Nat} {r:List Bool} {out:List Int} (hc:okC ll) (hi:inC ll 256) (f:Nat) (h:B.drop p=quc ll 256 ++ r) :
 qzd ll dl B most (f+1) (p,out,0)=(p+(quc ll 256).length,out,0):=by
 rw [qzd,if_neg (by simp)]
 simp only
 rw [qcl hc hi h]
 simp only
 rw [if_pos (show (0:Int) ≠ 0 ∨ ((256:Nat):Int)=256 from Or.inr rfl)]
theorem qgp (f:Nat) {z:Z} (h:z.2.2 ≠ 0):qzd ll dl B most f z=z:=by
 cases f with
 | zero=>rfl
 | succ f=>rw [qzd,if_pos h]
theorem Gx.dec {bits:List Bool} {out:List Int} (hcl:okC ll) (hcd:okC dl) (h:Gx ll dl bits out):∀ {p:Nat} {r:List Bool},p≤B.length→B.drop p=bits ++ r→(out.length:Int)≤most →
 ∃ k,k≤bits.length∧∀ f,qzd ll dl B most (f+k) (p,[],0)=qzd ll dl B most f (p+bits.length,out,0):=by
 induction h with
 | nil=>intro p r hp hd hm; exact ⟨0,Nat.le_refl _,fun f=>rfl⟩
 | @lit bits out b h h0 h1 hl ih =>
   intro p r hp hd hm
   rw [List.length_append,List.length_singleton] at hm
   rw [List.append_assoc] at hd
   obtain ⟨k,hk,ih⟩:=ih hp hd (by omega)
   have hs:=qxj hl
   refine ⟨k+1,by rw [List.length_append]; omega,fun f=>?_⟩
   rw [show f+(k+1)=(f+1)+k by omega,ih,qfp hcl hl h0 h1 f (qoc hd)]
   unfold qlm
   rw [if_neg (by simp),if_neg (by simp only; omega),List.length_append,Nat.add_assoc]
 | @copy bits out n d s e x s2 e2 x2 h h3 h258 hdd hdo hs hs2 hl hdl ih =>
   intro p r hp hd hm
   rw [qui] at hm
   rw [List.append_assoc] at hd
   obtain ⟨k,hk,ih⟩:=ih hp hd (by omega)
   have hr:=qwl hs
   have hsp:=qxj hl
   refine ⟨k+1,by simp only [List.length_append]; omega,fun f=>?_⟩
   have l1:=qvc hd
   have hd2:=qoc hd
   rw [List.append_assoc] at hd2
   have l2:=qvc hd2
   have hd3:=qoc hd2
   simp only [List.append_assoc] at hd3
   rw [show f+(k+1)=(f+1)+k by omega,ih,qbo hcl hl hr.1 hr.2 f hd2,qdr hcd h3 hs hs2 hdl hdd (by omega) hd3,if_neg (by omega),zcp_full _ _ _ _ (by omega)]
   simp only [List.length_append,Nat.add_assoc]
theorem Gx.short {bits:List Bool} {out:List Int} (hcl:okC ll) (hcd:okC dl) (h:Gx ll dl bits out):∀ {p:Nat} {r:List Bool},p≤B.length→B.drop p=bits ++ r→0≤most→most < (out.length:Int) →
 ∀ f,(qzd ll dl B most (f+bits.length) (p,[],0)).2.2=5:=by
 induction h with
 | nil=>intro p r hp hd h0 hm; simp at hm; omega
 | @lit bits out b h h0 h1 hl ih =>
   intro p r hp hd hm0 hm
   rw [List.append_assoc] at hd
   have hs:=qxj hl
   intro f
   rw [List.length_append]
   by_cases hle:(out.length:Int)≤most
   · obtain ⟨k,hk,hdec⟩:=Gx.dec (most:=most) hcl hcd h hp hd hle
     rw [List.length_append,List.length_singleton] at hm
     rw [show f+(bits.length+(quc ll b.toNat).length)=((f+(bits.length - k)+((quc ll b.toNat).length - 1))+1)+k by omega,hdec,qfp hcl hl h0 h1 _ (qoc hd)]
     unfold qlm
     rw [if_neg (by simp),if_pos (by simp only; omega),qgp _ (by simp)]
   · rw [show f+(bits.length+(quc ll b.toNat).length)=(f+(quc ll b.toNat).length)+bits.length by omega]
     exact ih hp hd hm0 (by omega) _
 | @copy bits out n d s e x s2 e2 x2 h h3 h258 hdd hdo hs hs2 hl hdl ih =>
   intro p r hp hd hm0 hm
   rw [List.append_assoc] at hd
   have hr:=qwl hs
   have hsp:=qxj hl
   intro f
   rw [qui] at hm
   rw [List.length_append,List.length_append]
   by_cases hle:(out.length:Int)≤most
   · obtain ⟨k,hk,hdec⟩:=Gx.dec (most:=most) hcl hcd h hp hd hle
     have l1:=qvc hd
     have hd2:=qoc hd
     rw [List.append_assoc] at hd2
     have l2:=qvc hd2
     have hd3:=qoc hd2
     simp only [List.append_assoc] at hd3
     generalize (qm e x.toNat ++ (quc dl s2.toNat ++ qm e2 x2.toNat)).length=q
     rw [show f+(bits.length+((quc ll s.toNat).length+q))=((f+(bits.length - k)+((quc ll s.toNat).length - 1)+q)+1)+k by omega,hdec,qbo hcl hl hr.1 hr.2 _ hd2,qdr hcd h3 hs hs2 hdl hdd (by omega) hd3,if_neg (by omega)]
     have h5:=zcp_short (most:=most) (p+bits.length+(quc ll s.toNat).length+((qm e x.toNat).length+((quc dl s2.toNat).length+(qm e2 x2.toNat).length))) d n.toNat out hle (by omega)
     rw [qgp _ (by rw [h5]; decide),h5]
   · rw [show f+(bits.length+((quc ll s.toNat).length+(qm e x.toNat ++ (quc dl s2.toNat ++ qm e2 x2.toNat)).length))=(f+((quc ll s.toNat).length+(qm e x.toNat ++ (quc dl s2.toNat ++ qm e2 x2.toNat)).length))+bits.length by omega]
     exact ih hp hd hm0 (by omega) _
theorem qmo {ls:List Int} (h:qji ls true=0) (z:Z):qjg ls z=z:=by
 unfold qjg
 rw [if_neg (fun e=>e.2 h)]
theorem zblk_good {bits:List Bool} {out:List Int} {p:Nat} {r:List Bool} (hcl:okC ll) (hcd:okC dl) (hnl:qji ll true=0) (hnd:qji dl true=0) (h:Gx ll dl bits out) (hi:inC ll 256) (hp:p≤B.length) (hd:B.drop p=(bits ++ quc ll 256) ++ r) (hm:(out.length:Int)≤most) :
 zblk ll dl B most (p,[],0)=(p+(bits ++ quc ll 256).length,out,0):=by
 have hl:=qvc hd
 rw [List.append_assoc] at hd
 rw [List.length_append] at hl
 have h256:¬ ((0:Int)=0∧ll.getD 256 0=0):=fun e=>by have:=hi.2; omega
 have ez:(if (((p,[],0):Z)).2.2=0∧ll.getD 256 0=0 then qdd 2 (p,[],0) else (p,[],0))=((p,[],0):Z):=if_neg h256
 unfold zblk
 rw [ez]
 rw [qmo hnl,qmo hnd]
 simp only
 rw [if_neg (fun e=>e rfl)]
 obtain ⟨k,hk,hdec⟩:=Gx.dec (most:=most) hcl hcd h hp hd hm
 have hs:=qxj hi
 rw [show B.length+1=((B.length - k)+1)+k by omega,hdec,zcodedG_end hcl hi _ (qoc hd),List.length_append,Nat.add_assoc]
theorem qcr {bits:List Bool} {out:List Int} {p:Nat} {r:List Bool} (hcl:okC ll) (hcd:okC dl) (hnl:qji ll true=0) (hnd:qji dl true=0) (h:Gx ll dl bits out) (hi:inC ll 256) (hp:p≤B.length) (hd:B.drop p=(bits ++ quc ll 256) ++ r) (h0:0≤most) (hm:most < (out.length:Int)) :
 (zblk ll dl B most (p,[],0)).2.2=5:=by
 have hl:=qvc hd
 rw [List.append_assoc] at hd
 rw [List.length_append] at hl
 have h256:¬ ((0:Int)=0∧ll.getD 256 0=0):=fun e=>by have:=hi.2; omega
 have ez:(if (((p,[],0):Z)).2.2=0∧ll.getD 256 0=0 then qdd 2 (p,[],0) else (p,[],0))=((p,[],0):Z):=if_neg h256
 unfold zblk
 rw [ez]
 rw [qmo hnl,qmo hnd]
 simp only
 rw [if_neg (fun e=>e rfl)]
 rw [show B.length+1=(B.length+1 - bits.length)+bits.length by omega]
 exact Gx.short (most:=most) hcl hcd h hp hd h0 hm _
end
def tkB (ll dl:List Int) (t:Tk):List Bool :=
 if t.2.1=0 then quc ll t.1.toNat
 else quc ll (ofLen t.2.1).1.toNat ++ (qm (ofLen t.2.1).2.1 (ofLen t.2.1).2.2.toNat ++ (quc dl (ofDis t.2.2).1.toNat ++ qm (ofDis t.2.2).2.1 (ofDis t.2.2).2.2.toNat))
def tksB (ll dl:List Int) (L:List Tk):List Bool:=L.flatMap (tkB ll dl)
def tkIn (ll dl:List Int) (t:Tk):Prop:=if t.2.1=0 then inC ll t.1.toNat else inC ll (ofLen t.2.1).1.toNat∧inC dl (ofDis t.2.2).1.toNat
theorem tks_gx {ll dl:List Int} {b:List Int} (hb:∀ x ∈ b,0≤x∧x < 256):∀ {n m:Nat} {L:List Tk},qxf b n L m→n≤b.length→∀ {bits:List Bool},Gx ll dl bits (b.take n)→(∀ t ∈ L,tkIn ll dl t)→Gx ll dl (bits ++ tksB ll dl L) (b.take m):=by
 intro n m L h
 induction h with
 | nil n=>intro hn bits hg _; simpa [tksB] using hg
 | @lit n m r h hr ih =>
   intro hn bits hg hin
   have h1:=hb _ (List.getElem_mem h)
   have e1:b[n]=b.getD n 0:=by simp [List.getD,h]
   rw [e1] at h1
   have ht:=hin _ (List.mem_cons_self ..)
   have ht:inC ll (b.getD n 0).toNat:=ht
   have hg2:=Gx.lit hg h1.1 h1.2 ht
   rw [← qrg h] at hg2
   have:=ih (by omega) hg2 (fun t h=>hin t (List.mem_cons_of_mem _ h))
   rw [List.append_assoc] at this
   exact this
 | @copy n m k d r h3 h258 hd hdn hdf hk hs hr ih =>
   intro hn bits hg hin
   have ht:=hin _ (List.mem_cons_self ..)
   have hk0:¬ ((k:Int)=0):=by omega
   unfold tkIn at ht
   rw [if_neg hk0] at ht
   have hl:(b.take n).length=n:=by rw [List.length_take]; omega
   have hg2:=Gx.copy (n:=(k:Int)) (d:=(d:Int)) hg (by omega) (by omega) (by omega) (by omega) (qyl (by omega) (by omega)) (qdk (by omega) (by omega)) ht.1 ht.2
   rw [show ((k:Int)).toNat=k from rfl,qqr hd k n hdn hk hs] at hg2
   have:=ih hk hg2 (fun t h=>hin t (List.mem_cons_of_mem _ h))
   rw [List.append_assoc] at this
   show Gx ll dl (bits ++ (tkB ll dl (0,(k:Int),(d:Int)) ++ tksB ll dl r)) _
   unfold tkB
   rw [if_neg hk0]
   exact this
end Go.Proofs.YthdmmmfgjmmelaaGreat
namespace Go.Proofs.YthdmmmfgjmmelaaGreat
open Go Go.Proofs
set_option linter.unusedVariables false
set_option linter.unusedSimpArgs false
abbrev Pc:=Int × Int × Int
inductive Runs (l:List Int):Nat→List Pc→Prop
 | nil:Runs l l.length []
 | one {i:Nat} {r:List Pc} (h:i < l.length) (h0:0≤l.getD i 0) (h1:l.getD i 0 < 16):Runs l (i+1) r→Runs l i ((l.getD i 0,0,0) :: r)
 | old {i k:Nat} {r:List Pc} (hi:0 < i) (h3:3≤k) (h6:k≤6) (hk:i+k≤l.length) (hs:∀ j,j < k→l.getD (i+j) 0=l.getD (i - 1) 0):Runs l (i+k) r→Runs l i ((16,(k:Int) - 3,2) :: r)
 | few {i k:Nat} {r:List Pc} (h3:3≤k) (h10:k≤10) (hk:i+k≤l.length) (hs:∀ j,j < k→l.getD (i+j) 0=0):Runs l (i+k) r→Runs l i ((17,(k:Int) - 3,3) :: r)
 | many {i k:Nat} {r:List Pc} (h11:11≤k) (h138:k≤138) (hk:i+k≤l.length) (hs:∀ j,j < k→l.getD (i+j) 0=0):Runs l (i+k) r→Runs l i ((18,(k:Int) - 11,7) :: r)
theorem Runs.le {l:List Int} {i:Nat} {ps:List Pc} (h:Runs l i ps):i+ps.length≤l.length:=by
 induction h with
 | nil=>simp
 | one h _ _ _ ih=>rw [List.length_cons]; omega
 | old _ h3 _ _ _ _ ih=>rw [List.length_cons]; omega
 | few h3 _ _ _ _ ih=>rw [List.length_cons]; omega
 | many h3 _ _ _ _ ih=>rw [List.length_cons]; omega
def pcOk (p:Pc):Prop:=0≤p.1∧p.1 < 19∧0≤p.2.2∧p.2.2≤7
theorem Runs.ok {l:List Int} {i:Nat} {ps:List Pc} (h:Runs l i ps):∀ p ∈ ps,pcOk p:=by
 induction h with
 | nil=>intro p hp; cases hp
 | one h h0 h1 _ ih=>intro p hp; exact (List.mem_cons.1 hp).elim (fun e=>by subst e; exact ⟨h0,by simp only; omega,by simp,by simp⟩) (ih p)
 | old _ h3 _ _ _ _ ih=>intro p hp; exact (List.mem_cons.1 hp).elim (fun e=>by subst e; exact ⟨by simp,by simp,by simp,by simp⟩) (ih p)
 | few h3 _ _ _ _ ih=>intro p hp; exact (List.mem_cons.1 hp).elim (fun e=>by subst e; exact ⟨by simp,by simp,by simp,by simp⟩) (ih p)
 | many h3 _ _ _ _ ih=>intro p hp; exact (List.mem_cons.1 hp).elim (fun e=>by subst e; exact ⟨by simp,by simp,by simp,by simp⟩) (ih p)
theorem take_rep {l:List Int} {i:Nat} {v:Int}:∀ {k:Nat},i+k≤l.length→(∀ j,j < k→l.getD (i+j) 0=v)→l.take (i+k)=l.take i ++ List.replicate k v:=by
 intro k
 induction k with
 | zero=>intro _ _; simp
 | succ k ih =>
   intro h hs
   rw [show i+(k+1)=(i+k)+1 by omega,qrg (by omega),ih (by omega) (fun j hj=>hs j (by omega)),hs k (by omega),List.append_assoc,List.replicate_succ']
def pcB (cl:List Int) (p:Pc):List Bool:=quc cl p.1.toNat ++ qm p.2.1 p.2.2.toNat
def pcsB (cl:List Int) (ps:List Pc):List Bool:=ps.flatMap (pcB cl)
section
variable {B:List Bool} {most:Int} {cl l:List Int} {out:List Int}
theorem qwm {N:Nat} {l:List Int} {p q q2 k:Nat} {s v:Int} (hs:qxi cl B (p,out,0)=(s,(q,out,0))) (ha:qye B s l (q,out,0)=((v,(k:Int)),(q2,out,0))) (hk:l.length+k≤N) :
 zllS cl B N l (p,out,0)=(l ++ List.replicate k v,(q2,out,0)):=by
 unfold zllS
 simp only
 rw [hs]
 simp only
 rw [ha]
 simp only
 have e:(if (N:Int) - (l.length:Int) < (k:Int) then qdd 2 (q2,out,0) else (q2,out,0))=((q2,out,0):Z):=if_neg (by omega)
 rw [e,if_pos rfl,Int.toNat_natCast]
theorem qko {N f:Nat} {l l2:List Int} {z z2:Z} (h0:z.2.2=0) (hN:l.length < N) (h:zllS cl B N l z=(l2,z2)):zll cl B N (f+1) l z=zll cl B N f l2 z2:=by
 rw [zll,if_neg (by omega),h]
theorem zll_runs {i:Nat} {ps:List Pc} (hc:okC cl) (hr:Runs l i ps):(∀ p ∈ ps,inC cl p.1.toNat)→∀ {p:Nat} {r:List Bool},p≤B.length→B.drop p=pcsB cl ps ++ r→∀ f,ps.length≤f →
 zll cl B l.length f (l.take i) (p,out,0)=(l,(p+(pcsB cl ps).length,out,0)):=by
 induction hr with
 | nil =>
   intro _ p r hp hd f hf
   rw [List.take_length]
   cases f with
   | zero=>rfl
   | succ f=>rw [zll,if_pos (Or.inr (Nat.le_refl _))]; rfl
 | @one i rr h h0 h1 hr ih =>
   intro hin p r hp hd f hf
   rw [List.length_cons] at hf
   obtain ⟨f,rfl⟩:∃ g,f=g+1:=⟨f - 1,by omega⟩
   have hi:inC cl (l.getD i 0).toNat:=hin _ (List.mem_cons_self ..)
   have e:pcsB cl ((l.getD i 0,0,0) :: rr)=quc cl (l.getD i 0).toNat ++ pcsB cl rr:=by
    show (quc cl (l.getD i 0).toNat ++ qm 0 (0:Int).toNat) ++ pcsB cl rr=_
    rw [show qm 0 (0:Int).toNat=[] from rfl,List.append_nil]
   rw [e,List.append_assoc] at hd
   have hl:=qvc hd
   have hs:=qcl hc hi hd (out:=out)
   have hll:(l.take i).length=i:=by rw [List.length_take]; omega
   have st:=qwm (N:=l.length) (l:=l.take i) (k:=1) (v:=l.getD i 0) hs (by
    unfold qye
    rw [if_neg (by omega),if_neg (by omega),if_neg (by omega),show (((l.getD i 0).toNat:Nat):Int)=l.getD i 0 by omega]
    rfl) (by omega)
   rw [qko rfl (by omega) st,show l.take i ++ List.replicate 1 (l.getD i 0)=l.take (i+1) from (qrg h).symm,ih (fun p hp=>hin p (List.mem_cons_of_mem _ hp)) (by omega) (qoc hd) f (by omega),e,List.length_append,Nat.add_assoc]
 | @old i k rr hi0 h3 h6 hk hs hr ih =>
   intro hin p r hp hd f hf
   rw [List.length_cons] at hf
   obtain ⟨f,rfl⟩:∃ g,f=g+1:=⟨f - 1,by omega⟩
   have hi:inC cl 16:=hin _ (List.mem_cons_self ..)
   have e:pcsB cl ((16,(k:Int) - 3,2) :: rr)=quc cl 16 ++ (qm ((k:Int) - 3) 2 ++ pcsB cl rr):=List.append_assoc ..
   rw [e,List.append_assoc,List.append_assoc] at hd
   have hl:=qvc hd
   have hs1:=qcl hc hi hd (out:=out)
   have hd2:=qoc hd
   have hl2:=qvc hd2
   have hg:=qbg (out:=out) (n:=2) hd2 (by rw [qq]; rfl) (by rw [qq]; omega) (by omega)
   have vs:=qcf (e:=(k:Int) - 3) (x:=2) (by omega) (by show (k:Int) - 3 < 4; omega)
   rw [show (2:Int).toNat=2 from rfl] at vs
   rw [vs] at hg
   have hll:(l.take i).length=i:=by rw [List.length_take]; omega
   have st:=qwm (N:=l.length) (l:=l.take i) (k:=k) (v:=l.getD (i - 1) 0) hs1 (by
    unfold qye
    rw [if_pos (show ((16:Nat):Int)=16 from rfl),if_neg (by omega),hll,qmp (by omega),hg]
    simp only
    rw [show (3:Int)+((k:Int) - 3)=k by omega]) (by omega)
   rw [qko rfl (by omega) st,← take_rep hk hs,ih (fun p hp=>hin p (List.mem_cons_of_mem _ hp)) (by omega) (qoc hd2) f (by omega),e,List.length_append,List.length_append,Nat.add_assoc,Nat.add_assoc]
 | @few i k rr h3 h10 hk hs hr ih =>
   intro hin p r hp hd f hf
   rw [List.length_cons] at hf
   obtain ⟨f,rfl⟩:∃ g,f=g+1:=⟨f - 1,by omega⟩
   have hi:inC cl 17:=hin _ (List.mem_cons_self ..)
   have e:pcsB cl ((17,(k:Int) - 3,3) :: rr)=quc cl 17 ++ (qm ((k:Int) - 3) 3 ++ pcsB cl rr):=List.append_assoc ..
   rw [e,List.append_assoc,List.append_assoc] at hd
   have hl:=qvc hd
   have hs1:=qcl hc hi hd (out:=out)
   have hd2:=qoc hd
   have hl2:=qvc hd2
   have hg:=qbg (out:=out) (n:=3) hd2 (by rw [qq]; rfl) (by rw [qq]; omega) (by omega)
   have vs:=qcf (e:=(k:Int) - 3) (x:=3) (by omega) (by show (k:Int) - 3 < 8; omega)
   rw [show (3:Int).toNat=3 from rfl] at vs
   rw [vs] at hg
   have hll:(l.take i).length=i:=by rw [List.length_take]; omega
   have st:=qwm (N:=l.length) (l:=l.take i) (k:=k) (v:=0) hs1 (by
    unfold qye
    rw [if_neg (by decide),if_pos (show ((17:Nat):Int)=17 from rfl),hg]
    simp only
    rw [show (3:Int)+((k:Int) - 3)=k by omega]) (by omega)
   rw [qko rfl (by omega) st,← take_rep hk hs,ih (fun p hp=>hin p (List.mem_cons_of_mem _ hp)) (by omega) (qoc hd2) f (by omega),e,List.length_append,List.length_append,Nat.add_assoc,Nat.add_assoc]
 | @many i k rr h11 h138 hk hs hr ih =>
   intro hin p r hp hd f hf
   rw [List.length_cons] at hf
   obtain ⟨f,rfl⟩:∃ g,f=g+1:=⟨f - 1,by omega⟩
   have hi:inC cl 18:=hin _ (List.mem_cons_self ..)
   have e:pcsB cl ((18,(k:Int) - 11,7) :: rr)=quc cl 18 ++ (qm ((k:Int) - 11) 7 ++ pcsB cl rr):=List.append_assoc ..
   rw [e,List.append_assoc,List.append_assoc] at hd
   have hl:=qvc hd
   have hs1:=qcl hc hi hd (out:=out)
   have hd2:=qoc hd
   have hl2:=qvc hd2
   have hg:=qbg (out:=out) (n:=7) hd2 (by rw [qq]; rfl) (by rw [qq]; omega) (by omega)
   have vs:=qcf (e:=(k:Int) - 11) (x:=7) (by omega) (by show (k:Int) - 11 < 128; omega)
   rw [show (7:Int).toNat=7 from rfl] at vs
   rw [vs] at hg
   have hll:(l.take i).length=i:=by rw [List.length_take]; omega
   have st:=qwm (N:=l.length) (l:=l.take i) (k:=k) (v:=0) hs1 (by
    unfold qye
    rw [if_neg (by decide),if_neg (by decide),if_pos (show ((18:Nat):Int)=18 from rfl),hg]
    simp only
    rw [show (11:Int)+((k:Int) - 11)=k by omega]) (by omega)
   rw [qko rfl (by omega) st,← take_rep hk hs,ih (fun p hp=>hin p (List.mem_cons_of_mem _ hp)) (by omega) (qoc hd2) f (by omega),e,List.length_append,List.length_append,Nat.add_assoc,Nat.add_assoc]
end
theorem tw_spec (v:Int):∀ m:List Int,(m.takeWhile (· == v)).length≤m.length∧(∀ j,j < (m.takeWhile (· == v)).length→m.getD j 0=v)∧((m.takeWhile (· == v)).length < m.length→m.getD (m.takeWhile (· == v)).length 0 ≠ v):=by
 intro m
 induction m with
 | nil=>exact ⟨Nat.le_refl _,fun j hj=>by simp at hj,fun h=>by simp at h⟩
 | cons x m ih =>
   obtain ⟨h1,h2,h3⟩:=ih
   by_cases hx:x=v
   · rw [List.takeWhile_cons_of_pos (by simpa using hx)]
     refine ⟨by simp only [List.length_cons]; omega,fun j hj=>?_,fun h=>?_⟩
     · cases j with
       | zero=>simpa using hx
       | succ j=>simp only [List.length_cons] at hj; simpa using h2 j (by omega)
     · simp only [List.length_cons] at h ⊢
       simpa using h3 (by omega)
   · rw [List.takeWhile_cons_of_neg (by simpa using hx)]
     exact ⟨by simp,fun j hj=>by simp at hj,fun h=>by simpa using hx⟩
def qoj (l:List Int) (i:Nat):Nat:=((l.drop (i+1)).takeWhile (· == l.getD i 0)).length+1
theorem qqp {l:List Int} {i:Nat} (hi:i < l.length):i+qoj l i≤l.length∧(∀ j,j < qoj l i→l.getD (i+j) 0=l.getD i 0)∧(i+qoj l i < l.length→l.getD (i+qoj l i) 0 ≠ l.getD i 0):=by
 obtain ⟨h1,h2,h3⟩:=tw_spec (l.getD i 0) (l.drop (i+1))
 rw [List.length_drop] at h1 h3
 have gd:∀ j,(l.drop (i+1)).getD j 0=l.getD (i+(j+1)) 0:=fun j=>by simp [List.getD,List.getElem?_drop]; congr 2; omega
 unfold qoj
 refine ⟨by omega,fun j hj=>?_,fun h=>?_⟩
 · cases j with
   | zero=>rfl
   | succ j=>rw [← gd]; exact h2 j (by omega)
 · rw [← gd]; exact h3 (by omega)
theorem runK_eq {l:List Int} {i n:Nat} (hi:i < l.length) (h1:i+n≤l.length) (h2:∀ j,j < n→l.getD (i+j) 0=l.getD i 0) (h3:i+n < l.length→l.getD (i+n) 0 ≠ l.getD i 0):n=qoj l i:=by
 obtain ⟨g1,g2,g3⟩:=qqp hi
 rcases Nat.lt_trichotomy n (qoj l i) with h | h | h
 · exact absurd (g2 n h) (h3 (by omega))
 · exact h
 · exact absurd (h2 _ h) (g3 (by omega))
theorem runK_pos (l:List Int) (i:Nat):1≤qoj l i:=by unfold qoj; omega
def runP (l:List Int) (i:Nat):Pc × Nat :=
 if l.getD i 0=0∧11≤qoj l i then ((18,((min (qoj l i) 138:Nat):Int) - 11,7),min (qoj l i) 138)
 else if l.getD i 0=0∧3≤qoj l i then ((17,(qoj l i:Int) - 3,3),qoj l i)
 else if (0 < i∧l.getD i 0=l.getD (i - 1) 0)∧3≤qoj l i then ((16,((min (qoj l i) 6:Nat):Int) - 3,2),min (qoj l i) 6)
 else ((l.getD i 0,0,0),1)
def runsF (l:List Int):Nat→Nat→List Pc
 | 0,_=>[]
 | f+1,i=>if l.length≤i then [] else (runP l i).1 :: runsF l f (i+(runP l i).2)
def runsL (l:List Int):List Pc:=runsF l l.length 0
theorem runP_pos (l:List Int) (i:Nat):1≤(runP l i).2:=by
 have:=runK_pos l i
 unfold runP
 split
 · simp only; omega
 · split
   · simp only; omega
   · split
     · simp only; omega
     · simp
theorem runP_le {l:List Int} {i:Nat} (hi:i < l.length):i+(runP l i).2≤l.length:=by
 have:=(qqp hi).1
 unfold runP
 split
 · simp only; omega
 · split
   · simp only; omega
   · split
     · simp only; omega
     · simp only; omega
theorem runsF_runs {l:List Int} (hl:∀ x ∈ l,0≤x∧x < 16):∀ f i,i≤l.length→l.length - i≤f→Runs l i (runsF l f i):=by
 intro f
 induction f with
 | zero =>
   intro i hi hf
   have:i=l.length:=by omega
   subst this; exact Runs.nil
 | succ f ih =>
   intro i hi hf
   rw [runsF]
   by_cases hi2:l.length≤i
   · have:i=l.length:=by omega
     subst this; rw [if_pos hi2]; exact Runs.nil
   · rw [if_neg hi2]
     have hi2:i < l.length:=by omega
     have hp:=runP_pos l i
     have hle:=runP_le hi2
     have ih:=ih (i+(runP l i).2) hle (by omega)
     obtain ⟨g1,g2,g3⟩:=qqp hi2
     revert ih
     generalize runsF l f (i+(runP l i).2)=rr
     unfold runP
     split
     · rename_i h1
       intro ih
       exact Runs.many (by omega) (by omega) (by omega) (fun j hj=>by rw [g2 j (by omega)]; exact h1.1) ih
     · split
       · rename_i h0 h1
         intro ih
         have:qoj l i < 11:=by
          rcases Nat.lt_or_ge (qoj l i) 11 with h | h
          · exact h
          · exact absurd ⟨h1.1,h⟩ h0
         exact Runs.few (by omega) (by omega) (by omega) (fun j hj=>by rw [g2 j (by omega)]; exact h1.1) ih
       · split
         · rename_i h1
           intro ih
           exact Runs.old h1.1.1 (by omega) (by omega) (by omega) (fun j hj=>by rw [g2 j (by omega)]; exact h1.1.2) ih
         · intro ih
           have hx:=hl _ (List.getElem_mem hi2)
           rw [show l[i]=l.getD i 0 by simp [List.getD,hi2]] at hx
           exact Runs.one hi2 hx.1 hx.2 ih
theorem runsL_runs {l:List Int} (hl:∀ x ∈ l,0≤x∧x < 16):Runs l 0 (runsL l):=runsF_runs hl _ _ (Nat.zero_le _) (by omega)
def qlh (l:List Int) (m:Nat):Nat→Nat
 | 0=>0
 | n+1=>if m < n+1∧l.getD n 0=0 then qlh l m n else n+1
theorem trimN_le (l:List Int) (m:Nat):∀ n,qlh l m n≤n:=by
 intro n
 induction n with
 | zero=>exact Nat.le_refl _
 | succ n ih=>rw [qlh]; split <;> omega
theorem trimN_ge (l:List Int) (m:Nat):∀ n,m≤n→m≤qlh l m n:=by
 intro n
 induction n with
 | zero=>intro h; exact h
 | succ n ih=>
   intro h
   rw [qlh]
   split
   · exact ih (by omega)
   · exact h
theorem trimN_no (l:List Int) (m:Nat):∀ n j,qlh l m n≤j→j < n→l.getD j 0=0:=by
 intro n
 induction n with
 | zero=>intro j _ h; omega
 | succ n ih =>
   intro j h1 h2
   rw [qlh] at h1
   split at h1
   · rename_i hc
     rcases Nat.lt_or_ge j n with h | h
     · exact ih j h1 h
     · rw [show j=n by omega]; exact hc.2
   · omega
theorem hc_nought (l:List Int) (n:Nat):hc (l ++ [0]) n=hc l n:=by
 rw [qol,if_neg (by omega),Nat.add_zero]
theorem hf_nought (l:List Int):∀ n,hf (l ++ [0]) n=hf l n:=by
 intro n
 induction n with
 | zero=>rfl
 | succ n ih=>rw [hf,hf,ih,hc_nought]
theorem qxp (l:List Int):kr (l ++ [0])=kr l:=by rw [kr_snoc,if_neg (by omega),Nat.add_zero]
theorem sbits_nought {l:List Int} {s:Nat} (hs:s < l.length):quc (l ++ [0]) s=quc l s:=by
 unfold quc
 rw [qaj hs]
 unfold qmf
 rw [qaj hs,hf_nought,List.take_append_of_le_length (by omega)]
theorem inC_nought {l:List Int} {s:Nat} (h:inC (l ++ [0]) s):inC l s:=by
 obtain ⟨h1,h2⟩:=h
 rw [List.length_append,List.length_singleton] at h1
 rcases Nat.lt_or_ge s l.length with h | h
 · rw [qaj h] at h2; exact ⟨h,h2⟩
 · rw [show s=l.length by omega,qin] at h2; omega
theorem okC_nought {l:List Int} (h:okC (l ++ [0])):okC l:=⟨(okL_snoc h.1).1,by have:=h.2; rwa [qxp] at this⟩
theorem hnew_nought {l:List Int} (h:qji (l ++ [0]) true=0):qji l true=0:=by
 obtain ⟨h1,h2,h3,h4⟩:=qbq (hnew_ok h)
 have k1:okL l:=(okL_snoc h1).1
 rw [List.length_append] at h3
 have k2:kr l≤32768:=by rwa [qxp] at h2
 have c:qvk l=(decide (kr l=32768),0):=by
  unfold qvk
  rw [if_neg (by simp at h3; omega),if_neg (by simpa using k1),if_neg (by omega)]
 have c2:qvk (l ++ [0])=(decide (kr l=32768),0):=by
  rw [← qxp l]
  exact Prod.ext h4 (hnew_ok h)
 have hh:hhalf (l ++ [0])=hhalf l:=by
  rw [qro h1,qro k1]
  simp
 unfold qji at h ⊢
 rw [c2,hh] at h
 rw [c]
 exact h
theorem trim_code {l:List Int} (m:Nat):∀ n,n≤l.length→okC (l.take n)→qji (l.take n) true=0 →
 okC (l.take (qlh l m n))∧qji (l.take (qlh l m n)) true=0∧∀ s,inC (l.take n) s→inC (l.take (qlh l m n)) s∧quc (l.take (qlh l m n)) s=quc (l.take n) s:=by
 intro n
 induction n with
 | zero=>intro _ h1 h2; exact ⟨h1,h2,fun s h=>⟨h,rfl⟩⟩
 | succ n ih =>
   intro hn h1 h2
   rw [qlh]
   split
   · rename_i hc
     rw [qrg (by omega),hc.2] at h1 h2 ⊢
     obtain ⟨k1,k2,k3⟩:=ih (by omega) (okC_nought h1) (hnew_nought h2)
     refine ⟨k1,k2,fun s hs=>?_⟩
     have hs:=inC_nought hs
     obtain ⟨k4,k5⟩:=k3 s hs
     exact ⟨k4,by rw [k5,sbits_nought hs.1]⟩
   · exact ⟨h1,h2,fun s h=>⟨h,rfl⟩⟩
end Go.Proofs.YthdmmmfgjmmelaaGreat
namespace Go.Proofs.YthdmmmfgjmmelaaGreat
open Go Go.Proofs
set_option linter.unusedVariables false
set_option linter.unusedSimpArgs false
attribute [local irreducible] apK cpK mkK br
section
variable {most:Int} {bits:List Bool} {out:List Int}
theorem Fx.bytes (h:Fx bits out):∀ x ∈ out,0≤x∧x < 256:=by
 induction h with
 | nil=>intro x hx; simp at hx
 | lit h h0 h1 ih =>
   intro x hx
   rcases List.mem_append.1 hx with hx | hx
   · exact ih x hx
   · rw [List.mem_singleton.1 hx]; exact ⟨h0,h1⟩
 | copy h _ _ _ _ _ _ ih=>exact tkCopy_b _ _ _ ih
end
end Go.Proofs.YthdmmmfgjmmelaaGreat
namespace Go.Proofs.YthdmmmfgjmmelaaGreat
open Go Go.Proofs
set_option linter.unusedVariables false
set_option linter.unusedSimpArgs false
attribute [local irreducible] apK cpK mkK br
theorem xorV_nat {a b:Nat} (ha:a < 9223372036854775808) (hb:b < 9223372036854775808):xorV .i64 (a:Int) (b:Int)=((a ^^^ b:Nat):Int):=by
 have hx:a ^^^ b < 2 ^ 63:=Nat.xor_lt_two_pow (by simpa using ha) (by simpa using hb)
 have e:(BitVec.ofInt 64 (a:Int) ^^^ BitVec.ofInt 64 (b:Int)).toNat=a ^^^ b:=by
  rw [BitVec.ofInt_natCast,BitVec.ofInt_natCast,BitVec.toNat_xor,BitVec.toNat_ofNat,BitVec.toNat_ofNat,Nat.mod_eq_of_lt (by omega),Nat.mod_eq_of_lt (by omega)]
 show IntKind.i64.wrap (((BitVec.ofInt 64 (a:Int) ^^^ BitVec.ofInt 64 (b:Int)).toNat:Nat):Int)=_
 rw [e]
 generalize a ^^^ b=c at hx
 exact qi (by omega) (by omega)
theorem xor_good {a:Nat} (ha:a < 65536):(65535 ^^^ a) < 65536∧a ^^^ (65535 ^^^ a)=65535:=by
 refine ⟨Nat.xor_lt_two_pow (n:=16) (by decide) ha,?_⟩
 rw [Nat.xor_comm 65535 a,← Nat.xor_assoc,Nat.xor_self,Nat.zero_xor]
inductive ZGo (B:List Bool) (most:Int):Z→Z→Prop
 | refl (z:Z):ZGo B most z z
 | step {z z1:Z} (h:ZGo B most z z1) (h2:znot2 B z1) (he:(zblock B most z1).2.2.2=0) (hl:(zblock B most z1).1=false):ZGo B most z (zblock B most z1).2
theorem ZGo.run {B:List Bool} {most:Int} {z z1 z':Z} (h:ZGo B most z z1):∀ {n:Nat},ZRun B most n z1 z'→∃ m,ZRun B most m z z':=by
 induction h with
 | refl=>intro n hr; exact ⟨n,hr⟩
 | step h h2 he hl ih=>intro n hr; exact ih (ZRun.next h2 he hl hr)
def bb (ys:List Int):List Bool:=ys.flatMap fun x=>qm x 8
theorem qmn (ys:List Int):(bb ys).length=8 * ys.length:=by
 induction ys with
 | nil=>rfl
 | cons y ys ih =>
   have:bb (y :: ys)=qm y 8 ++ bb ys:=rfl
   rw [this,List.length_append,ih,qq,List.length_cons]; omega
theorem bb_snoc (ys:List Int) (y:Int):bb (ys ++ [y])=bb ys ++ qm y 8:=by simp [bb]
theorem zst_full {B:List Bool} {most:Int}:∀ (ys:List Int) (p:Nat) (out:List Int) (r:List Bool),(∀ y ∈ ys,0≤y∧y < 256)→p≤B.length→B.drop p=bb ys ++ r→(out.length+ys.length:Int)≤most→zst B most ys.length (p,out,0)=(p+8 * ys.length,out ++ ys,0):=by
 intro ys
 induction ys with
 | nil=>intro p out r _ _ _ _; simp [zst]
 | cons y ys ih =>
   intro p out r hy hp hd hm
   rw [List.length_cons] at hm
   have e:bb (y :: ys)=qm y 8 ++ bb ys:=rfl
   rw [e,List.append_assoc] at hd
   have l1:=qvc hd
   have hy0:=hy y (by simp)
   rw [qq] at l1
   have hd2:=qoc hd
   rw [qq] at hd2
   rw [List.length_cons,zst,qbg hd (by rw [qq]; rfl) (by rw [qq]; decide) hp]
   simp only
   rw [show (qm y 8:List Bool)=qm y (8:Int).toNat from rfl,qcf (x:=8) hy0.1 (by have:(2:Int) ^ (8:Int).toNat=256:=by decide
                                                                                omega)]
   unfold qlm
   rw [if_neg (by simp),if_neg (by simp only; omega)]
   simp only
   rw [show (qm y (8:Int).toNat).length=8 from qq _ _]
   by_cases hn:ys=[]
   · subst hn; simp [zst]
   have h3:0 < ys.length:=List.length_pos_iff.2 hn
   have hle:p+8≤B.length:=by omega
   rw [ih (p+8) (out ++ [y]) r (fun x hx=>hy x (by simp [hx])) hle hd2 (by rw [List.length_append,List.length_singleton]; omega)]
   simp only [List.append_assoc,List.singleton_append]
   rw [show p+8+8 * ys.length=p+8 * (ys.length+1) by omega]
theorem zstored_at {B r pd:List Bool} {most:Int} {p c:Nat} {lb:Bool} {out ys:List Int} (hy:∀ y ∈ ys,0≤y∧y < 256) (hp:p≤B.length) (hys:ys.length < 65536) (hc:c < 65536)
 (hpd:pd.length=8 * ((p+3+7) / 8) - (p+3)) (hm:(out.length+ys.length:Int)≤most)
 (hd:B.drop p=[lb] ++ ([false,false] ++ (pd ++ (qm (ys.length:Int) 16 ++ (qm (c:Int) 16 ++ (bb ys ++ r)))))) :
 znot2 B (p,out,0)∧(ys.length ^^^ c ≠ 65535→(zblock B most (p,out,0)).2.2.2=2) ∧
 (ys.length ^^^ c=65535→zblock B most (p,out,0)=(lb,(p+3+pd.length+32+8 * ys.length,out ++ ys,0))):=by
 have l1:=qvc hd
 have g1:=qbg (B:=B) (out:=out) (n:=1) hd rfl (by simp) hp
 have hd2:=qoc hd
 have l2:=qvc hd2
 have g2:=qbg (B:=B) (out:=out) (n:=2) hd2 rfl (by decide) (by simp only [List.length_cons,List.length_nil] at l1 ⊢; omega)
 have hd3:=qoc hd2
 have l3:=qvc hd3
 have hd4:=qoc hd3
 have l4:=qvc hd4
 have hd5:=qoc hd4
 have l5:=qvc hd5
 have hd6:=qoc hd5
 simp only [List.length_cons,List.length_nil,qq] at l1 l2 l3 l4 l5 hd2 hd3 hd4 hd5 hd6 g1 g2
 have ep:8 * ((p+3+7) / 8)=p+3+pd.length:=by omega
 have e16:(2:Int) ^ (16:Int).toNat=65536:=by decide
 have g3:=qbg (B:=B) (out:=out) (n:=16) hd4 (by rw [qq]; rfl) (by rw [qq]; decide) (by omega)
 have g4:=qbg (B:=B) (out:=out) (n:=16) hd5 (by rw [qq]; rfl) (by rw [qq]; decide) (by omega)
 rw [show (qm (ys.length:Int) 16:List Bool)=qm (ys.length:Int) (16:Int).toNat from rfl,qcf (x:=16) (by omega) (by rw [e16]; omega)] at g3
 rw [show (qm (c:Int) 16:List Bool)=qm (c:Int) (16:Int).toNat from rfl,qcf (x:=16) (by omega) (by rw [e16]; omega)] at g4
 rw [qq] at g3 g4
 have e0:(16:Int).toNat=16:=rfl
 rw [e0] at g3 g4
 have st:zstored B most (p+3,out,0)=if ((ys.length ^^^ c:Nat):Int) ≠ 65535 then qdd 2 (p+3+pd.length+32,out,0) else zst B most ys.length (p+3+pd.length+32,out,0):=by
  unfold zstored
  simp only
  rw [ep]
  rw [show p+1+2+pd.length=p+3+pd.length by omega] at g3
  rw [show p+1+2+pd.length+16=p+3+pd.length+16 by omega] at g4
  rw [g3]
  simp only
  rw [g4]
  simp only
  rw [if_neg (by simp),xorV_nat (by omega) (by omega),Int.toNat_natCast]
  split
  · rfl
  · rw [if_neg (by omega)]
 have zb:zblock B most (p,out,0)=((val [lb]:Int) == 1,zstored B most (p+3,out,0)):=by
  unfold zblock
  simp only [g1]
  rw [g2]
  simp only
  rw [if_neg (by simp),if_pos (by decide)]
 refine ⟨Or.inr ?_,fun hne=>?_,fun he=>?_⟩
 · rw [g1]
   simp only
   rw [g2]
   simp only
   decide
 · rw [zb,st,if_pos (by omega)]
   rfl
 · rw [zb,st,if_neg (by omega)]
   rw [zst_full ys _ _ r hy (by omega) (by rw [show p+3+pd.length+32=p+1+2+pd.length+16+16 by omega]; exact hd6) hm]
   cases lb <;> rfl
def SGo (l:List Bool) (want:List Int):Prop:=∀ B r:List Bool,B=l ++ r→ZGo B 5000 (0,[],0) (l.length,want,0)
def SEnd (l:List Bool) (Q:Z→Prop):Prop:=∀ B r:List Bool,B=l ++ r→∃ n z',ZRun B 5000 n (0,[],0) z'∧Q z'
def blkBits (l:List Bool) (lb:Bool) (ys:List Int) (c:Nat):List Bool:=[lb] ++ ([false,false] ++ (pad (l ++ [lb] ++ [false,false]) ++ (qm (ys.length:Int) 16 ++ (qm (c:Int) 16 ++ bb ys))))
theorem pad_len (l:List Bool):(pad l).length=8 * ((l.length+7) / 8) - l.length:=by
 unfold pad
 rw [List.length_replicate]
 omega
theorem SGo.blk {l:List Bool} {want ys:List Int} {lb:Bool} {c:Nat} (h:SGo l want) (hy:∀ y ∈ ys,0≤y∧y < 256) (hys:ys.length < 65536) (hc:c < 65536) (hm:want.length+ys.length≤5000) :
 (ys.length ^^^ c ≠ 65535→SEnd (l ++ blkBits l lb ys c) fun z=>z.2.2=2) ∧
 (ys.length ^^^ c=65535→lb=true→SEnd (l ++ blkBits l lb ys c) fun z=>z=((l ++ blkBits l lb ys c).length,want ++ ys,0)) ∧
 (ys.length ^^^ c=65535→lb=false→SGo (l ++ blkBits l lb ys c) (want ++ ys)):=by
 have hpl:(pad (l ++ [lb] ++ [false,false])).length=8 * ((l.length+3+7) / 8) - (l.length+3):=by
  rw [pad_len]
  simp only [List.length_append,List.length_cons,List.length_nil]
 have hlen:(l ++ blkBits l lb ys c).length=l.length+3+(pad (l ++ [lb] ++ [false,false])).length+32+8 * ys.length:=by
  unfold blkBits
  simp only [List.length_append,List.length_cons,List.length_nil,qq,qmn]
  omega
 have at':∀ B r:List Bool,B=l ++ blkBits l lb ys c ++ r→_:=fun B r e =>
  zstored_at (B:=B) (r:=r) (pd:=pad (l ++ [lb] ++ [false,false])) (most:=5000) (p:=l.length) (c:=c) (lb:=lb) (out:=want) (ys:=ys) hy (by rw [e]; simp only [List.length_append]; omega) hys hc hpl (by omega) (by
   rw [e,List.append_assoc,List.drop_left' rfl]
   unfold blkBits
   simp only [List.append_assoc])
 refine ⟨fun hne B r e=>?_,fun he hl B r e=>?_,fun he hl B r e=>?_⟩
 · obtain ⟨a1,a2,_⟩:=at' B r e
   obtain ⟨m,hr⟩:=(h B (blkBits l lb ys c ++ r) (by rw [e,List.append_assoc])).run (ZRun.bad a1 (by rw [a2 hne]; decide))
   exact ⟨m,_,hr,a2 hne⟩
 · obtain ⟨a1,_,a3⟩:=at' B r e
   have a3:=a3 he
   obtain ⟨m,hr⟩:=(h B (blkBits l lb ys c ++ r) (by rw [e,List.append_assoc])).run (ZRun.last a1 (by rw [a3]) (by rw [a3]; exact hl))
   exact ⟨m,_,hr,by rw [a3,hlen]⟩
 · obtain ⟨a1,_,a3⟩:=at' B r e
   have a3:=a3 he
   have hg:=ZGo.step (h B (blkBits l lb ys c ++ r) (by rw [e,List.append_assoc])) a1 (by rw [a3]) (by rw [a3]; exact hl)
   rw [a3] at hg
   rw [hlen]
   exact hg
end Go.Proofs.YthdmmmfgjmmelaaGreat
