/- Own texts as one, only what is reached (shake.py). -/
import Derived.Test.YtigmbblgfnkpbaaGreatGbc
import Derived.Sort.LotA
import Derived.Sort.LotB
import Derived.Sort.LotC
import Derived.Sort.LotD3
import Derived.Test.YtigmbblgfnkpbaaGreatProg
set_option linter.unusedSectionVars false
namespace Go.Proofs.YtigmbblgfnkpbaaGreat
open Go Go.Proofs
set_option linter.unusedVariables false
set_option maxRecDepth 100000
def qij (a_0:(Array Value)) (b_1:(Array Value)) (Q:VWP) (w:World):Prop :=
 nw w a_0 24 fun a1 w2 =>
 nw w2 b_1 24 fun a3 w4 =>
 lt (World.drew w4) fun w5 =>
 lt (⟨cutP a1 20 0 1,20 - 0,20 - 0⟩:Sl) fun s6 =>
 lt (⟨cutP a3 20 0 1,20 - 0,20 - 0⟩:Sl) fun s7 =>
 qnf 63 [sV s6,sV s7] w5 fun r10 w9 =>
 Q (.bool (decide (r10 < 0))) w9
theorem qij.ok (a_0:(Array Value)) (b_1:(Array Value)) (Q:VWP) (w:World) (h:qij a_0 b_1 Q w):Calls Tryz.prog 86 ⟨[.agg a_0,.agg b_1]⟩ w (Ret Q) :=
 qgc [.tmp 4] qjd Tryz.func86 rfl rfl rfl rfl .lf (by kernel_rfl) h
def qjj (i_0:Int) (p1:Addr) (p2:Addr) (Q:VWP) (w:World):Prop :=
 lt (World.drew w) fun w1 =>
 ldL w1 p1 fun x2 =>
 ixS x2.a x2.len i_0 20 fun a3 =>
 ldA w1 a3 20 fun c4 =>
 ldA w1 p2 20 fun c5 =>
 qwl 86 [.agg c4,.agg c5] w1 fun r8 w7 =>
 Q (.bool (!r8)) w7
theorem qjj.ok (i_0:Int) (p1:Addr) (p2:Addr) (Q:VWP) (w:World) (h:qjj i_0 p1 p2 Q w):Calls Tryz.prog 85 ⟨[.int .i64 i_0,.pointer (some p1),.pointer (some p2)]⟩ w (Ret Q) :=
 qgc [.tmp 4] qjd Tryz.func85 rfl rfl rfl rfl .lf (by kernel_rfl) h
def qrc.j2 (i_5:Int) (Q:VWP) (w:World):Prop :=
 Q (.int .i64 i_5) w
def qrc.b1 (f_1:(Option Addr × Option Addr)) (i_5 j_6:Int) (Q:VWP) (nx1:(Option Addr × Option Addr)→Int→Int→WP) (w:World):Prop :=
 br (decide (i_5 < j_6)) (
 lt (IntKind.i64.wrap (i_5+j_6)) fun x1 =>
 lt (IntKind.u64.wrap x1) fun x2 =>
 (0:Int)≤1 ∧
 lt (shrV .u64 x2 1) fun x3 =>
 lt (IntKind.i64.wrap x3) fun x4 =>
 qwl 85 [.int .i64 x4,.pointer f_1.1,.pointer f_1.2] w fun r7 w6 =>
 br (!r7) (
 lt (IntKind.i64.wrap (x4+1)) fun x8 =>
 nx1 f_1 x8 j_6 w6) (
 nx1 f_1 i_5 x4 w6)) (
 qrc.j2 i_5 Q w)
def qrc.l1 (f_1:(Option Addr × Option Addr)) (i_5 j_6:Int) (Q:VWP) (w:World):Prop :=
 ∃ (I:Int→Int→WP) (μ:Int→Int→World→Nat),I i_5 j_6 w∧∀ i_5:Int,∀ j_6:Int,∀ w:World,I i_5 j_6 w→qrc.b1 f_1 i_5 j_6 Q (fun f_1' i_5' j_6' w'=>(f_1'=f_1)∧I i_5' j_6' w'∧μ i_5' j_6' w' < μ i_5 j_6 w) w
def qrc.j1 (f_1:(Option Addr × Option Addr)) (i_5 j_6:Int) (Q:VWP) (w:World):Prop :=
 qrc.l1 f_1 i_5 j_6 Q w
def qrc (n_0:Int) (cap1:(Option Addr × Option Addr)) (Q:VWP) (w:World):Prop :=
 qrc.j1 cap1 0 n_0 Q w
theorem qrc.ok (n_0:Int) (cap1:(Option Addr × Option Addr)) (Q:VWP) (w:World) (h:qrc n_0 cap1 Q w):Calls Tryz.prog 84 ⟨[.int .i64 n_0,.func (.func 85) ⟨[]⟩ ⟨[.pointer cap1.1,.pointer cap1.2]⟩]⟩ w (Ret Q) :=
 qgc [.tmp 4] qjd Tryz.func84 rfl rfl rfl rfl (.pr 1 [(1,.d2 85),sI 5,sI 6] (fun a b c w=>qrc.j1 a b c Q w) (.sq [sI 5] (fun a w=>qrc.j2 a Q w) (.bk (.lo [(1,.d2 85)] [sI 5,sI 6] (fun a b c w=>qrc.l1 a b c Q w) (fun nx1 a b c w=>qrc.b1 a b c Q nx1 w) fun nx1=>.lf)) .lf)) (by kernel_rfl) h
def qyh (l_0:Sl) (id_1:(Array Value)) (Q:VWP) (w:World):Prop :=
 nw w ⟨[sV l_0]⟩ 47 fun a1 w2 =>
 nw w2 id_1 24 fun a3 w4 =>
 ldL w4 a1 fun x5 =>
 qnf 84 [.int .i64 (x5.len:Int),.func (.func 85) ⟨[]⟩ ⟨[.pointer (some a1),.pointer (some a3)]⟩] w4 fun r8 w7 =>
 lt (World.drew w7) fun w9 =>
 ldL w9 a1 fun x10 =>
 br (decide (r8 < (x10.len:Int))) (
 ldL w9 a1 fun x11 =>
 ixS x11.a x11.len r8 20 fun a12 =>
 ldA w9 a12 20 fun c13 =>
 ldA w9 a3 20 fun c14 =>
 eqA .u8 20 c13 c14 fun x15 =>
 Q (.tuple ⟨[.int .i64 r8,.bool x15]⟩) w9) (
 Q (.tuple ⟨[.int .i64 r8,.bool false]⟩) w9)
theorem qyh.ok (l_0:Sl) (id_1:(Array Value)) (Q:VWP) (w:World) (h:qyh l_0 id_1 Q w):Calls Tryz.prog 55 ⟨[sV l_0,.agg id_1]⟩ w (Ret Q) :=
 qgc [.tmp 4,.tmp 5] qjd Tryz.func55 rfl rfl rfl rfl .lf (by kernel_rfl) h
def qtb.j3 (t2 out_3:Addr) (Q:VWP) (w:World):Prop :=
 ldA w out_3 256 fun c1 =>
 (c1).size=256 ∧
 stA w t2 c1 fun w2 =>
 ldA w2 t2 256 fun c3 =>
 Q (.agg c3) w2
def qtb.b1 (t2 out_3:Addr) (i_6:Int) (Q:VWP) (nx1:Addr→Addr→Int→WP) (w:World):Prop :=
 br (decide (i_6 < 256)) (
 lt (World.drew w) fun w4 =>
 ixA out_3 256 i_6 1 fun a5 =>
 ldI .i64 w4 a5 fun x6 =>
 lt (IntKind.i64.wrap (i_6 - 1)) fun x7 =>
 ixA out_3 256 x7 1 fun a8 =>
 ldI .i64 w4 a8 fun x9 =>
 lt (IntKind.i64.wrap (x6+x9)) fun x10 =>
 ixA out_3 256 i_6 1 fun a11 =>
 st w4 a11 (.int .i64 x10) fun w12 =>
 lt (IntKind.i64.wrap (i_6+1)) fun x13 =>
 nx1 t2 out_3 x13 w12) (
 qtb.j3 t2 out_3 Q w)
def qtb.l1 (t2 out_3:Addr) (i_6:Int) (Q:VWP) (w:World):Prop :=
 ∃ (I:Int→WP) (μ:Int→World→Nat),I i_6 w∧∀ i_6:Int,∀ w:World,I i_6 w→qtb.b1 t2 out_3 i_6 Q (fun t2' out_3' i_6' w'=>(t2'=t2∧out_3'=out_3)∧I i_6' w'∧μ i_6' w' < μ i_6 w) w
def qtb.j4 (t2 out_3:Addr) (i_6:Int) (Q:VWP) (w:World):Prop :=
 qtb.l1 t2 out_3 i_6 Q w
def qtb.j2 (t2 out_3:Addr) (Q:VWP) (w:World):Prop :=
 qtb.j4 t2 out_3 1 Q w
def qtb.b2 (t2 out_3:Addr) (t7:Sl) (t8 t9:Int) (Q:VWP) (nx2:Addr→Addr→Sl→Int→Int→WP) (w:World):Prop :=
 br (decide (t9 < t8)) (
 ixS t7.a t7.len t9 20 fun a14 =>
 ldA w a14 20 fun c15 =>
 nw w (zc Tryz.prog 24) 24 fun a16 w17 =>
 (c15).size=20 ∧
 stA w17 a16 c15 fun w18 =>
 ixA a16 20 0 1 fun a19 =>
 ldI .u8 w18 a19 fun x20 =>
 ixA out_3 256 x20 1 fun a21 =>
 ldI .i64 w18 a21 fun x22 =>
 lt (IntKind.i64.wrap (x22+1)) fun x23 =>
 ixA out_3 256 x20 1 fun a24 =>
 st w18 a24 (.int .i64 x23) fun w25 =>
 lt (IntKind.i64.wrap (t9+1)) fun x26 =>
 nx2 t2 out_3 t7 t8 x26 w25) (
 qtb.j2 t2 out_3 Q w)
def qtb.l2 (t2 out_3:Addr) (t7:Sl) (t8 t9:Int) (Q:VWP) (w:World):Prop :=
 ∃ (I:Int→WP) (μ:Int→World→Nat),I t9 w∧∀ t9:Int,∀ w:World,I t9 w→qtb.b2 t2 out_3 t7 t8 t9 Q (fun t2' out_3' t7' t8' t9' w'=>(t2'=t2∧out_3'=out_3∧t7'=t7∧t8'=t8)∧I t9' w'∧μ t9' w' < μ t9 w) w
def qtb.j5 (t2 out_3:Addr) (t7:Sl) (t8 t9:Int) (Q:VWP) (w:World):Prop :=
 qtb.l2 t2 out_3 t7 t8 t9 Q w
def qtb.j1 (l_0:Sl) (t2:Addr) (out_3:Addr) (Q:VWP) (w:World):Prop :=
 qtb.j5 t2 out_3 l_0 (l_0.len:Int) 0 Q w
def qtb (l_0:Sl) (Q:VWP) (w:World):Prop :=
 nw w (zc Tryz.prog 69) 69 fun a27 w28 =>
 nw w28 (zc Tryz.prog 69) 69 fun a29 w30 =>
 qtb.j1 l_0 a27 a29 Q w30
theorem qtb.ok (l_0:Sl) (Q:VWP) (w:World) (h:qtb l_0 Q w):Calls Tryz.prog 29 ⟨[sV l_0]⟩ w (Ret Q) :=
 qgc [.cell 2 69] qjd Tryz.func29 rfl rfl rfl rfl (.pr 1 [sL 0,sA 2,sA 3] (fun a b c w=>qtb.j1 a b c Q w) (.sq [sA 2,sA 3] (fun a b w=>qtb.j2 a b Q w) (.sq [sA 2,sA 3,sL 7,sI 8,sI 9] (fun a b c d e w=>qtb.j5 a b c d e Q w) .lf (.bk (.lo [sA 2,sA 3,sL 7,sI 8] [sI 9] (fun a b c d e w=>qtb.l2 a b c d e Q w) (fun nx2 a b c d e w=>qtb.b2 a b c d e Q nx2 w) fun nx2=>.lf))) (.sq [sA 2,sA 3] (fun a b w=>qtb.j3 a b Q w) (.sq [sA 2,sA 3,sI 6] (fun a b c w=>qtb.j4 a b c Q w) .lf (.bk (.lo [sA 2,sA 3] [sI 6] (fun a b c w=>qtb.l1 a b c Q w) (fun nx1 a b c w=>qtb.b1 a b c Q nx1 w) fun nx1=>.lf))) .lf))) (by kernel_rfl) h
end Go.Proofs.YtigmbblgfnkpbaaGreat
namespace Go.Proofs.YtigmbblgfnkpbaaGreat
open Go Go.Proofs
set_option linter.unusedVariables false
set_option linter.unusedSimpArgs false
attribute [local irreducible] apK cpK mkK br
def Ris (A:List Nm):Prop:=A.Pairwise fun x y=>ltI x.1 y.1=true
def qgh:List Nm→Nm→Nat
 | [],_=>0
 | a :: A,q=>if ltI a.1 q.1 then qgh A q+1 else 0
theorem pos_eq:∀ {A:List Nm} {q:Nm} {i:Nat},i≤A.length→(∀ j (h:j < A.length),j < i→ltI A[j].1 q.1=true)→(∀ h:i < A.length,ltI A[i].1 q.1=false)→qgh A q=i:=by
 intro A
 induction A with
 | nil=>intro q i h _ _; simp at h; rw [h]; rfl
 | cons a A ih =>
   intro q i hi h1 h2
   rw [qgh]
   cases i with
   | zero =>
     have:=h2 (by simp)
     simp only [List.getElem_cons_zero] at this
     rw [this]; rfl
   | succ i =>
     have:=h1 0 (by simp) (by omega)
     simp only [List.getElem_cons_zero] at this
     rw [this]
     simp only [if_true]
     rw [ih (i:=i) (by simpa using hi) (fun j h hj=>by
      have:=h1 (j+1) (by simpa using h) (by omega)
      simpa using this) (fun h=>by
      have:=h2 (by simpa using h)
      simpa using this)]
theorem ris_get {A:List Nm} (h:Ris A) {i j:Nat} (hij:i < j) (hj:j < A.length):ltI (A[i]'(by omega)).1 A[j].1=true:=(List.pairwise_iff_getElem.1 h) i j (by omega) hj hij
theorem pos_at {A:List Nm} (h:Ris A) {i:Nat} (hi:i < A.length):qgh A A[i]=i :=
 pos_eq (by omega) (fun j hj hji=>ris_get h hji hi) (fun _=>qhf _)
section
variable {F0:List Nat} {w0 w:World} {ps rest rest2:List As} {s:Sl} {A P:List Nm} {p q:Nm} {lb ib:Nat} {K:Ending→World→Prop}
theorem qij.c (h:St F0 w0 w ps) (hk:∀ w',St F0 w0 w' ps→K (.returned (.bool (ltI p.1 q.1))) w'):Calls Tryz.prog 86 ⟨[.agg ⟨nmC p⟩,.agg ⟨nmC q⟩]⟩ w K:=by
 have lenC:∀ p:Nm,(nmC p).length=20:=fun p=>(inferInstance:Rec nmC 20).len p
 refine qec (qij.ok _ _ _ _ ?_)
 unfold qij
 refine h.new fun xb w h=>?_
 refine h.new fun yb w h=>?_
 have h:St F0 w0 w (qnb yb (nmC q) :: qnb xb (nmC p) :: ps):=h
 refine h.drewK fun w h=>?_
 refine qed (qed ?_)
 haveI:Rdb F0 w0 ⟨some ⟨xb,0,none⟩,20,20⟩ (qnb yb (nmC q) :: qnb xb (nmC p) :: ps) 1 (u8s p.1):=⟨fun h=>by
  have:=(h.toB xb).blk.rdAt (o:=0) (n:=20) (c:=20) (by rw [lenC]; decide)
  rw [List.drop_zero,List.take_of_length_le (by rw [lenC]; decide)] at this
  exact this⟩
 haveI:Rdb F0 w0 ⟨some ⟨yb,0,none⟩,20,20⟩ (qnb yb (nmC q) :: qnb xb (nmC p) :: ps) 1 (u8s q.1):=⟨fun h=>by
  have:=(h.toB yb).blk.rdAt (o:=0) (n:=20) (c:=20) (by rw [lenC]; decide)
  rw [List.drop_zero,List.take_of_length_le (by rw [lenC]; decide)] at this
  exact this⟩
 refine qte.c (s:=⟨some ⟨xb,0,none⟩,20,20⟩) (t:=⟨some ⟨yb,0,none⟩,20,20⟩) h p.2.2 q.2.2 ⟨_,rfl,?_⟩
 exact hk w h.drop.drop
theorem oid_Find1.c (h:St F0 w0 w ps) [PkB lb ps [.slice s.a s.len s.cap] rest] [PkB ib ps (nmC q) rest2] [Rdb F0 w0 s ps 20 (A.flatMap nmC)] {i:Nat} (hi:i < A.length) (hk:∀ w',St F0 w0 w' ps→K (.returned (.bool (!ltI A[i].1 q.1))) w') :
 Calls Tryz.prog 85 ⟨[.int .i64 (i:Int),.pointer (some ⟨lb,0,none⟩),.pointer (some ⟨ib,0,none⟩)]⟩ w K:=by
 refine qec (qjj.ok _ _ _ _ _ ?_)
 unfold qjj
 refine h.drewK fun w h=>?_
 refine h.fL (b:=lb) ?_
 refine h.lr (s:=s) (L:=A) i rfl hi ?_
 refine h.lA (b:=ib) ((inferInstance:Rec nmC 20).len q) ?_
 refine qij.c h fun w h=>⟨_,rfl,?_⟩
 exact hk w h
theorem Search.c (h:St F0 w0 w ps) [PkB lb ps [.slice s.a s.len s.cap] rest] [PkB ib ps (nmC q) rest2] [Rdb F0 w0 s ps 20 (A.flatMap nmC)] (hA:Ris A) (hL:A.length≤1000000) (hk:∀ w',St F0 w0 w' ps→K (.returned (.int .i64 (qgh A q:Int))) w') :
 Calls Tryz.prog 84 ⟨[.int .i64 (A.length:Int),.func (.func 85) ⟨[]⟩ ⟨[.pointer (some ⟨lb,0,none⟩),.pointer (some ⟨ib,0,none⟩)]⟩]⟩ w K:=by
 refine qec (qrc.ok _ (some ⟨lb,0,none⟩,some ⟨ib,0,none⟩) _ _ ?_)
 unfold qrc qrc.j1
 refine qbf (fun (a:Nat × Nat) (i' j':Int) w'=>i'=(a.1:Int)∧j'=(a.2:Int)∧a.1≤a.2∧a.2≤A.length∧(∀ k (h:k < A.length),k < a.1→ltI A[k].1 q.1=true)∧(∀ k (h:k < A.length),a.2≤k→ltI A[k].1 q.1=false)∧St F0 w0 w' ps) (fun a=>a.2 - a.1) (0,A.length)
  ⟨rfl,rfl,Nat.zero_le _,Nat.le_refl _,fun k _ hk=>by simp only at hk; omega,fun k h1 h2=>by simp only at h2; omega,h⟩ ?_
 clear h
 rintro ⟨i,j⟩ _ _ wL I μ ⟨rfl,rfl,hij,hj,h1,h2,h⟩ hin
 simp only at hij hj h1 h2 h hin ⊢
 unfold qrc.b1
 refine qmc (fun g=>?_) (fun g=>?_)
 · have hm:(i+j) / 2 < A.length:=by omega
   refine qy (e':=((i+j:Nat):Int)) (by rw [qm (by omega) (by omega)]; omega) ?_
   refine qy (e':=((i+j:Nat):Int)) (by rw [qee]; omega) ⟨by decide,?_⟩
   refine qy (qdh .u64 ((i+j:Nat):Int) (t:=1) (by decide)) ?_
   refine qy (e':=(((i+j) / 2:Nat):Int)) (by rw [qm (by omega) (by omega)]; omega) ?_
   refine oid_Find1.c (A:=A) (s:=s) (q:=q) (lb:=lb) (ib:=ib) h hm fun w h=>⟨_,rfl,?_⟩
   refine qnc (fun g2=>?_) (fun g2=>?_)
   · have g2:ltI A[(i+j) / 2].1 q.1=true:=by simpa using g2
     refine qy (e':=(((i+j) / 2+1:Nat):Int)) (by rw [qm (by omega) (by omega)]; rfl) ?_
     refine ⟨rfl,hin ((i+j) / 2+1,j) _ _ _ ⟨rfl,rfl,by simp only; omega,hj,fun k hkl hki=>?_,h2,h⟩ (by simp only; omega)⟩
     simp only at hki
     by_cases e:k=(i+j) / 2
     · subst e; exact g2
     · exact qri (ris_get hA (by omega) hm) g2
   · have g2:ltI A[(i+j) / 2].1 q.1=false:=by simpa using g2
     refine ⟨rfl,hin (i,(i+j) / 2) _ _ _ ⟨rfl,rfl,by simp only; omega,by simp only; omega,h1,fun k hkl hki=>?_,h⟩ (by simp only; omega)⟩
     simp only at hki
     by_cases e:k=(i+j) / 2
     · subst e; exact g2
     · cases hc:ltI A[k].1 q.1 with
       | false=>rfl
       | true =>
         have:=qri (ris_get hA (i:=(i+j) / 2) (j:=k) (by omega) hkl) hc
         rw [g2] at this
         cases this
 · have:i=j:=by omega
   subst this
   unfold qrc.j2
   have:=hk wL h
   rw [pos_eq hj h1 (fun hh=>h2 i hh (Nat.le_refl _))] at this
   exact this
theorem qyh.c (h:St F0 w0 w ps) [Rdb F0 w0 s ps 20 (A.flatMap nmC)] (hA:Ris A) (hL:A.length≤1000000) (hk:∀ w',St F0 w0 w' ps→K (.returned (.tuple ⟨[.int .i64 (qgh A q:Int),.bool (decide (q ∈ A))]⟩)) w') :
 Calls Tryz.prog 55 ⟨[sV s,.agg ⟨nmC q⟩]⟩ w K:=by
 have lenC:∀ p:Nm,(nmC p).length=20:=fun p=>(inferInstance:Rec nmC 20).len p
 have hl:=h.rlen (s:=s) (f:=nmC) (L:=A)
 refine qec (qyh.ok _ _ _ _ ?_)
 unfold qyh
 refine h.new fun lb w h=>?_
 refine h.new fun ib w h=>?_
 have h:St F0 w0 w (qnb ib (nmC q) :: qnb lb [.slice s.a s.len s.cap] :: ps):=h
 refine h.fL (b:=lb) ?_
 rw [← hl]
 refine Search.c (A:=A) (s:=s) (q:=q) (lb:=lb) (ib:=ib) h hA hL fun w h=>⟨_,rfl,?_⟩
 refine h.drewK fun w h=>?_
 refine h.fL (b:=lb) ?_
 have hno:∀ i,i=qgh A q→(∀ hh:i < A.length,A[i] ≠ q)→decide (q ∈ A)=false:=by
  intro i hi hh
  refine decide_eq_false fun hm=>?_
  obtain ⟨j,hj,e⟩:=List.getElem_of_mem hm
  have:=pos_at hA hj
  rw [e,← hi] at this
  subst this
  exact hh hj e
 refine qmc (fun g=>?_) (fun g=>?_)
 · have g:(qgh A q:Int) < (s.len:Int):=g
   have hlt:qgh A q < A.length:=by omega
   refine h.fL (b:=lb) ?_
   refine h.lr (s:=s) (L:=A) (qgh A q) rfl hlt ?_
   refine h.lA (b:=ib) (lenC q) ?_
   refine eqA_i (xs:=A[qgh A q].1) (ys:=q.1) (by have:=A[qgh A q].2.1; exact this) q.2.1 ?_
   have hr:=hk w h.drop.drop
   by_cases e:A[qgh A q]=q
   · have:decide (q ∈ A)=true:=decide_eq_true (e ▸ List.getElem_mem hlt)
     rw [this] at hr
     rw [e,beq_self_eq_true]
     exact hr
   · rw [hno _ rfl (fun _=>e)] at hr
     have:(A[qgh A q].1 == q.1)=false:=beq_eq_false_iff_ne.2 fun h=>e (Nm.ext' h)
     rw [this]
     exact hr
 · have g:¬ (qgh A q:Int) < (s.len:Int):=g
   have hr:=hk w h.drop.drop
   rw [hno _ rfl (fun hh=>by exfalso; omega)] at hr
   exact hr
theorem numbers.c {t:Sl} (h:St F0 w0 w ps) [Rdb F0 w0 s ps 20 (A.flatMap nmC)] [Rdb F0 w0 t ps 20 (P.flatMap nmC)] (hA:Ris A) (hL:A.length≤1000000) (hP:P.length≤1000000)
 (hk:∀ u w',u.len=P.length→St F0 w0 w' (qjb 1 u (ivs .i64 (P.map fun p=>(qgh A p:Int))) :: ps)→K (.returned (sV u)) w') :
 Calls Tryz.prog 31 ⟨[sV s,sV t]⟩ w K:=by
 have lenC:∀ p:Nm,(nmC p).length=20:=fun p=>(inferInstance:Rec nmC 20).len p
 have hl:=h.rlen (s:=t) (f:=nmC) (L:=P)
 refine qec (qdc.ok _ _ _ _ ?_)
 unfold qdc qdc.j1 qdc.j3
 refine qbf (fun (i:Nat) (u:Sl) (i':Int) w'=>i'=(i:Int)∧i≤P.length∧St F0 w0 w' (qjb 1 u (ivs .i64 ((P.take i).map fun p=>(qgh A p:Int))) :: ps)) (fun i=>P.length - i) 0 ⟨rfl,Nat.zero_le _,h.nilO⟩ ?_
 clear h
 rintro i u _ wL I μ ⟨rfl,hi,h⟩ hin
 unfold qdc.b1
 refine qmc (fun g=>?_) (fun g=>?_)
 · have hix:i < P.length:=by omega
   refine h.lr (s:=t) (L:=P) i rfl hix ?_
   have hsn:(P.take (i+1)).map (fun p=>(qgh A p:Int))=(P.take i).map (fun p=>(qgh A p:Int)) ++ [(qgh A P[i]:Int)]:=by rw [List.take_succ_eq_append_getElem hix,List.map_append]; rfl
   generalize P[i]=p at hsn ⊢
   refine h.newNm (p:=p) fun xb w h=>?_
   refine h.lA (b:=xb) (lenC p) ?_
   refine qyh.c (A:=A) (s:=s) (q:=p) h hA hL fun w h=>⟨_,_,rfl,?_⟩
   refine h.pushI (s:=u) (zs:=(P.take i).map fun p=>(qgh A p:Int)) (by rw [List.length_map,List.length_take]; omega) fun s' w h=>?_
   rw [← hsn] at h
   refine qy (e':=((i+1:Nat):Int)) (by rw [qm (by omega) (by omega)]; rfl) ?_
   exact ⟨⟨rfl,rfl,rfl⟩,hin (i+1) _ _ _ ⟨rfl,by omega,h.sub⟩ (by omega)⟩
 · have:i=P.length:=by omega
   subst this
   rw [List.take_length] at h
   have h5:=h.len
   rw [qw,List.length_map] at h5
   unfold qdc.j2
   exact hk u wL (by omega) h
end
end Go.Proofs.YtigmbblgfnkpbaaGreat
namespace Go.Proofs.YtigmbblgfnkpbaaGreat
set_option linter.unusedVariables false
set_option linter.unusedSimpArgs false
theorem lext {l m:List Int} (hl:l.length=m.length) (h:∀ j,j < l.length→l.getD j 0=m.getD j 0):l=m:=by
 apply List.ext_getElem hl
 intro j h1 h2
 have:=h j h1
 simpa [List.getD,List.getElem?_eq_getElem h1,List.getElem?_eq_getElem h2] using this
theorem getD_setL {l:List Int} {i j:Nat} {v:Int} (h:i < l.length):(l.set i v).getD j 0=if i=j then v else l.getD j 0:=by
 rw [List.getD_eq_getElem?_getD,List.getElem?_set]
 split
 · rename_i e; subst e; simp [h]
 · rw [List.getD_eq_getElem?_getD]
theorem qrg {xs:List Int} {i:Nat} (h:i < xs.length):xs.take (i+1)=xs.take i ++ [xs.getD i 0]:=by
 rw [List.take_succ_eq_append_getElem h]
 simp [List.getD,List.getElem?_eq_getElem h]
theorem qzf {xs:List Int} {i:Nat} (h:i < xs.length):xs.getD i 0 ∈ xs:=by simp [List.getD,List.getElem?_eq_getElem h]
theorem set_nx {l:List Int} {k i:Nat} {v:Int} (hi:i=l.length) (hk:0 < k):(l ++ List.replicate k 0).set i v=(l ++ [v]) ++ List.replicate (k - 1) 0:=by
 subst hi
 rw [List.set_append_right _ _ (Nat.le_refl _),Nat.sub_self]
 cases k with
 | zero=>omega
 | succ k =>
   rw [List.replicate_succ,List.set_cons_zero,List.append_assoc]
   rfl
def qlj (n:Nat) (f:Nat→Int):List Int:=(List.range n).map f
theorem qid (n:Nat) (f:Nat→Int):(qlj n f).length=n:=by simp [qlj]
theorem qmf {n i:Nat} {f:Nat→Int} (h:i < n):(qlj n f).getD i 0=f i:=by
 unfold qlj
 rw [List.getD_eq_getElem?_getD,List.getElem?_map,List.getElem?_range h]
 rfl
theorem qig {n:Nat} {f g:Nat→Int} (h:∀ i,i < n→f i=g i):qlj n f=qlj n g:=by
 unfold qlj
 exact List.map_congr_left fun i hi=>h i (List.mem_range.1 hi)
theorem set_mapR {n i:Nat} {f:Nat→Int} {v:Int}:(qlj n f).set i v=qlj n fun m=>if m=i then v else f m:=by
 apply lext
 · simp [qlj]
 · intro j hj
   rw [List.length_set,qid] at hj
   rw [qmf hj]
   by_cases hi:i < n
   · rw [getD_setL (by rw [qid]; exact hi),qmf hj]
     by_cases e:i=j
     · rw [if_pos e,if_pos e.symm]
     · rw [if_neg e,if_neg fun h=>e h.symm]
   · rw [List.set_eq_of_length_le (by rw [qid]; omega),qmf hj,if_neg (by omega)]
theorem rep_mapR (n:Nat):List.replicate n 0=qlj n fun _=>0:=by
 apply lext
 · simp [qlj]
 · intro j hj
   have hj:j < n:=by simpa using hj
   rw [qmf hj]
   simp [List.getD,List.getElem?_replicate,hj]
end Go.Proofs.YtigmbblgfnkpbaaGreat
namespace Go.Proofs.YtigmbblgfnkpbaaGreat
open Go Go.Proofs
set_option linter.unusedVariables false
set_option linter.unusedSimpArgs false
attribute [local irreducible] apK cpK mkK br
def hd0 (a:Nm):Int:=a.1.getD 0 0
theorem hd0_b (a:Nm):0≤hd0 a∧hd0 a < 256:=by
 unfold hd0
 have h:0 < a.1.length:=by rw [a.2.1]; decide
 exact a.2.2 _ (qzf h)
def cntE (A:List Nm) (m:Nat):Nat:=A.countP fun a=>decide (hd0 a=(m:Int))
def qxi (A:List Nm) (m:Nat):Nat:=A.countP fun a=>decide (hd0 a≤(m:Int))
def fanL (A:List Nm):List Int:=qlj 256 fun m=>(qxi A m:Int)
theorem cntL_0 (A:List Nm):qxi A 0=cntE A 0:=by
 unfold qxi cntE
 apply List.countP_congr
 intro a _
 have:=hd0_b a
 simp only [decide_eq_true_eq]
 omega
theorem cntL_s (A:List Nm) (m:Nat):qxi A (m+1)=cntE A (m+1)+qxi A m:=by
 unfold qxi cntE
 induction A with
 | nil=>rfl
 | cons a A ih =>
   rw [List.countP_cons,List.countP_cons,List.countP_cons,ih]
   by_cases h1:hd0 a=((m+1:Nat):Int)
   · have h2:hd0 a≤((m+1:Nat):Int):=by omega
     have h3:¬ hd0 a≤(m:Int):=by omega
     simp only [decide_eq_true h1,decide_eq_true h2,decide_eq_false h3,if_true,Bool.false_eq_true,if_false]
     omega
   · by_cases h3:hd0 a≤(m:Int)
     · have h2:hd0 a≤((m+1:Nat):Int):=by omega
       simp only [decide_eq_false h1,decide_eq_true h2,decide_eq_true h3,if_true,Bool.false_eq_true,if_false]
       omega
     · have h2:¬ hd0 a≤((m+1:Nat):Int):=by omega
       simp only [decide_eq_false h1,decide_eq_false h2,decide_eq_false h3,Bool.false_eq_true,if_false]
       omega
theorem zc_256:zc Tryz.prog 69=⟨ivs .i64 (List.replicate 256 0)⟩:=by kernel_rfl
section
variable {F0:List Nat} {w0 w:World} {ps rest:List As} {s:Sl} {A:List Nm} {K:Ending→World→Prop}
theorem qtb.c (h:St F0 w0 w ps) [Rdb F0 w0 s ps 20 (A.flatMap nmC)] (hL:A.length≤1000000) (hk:∀ w',St F0 w0 w' ps→K (.returned (.agg ⟨ivs .i64 (fanL A)⟩)) w') :
 Calls Tryz.prog 29 ⟨[sV s]⟩ w K:=by
 have hl:=h.rlen (s:=s) (f:=nmC) (L:=A)
 refine qec (qtb.ok _ _ _ ?_)
 unfold qtb
 rw [zc_256]
 refine h.new fun tb w h=>?_
 refine h.new fun ob w h=>?_
 have h:St F0 w0 w (qnb ob (ivs .i64 (List.replicate 256 0)) :: qnb tb (ivs .i64 (List.replicate 256 0)) :: ps):=h
 rw [rep_mapR] at h
 unfold qtb.j1 qtb.j5
 refine qud (fun (i:Nat) (i':Int) w'=>i'=(i:Int)∧i≤A.length∧St F0 w0 w' (qnb ob (ivs .i64 (qlj 256 fun m=>(cntE (A.take i) m:Int))) :: qnb tb (ivs .i64 (qlj 256 fun _=>0)) :: ps)) (fun i=>A.length - i) 0 ⟨rfl,Nat.zero_le _,h⟩ ?_
 clear h
 rintro i _ wL I μ ⟨rfl,hi,h⟩ hin
 unfold qtb.b2
 refine qmc (fun g=>?_) (fun g=>?_)
 · have hix:i < A.length:=by omega
   refine h.lr (s:=s) (L:=A) i rfl hix ?_
   have hsn:∀ m,cntE (A.take (i+1)) m=cntE (A.take i) m+if hd0 A[i]=(m:Int) then 1 else 0:=fun m=>by
    unfold cntE
    rw [List.take_succ_eq_append_getElem hix,List.countP_append,List.countP_singleton]
    simp
   have hle:∀ m,cntE (A.take i) m≤1000000:=fun m=>Nat.le_trans List.countP_le_length (by rw [List.length_take]; omega)
   generalize A[i]=a at hsn ⊢
   obtain ⟨b0,b1⟩:=hd0_b a
   refine h.newNm (p:=a) fun xb w h=>?_
   have h:St F0 w0 w (qnb xb (ivs .u8 a.1) :: qnb ob (ivs .i64 (qlj 256 fun m=>(cntE (A.take i) m:Int))) :: qnb tb (ivs .i64 (qlj 256 fun _=>0)) :: ps):=h
   refine h.la (b:=xb) (k:=.u8) 0 rfl a.2.1 (by decide) ?_
   have hb:a.1.getD 0 0=((hd0 a).toNat:Int):=by unfold hd0 at b0 ⊢; omega
   rw [hb]
   generalize hm:(hd0 a).toNat=m
   have hm2:m < 256:=by omega
   refine h.la (b:=ob) (k:=.i64) m rfl (qid _ _) hm2 ?_
   rw [qmf hm2]
   have:=hle m
   refine qy (e':=((cntE (A.take i) m+1:Nat):Int)) (by rw [qm (by omega) (by omega)]; rfl) ?_
   refine h.sa (b:=ob) (k:=.i64) m rfl (qid _ _) hm2 fun w h=>?_
   rw [set_mapR] at h
   have e:(qlj 256 fun q=>if q=m then ((cntE (A.take i) m+1:Nat):Int) else (cntE (A.take i) q:Int))=qlj 256 fun q=>(cntE (A.take (i+1)) q:Int):=qig fun q hq=>by
    rw [hsn q]
    by_cases e:q=m
    · subst e
      rw [if_pos rfl,if_pos (by omega)]
    · rw [if_neg e,if_neg (by omega)]
      omega
   rw [e] at h
   refine qy (e':=((i+1:Nat):Int)) (by rw [qm (by omega) (by omega)]; rfl) ?_
   exact ⟨⟨rfl,rfl,rfl,rfl⟩,hin (i+1) _ _ ⟨rfl,by omega,h.sub⟩ (by omega)⟩
 · have:i=A.length:=by omega
   subst this
   rw [List.take_length] at h
   clear hin
   unfold qtb.j2 qtb.j4
   have hle:∀ m,qxi A m≤1000000:=fun m=>Nat.le_trans List.countP_le_length hL
   have e0:(qlj 256 fun m=>(cntE A m:Int))=qlj 256 fun m=>if m < 1 then (qxi A m:Int) else (cntE A m:Int):=qig fun m hm=>by
    by_cases e:m < 1
    · have:m=0:=by omega
      subst this
      rw [if_pos e,cntL_0]
    · rw [if_neg e]
   rw [e0] at h
   refine qud (fun (i:Nat) (i':Int) w'=>i'=(i:Int)∧1≤i∧i≤256∧St F0 w0 w' (qnb ob (ivs .i64 (qlj 256 fun m=>if m < i then (qxi A m:Int) else (cntE A m:Int))) :: qnb tb (ivs .i64 (qlj 256 fun _=>0)) :: ps)) (fun i=>256 - i) 1 ⟨rfl,Nat.le_refl _,by omega,h⟩ ?_
   clear h
   rintro i _ wL I μ ⟨rfl,hi0,hi,h⟩ hin
   unfold qtb.b1
   refine qmc (fun g=>?_) (fun g=>?_)
   · have hi2:i < 256:=by omega
     refine h.drewK fun w h=>?_
     refine h.la (b:=ob) (k:=.i64) i rfl (qid _ _) hi2 ?_
     rw [qmf hi2,if_neg (Nat.lt_irrefl _)]
     refine qy (e':=((i - 1:Nat):Int)) (by rw [qm (by omega) (by omega)]; omega) ?_
     refine h.la (b:=ob) (k:=.i64) (i - 1) rfl (qid _ _) (by omega) ?_
     rw [qmf (by omega),if_pos (by omega)]
     have e1:=cntL_s A (i - 1)
     rw [show i - 1+1=i by omega] at e1
     have:=hle i
     refine qy (e':=(qxi A i:Int)) (by rw [qm (by omega) (by omega)]; omega) ?_
     refine h.sa (b:=ob) (k:=.i64) i rfl (qid _ _) hi2 fun w h=>?_
     rw [set_mapR] at h
     have e:(qlj 256 fun m=>if m=i then (qxi A i:Int) else if m < i then (qxi A m:Int) else (cntE A m:Int))=qlj 256 fun m=>if m < i+1 then (qxi A m:Int) else (cntE A m:Int):=qig fun m hm=>by
      by_cases e:m=i
      · subst e; rw [if_pos rfl,if_pos (by omega)]
      · rw [if_neg e]
        by_cases e2:m < i
        · rw [if_pos e2,if_pos (by omega)]
        · rw [if_neg e2,if_neg (by omega)]
     rw [e] at h
     refine qy (e':=((i+1:Nat):Int)) (by rw [qm (by omega) (by omega)]; rfl) ?_
     exact ⟨⟨rfl,rfl⟩,hin (i+1) _ _ ⟨rfl,by omega,by omega,h⟩ (by omega)⟩
   · have:i=256:=by omega
     subst this
     have e:(qlj 256 fun m=>if m < 256 then (qxi A m:Int) else (cntE A m:Int))=fanL A:=qig fun m hm=>if_pos hm
     rw [e] at h
     have hfl:(ivs .i64 (fanL A)).length=256:=by rw [qw]; exact qid _ _
     unfold qtb.j3
     refine h.lA (b:=ob) hfl ⟨hfl,?_⟩
     refine h.sA (b:=tb) (l':=ivs .i64 (fanL A)) (by rw [qw]; exact qid _ _) hfl qwf fun w h=>?_
     refine h.lA (b:=tb) hfl ?_
     exact hk w h.sub
end
end Go.Proofs.YtigmbblgfnkpbaaGreat
namespace Go.Proofs.YtigmbblgfnkpbaaGreat
open Go Go.Proofs
set_option linter.unusedVariables false
set_option linter.unusedSimpArgs false
attribute [local irreducible] apK cpK mkK br
def Nd.setP (n:Nd) (t:Sl):Nd:={ n with par:=t }
theorem qhk (n:Nd) (t:Sl):(ndC n).set 40 (.slice t.a t.len t.cap)=ndC (n.setP t):=by
 unfold ndC Nd.setP
 rw [List.set_append_right _ _ (by rw [qw,n.hid]; decide),qw,n.hid,List.set_append_right _ _ (by rw [qw,n.htr]; decide),qw,n.htr]
 rfl
section
variable {F0:List Nat} {w0 w:World} {ps rest:List As} {s:Sl} {L:List Nd} {n:Nd} {P:List Nm} {pr:Nd→List Nm} {K:Ending→World→Prop}
theorem qlg.c (h:St F0 w0 w ps) [Rdb F0 w0 n.par ps 20 (P.flatMap nmC)] (hP:P.length≤1000000) (hk:∀ t w',t.len=P.length→St F0 w0 w' (rdA 20 t (P.flatMap nmC) :: ps)→K (.returned (.agg ⟨ndC (n.setP t)⟩)) w') :
 Calls Tryz.prog 49 ⟨[.agg ⟨ndC n⟩]⟩ w K:=by
 refine qec (qlg.ok _ _ _ ?_)
 unfold qlg
 rw [qeg]
 refine h.new fun xb w h=>?_
 refine h.new fun yb w h=>?_
 have h:St F0 w0 w (qnb yb (ndC ndZ) :: qnb xb (ndC n) :: ps):=h
 refine (h.toB xb).blk.ldPar ?_
 refine ids_Clone.c (s:=n.par) (P:=P) h hP fun t w ht h=>⟨t,rfl,?_⟩
 refine ids_Clip.c (s:=t) (P:=P) h (own_cap (by decide) h) fun t2 w ht2 h=>⟨t2,rfl,?_⟩
 rw [qld]
 have h2:St F0 w0 w (qnb xb (ndC n) :: rdA 20 t2 (P.flatMap nmC) :: qnb yb (ndC ndZ) :: ps):=h.sub
 refine h2.st (by rw [qob]; decide) trivial fun w h=>?_
 have h:St F0 w0 w (qnb xb (ndC (n.setP t2)) :: rdA 20 t2 (P.flatMap nmC) :: qnb yb (ndC ndZ) :: ps):=by
  rw [← qhk]
  exact h
 refine h.lA (b:=xb) (qob _) ⟨qob _,?_⟩
 have h3:St F0 w0 w (qnb yb (ndC ndZ) :: qnb xb (ndC (n.setP t2)) :: rdA 20 t2 (P.flatMap nmC) :: ps):=h.sub
 refine h3.setR (qob _) fun w h=>?_
 refine h.lA (b:=yb) (qob _) ?_
 exact hk t2 w (by omega) h.sub
end
end Go.Proofs.YtigmbblgfnkpbaaGreat
namespace Go.Proofs.YtigmbblgfnkpbaaGreat
open Go Go.Proofs
set_option linter.unusedVariables false
set_option maxRecDepth 100000
def qme (r_0:OAd) (Q:VWP) (w:World):Prop :=
 lt (World.drew w) fun w1 =>
 nz r_0 fun a2 =>
 ldI .u64 w1 a2 fun x3 =>
 nz r_0 fun a4 =>
 ldI .u64 w1 a4 fun x5 =>
 (0:Int)≤13 ∧
 lt (qpf .u64 x5 13) fun x6 =>
 lt (qcj .u64 x3 x6) fun x7 =>
 nz r_0 fun a8 =>
 st w1 a8 (.int .u64 x7) fun w9 =>
 lt (World.drew w9) fun w10 =>
 nz r_0 fun a11 =>
 ldI .u64 w10 a11 fun x12 =>
 nz r_0 fun a13 =>
 ldI .u64 w10 a13 fun x14 =>
 (0:Int)≤7 ∧
 lt (shrV .u64 x14 7) fun x15 =>
 lt (qcj .u64 x12 x15) fun x16 =>
 nz r_0 fun a17 =>
 st w10 a17 (.int .u64 x16) fun w18 =>
 lt (World.drew w18) fun w19 =>
 nz r_0 fun a20 =>
 ldI .u64 w19 a20 fun x21 =>
 nz r_0 fun a22 =>
 ldI .u64 w19 a22 fun x23 =>
 (0:Int)≤17 ∧
 lt (qpf .u64 x23 17) fun x24 =>
 lt (qcj .u64 x21 x24) fun x25 =>
 nz r_0 fun a26 =>
 st w19 a26 (.int .u64 x25) fun w27 =>
 nz r_0 fun a28 =>
 ldI .u64 w27 a28 fun x29 =>
 Q (.int .u64 x29) w27
theorem qme.ok (r_0:OAd) (Q:VWP) (w:World) (h:qme r_0 Q w):Calls Tryz.prog 111 ⟨[.pointer r_0]⟩ w (Ret Q) :=
 qgc [.tmp 2] qjd Tryz.func111 rfl rfl rfl rfl .lf (by kernel_rfl) h
def qge (length_0:Int) (Q:VWP) (w:World):Prop :=
 lt (IntKind.u64.wrap length_0) fun x1 =>
 qnf 62 [.int .u64 x1] w fun r4 w3 =>
 (0:Int)≤r4 ∧
 lt (qpf .u64 1 r4) fun x5 =>
 Q (.int .u64 x5) w3
theorem qge.ok (length_0:Int) (Q:VWP) (w:World) (h:qge length_0 Q w):Calls Tryz.prog 110 ⟨[.int .i64 length_0]⟩ w (Ret Q) :=
 qgc [.tmp 2] qjd Tryz.func110 rfl rfl rfl rfl .lf (by kernel_rfl) h
def qi.j3 (data_0:Sl) (a_1:Int) (b_2 i_8:Int) (Q:VWP) (nx1:Sl→Int→Int→Int→WP) (w:World):Prop :=
 lt (IntKind.i64.wrap (i_8+1)) fun x1 =>
 nx1 data_0 a_1 b_2 x1 w
def qi.b2 (data_0:Sl) (a_1:Int) (b_2 i_8 j_9:Int) (Q:VWP) (nx1:Sl→Int→Int→Int→WP) (nx2:Sl→Int→Int→Int→Int→WP) (w:World):Prop :=
 lt (World.drew w) fun w2 =>
 br (decide (j_9 > a_1)) (
 ixS data_0.a data_0.len j_9 42 fun a3 =>
 ldA w2 a3 42 fun c4 =>
 lt (IntKind.i64.wrap (j_9 - 1)) fun x5 =>
 ixS data_0.a data_0.len x5 42 fun a6 =>
 ldA w2 a6 42 fun c7 =>
 qnf 27 [.agg c4,.agg c7] w2 fun r10 w9 =>
 br (decide (r10 < 0)) (
 lt (World.drew w9) fun w11 =>
 lt (IntKind.i64.wrap (j_9 - 1)) fun x12 =>
 lt (IntKind.i64.wrap (j_9 - 1)) fun x13 =>
 ixS data_0.a data_0.len x13 42 fun a14 =>
 ldA w11 a14 42 fun c15 =>
 ixS data_0.a data_0.len j_9 42 fun a16 =>
 ldA w11 a16 42 fun c17 =>
 ixS data_0.a data_0.len j_9 42 fun a18 =>
 (c15).size=42 ∧
 stA w11 a18 c15 fun w19 =>
 ixS data_0.a data_0.len x12 42 fun a20 =>
 (c17).size=42 ∧
 stA w19 a20 c17 fun w21 =>
 lt (IntKind.i64.wrap (j_9 - 1)) fun x22 =>
 nx2 data_0 a_1 b_2 i_8 x22 w21) (
 qi.j3 data_0 a_1 b_2 i_8 Q nx1 w9)) (
 qi.j3 data_0 a_1 b_2 i_8 Q nx1 w2)
def qi.l2 (data_0:Sl) (a_1:Int) (b_2 i_8 j_9:Int) (Q:VWP) (nx1:Sl→Int→Int→Int→WP) (w:World):Prop :=
 ∃ (I:Int→WP) (μ:Int→World→Nat),I j_9 w∧∀ j_9:Int,∀ w:World,I j_9 w→qi.b2 data_0 a_1 b_2 i_8 j_9 Q nx1 (fun data_0' a_1' b_2' i_8' j_9' w'=>(data_0'=data_0∧a_1'=a_1∧b_2'=b_2∧i_8'=i_8)∧I j_9' w'∧μ j_9' w' < μ j_9 w) w
def qi.j4 (data_0:Sl) (a_1:Int) (b_2 i_8 j_9:Int) (Q:VWP) (nx1:Sl→Int→Int→Int→WP) (w:World):Prop :=
 qi.l2 data_0 a_1 b_2 i_8 j_9 Q nx1 w
def qi.j2 (data_0:Sl) (a_1:Int) (b_2 i_8:Int) (Q:VWP) (nx1:Sl→Int→Int→Int→WP) (w:World):Prop :=
 qi.j4 data_0 a_1 b_2 i_8 i_8 Q nx1 w
def qi.b1 (data_0:Sl) (a_1:Int) (b_2 i_8:Int) (Q:VWP) (nx1:Sl→Int→Int→Int→WP) (w:World):Prop :=
 br (decide (i_8 < b_2)) (
 qi.j2 data_0 a_1 b_2 i_8 Q nx1 w) (
 Q (.tuple ⟨[]⟩) w)
def qi.l1 (data_0:Sl) (a_1:Int) (b_2 i_8:Int) (Q:VWP) (w:World):Prop :=
 ∃ (I:Int→WP) (μ:Int→World→Nat),I i_8 w∧∀ i_8:Int,∀ w:World,I i_8 w→qi.b1 data_0 a_1 b_2 i_8 Q (fun data_0' a_1' b_2' i_8' w'=>(data_0'=data_0∧a_1'=a_1∧b_2'=b_2)∧I i_8' w'∧μ i_8' w' < μ i_8 w) w
def qi.j1 (data_0:Sl) (a_1:Int) (b_2 i_8:Int) (Q:VWP) (w:World):Prop :=
 qi.l1 data_0 a_1 b_2 i_8 Q w
def qi (data_0:Sl) (a_1:Int) (b_2:Int) (Q:VWP) (w:World):Prop :=
 lt (IntKind.i64.wrap (a_1+1)) fun x23 =>
 qi.j1 data_0 a_1 b_2 x23 Q w
theorem qi.ok (data_0:Sl) (a_1:Int) (b_2:Int) (Q:VWP) (w:World) (h:qi data_0 a_1 b_2 Q w):Calls Tryz.prog 89 ⟨[sV data_0,.int .i64 a_1,.int .i64 b_2,.func (.func 27) ⟨[]⟩ ⟨[]⟩]⟩ w (Ret Q) :=
 qgc [] qjd Tryz.func89 rfl rfl rfl rfl (.sq [sL 0,sI 1,sI 2,(3,.c0 27),sI 8] (fun a b c _ d w=>qi.j1 a b c d Q w) .lf (.bk (.lo [sL 0,sI 1,sI 2,(3,.c0 27)] [sI 8] (fun a b c _ d w=>qi.l1 a b c d Q w) (fun nx1 a b c _ d w=>qi.b1 a b c d Q (fun x0 x1 x2 x8 w=>nx1 x0 x1 x2 () x8 w) w) fun nx1=>(.sq [sL 0,sI 1,sI 2,(3,.c0 27),sI 8] (fun a b c _ d w=>qi.j2 a b c d Q (fun x0 x1 x2 x8 w=>nx1 x0 x1 x2 () x8 w) w) .lf (.sq [sL 0,sI 1,sI 2,(3,.c0 27),sI 8] (fun a b c _ d w=>qi.j3 a b c d Q (fun x0 x1 x2 x8 w=>nx1 x0 x1 x2 () x8 w) w) (.bk (.sq [sL 0,sI 1,sI 2,(3,.c0 27),sI 8,sI 9] (fun a b c _ d e w=>qi.j4 a b c d e Q (fun x0 x1 x2 x8 w=>nx1 x0 x1 x2 () x8 w) w) .lf (.bk (.lo [sL 0,sI 1,sI 2,(3,.c0 27),sI 8] [sI 9] (fun a b c _ d e w=>qi.l2 a b c d e Q (fun x0 x1 x2 x8 w=>nx1 x0 x1 x2 () x8 w) w) (fun nx2 a b c _ d e w=>qi.b2 a b c d e Q (fun x0 x1 x2 x8 w=>nx1 x0 x1 x2 () x8 w) (fun x0 x1 x2 x8 x9 w=>nx2 x0 x1 x2 () x8 x9 w) w) fun nx2=>.lf)))) .lf))))) (by kernel_rfl) h
def qu.j3 (d_0:Sl) (t2:Int) (t3 t10 t11:Int) (Q:VWP) (nx1:Sl→Int→Int→Int→WP) (w:World):Prop :=
 lt (World.drew w) fun w1 =>
 lt (IntKind.i64.wrap (t3+t10)) fun x2 =>
 ixS d_0.a d_0.len x2 42 fun a3 =>
 ldA w1 a3 42 fun c4 =>
 lt (IntKind.i64.wrap (t3+t11)) fun x5 =>
 ixS d_0.a d_0.len x5 42 fun a6 =>
 ldA w1 a6 42 fun c7 =>
 qnf 27 [.agg c4,.agg c7] w1 fun r10 w9 =>
 br (!(decide (r10 < 0))) (
 Q (.tuple ⟨[]⟩) w9) (
 lt (World.drew w9) fun w11 =>
 lt (IntKind.i64.wrap (t3+t10)) fun x12 =>
 lt (IntKind.i64.wrap (t3+t11)) fun x13 =>
 lt (IntKind.i64.wrap (t3+t11)) fun x14 =>
 ixS d_0.a d_0.len x14 42 fun a15 =>
 ldA w11 a15 42 fun c16 =>
 lt (IntKind.i64.wrap (t3+t10)) fun x17 =>
 ixS d_0.a d_0.len x17 42 fun a18 =>
 ldA w11 a18 42 fun c19 =>
 ixS d_0.a d_0.len x12 42 fun a20 =>
 (c16).size=42 ∧
 stA w11 a20 c16 fun w21 =>
 ixS d_0.a d_0.len x13 42 fun a22 =>
 (c19).size=42 ∧
 stA w21 a22 c19 fun w23 =>
 nx1 d_0 t2 t3 t11 w23)
def qu.j2 (d_0:Sl) (t2:Int) (t3 t10 t11:Int) (Q:VWP) (nx1:Sl→Int→Int→Int→WP) (w:World):Prop :=
 br (decide (t11 ≥ t2)) (
 Q (.tuple ⟨[]⟩) w) (
 lt (World.drew w) fun w24 =>
 lt (IntKind.i64.wrap (t11+1)) fun x25 =>
 br (decide (x25 < t2)) (
 lt (IntKind.i64.wrap (t3+t11)) fun x26 =>
 ixS d_0.a d_0.len x26 42 fun a27 =>
 ldA w24 a27 42 fun c28 =>
 lt (IntKind.i64.wrap (t3+t11)) fun x29 =>
 lt (IntKind.i64.wrap (x29+1)) fun x30 =>
 ixS d_0.a d_0.len x30 42 fun a31 =>
 ldA w24 a31 42 fun c32 =>
 qnf 27 [.agg c28,.agg c32] w24 fun r35 w34 =>
 br (decide (r35 < 0)) (
 lt (IntKind.i64.wrap (t11+1)) fun x36 =>
 qu.j3 d_0 t2 t3 t10 x36 Q nx1 w34) (
 qu.j3 d_0 t2 t3 t10 t11 Q nx1 w34)) (
 qu.j3 d_0 t2 t3 t10 t11 Q nx1 w24))
def qu.b1 (d_0:Sl) (t2:Int) (t3 t10:Int) (Q:VWP) (nx1:Sl→Int→Int→Int→WP) (w:World):Prop :=
 lt (IntKind.i64.wrap (2 * t10)) fun x37 =>
 lt (IntKind.i64.wrap (x37+1)) fun x38 =>
 qu.j2 d_0 t2 t3 t10 x38 Q nx1 w
def qu.l1 (d_0:Sl) (t2:Int) (t3 t10:Int) (Q:VWP) (w:World):Prop :=
 ∃ (I:Int→WP) (μ:Int→World→Nat),I t10 w∧∀ t10:Int,∀ w:World,I t10 w→qu.b1 d_0 t2 t3 t10 Q (fun d_0' t2' t3' t10' w'=>(d_0'=d_0∧t2'=t2∧t3'=t3)∧I t10' w'∧μ t10' w' < μ t10 w) w
def qu.j1 (d_0:Sl) (t2:Int) (t3 t10:Int) (Q:VWP) (w:World):Prop :=
 qu.l1 d_0 t2 t3 t10 Q w
def qu (d_0:Sl) (i_1:Int) (t2 t3:Int) (Q:VWP) (w:World):Prop :=
 qu.j1 d_0 t2 t3 i_1 Q w
theorem qu.ok (d_0:Sl) (i_1:Int) (t2:Int) (t3:Int) (Q:VWP) (w:World) (h:qu d_0 i_1 t2 t3 Q w):Calls Tryz.prog 109 ⟨[sV d_0,.int .i64 i_1,.int .i64 t2,.int .i64 t3,.func (.func 27) ⟨[]⟩ ⟨[]⟩]⟩ w (Ret Q) :=
 qgc [] qjd Tryz.func109 rfl rfl rfl rfl (.sq [sL 0,sI 2,sI 3,(4,.c0 27),sI 10] (fun a b c _ d w=>qu.j1 a b c d Q w) .lf (.bk (.lo [sL 0,sI 2,sI 3,(4,.c0 27)] [sI 10] (fun a b c _ d w=>qu.l1 a b c d Q w) (fun nx1 a b c _ d w=>qu.b1 a b c d Q (fun x0 x2 x3 x10 w=>nx1 x0 x2 x3 () x10 w) w) fun nx1=>(.bk (.sq [sL 0,sI 2,sI 3,(4,.c0 27),sI 10,sI 11] (fun a b c _ d e w=>qu.j2 a b c d e Q (fun x0 x2 x3 x10 w=>nx1 x0 x2 x3 () x10 w) w) .lf (.pr 1 [sL 0,sI 2,sI 3,(4,.c0 27),sI 10,sI 11] (fun a b c _ d e w=>qu.j3 a b c d e Q (fun x0 x2 x3 x10 w=>nx1 x0 x2 x3 () x10 w) w) .lf)))))) (by kernel_rfl) h
def qk.b1 (data_0:Sl) (first_8:Int) (lo_9 i_12:Int) (Q:VWP) (nx1:Sl→Int→Int→Int→WP) (w:World):Prop :=
 br (decide (i_12 ≥ 0)) (
 lt (World.drew w) fun w1 =>
 lt (IntKind.i64.wrap (first_8+i_12)) fun x2 =>
 lt (IntKind.i64.wrap (first_8+i_12)) fun x3 =>
 ixS data_0.a data_0.len x3 42 fun a4 =>
 ldA w1 a4 42 fun c5 =>
 ixS data_0.a data_0.len first_8 42 fun a6 =>
 ldA w1 a6 42 fun c7 =>
 ixS data_0.a data_0.len first_8 42 fun a8 =>
 (c5).size=42 ∧
 stA w1 a8 c5 fun w9 =>
 ixS data_0.a data_0.len x2 42 fun a10 =>
 (c7).size=42 ∧
 stA w9 a10 c7 fun w11 =>
 ct_ 109 [sV data_0,.int .i64 lo_9,.int .i64 i_12,.int .i64 first_8,.func (.func 27) ⟨[]⟩ ⟨[]⟩] w11 fun w13 =>
 lt (IntKind.i64.wrap (i_12 - 1)) fun x14 =>
 nx1 data_0 first_8 lo_9 x14 w13) (
 Q (.tuple ⟨[]⟩) w)
def qk.l1 (data_0:Sl) (first_8:Int) (lo_9 i_12:Int) (Q:VWP) (w:World):Prop :=
 ∃ (I:Int→WP) (μ:Int→World→Nat),I i_12 w∧∀ i_12:Int,∀ w:World,I i_12 w→qk.b1 data_0 first_8 lo_9 i_12 Q (fun data_0' first_8' lo_9' i_12' w'=>(data_0'=data_0∧first_8'=first_8∧lo_9'=lo_9)∧I i_12' w'∧μ i_12' w' < μ i_12 w) w
def qk.j4 (data_0:Sl) (first_8:Int) (lo_9 i_12:Int) (Q:VWP) (w:World):Prop :=
 qk.l1 data_0 first_8 lo_9 i_12 Q w
def qk.j3 (data_0:Sl) (first_8:Int) (lo_9 hi_10:Int) (Q:VWP) (w:World):Prop :=
 lt (IntKind.i64.wrap (hi_10 - 1)) fun x15 =>
 qk.j4 data_0 first_8 lo_9 x15 Q w
def qk.b2 (data_0:Sl) (first_8:Int) (lo_9 hi_10 i_11:Int) (Q:VWP) (nx2:Sl→Int→Int→Int→Int→WP) (w:World):Prop :=
 br (decide (i_11 ≥ 0)) (
 ct_ 109 [sV data_0,.int .i64 i_11,.int .i64 hi_10,.int .i64 first_8,.func (.func 27) ⟨[]⟩ ⟨[]⟩] w fun w17 =>
 lt (IntKind.i64.wrap (i_11 - 1)) fun x18 =>
 nx2 data_0 first_8 lo_9 hi_10 x18 w17) (
 qk.j3 data_0 first_8 lo_9 hi_10 Q w)
def qk.l2 (data_0:Sl) (first_8:Int) (lo_9 hi_10 i_11:Int) (Q:VWP) (w:World):Prop :=
 ∃ (I:Int→WP) (μ:Int→World→Nat),I i_11 w∧∀ i_11:Int,∀ w:World,I i_11 w→qk.b2 data_0 first_8 lo_9 hi_10 i_11 Q (fun data_0' first_8' lo_9' hi_10' i_11' w'=>(data_0'=data_0∧first_8'=first_8∧lo_9'=lo_9∧hi_10'=hi_10)∧I i_11' w'∧μ i_11' w' < μ i_11 w) w
def qk.j5 (data_0:Sl) (first_8:Int) (lo_9 hi_10 i_11:Int) (Q:VWP) (w:World):Prop :=
 qk.l2 data_0 first_8 lo_9 hi_10 i_11 Q w
def qk.j2 (data_0:Sl) (first_8:Int) (lo_9 hi_10:Int) (Q:VWP) (w:World):Prop :=
 lt (IntKind.i64.wrap (hi_10 - 1)) fun x19 =>
 (2:Int) ≠ 0 ∧
 lt (IntKind.i64.wrap (Int.tdiv x19 2)) fun x20 =>
 qk.j5 data_0 first_8 lo_9 hi_10 x20 Q w
def qk.j1 (data_0:Sl) (a_1:Int) (b_2 first_8:Int) (Q:VWP) (w:World):Prop :=
 lt (IntKind.i64.wrap (b_2 - a_1)) fun x21 =>
 qk.j2 data_0 first_8 0 x21 Q w
def qk (data_0:Sl) (a_1:Int) (b_2:Int) (Q:VWP) (w:World):Prop :=
 qk.j1 data_0 a_1 b_2 a_1 Q w
theorem qk.ok (data_0:Sl) (a_1:Int) (b_2:Int) (Q:VWP) (w:World) (h:qk data_0 a_1 b_2 Q w):Calls Tryz.prog 90 ⟨[sV data_0,.int .i64 a_1,.int .i64 b_2,.func (.func 27) ⟨[]⟩ ⟨[]⟩]⟩ w (Ret Q) :=
 qgc [] qjd Tryz.func90 rfl rfl rfl rfl (.sq [sL 0,sI 1,sI 2,(3,.c0 27),sI 8] (fun a b c _ d w=>qk.j1 a b c d Q w) .lf (.pr 1 [sL 0,(3,.c0 27),sI 8,sI 9,sI 10] (fun a _ b c d w=>qk.j2 a b c d Q w) (.sq [sL 0,(3,.c0 27),sI 8,sI 9,sI 10] (fun a _ b c d w=>qk.j3 a b c d Q w) (.sq [sL 0,(3,.c0 27),sI 8,sI 9,sI 10,sI 11] (fun a _ b c d e w=>qk.j5 a b c d e Q w) .lf (.bk (.lo [sL 0,(3,.c0 27),sI 8,sI 9,sI 10] [sI 11] (fun a _ b c d e w=>qk.l2 a b c d e Q w) (fun nx2 a _ b c d e w=>qk.b2 a b c d e Q (fun x0 x8 x9 x10 x11 w=>nx2 x0 () x8 x9 x10 x11 w) w) fun nx2=>.lf))) (.sq [sL 0,(3,.c0 27),sI 8,sI 9,sI 12] (fun a _ b c d w=>qk.j4 a b c d Q w) .lf (.bk (.lo [sL 0,(3,.c0 27),sI 8,sI 9] [sI 12] (fun a _ b c d w=>qk.l1 a b c d Q w) (fun nx1 a _ b c d w=>qk.b1 a b c d Q (fun x0 x8 x9 x12 w=>nx1 x0 () x8 x9 x12 w) w) fun nx1=>.lf)))))) (by kernel_rfl) h
def qh.j5 (d_0:Sl) (i_1:Int) (t8:Int) (t9:Addr) (t10 t11:Int) (Q:VWP) (nx1:Sl→Int→Int→Addr→Int→Int→WP) (w:World):Prop :=
 lt (IntKind.i64.wrap (t11+1)) fun x1 =>
 nx1 d_0 i_1 t8 t9 t10 x1 w
def qh.j6 (d_0:Sl) (i_1:Int) (t8:Int) (t9:Addr) (t10 t11 t12:Int) (Q:VWP) (nx1:Sl→Int→Int→Addr→Int→Int→WP) (w:World):Prop :=
 lt (World.drew w) fun w2 =>
 lt (IntKind.i64.wrap (i_1+t12)) fun x3 =>
 lt (IntKind.i64.wrap (i_1+t12)) fun x4 =>
 ixS d_0.a d_0.len x4 42 fun a5 =>
 ldA w2 a5 42 fun c6 =>
 ixS d_0.a d_0.len t11 42 fun a7 =>
 ldA w2 a7 42 fun c8 =>
 ixS d_0.a d_0.len t11 42 fun a9 =>
 (c6).size=42 ∧
 stA w2 a9 c6 fun w10 =>
 ixS d_0.a d_0.len x3 42 fun a11 =>
 (c8).size=42 ∧
 stA w10 a11 c8 fun w12 =>
 qh.j5 d_0 i_1 t8 t9 t10 t11 Q nx1 w12
def qh.j4 (d_0:Sl) (i_1:Int) (t8:Int) (t9:Addr) (t10 t11:Int) (Q:VWP) (nx1:Sl→Int→Int→Addr→Int→Int→WP) (w:World):Prop :=
 Calls Tryz.prog 111 ⟨[.pointer (some t9)]⟩ w fun e13 w14 =>
 ∃ r15:Int,e13=.returned (.int .u64 r15) ∧
 lt (IntKind.u64.wrap (t10 - 1)) fun x16 =>
 lt (andV .u64 r15 x16) fun x17 =>
 lt (IntKind.i64.wrap x17) fun x18 =>
 br (decide (x18 ≥ t8)) (
 lt (IntKind.i64.wrap (x18 - t8)) fun x19 =>
 qh.j6 d_0 i_1 t8 t9 t10 t11 x19 Q nx1 w14) (
 qh.j6 d_0 i_1 t8 t9 t10 t11 x18 Q nx1 w14)
def qh.b1 (d_0:Sl) (i_1:Int) (t8:Int) (t9:Addr) (t10 t11:Int) (Q:VWP) (nx1:Sl→Int→Int→Addr→Int→Int→WP) (w:World):Prop :=
 (4:Int) ≠ 0 ∧
 lt (IntKind.i64.wrap (Int.tdiv t8 4)) fun x20 =>
 lt (IntKind.i64.wrap (x20 * 2)) fun x21 =>
 lt (IntKind.i64.wrap (i_1+x21)) fun x22 =>
 lt (IntKind.i64.wrap (x22+1)) fun x23 =>
 br (decide (t11≤x23)) (
 qh.j4 d_0 i_1 t8 t9 t10 t11 Q nx1 w) (
 Q (.tuple ⟨[]⟩) w)
def qh.l1 (d_0:Sl) (i_1:Int) (t8:Int) (t9:Addr) (t10 t11:Int) (Q:VWP) (w:World):Prop :=
 ∃ (I:Int→WP) (μ:Int→World→Nat),I t11 w∧∀ t11:Int,∀ w:World,I t11 w→qh.b1 d_0 i_1 t8 t9 t10 t11 Q (fun d_0' i_1' t8' t9' t10' t11' w'=>(d_0'=d_0∧i_1'=i_1∧t8'=t8∧t9'=t9∧t10'=t10)∧I t11' w'∧μ t11' w' < μ t11 w) w
def qh.j3 (d_0:Sl) (i_1:Int) (t8:Int) (t9:Addr) (t10 t11:Int) (Q:VWP) (w:World):Prop :=
 qh.l1 d_0 i_1 t8 t9 t10 t11 Q w
def qh.j2 (d_0:Sl) (i_1:Int) (t8:Int) (t9:Addr) (Q:VWP) (w:World):Prop :=
 Calls Tryz.prog 110 ⟨[.int .i64 t8]⟩ w fun e24 w25 =>
 ∃ r26:Int,e24=.returned (.int .u64 r26) ∧
 (4:Int) ≠ 0 ∧
 lt (IntKind.i64.wrap (Int.tdiv t8 4)) fun x27 =>
 lt (IntKind.i64.wrap (x27 * 2)) fun x28 =>
 lt (IntKind.i64.wrap (i_1+x28)) fun x29 =>
 lt (IntKind.i64.wrap (x29 - 1)) fun x30 =>
 qh.j3 d_0 i_1 t8 t9 r26 x30 Q w25
def qh.j1 (d_0:Sl) (i_1:Int) (t8:Int) (t17:Bool) (Q:VWP) (w:World):Prop :=
 br t17 (
 lt (IntKind.u64.wrap t8) fun x31 =>
 nw w (zc Tryz.prog 156) 156 fun a32 w33 =>
 st w33 a32 (.int .u64 x31) fun w34 =>
 qh.j2 d_0 i_1 t8 a32 Q w34) (
 Q (.tuple ⟨[]⟩) w)
def qh (d_0:Sl) (i_1:Int) (t2:Int) (Q:VWP) (w:World):Prop :=
 lt (IntKind.i64.wrap (t2 - i_1)) fun x35 =>
 qh.j1 d_0 i_1 x35 (decide (x35 ≥ 8)) Q w
theorem qh.ok (d_0:Sl) (i_1:Int) (t2:Int) (Q:VWP) (w:World) (h:qh d_0 i_1 t2 Q w):Calls Tryz.prog 91 ⟨[sV d_0,.int .i64 i_1,.int .i64 t2,.func (.func 27) ⟨[]⟩ ⟨[]⟩]⟩ w (Ret Q) :=
 qgc [] qjd Tryz.func91 rfl rfl rfl rfl (.pr 1 [sL 0,sI 1,sI 8,sB 17] (fun a b c d w=>qh.j1 a b c d Q w) (.cd (.sq [sL 0,sI 1,sI 8,sA 9] (fun a b c d w=>qh.j2 a b c d Q w) .lf (.pr 1 [sL 0,sI 1,sI 8,sA 9,(10,.I .u64),sI 11] (fun a b c d e f w=>qh.j3 a b c d e f Q w) (.bk (.lo [sL 0,sI 1,sI 8,sA 9,(10,.I .u64)] [sI 11] (fun a b c d e f w=>qh.l1 a b c d e f Q w) (fun nx1 a b c d e f w=>qh.b1 a b c d e f Q nx1 w) fun nx1=>(.sq [sL 0,sI 1,sI 8,sA 9,(10,.I .u64),sI 11] (fun a b c d e f w=>qh.j4 a b c d e f Q nx1 w) .lf (.sq [sL 0,sI 1,sI 8,sA 9,(10,.I .u64),sI 11] (fun a b c d e f w=>qh.j5 a b c d e f Q nx1 w) (.bk (.pr 1 [sL 0,sI 1,sI 8,sA 9,(10,.I .u64),sI 11,sI 12] (fun a b c d e f g w=>qh.j6 a b c d e f g Q nx1 w) .lf)) .lf)))))) .lf)) (by kernel_rfl) h
def qxc (data_0:Sl) (a_1:Int) (b_2:Int) (swaps_3:OAd) (Q:VWP) (w:World):Prop :=
 lt (World.drew w) fun w1 =>
 ixS data_0.a data_0.len b_2 42 fun a2 =>
 ldA w1 a2 42 fun c3 =>
 ixS data_0.a data_0.len a_1 42 fun a4 =>
 ldA w1 a4 42 fun c5 =>
 qnf 27 [.agg c3,.agg c5] w1 fun r8 w7 =>
 br (decide (r8 < 0)) (
 nz swaps_3 fun a9 =>
 ldI .i64 w7 a9 fun x10 =>
 lt (IntKind.i64.wrap (x10+1)) fun x11 =>
 nz swaps_3 fun a12 =>
 st w7 a12 (.int .i64 x11) fun w13 =>
 Q (.tuple ⟨[.int .i64 b_2,.int .i64 a_1]⟩) w13) (
 Q (.tuple ⟨[.int .i64 a_1,.int .i64 b_2]⟩) w7)
theorem qxc.ok (data_0:Sl) (a_1:Int) (b_2:Int) (swaps_3:OAd) (Q:VWP) (w:World) (h:qxc data_0 a_1 b_2 swaps_3 Q w):Calls Tryz.prog 117 ⟨[sV data_0,.int .i64 a_1,.int .i64 b_2,.pointer swaps_3,.func (.func 27) ⟨[]⟩ ⟨[]⟩]⟩ w (Ret Q) :=
 qgc [.tmp 10,.tmp 11] qjd Tryz.func117 rfl rfl rfl rfl .lf (by kernel_rfl) h
def qyc (data_0:Sl) (a_1:Int) (b_2 c_3:Int) (swaps_4:OAd) (Q:VWP) (w:World):Prop :=
 ct_II 117 [sV data_0,.int .i64 a_1,.int .i64 b_2,.pointer swaps_4,.func (.func 27) ⟨[]⟩ ⟨[]⟩] w fun r3 r4 w2 =>
 ct_II 117 [sV data_0,.int .i64 r4,.int .i64 c_3,.pointer swaps_4,.func (.func 27) ⟨[]⟩ ⟨[]⟩] w2 fun r7 r8 w6 =>
 ct_II 117 [sV data_0,.int .i64 r3,.int .i64 r7,.pointer swaps_4,.func (.func 27) ⟨[]⟩ ⟨[]⟩] w6 fun r11 r12 w10 =>
 Q (.int .i64 r12) w10
theorem qyc.ok (data_0:Sl) (a_1:Int) (b_2:Int) (c_3:Int) (swaps_4:OAd) (Q:VWP) (w:World) (h:qyc data_0 a_1 b_2 c_3 swaps_4 Q w):Calls Tryz.prog 113 ⟨[sV data_0,.int .i64 a_1,.int .i64 b_2,.int .i64 c_3,.pointer swaps_4,.func (.func 27) ⟨[]⟩ ⟨[]⟩]⟩ w (Ret Q) :=
 qgc [.tmp 12] qjd Tryz.func113 rfl rfl rfl rfl .lf (by kernel_rfl) h
def qlc (data_0:Sl) (a_1:Int) (swaps_2:OAd) (Q:VWP) (w:World):Prop :=
 lt (IntKind.i64.wrap (a_1 - 1)) fun x1 =>
 lt (IntKind.i64.wrap (a_1+1)) fun x2 =>
 qnf 113 [sV data_0,.int .i64 x1,.int .i64 a_1,.int .i64 x2,.pointer swaps_2,.func (.func 27) ⟨[]⟩ ⟨[]⟩] w fun r5 w4 =>
 Q (.int .i64 r5) w4
theorem qlc.ok (data_0:Sl) (a_1:Int) (swaps_2:OAd) (Q:VWP) (w:World) (h:qlc data_0 a_1 swaps_2 Q w):Calls Tryz.prog 112 ⟨[sV data_0,.int .i64 a_1,.pointer swaps_2,.func (.func 27) ⟨[]⟩ ⟨[]⟩]⟩ w (Ret Q) :=
 qgc [.tmp 8] qjd Tryz.func112 rfl rfl rfl rfl .lf (by kernel_rfl) h
def qv.j4 (swaps_11:Addr) (j_13:Int) (Q:VWP) (w:World):Prop :=
 ldI .i64 w swaps_11 fun x1 =>
 br (x1 == 0) (
 Q (.tuple ⟨[.int .i64 j_13,.int .i64 1]⟩) w) (
 br (x1 == 12) (
 Q (.tuple ⟨[.int .i64 j_13,.int .i64 2]⟩) w) (
 Q (.tuple ⟨[.int .i64 j_13,.int .i64 0]⟩) w))
def qv.j3 (data_0:Sl) (a_1:Int) (l_10:Int) (swaps_11:Addr) (i_12 j_13:Int) (Q:VWP) (w:World):Prop :=
 (4:Int) ≠ 0 ∧
 lt (IntKind.i64.wrap (Int.tdiv l_10 4)) fun x2 =>
 lt (IntKind.i64.wrap (x2 * 3)) fun x3 =>
 lt (IntKind.i64.wrap (a_1+x3)) fun x4 =>
 br (decide (l_10 ≥ 8)) (
 br (decide (l_10 ≥ 50)) (
 qnf 112 [sV data_0,.int .i64 i_12,.pointer (some swaps_11),.func (.func 27) ⟨[]⟩ ⟨[]⟩] w fun r7 w6 =>
 qnf 112 [sV data_0,.int .i64 j_13,.pointer (some swaps_11),.func (.func 27) ⟨[]⟩ ⟨[]⟩] w6 fun r10 w9 =>
 qnf 112 [sV data_0,.int .i64 x4,.pointer (some swaps_11),.func (.func 27) ⟨[]⟩ ⟨[]⟩] w9 fun r13 w12 =>
 qnf 113 [sV data_0,.int .i64 r7,.int .i64 r10,.int .i64 r13,.pointer (some swaps_11),.func (.func 27) ⟨[]⟩ ⟨[]⟩] w12 fun r16 w15 =>
 qv.j4 swaps_11 r16 Q w15) (
 qnf 113 [sV data_0,.int .i64 i_12,.int .i64 j_13,.int .i64 x4,.pointer (some swaps_11),.func (.func 27) ⟨[]⟩ ⟨[]⟩] w fun r19 w18 =>
 qv.j4 swaps_11 r19 Q w18)) (
 qv.j4 swaps_11 j_13 Q w)
def qv.j2 (data_0:Sl) (a_1:Int) (l_10:Int) (swaps_11:Addr) (Q:VWP) (w:World):Prop :=
 (4:Int) ≠ 0 ∧
 lt (IntKind.i64.wrap (Int.tdiv l_10 4)) fun x20 =>
 lt (IntKind.i64.wrap (x20 * 1)) fun x21 =>
 lt (IntKind.i64.wrap (a_1+x21)) fun x22 =>
 (4:Int) ≠ 0 ∧
 lt (IntKind.i64.wrap (Int.tdiv l_10 4)) fun x23 =>
 lt (IntKind.i64.wrap (x23 * 2)) fun x24 =>
 lt (IntKind.i64.wrap (a_1+x24)) fun x25 =>
 qv.j3 data_0 a_1 l_10 swaps_11 x22 x25 Q w
def qv.j1 (data_0:Sl) (a_1:Int) (b_2:Int) (Q:VWP) (w:World):Prop :=
 lt (IntKind.i64.wrap (b_2 - a_1)) fun x26 =>
 nw w (zc Tryz.prog 3) 3 fun a27 w28 =>
 qv.j2 data_0 a_1 x26 a27 Q w28
def qv (data_0:Sl) (a_1:Int) (b_2:Int) (Q:VWP) (w:World):Prop :=
 qv.j1 data_0 a_1 b_2 Q w
theorem qv.ok (data_0:Sl) (a_1:Int) (b_2:Int) (Q:VWP) (w:World) (h:qv data_0 a_1 b_2 Q w):Calls Tryz.prog 92 ⟨[sV data_0,.int .i64 a_1,.int .i64 b_2,.func (.func 27) ⟨[]⟩ ⟨[]⟩]⟩ w (Ret Q) :=
 qgc [.tmp 8,.tmp 9] qjd Tryz.func92 rfl rfl rfl rfl (.sq [sL 0,sI 1,sI 2,(3,.c0 27)] (fun a b c _ w=>qv.j1 a b c Q w) .lf (.pr 1 [sL 0,sI 1,(3,.c0 27),sI 10,sA 11] (fun a b _ c d w=>qv.j2 a b c d Q w) (.pr 1 [sL 0,sI 1,(3,.c0 27),sI 10,sA 11,sI 12,sI 13] (fun a b _ c d e f w=>qv.j3 a b c d e f Q w) (.pr 1 [sA 11,sI 13] (fun a b w=>qv.j4 a b Q w) .lf)))) (by kernel_rfl) h
def qhb.b1 (data_0:Sl) (i_8:Int) (j_9:Int) (Q:VWP) (nx1:Sl→Int→Int→WP) (w:World):Prop :=
 br (decide (i_8 < j_9)) (
 lt (World.drew w) fun w1 =>
 ixS data_0.a data_0.len j_9 42 fun a2 =>
 ldA w1 a2 42 fun c3 =>
 ixS data_0.a data_0.len i_8 42 fun a4 =>
 ldA w1 a4 42 fun c5 =>
 ixS data_0.a data_0.len i_8 42 fun a6 =>
 (c3).size=42 ∧
 stA w1 a6 c3 fun w7 =>
 ixS data_0.a data_0.len j_9 42 fun a8 =>
 (c5).size=42 ∧
 stA w7 a8 c5 fun w9 =>
 lt (IntKind.i64.wrap (i_8+1)) fun x10 =>
 lt (IntKind.i64.wrap (j_9 - 1)) fun x11 =>
 nx1 data_0 x10 x11 w9) (
 Q (.tuple ⟨[]⟩) w)
def qhb.l1 (data_0:Sl) (i_8:Int) (j_9:Int) (Q:VWP) (w:World):Prop :=
 ∃ (I:Int→Int→WP) (μ:Int→Int→World→Nat),I i_8 j_9 w∧∀ i_8:Int,∀ j_9:Int,∀ w:World,I i_8 j_9 w→qhb.b1 data_0 i_8 j_9 Q (fun data_0' i_8' j_9' w'=>(data_0'=data_0)∧I i_8' j_9' w'∧μ i_8' j_9' w' < μ i_8 j_9 w) w
def qhb.j1 (data_0:Sl) (i_8:Int) (j_9:Int) (Q:VWP) (w:World):Prop :=
 qhb.l1 data_0 i_8 j_9 Q w
def qhb (data_0:Sl) (a_1:Int) (b_2:Int) (Q:VWP) (w:World):Prop :=
 lt (IntKind.i64.wrap (b_2 - 1)) fun x12 =>
 qhb.j1 data_0 a_1 x12 Q w
theorem qhb.ok (data_0:Sl) (a_1:Int) (b_2:Int) (Q:VWP) (w:World) (h:qhb data_0 a_1 b_2 Q w):Calls Tryz.prog 93 ⟨[sV data_0,.int .i64 a_1,.int .i64 b_2,.func (.func 27) ⟨[]⟩ ⟨[]⟩]⟩ w (Ret Q) :=
 qgc [] qjd Tryz.func93 rfl rfl rfl rfl (.pr 1 [sL 0,sI 8,sI 9] (fun a b c w=>qhb.j1 a b c Q w) (.bk (.lo [sL 0] [sI 8,sI 9] (fun a b c w=>qhb.l1 a b c Q w) (fun nx1 a b c w=>qhb.b1 a b c Q nx1 w) fun nx1=>.lf))) (by kernel_rfl) h
def qa.j2  (Q:VWP) (w:World):Prop :=
 Q (.bool false) w
def qa.j5 (d_0:Sl) (i_1:Int) (t2 t9 t10:Int) (Q:VWP) (nx1:Sl→Int→Int→Int→Int→WP) (w:World):Prop :=
 lt (IntKind.i64.wrap (t10+1)) fun x1 =>
 nx1 d_0 i_1 t2 t9 x1 w
def qa.b2 (d_0:Sl) (i_1:Int) (t2 t9 t10 t12:Int) (Q:VWP) (nx1:Sl→Int→Int→Int→Int→WP) (nx2:Sl→Int→Int→Int→Int→Int→WP) (w:World):Prop :=
 br (decide (t12 < t2)) (
 lt (World.drew w) fun w2 =>
 ixS d_0.a d_0.len t12 42 fun a3 =>
 ldA w2 a3 42 fun c4 =>
 lt (IntKind.i64.wrap (t12 - 1)) fun x5 =>
 ixS d_0.a d_0.len x5 42 fun a6 =>
 ldA w2 a6 42 fun c7 =>
 qnf 27 [.agg c4,.agg c7] w2 fun r10 w9 =>
 br (!(decide (r10 < 0))) (
 qa.j5 d_0 i_1 t2 t9 t10 Q nx1 w9) (
 lt (World.drew w9) fun w11 =>
 lt (IntKind.i64.wrap (t12 - 1)) fun x12 =>
 lt (IntKind.i64.wrap (t12 - 1)) fun x13 =>
 ixS d_0.a d_0.len x13 42 fun a14 =>
 ldA w11 a14 42 fun c15 =>
 ixS d_0.a d_0.len t12 42 fun a16 =>
 ldA w11 a16 42 fun c17 =>
 ixS d_0.a d_0.len t12 42 fun a18 =>
 (c15).size=42 ∧
 stA w11 a18 c15 fun w19 =>
 ixS d_0.a d_0.len x12 42 fun a20 =>
 (c17).size=42 ∧
 stA w19 a20 c17 fun w21 =>
 lt (IntKind.i64.wrap (t12+1)) fun x22 =>
 nx2 d_0 i_1 t2 t9 t10 x22 w21)) (
 qa.j5 d_0 i_1 t2 t9 t10 Q nx1 w)
def qa.l2 (d_0:Sl) (i_1:Int) (t2 t9 t10 t12:Int) (Q:VWP) (nx1:Sl→Int→Int→Int→Int→WP) (w:World):Prop :=
 ∃ (I:Int→WP) (μ:Int→World→Nat),I t12 w∧∀ t12:Int,∀ w:World,I t12 w→qa.b2 d_0 i_1 t2 t9 t10 t12 Q nx1 (fun d_0' i_1' t2' t9' t10' t12' w'=>(d_0'=d_0∧i_1'=i_1∧t2'=t2∧t9'=t9∧t10'=t10)∧I t12' w'∧μ t12' w' < μ t12 w) w
def qa.j11 (d_0:Sl) (i_1:Int) (t2 t9 t10 t12:Int) (Q:VWP) (nx1:Sl→Int→Int→Int→Int→WP) (w:World):Prop :=
 qa.l2 d_0 i_1 t2 t9 t10 t12 Q nx1 w
def qa.j10 (d_0:Sl) (i_1:Int) (t2 t9 t10:Int) (t104:Bool) (Q:VWP) (nx1:Sl→Int→Int→Int→Int→WP) (w:World):Prop :=
 br t104 (
 lt (IntKind.i64.wrap (t9+1)) fun x23 =>
 qa.j11 d_0 i_1 t2 t9 t10 x23 Q nx1 w) (
 qa.j5 d_0 i_1 t2 t9 t10 Q nx1 w)
def qa.j9 (d_0:Sl) (i_1:Int) (t2 t9 t10:Int) (Q:VWP) (nx1:Sl→Int→Int→Int→Int→WP) (w:World):Prop :=
 lt (IntKind.i64.wrap (t2 - t9)) fun x24 =>
 qa.j10 d_0 i_1 t2 t9 t10 (decide (x24 ≥ 2)) Q nx1 w
def qa.b3 (d_0:Sl) (i_1:Int) (t2 t9 t10 t11:Int) (Q:VWP) (nx1:Sl→Int→Int→Int→Int→WP) (nx3:Sl→Int→Int→Int→Int→Int→WP) (w:World):Prop :=
 br (decide (t11 ≥ 1)) (
 lt (World.drew w) fun w25 =>
 ixS d_0.a d_0.len t11 42 fun a26 =>
 ldA w25 a26 42 fun c27 =>
 lt (IntKind.i64.wrap (t11 - 1)) fun x28 =>
 ixS d_0.a d_0.len x28 42 fun a29 =>
 ldA w25 a29 42 fun c30 =>
 qnf 27 [.agg c27,.agg c30] w25 fun r33 w32 =>
 br (!(decide (r33 < 0))) (
 qa.j9 d_0 i_1 t2 t9 t10 Q nx1 w32) (
 lt (World.drew w32) fun w34 =>
 lt (IntKind.i64.wrap (t11 - 1)) fun x35 =>
 lt (IntKind.i64.wrap (t11 - 1)) fun x36 =>
 ixS d_0.a d_0.len x36 42 fun a37 =>
 ldA w34 a37 42 fun c38 =>
 ixS d_0.a d_0.len t11 42 fun a39 =>
 ldA w34 a39 42 fun c40 =>
 ixS d_0.a d_0.len t11 42 fun a41 =>
 (c38).size=42 ∧
 stA w34 a41 c38 fun w42 =>
 ixS d_0.a d_0.len x35 42 fun a43 =>
 (c40).size=42 ∧
 stA w42 a43 c40 fun w44 =>
 lt (IntKind.i64.wrap (t11 - 1)) fun x45 =>
 nx3 d_0 i_1 t2 t9 t10 x45 w44)) (
 qa.j9 d_0 i_1 t2 t9 t10 Q nx1 w)
def qa.l3 (d_0:Sl) (i_1:Int) (t2 t9 t10 t11:Int) (Q:VWP) (nx1:Sl→Int→Int→Int→Int→WP) (w:World):Prop :=
 ∃ (I:Int→WP) (μ:Int→World→Nat),I t11 w∧∀ t11:Int,∀ w:World,I t11 w→qa.b3 d_0 i_1 t2 t9 t10 t11 Q nx1 (fun d_0' i_1' t2' t9' t10' t11' w'=>(d_0'=d_0∧i_1'=i_1∧t2'=t2∧t9'=t9∧t10'=t10)∧I t11' w'∧μ t11' w' < μ t11 w) w
def qa.j13 (d_0:Sl) (i_1:Int) (t2 t9 t10 t11:Int) (Q:VWP) (nx1:Sl→Int→Int→Int→Int→WP) (w:World):Prop :=
 qa.l3 d_0 i_1 t2 t9 t10 t11 Q nx1 w
def qa.j12 (d_0:Sl) (i_1:Int) (t2 t9 t10:Int) (t65:Bool) (Q:VWP) (nx1:Sl→Int→Int→Int→Int→WP) (w:World):Prop :=
 br t65 (
 lt (IntKind.i64.wrap (t9 - 1)) fun x46 =>
 qa.j13 d_0 i_1 t2 t9 t10 x46 Q nx1 w) (
 qa.j9 d_0 i_1 t2 t9 t10 Q nx1 w)
def qa.j8 (d_0:Sl) (i_1:Int) (t2 t9 t10:Int) (Q:VWP) (nx1:Sl→Int→Int→Int→Int→WP) (w:World):Prop :=
 lt (IntKind.i64.wrap (t9 - i_1)) fun x47 =>
 qa.j12 d_0 i_1 t2 t9 t10 (decide (x47 ≥ 2)) Q nx1 w
def qa.j7 (d_0:Sl) (i_1:Int) (t2 t9 t10:Int) (Q:VWP) (nx1:Sl→Int→Int→Int→Int→WP) (w:World):Prop :=
 lt (IntKind.i64.wrap (t2 - i_1)) fun x48 =>
 br (decide (x48 < 50)) (
 Q (.bool false) w) (
 lt (World.drew w) fun w49 =>
 lt (IntKind.i64.wrap (t9 - 1)) fun x50 =>
 lt (IntKind.i64.wrap (t9 - 1)) fun x51 =>
 ixS d_0.a d_0.len x51 42 fun a52 =>
 ldA w49 a52 42 fun c53 =>
 ixS d_0.a d_0.len t9 42 fun a54 =>
 ldA w49 a54 42 fun c55 =>
 ixS d_0.a d_0.len t9 42 fun a56 =>
 (c53).size=42 ∧
 stA w49 a56 c53 fun w57 =>
 ixS d_0.a d_0.len x50 42 fun a58 =>
 (c55).size=42 ∧
 stA w57 a58 c55 fun w59 =>
 qa.j8 d_0 i_1 t2 t9 t10 Q nx1 w59)
def qa.j6 (d_0:Sl) (i_1:Int) (t2 t9 t10:Int) (Q:VWP) (nx1:Sl→Int→Int→Int→Int→WP) (w:World):Prop :=
 br (t9 == t2) (
 Q (.bool true) w) (
 qa.j7 d_0 i_1 t2 t9 t10 Q nx1 w)
def qa.b4 (d_0:Sl) (i_1:Int) (t2 t10 t9:Int) (Q:VWP) (nx1 nx4:Sl→Int→Int→Int→Int→WP) (w:World):Prop :=
 lt (World.drew w) fun w60 =>
 br (decide (t9 < t2)) (
 ixS d_0.a d_0.len t9 42 fun a61 =>
 ldA w60 a61 42 fun c62 =>
 lt (IntKind.i64.wrap (t9 - 1)) fun x63 =>
 ixS d_0.a d_0.len x63 42 fun a64 =>
 ldA w60 a64 42 fun c65 =>
 qnf 27 [.agg c62,.agg c65] w60 fun r68 w67 =>
 br (!(decide (r68 < 0))) (
 lt (IntKind.i64.wrap (t9+1)) fun x69 =>
 nx4 d_0 i_1 t2 t10 x69 w67) (
 qa.j6 d_0 i_1 t2 t9 t10 Q nx1 w67)) (
 qa.j6 d_0 i_1 t2 t9 t10 Q nx1 w60)
def qa.l4 (d_0:Sl) (i_1:Int) (t2 t10 t9:Int) (Q:VWP) (nx1:Sl→Int→Int→Int→Int→WP) (w:World):Prop :=
 ∃ (I:Int→WP) (μ:Int→World→Nat),I t9 w∧∀ t9:Int,∀ w:World,I t9 w→qa.b4 d_0 i_1 t2 t10 t9 Q nx1 (fun d_0' i_1' t2' t10' t9' w'=>(d_0'=d_0∧i_1'=i_1∧t2'=t2∧t10'=t10)∧I t9' w'∧μ t9' w' < μ t9 w) w
def qa.j4 (d_0:Sl) (i_1:Int) (t2 t9 t10:Int) (Q:VWP) (nx1:Sl→Int→Int→Int→Int→WP) (w:World):Prop :=
 qa.l4 d_0 i_1 t2 t10 t9 Q nx1 w
def qa.b1 (d_0:Sl) (i_1:Int) (t2 t9 t10:Int) (Q:VWP) (nx1:Sl→Int→Int→Int→Int→WP) (w:World):Prop :=
 br (decide (t10 < 5)) (
 qa.j4 d_0 i_1 t2 t9 t10 Q nx1 w) (
 qa.j2 Q w)
def qa.l1 (d_0:Sl) (i_1:Int) (t2 t9 t10:Int) (Q:VWP) (w:World):Prop :=
 ∃ (I:Int→Int→WP) (μ:Int→Int→World→Nat),I t9 t10 w∧∀ t9:Int,∀ t10:Int,∀ w:World,I t9 t10 w→qa.b1 d_0 i_1 t2 t9 t10 Q (fun d_0' i_1' t2' t9' t10' w'=>(d_0'=d_0∧i_1'=i_1∧t2'=t2)∧I t9' t10' w'∧μ t9' t10' w' < μ t9 t10 w) w
def qa.j3 (d_0:Sl) (i_1:Int) (t2 t9 t10:Int) (Q:VWP) (w:World):Prop :=
 qa.l1 d_0 i_1 t2 t9 t10 Q w
def qa.j1 (d_0:Sl) (i_1:Int) (t2 t9:Int) (Q:VWP) (w:World):Prop :=
 qa.j3 d_0 i_1 t2 t9 0 Q w
def qa (d_0:Sl) (i_1:Int) (t2:Int) (Q:VWP) (w:World):Prop :=
 lt (IntKind.i64.wrap (i_1+1)) fun x70 =>
 qa.j1 d_0 i_1 t2 x70 Q w
theorem qa.ok (d_0:Sl) (i_1:Int) (t2:Int) (Q:VWP) (w:World) (h:qa d_0 i_1 t2 Q w):Calls Tryz.prog 94 ⟨[sV d_0,.int .i64 i_1,.int .i64 t2,.func (.func 27) ⟨[]⟩ ⟨[]⟩]⟩ w (Ret Q) :=
 qgc [.tmp 8] qjd Tryz.func94 rfl rfl rfl rfl (.pr 1 [sL 0,sI 1,sI 2,(3,.c0 27),sI 9] (fun a b c _ d w=>qa.j1 a b c d Q w) (.sq [] (fun  w=>qa.j2 Q w) (.sq [sL 0,sI 1,sI 2,(3,.c0 27),sI 9,sI 10] (fun a b c _ d e w=>qa.j3 a b c d e Q w) .lf (.bk (.lo [sL 0,sI 1,sI 2,(3,.c0 27)] [sI 9,sI 10] (fun a b c _ d e w=>qa.l1 a b c d e Q w) (fun nx1 a b c _ d e w=>qa.b1 a b c d e Q (fun x0 x1 x2 x9 x10 w=>nx1 x0 x1 x2 () x9 x10 w) w) fun nx1=>(.sq [sL 0,sI 1,sI 2,(3,.c0 27),sI 9,sI 10] (fun a b c _ d e w=>qa.j4 a b c d e Q (fun x0 x1 x2 x9 x10 w=>nx1 x0 x1 x2 () x9 x10 w) w) .lf (.sq [sL 0,sI 1,sI 2,(3,.c0 27),sI 9,sI 10] (fun a b c _ d e w=>qa.j5 a b c d e Q (fun x0 x1 x2 x9 x10 w=>nx1 x0 x1 x2 () x9 x10 w) w) (.bk (.sq [sL 0,sI 1,sI 2,(3,.c0 27),sI 9,sI 10] (fun a b c _ d e w=>qa.j6 a b c d e Q (fun x0 x1 x2 x9 x10 w=>nx1 x0 x1 x2 () x9 x10 w) w) (.bk (.lo [sL 0,sI 1,sI 2,(3,.c0 27),sI 10] [sI 9] (fun a b c _ d e w=>qa.l4 a b c d e Q (fun x0 x1 x2 x9 x10 w=>nx1 x0 x1 x2 () x9 x10 w) w) (fun nx4 a b c _ d e w=>qa.b4 a b c d e Q (fun x0 x1 x2 x9 x10 w=>nx1 x0 x1 x2 () x9 x10 w) (fun x0 x1 x2 x10 x9 w=>nx4 x0 x1 x2 () x10 x9 w) w) fun nx4=>.lf)) (.sq [sL 0,sI 1,sI 2,(3,.c0 27),sI 9,sI 10] (fun a b c _ d e w=>qa.j7 a b c d e Q (fun x0 x1 x2 x9 x10 w=>nx1 x0 x1 x2 () x9 x10 w) w) .lf (.pr 1 [sL 0,sI 1,sI 2,(3,.c0 27),sI 9,sI 10] (fun a b c _ d e w=>qa.j8 a b c d e Q (fun x0 x1 x2 x9 x10 w=>nx1 x0 x1 x2 () x9 x10 w) w) (.sq [sL 0,sI 1,sI 2,(3,.c0 27),sI 9,sI 10] (fun a b c _ d e w=>qa.j9 a b c d e Q (fun x0 x1 x2 x9 x10 w=>nx1 x0 x1 x2 () x9 x10 w) w) (.sq [sL 0,sI 1,sI 2,(3,.c0 27),sI 9,sI 10,sB 65] (fun a b c _ d e f w=>qa.j12 a b c d e f Q (fun x0 x1 x2 x9 x10 w=>nx1 x0 x1 x2 () x9 x10 w) w) .lf (.cd (.sq [sL 0,sI 1,sI 2,(3,.c0 27),sI 9,sI 10,sI 11] (fun a b c _ d e f w=>qa.j13 a b c d e f Q (fun x0 x1 x2 x9 x10 w=>nx1 x0 x1 x2 () x9 x10 w) w) .lf (.bk (.lo [sL 0,sI 1,sI 2,(3,.c0 27),sI 9,sI 10] [sI 11] (fun a b c _ d e f w=>qa.l3 a b c d e f Q (fun x0 x1 x2 x9 x10 w=>nx1 x0 x1 x2 () x9 x10 w) w) (fun nx3 a b c _ d e f w=>qa.b3 a b c d e f Q (fun x0 x1 x2 x9 x10 w=>nx1 x0 x1 x2 () x9 x10 w) (fun x0 x1 x2 x9 x10 x11 w=>nx3 x0 x1 x2 () x9 x10 x11 w) w) fun nx3=>.lf))) .lf)) (.sq [sL 0,sI 1,sI 2,(3,.c0 27),sI 9,sI 10,sB 104] (fun a b c _ d e f w=>qa.j10 a b c d e f Q (fun x0 x1 x2 x9 x10 w=>nx1 x0 x1 x2 () x9 x10 w) w) .lf (.cd (.sq [sL 0,sI 1,sI 2,(3,.c0 27),sI 9,sI 10,sI 12] (fun a b c _ d e f w=>qa.j11 a b c d e f Q (fun x0 x1 x2 x9 x10 w=>nx1 x0 x1 x2 () x9 x10 w) w) .lf (.bk (.lo [sL 0,sI 1,sI 2,(3,.c0 27),sI 9,sI 10] [sI 12] (fun a b c _ d e f w=>qa.l2 a b c d e f Q (fun x0 x1 x2 x9 x10 w=>nx1 x0 x1 x2 () x9 x10 w) w) (fun nx2 a b c _ d e f w=>qa.b2 a b c d e f Q (fun x0 x1 x2 x9 x10 w=>nx1 x0 x1 x2 () x9 x10 w) (fun x0 x1 x2 x9 x10 x12 w=>nx2 x0 x1 x2 () x9 x10 x12 w) w) fun nx2=>.lf))) .lf))))))) .lf))))) .lf)) (by kernel_rfl) h
def qd.j7 (d_0:Sl) (i_1:Int) (t13:Int) (Q:VWP) (w:World):Prop :=
 lt (World.drew w) fun w1 =>
 ixS d_0.a d_0.len i_1 42 fun a2 =>
 ldA w1 a2 42 fun c3 =>
 ixS d_0.a d_0.len t13 42 fun a4 =>
 ldA w1 a4 42 fun c5 =>
 ixS d_0.a d_0.len t13 42 fun a6 =>
 (c3).size=42 ∧
 stA w1 a6 c3 fun w7 =>
 ixS d_0.a d_0.len i_1 42 fun a8 =>
 (c5).size=42 ∧
 stA w7 a8 c5 fun w9 =>
 Q (.tuple ⟨[.int .i64 t13,.bool false]⟩) w9
def qd.j9 (d_0:Sl) (i_1:Int) (t12 t13:Int) (Q:VWP) (nx1:Sl→Int→Int→Int→WP) (w:World):Prop :=
 br (decide (t12 > t13)) (
 qd.j7 d_0 i_1 t13 Q w) (
 lt (World.drew w) fun w10 =>
 ixS d_0.a d_0.len t13 42 fun a11 =>
 ldA w10 a11 42 fun c12 =>
 ixS d_0.a d_0.len t12 42 fun a13 =>
 ldA w10 a13 42 fun c14 =>
 ixS d_0.a d_0.len t12 42 fun a15 =>
 (c12).size=42 ∧
 stA w10 a15 c12 fun w16 =>
 ixS d_0.a d_0.len t13 42 fun a17 =>
 (c14).size=42 ∧
 stA w16 a17 c14 fun w18 =>
 lt (IntKind.i64.wrap (t12+1)) fun x19 =>
 lt (IntKind.i64.wrap (t13 - 1)) fun x20 =>
 nx1 d_0 i_1 x19 x20 w18)
def qd.b2 (d_0:Sl) (i_1:Int) (t12 t13:Int) (Q:VWP) (nx1 nx2:Sl→Int→Int→Int→WP) (w:World):Prop :=
 lt (World.drew w) fun w21 =>
 br (decide (t12≤t13)) (
 ixS d_0.a d_0.len t13 42 fun a22 =>
 ldA w21 a22 42 fun c23 =>
 ixS d_0.a d_0.len i_1 42 fun a24 =>
 ldA w21 a24 42 fun c25 =>
 qnf 27 [.agg c23,.agg c25] w21 fun r28 w27 =>
 br (!(decide (r28 < 0))) (
 lt (IntKind.i64.wrap (t13 - 1)) fun x29 =>
 nx2 d_0 i_1 t12 x29 w27) (
 qd.j9 d_0 i_1 t12 t13 Q nx1 w27)) (
 qd.j9 d_0 i_1 t12 t13 Q nx1 w21)
def qd.l2 (d_0:Sl) (i_1:Int) (t12 t13:Int) (Q:VWP) (nx1:Sl→Int→Int→Int→WP) (w:World):Prop :=
 ∃ (I:Int→WP) (μ:Int→World→Nat),I t13 w∧∀ t13:Int,∀ w:World,I t13 w→qd.b2 d_0 i_1 t12 t13 Q nx1 (fun d_0' i_1' t12' t13' w'=>(d_0'=d_0∧i_1'=i_1∧t12'=t12)∧I t13' w'∧μ t13' w' < μ t13 w) w
def qd.j8 (d_0:Sl) (i_1:Int) (t12 t13:Int) (Q:VWP) (nx1:Sl→Int→Int→Int→WP) (w:World):Prop :=
 qd.l2 d_0 i_1 t12 t13 Q nx1 w
def qd.b3 (d_0:Sl) (i_1:Int) (t13 t12:Int) (Q:VWP) (nx1 nx3:Sl→Int→Int→Int→WP) (w:World):Prop :=
 lt (World.drew w) fun w30 =>
 br (decide (t12≤t13)) (
 ixS d_0.a d_0.len t12 42 fun a31 =>
 ldA w30 a31 42 fun c32 =>
 ixS d_0.a d_0.len i_1 42 fun a33 =>
 ldA w30 a33 42 fun c34 =>
 qnf 27 [.agg c32,.agg c34] w30 fun r37 w36 =>
 br (decide (r37 < 0)) (
 lt (IntKind.i64.wrap (t12+1)) fun x38 =>
 nx3 d_0 i_1 t13 x38 w36) (
 qd.j8 d_0 i_1 t12 t13 Q nx1 w36)) (
 qd.j8 d_0 i_1 t12 t13 Q nx1 w30)
def qd.l3 (d_0:Sl) (i_1:Int) (t13 t12:Int) (Q:VWP) (nx1:Sl→Int→Int→Int→WP) (w:World):Prop :=
 ∃ (I:Int→WP) (μ:Int→World→Nat),I t12 w∧∀ t12:Int,∀ w:World,I t12 w→qd.b3 d_0 i_1 t13 t12 Q nx1 (fun d_0' i_1' t13' t12' w'=>(d_0'=d_0∧i_1'=i_1∧t13'=t13)∧I t12' w'∧μ t12' w' < μ t12 w) w
def qd.b1 (d_0:Sl) (i_1:Int) (t12 t13:Int) (Q:VWP) (nx1:Sl→Int→Int→Int→WP) (w:World):Prop :=
 qd.l3 d_0 i_1 t13 t12 Q nx1 w
def qd.l1 (d_0:Sl) (i_1:Int) (t12 t13:Int) (Q:VWP) (w:World):Prop :=
 ∃ (I:Int→Int→WP) (μ:Int→Int→World→Nat),I t12 t13 w∧∀ t12:Int,∀ t13:Int,∀ w:World,I t12 t13 w→qd.b1 d_0 i_1 t12 t13 Q (fun d_0' i_1' t12' t13' w'=>(d_0'=d_0∧i_1'=i_1)∧I t12' t13' w'∧μ t12' t13' w' < μ t12 t13 w) w
def qd.j6 (d_0:Sl) (i_1:Int) (t12 t13:Int) (Q:VWP) (w:World):Prop :=
 qd.l1 d_0 i_1 t12 t13 Q w
def qd.j5 (d_0:Sl) (i_1:Int) (t12 t13:Int) (Q:VWP) (w:World):Prop :=
 lt (IntKind.i64.wrap (t12+1)) fun x39 =>
 lt (IntKind.i64.wrap (t13 - 1)) fun x40 =>
 qd.j6 d_0 i_1 x39 x40 Q w
def qd.j4 (d_0:Sl) (i_1:Int) (t12 t13:Int) (Q:VWP) (w:World):Prop :=
 br (decide (t12 > t13)) (
 lt (World.drew w) fun w41 =>
 ixS d_0.a d_0.len i_1 42 fun a42 =>
 ldA w41 a42 42 fun c43 =>
 ixS d_0.a d_0.len t13 42 fun a44 =>
 ldA w41 a44 42 fun c45 =>
 ixS d_0.a d_0.len t13 42 fun a46 =>
 (c43).size=42 ∧
 stA w41 a46 c43 fun w47 =>
 ixS d_0.a d_0.len i_1 42 fun a48 =>
 (c45).size=42 ∧
 stA w47 a48 c45 fun w49 =>
 Q (.tuple ⟨[.int .i64 t13,.bool true]⟩) w49) (
 lt (World.drew w) fun w50 =>
 ixS d_0.a d_0.len t13 42 fun a51 =>
 ldA w50 a51 42 fun c52 =>
 ixS d_0.a d_0.len t12 42 fun a53 =>
 ldA w50 a53 42 fun c54 =>
 ixS d_0.a d_0.len t12 42 fun a55 =>
 (c52).size=42 ∧
 stA w50 a55 c52 fun w56 =>
 ixS d_0.a d_0.len t13 42 fun a57 =>
 (c54).size=42 ∧
 stA w56 a57 c54 fun w58 =>
 qd.j5 d_0 i_1 t12 t13 Q w58)
def qd.b4 (d_0:Sl) (i_1:Int) (t12 t13:Int) (Q:VWP) (nx4:Sl→Int→Int→Int→WP) (w:World):Prop :=
 lt (World.drew w) fun w59 =>
 br (decide (t12≤t13)) (
 ixS d_0.a d_0.len t13 42 fun a60 =>
 ldA w59 a60 42 fun c61 =>
 ixS d_0.a d_0.len i_1 42 fun a62 =>
 ldA w59 a62 42 fun c63 =>
 qnf 27 [.agg c61,.agg c63] w59 fun r66 w65 =>
 br (!(decide (r66 < 0))) (
 lt (IntKind.i64.wrap (t13 - 1)) fun x67 =>
 nx4 d_0 i_1 t12 x67 w65) (
 qd.j4 d_0 i_1 t12 t13 Q w65)) (
 qd.j4 d_0 i_1 t12 t13 Q w59)
def qd.l4 (d_0:Sl) (i_1:Int) (t12 t13:Int) (Q:VWP) (w:World):Prop :=
 ∃ (I:Int→WP) (μ:Int→World→Nat),I t13 w∧∀ t13:Int,∀ w:World,I t13 w→qd.b4 d_0 i_1 t12 t13 Q (fun d_0' i_1' t12' t13' w'=>(d_0'=d_0∧i_1'=i_1∧t12'=t12)∧I t13' w'∧μ t13' w' < μ t13 w) w
def qd.j3 (d_0:Sl) (i_1:Int) (t12 t13:Int) (Q:VWP) (w:World):Prop :=
 qd.l4 d_0 i_1 t12 t13 Q w
def qd.b5 (d_0:Sl) (i_1:Int) (t13 t12:Int) (Q:VWP) (nx5:Sl→Int→Int→Int→WP) (w:World):Prop :=
 lt (World.drew w) fun w68 =>
 br (decide (t12≤t13)) (
 ixS d_0.a d_0.len t12 42 fun a69 =>
 ldA w68 a69 42 fun c70 =>
 ixS d_0.a d_0.len i_1 42 fun a71 =>
 ldA w68 a71 42 fun c72 =>
 qnf 27 [.agg c70,.agg c72] w68 fun r75 w74 =>
 br (decide (r75 < 0)) (
 lt (IntKind.i64.wrap (t12+1)) fun x76 =>
 nx5 d_0 i_1 t13 x76 w74) (
 qd.j3 d_0 i_1 t12 t13 Q w74)) (
 qd.j3 d_0 i_1 t12 t13 Q w68)
def qd.l5 (d_0:Sl) (i_1:Int) (t13 t12:Int) (Q:VWP) (w:World):Prop :=
 ∃ (I:Int→WP) (μ:Int→World→Nat),I t12 w∧∀ t12:Int,∀ w:World,I t12 w→qd.b5 d_0 i_1 t13 t12 Q (fun d_0' i_1' t13' t12' w'=>(d_0'=d_0∧i_1'=i_1∧t13'=t13)∧I t12' w'∧μ t12' w' < μ t12 w) w
def qd.j2 (d_0:Sl) (i_1:Int) (t12 t13:Int) (Q:VWP) (w:World):Prop :=
 qd.l5 d_0 i_1 t13 t12 Q w
def qd.j1 (d_0:Sl) (i_1:Int) (t2 t3:Int) (Q:VWP) (w:World):Prop :=
 lt (World.drew w) fun w77 =>
 ixS d_0.a d_0.len t3 42 fun a78 =>
 ldA w77 a78 42 fun c79 =>
 ixS d_0.a d_0.len i_1 42 fun a80 =>
 ldA w77 a80 42 fun c81 =>
 ixS d_0.a d_0.len i_1 42 fun a82 =>
 (c79).size=42 ∧
 stA w77 a82 c79 fun w83 =>
 ixS d_0.a d_0.len t3 42 fun a84 =>
 (c81).size=42 ∧
 stA w83 a84 c81 fun w85 =>
 lt (IntKind.i64.wrap (i_1+1)) fun x86 =>
 lt (IntKind.i64.wrap (t2 - 1)) fun x87 =>
 qd.j2 d_0 i_1 x86 x87 Q w85
def qd (d_0:Sl) (i_1:Int) (t2 t3:Int) (Q:VWP) (w:World):Prop :=
 qd.j1 d_0 i_1 t2 t3 Q w
theorem qd.ok (d_0:Sl) (i_1:Int) (t2:Int) (t3:Int) (Q:VWP) (w:World) (h:qd d_0 i_1 t2 t3 Q w):Calls Tryz.prog 96 ⟨[sV d_0,.int .i64 i_1,.int .i64 t2,.int .i64 t3,.func (.func 27) ⟨[]⟩ ⟨[]⟩]⟩ w (Ret Q) :=
 qgc [.tmp 10,.tmp 11] qjd Tryz.func96 rfl rfl rfl rfl (.sq [sL 0,sI 1,sI 2,sI 3,(4,.c0 27)] (fun a b c d _ w=>qd.j1 a b c d Q w) .lf (.pr 1 [sL 0,sI 1,(4,.c0 27),sI 12,sI 13] (fun a b _ c d w=>qd.j2 a b c d Q w) (.sq [sL 0,sI 1,(4,.c0 27),sI 12,sI 13] (fun a b _ c d w=>qd.j3 a b c d Q w) (.bk (.lo [sL 0,sI 1,(4,.c0 27),sI 13] [sI 12] (fun a b _ c d w=>qd.l5 a b c d Q w) (fun nx5 a b _ c d w=>qd.b5 a b c d Q (fun x0 x1 x13 x12 w=>nx5 x0 x1 () x13 x12 w) w) fun nx5=>.lf)) (.sq [sL 0,sI 1,(4,.c0 27),sI 12,sI 13] (fun a b _ c d w=>qd.j4 a b c d Q w) (.bk (.lo [sL 0,sI 1,(4,.c0 27),sI 12] [sI 13] (fun a b _ c d w=>qd.l4 a b c d Q w) (fun nx4 a b _ c d w=>qd.b4 a b c d Q (fun x0 x1 x12 x13 w=>nx4 x0 x1 () x12 x13 w) w) fun nx4=>.lf)) (.pr 1 [sL 0,sI 1,(4,.c0 27),sI 12,sI 13] (fun a b _ c d w=>qd.j5 a b c d Q w) (.pr 1 [sL 0,sI 1,(4,.c0 27),sI 12,sI 13] (fun a b _ c d w=>qd.j6 a b c d Q w) (.sq [sL 0,sI 1,sI 13] (fun a b c w=>qd.j7 a b c Q w) (.bk (.lo [sL 0,sI 1,(4,.c0 27)] [sI 12,sI 13] (fun a b _ c d w=>qd.l1 a b c d Q w) (fun nx1 a b _ c d w=>qd.b1 a b c d Q (fun x0 x1 x12 x13 w=>nx1 x0 x1 () x12 x13 w) w) fun nx1=>(.bk (.sq [sL 0,sI 1,(4,.c0 27),sI 12,sI 13] (fun a b _ c d w=>qd.j8 a b c d Q (fun x0 x1 x12 x13 w=>nx1 x0 x1 () x12 x13 w) w) (.bk (.lo [sL 0,sI 1,(4,.c0 27),sI 13] [sI 12] (fun a b _ c d w=>qd.l3 a b c d Q (fun x0 x1 x12 x13 w=>nx1 x0 x1 () x12 x13 w) w) (fun nx3 a b _ c d w=>qd.b3 a b c d Q (fun x0 x1 x12 x13 w=>nx1 x0 x1 () x12 x13 w) (fun x0 x1 x13 x12 w=>nx3 x0 x1 () x13 x12 w) w) fun nx3=>.lf)) (.sq [sL 0,sI 1,(4,.c0 27),sI 12,sI 13] (fun a b _ c d w=>qd.j9 a b c d Q (fun x0 x1 x12 x13 w=>nx1 x0 x1 () x12 x13 w) w) (.bk (.lo [sL 0,sI 1,(4,.c0 27),sI 12] [sI 13] (fun a b _ c d w=>qd.l2 a b c d Q (fun x0 x1 x12 x13 w=>nx1 x0 x1 () x12 x13 w) w) (fun nx2 a b _ c d w=>qd.b2 a b c d Q (fun x0 x1 x12 x13 w=>nx1 x0 x1 () x12 x13 w) (fun x0 x1 x12 x13 w=>nx2 x0 x1 () x12 x13 w) w) fun nx2=>.lf)) .lf))))) .lf))))))) (by kernel_rfl) h
def qf.j6 (d_0:Sl) (i_1:Int) (t2 t3 t12 t13:Int) (Q:VWP) (nx1:Sl→Int→Int→Int→Bool→Bool→WP) (w:World):Prop :=
 ct_IB 96 [sV d_0,.int .i64 i_1,.int .i64 t2,.int .i64 t13,.func (.func 27) ⟨[]⟩ ⟨[]⟩] w fun r3 r4 w2 =>
 lt (IntKind.i64.wrap (r3 - i_1)) fun x5 =>
 lt (IntKind.i64.wrap (t2 - r3)) fun x6 =>
 (8:Int) ≠ 0 ∧
 lt (IntKind.i64.wrap (Int.tdiv t12 8)) fun x7 =>
 br (decide (x5 < x6)) (
 ct_ 61 [sV d_0,.int .i64 i_1,.int .i64 r3,.int .i64 t3,.func (.func 27) ⟨[]⟩ ⟨[]⟩] w2 fun w9 =>
 lt (IntKind.i64.wrap (r3+1)) fun x10 =>
 nx1 d_0 x10 t2 t3 (decide (x5 ≥ x7)) r4 w9) (
 lt (IntKind.i64.wrap (r3+1)) fun x11 =>
 ct_ 61 [sV d_0,.int .i64 x11,.int .i64 t2,.int .i64 t3,.func (.func 27) ⟨[]⟩ ⟨[]⟩] w2 fun w13 =>
 nx1 d_0 i_1 r3 t3 (decide (x6 ≥ x7)) r4 w13)
def qf.j7 (d_0:Sl) (i_1:Int) (t2 t3:Int) (t10:Bool) (t11:Bool) (t12:Int) (t13:Int) (t97:Bool) (Q:VWP) (nx1:Sl→Int→Int→Int→Bool→Bool→WP) (w:World):Prop :=
 br t97 (
 qnf 95 [sV d_0,.int .i64 i_1,.int .i64 t2,.int .i64 t13,.func (.func 27) ⟨[]⟩ ⟨[]⟩] w fun r16 w15 =>
 nx1 d_0 r16 t2 t3 t10 t11 w15) (
 qf.j6 d_0 i_1 t2 t3 t12 t13 Q nx1 w)
def qf.j5 (d_0:Sl) (i_1:Int) (t2 t3:Int) (t10:Bool) (t11:Bool) (t12:Int) (t13:Int) (Q:VWP) (nx1:Sl→Int→Int→Int→Bool→Bool→WP) (w:World):Prop :=
 lt (World.drew w) fun w17 =>
 br (decide (i_1 > 0)) (
 lt (IntKind.i64.wrap (i_1 - 1)) fun x18 =>
 ixS d_0.a d_0.len x18 42 fun a19 =>
 ldA w17 a19 42 fun c20 =>
 ixS d_0.a d_0.len t13 42 fun a21 =>
 ldA w17 a21 42 fun c22 =>
 qnf 27 [.agg c20,.agg c22] w17 fun r25 w24 =>
 qf.j7 d_0 i_1 t2 t3 t10 t11 t12 t13 (!(decide (r25 < 0))) Q nx1 w24) (
 qf.j7 d_0 i_1 t2 t3 t10 t11 t12 t13 false Q nx1 w17)
def qf.j4 (d_0:Sl) (i_1:Int) (t2 t3:Int) (t10:Bool) (t11:Bool) (t12:Int) (t13 t14:Int) (Q:VWP) (nx1:Sl→Int→Int→Int→Bool→Bool→WP) (w:World):Prop :=
 br t10 (
 br t11 (
 br (t14 == 1) (
 qwl 94 [sV d_0,.int .i64 i_1,.int .i64 t2,.func (.func 27) ⟨[]⟩ ⟨[]⟩] w fun r28 w27 =>
 br r28 (
 Q (.tuple ⟨[]⟩) w27) (
 qf.j5 d_0 i_1 t2 t3 t10 t11 t12 t13 Q nx1 w27)) (
 qf.j5 d_0 i_1 t2 t3 t10 t11 t12 t13 Q nx1 w)) (
 qf.j5 d_0 i_1 t2 t3 t10 t11 t12 t13 Q nx1 w)) (
 qf.j5 d_0 i_1 t2 t3 t10 t11 t12 t13 Q nx1 w)
def qf.j3 (d_0:Sl) (i_1:Int) (t2 t3:Int) (t10:Bool) (t11:Bool) (t12:Int) (Q:VWP) (nx1:Sl→Int→Int→Int→Bool→Bool→WP) (w:World):Prop :=
 ct_II 92 [sV d_0,.int .i64 i_1,.int .i64 t2,.func (.func 27) ⟨[]⟩ ⟨[]⟩] w fun r31 r32 w30 =>
 br (r32 == 2) (
 ct_ 93 [sV d_0,.int .i64 i_1,.int .i64 t2,.func (.func 27) ⟨[]⟩ ⟨[]⟩] w30 fun w34 =>
 lt (IntKind.i64.wrap (t2 - 1)) fun x35 =>
 lt (IntKind.i64.wrap (r31 - i_1)) fun x36 =>
 lt (IntKind.i64.wrap (x35 - x36)) fun x37 =>
 qf.j4 d_0 i_1 t2 t3 t10 t11 t12 x37 1 Q nx1 w34) (
 qf.j4 d_0 i_1 t2 t3 t10 t11 t12 r31 r32 Q nx1 w30)
def qf.j2 (d_0:Sl) (i_1:Int) (t2 t3:Int) (t10:Bool) (t11:Bool) (t12:Int) (Q:VWP) (nx1:Sl→Int→Int→Int→Bool→Bool→WP) (w:World):Prop :=
 br (t3 == 0) (
 ct_ 90 [sV d_0,.int .i64 i_1,.int .i64 t2,.func (.func 27) ⟨[]⟩ ⟨[]⟩] w fun w39 =>
 Q (.tuple ⟨[]⟩) w39) (
 br (!t10) (
 ct_ 91 [sV d_0,.int .i64 i_1,.int .i64 t2,.func (.func 27) ⟨[]⟩ ⟨[]⟩] w fun w41 =>
 lt (IntKind.i64.wrap (t3 - 1)) fun x42 =>
 qf.j3 d_0 i_1 t2 x42 t10 t11 t12 Q nx1 w41) (
 qf.j3 d_0 i_1 t2 t3 t10 t11 t12 Q nx1 w))
def qf.b1 (d_0:Sl) (i_1:Int) (t2 t3:Int) (t10:Bool) (t11:Bool) (Q:VWP) (nx1:Sl→Int→Int→Int→Bool→Bool→WP) (w:World):Prop :=
 lt (IntKind.i64.wrap (t2 - i_1)) fun x43 =>
 br (decide (x43≤12)) (
 ct_ 89 [sV d_0,.int .i64 i_1,.int .i64 t2,.func (.func 27) ⟨[]⟩ ⟨[]⟩] w fun w45 =>
 Q (.tuple ⟨[]⟩) w45) (
 qf.j2 d_0 i_1 t2 t3 t10 t11 x43 Q nx1 w)
def qf.l1 (d_0:Sl) (i_1:Int) (t2 t3:Int) (t10:Bool) (t11:Bool) (Q:VWP) (w:World):Prop :=
 ∃ (I:Int→Int→Int→Bool→Bool→WP) (μ:Int→Int→Int→Bool→Bool→World→Nat),I i_1 t2 t3 t10 t11 w∧∀ i_1:Int,∀ t2:Int,∀ t3:Int,∀ t10:Bool,∀ t11:Bool,∀ w:World,I i_1 t2 t3 t10 t11 w→qf.b1 d_0 i_1 t2 t3 t10 t11 Q (fun d_0' i_1' t2' t3' t10' t11' w'=>(d_0'=d_0)∧I i_1' t2' t3' t10' t11' w'∧μ i_1' t2' t3' t10' t11' w' < μ i_1 t2 t3 t10 t11 w) w
def qf.j1 (d_0:Sl) (i_1:Int) (t2 t3:Int) (t10:Bool) (t11:Bool) (Q:VWP) (w:World):Prop :=
 qf.l1 d_0 i_1 t2 t3 t10 t11 Q w
def qf (d_0:Sl) (i_1:Int) (t2 t3:Int) (Q:VWP) (w:World):Prop :=
 qf.j1 d_0 i_1 t2 t3 true true Q w
theorem qf.ok (d_0:Sl) (i_1:Int) (t2:Int) (t3:Int) (Q:VWP) (w:World) (h:qf d_0 i_1 t2 t3 Q w):Calls Tryz.prog 61 ⟨[sV d_0,.int .i64 i_1,.int .i64 t2,.int .i64 t3,.func (.func 27) ⟨[]⟩ ⟨[]⟩]⟩ w (Ret Q) :=
 qgc [] qjd Tryz.func61 rfl rfl rfl rfl (.pr 1 [sL 0,sI 1,sI 2,sI 3,(4,.c0 27),sB 10,sB 11] (fun a b c d _ e f w=>qf.j1 a b c d e f Q w) (.bk (.lo [sL 0,(4,.c0 27)] [sI 1,sI 2,sI 3,sB 10,sB 11] (fun a _ b c d e f w=>qf.l1 a b c d e f Q w) (fun nx1 a _ b c d e f w=>qf.b1 a b c d e f Q (fun x0 x1 x2 x3 x10 x11 w=>nx1 x0 () x1 x2 x3 x10 x11 w) w) fun nx1=>(.bk (.pr 1 [sL 0,sI 1,sI 2,sI 3,(4,.c0 27),sB 10,sB 11,sI 12] (fun a b c d _ e f g w=>qf.j2 a b c d e f g Q (fun x0 x1 x2 x3 x10 x11 w=>nx1 x0 () x1 x2 x3 x10 x11 w) w) (.pr 1 [sL 0,sI 1,sI 2,sI 3,(4,.c0 27),sB 10,sB 11,sI 12] (fun a b c d _ e f g w=>qf.j3 a b c d e f g Q (fun x0 x1 x2 x3 x10 x11 w=>nx1 x0 () x1 x2 x3 x10 x11 w) w) (.pr 1 [sL 0,sI 1,sI 2,sI 3,(4,.c0 27),sB 10,sB 11,sI 12,sI 13,sI 14] (fun a b c d _ e f g h i w=>qf.j4 a b c d e f g h i Q (fun x0 x1 x2 x3 x10 x11 w=>nx1 x0 () x1 x2 x3 x10 x11 w) w) (.sq [sL 0,sI 1,sI 2,sI 3,(4,.c0 27),sB 10,sB 11,sI 12,sI 13] (fun a b c d _ e f g h w=>qf.j5 a b c d e f g h Q (fun x0 x1 x2 x3 x10 x11 w=>nx1 x0 () x1 x2 x3 x10 x11 w) w) .lf (.sq [sL 0,sI 1,sI 2,sI 3,(4,.c0 27),sI 12,sI 13] (fun a b c d _ e f w=>qf.j6 a b c d e f Q (fun x0 x1 x2 x3 x10 x11 w=>nx1 x0 () x1 x2 x3 x10 x11 w) w) (.sq [sL 0,sI 1,sI 2,sI 3,(4,.c0 27),sB 10,sB 11,sI 12,sI 13,sB 97] (fun a b c d _ e f g h i w=>qf.j7 a b c d e f g h i Q (fun x0 x1 x2 x3 x10 x11 w=>nx1 x0 () x1 x2 x3 x10 x11 w) w) .lf .lf) .lf))))))))) (by kernel_rfl) h
def qgd (x_0:Sl) (Q:VWP) (w:World):Prop :=
 lt (IntKind.u64.wrap (x_0.len:Int)) fun x1 =>
 qnf 62 [.int .u64 x1] w fun r4 w3 =>
 ct_ 61 [sV x_0,.int .i64 0,.int .i64 (x_0.len:Int),.int .i64 r4,.func (.func 27) ⟨[]⟩ ⟨[]⟩] w3 fun w6 =>
 Q (.tuple ⟨[]⟩) w6
theorem qgd.ok (x_0:Sl) (Q:VWP) (w:World) (h:qgd x_0 Q w):Calls Tryz.prog 26 ⟨[sV x_0,.func (.func 27) ⟨[]⟩ ⟨[]⟩]⟩ w (Ret Q) :=
 qgc [] qjd Tryz.func26 rfl rfl rfl rfl .lf (by kernel_rfl) h
end Go.Proofs.YtigmbblgfnkpbaaGreat
namespace Go.Proofs.YtigmbblgfnkpbaaGreat
open Go Go.Proofs Go.Sort
set_option linter.unusedVariables false
set_option linter.unusedSimpArgs false
attribute [local irreducible] apK cpK mkK br
abbrev ndR (d:Array Nd):List Value:=d.toList.flatMap ndC
theorem qbe {x:Int} {n:Nat} (h:x=n) (hn:n < 9223372036854775808):IntKind.i64.wrap x=(n:Int):=by rw [h,qm (by omega) (by omega)]
section
variable {F0:List Nat} {w0 w:World} {ps rest:List As} {s:Sl} {d:Array Nd}
theorem St.cmpN {n1 n2:Int} {X:Int→World→Prop} (h:St F0 w0 w (qjb 42 s (ndR d) :: ps)) (i j:Nat) (e1:n1=i) (e2:n2=j) (hi:i < d.size) (hj:j < d.size) (hk:∀ r w',decide (r < 0)=ltN d[i]! d[j]!→St F0 w0 w' (qjb 42 s (ndR d) :: ps)→X r w') :
 ixS s.a s.len n1 42 fun a=>ldA w a 42 fun c=>ixS s.a s.len n2 42 fun a2=>ldA w a2 42 fun c2=>qnf 27 [.agg c,.agg c2] w X:=by
 refine h.lD (s:=s) i e1 hi ?_
 refine h.lD (s:=s) j e2 hj ?_
 exact qxf.c h fun w h=>⟨_,rfl,hk _ w rfl h⟩
theorem qhn {b c:Bool} {A B:Prop} (e:b=c) (ht:c=true→A) (hf:c=false→B):br b A B:=by
 subst e
 exact qnc ht hf
theorem ins_in_size (a:Nat):∀ (j:Nat) (d:Array Nd),(insInner ltN a j d).size=d.size:=by
 intro j
 induction j with
 | zero=>intro d; rfl
 | succ j ih =>
   intro d
   rw [insInner]
   split
   · rw [ih,swp_size]
   · rfl
theorem qwg.c {a b:Nat} {K:Ending→World→Prop} (h:St F0 w0 w (qjb 42 s (ndR d) :: ps)) (hb:b≤d.size) (hL:d.size≤1000000) (ha:a≤1000000)
 (hk:∀ w',St F0 w0 w' (qjb 42 s (ndR (insertionSort ltN d a b)) :: ps)→K (.returned (.tuple ⟨[]⟩)) w') :
 Calls Tryz.prog 89 ⟨[sV s,.int .i64 (a:Int),.int .i64 (b:Int),.func (.func 27) ⟨[]⟩ ⟨[]⟩]⟩ w K:=by
 refine qec (qi.ok _ _ _ _ _ ?_)
 unfold qi qi.j1
 refine qy (qbe (n:=a+1) (by omega) (by omega)) ?_
 refine qud (fun (g:Nat × Array Nd) (i':Int) w'=>i'=(g.1:Int)∧a+1≤g.1∧g.1≤1000001∧g.2.size=d.size∧insOuter ltN a b g.1 g.2=insertionSort ltN d a b∧St F0 w0 w' (qjb 42 s (ndR g.2) :: ps)) (fun g=>1000001 - g.1) (a+1,d) ⟨rfl,Nat.le_refl _,by simp only; omega,rfl,rfl,h⟩ ?_
 clear h
 rintro ⟨i,e⟩ i' wL I μ ⟨rfl,hai,hi,hsz,he,h⟩ hin
 simp only at hai hi hsz he h hin ⊢
 rw [insOuter] at he
 unfold qi.b1
 refine qmc (fun g=>?_) (fun g=>?_)
 · have g:i < b:=by omega
   rw [if_pos g] at he
   unfold qi.j2 qi.j4
   refine qud (fun (g:Nat × Array Nd) (j':Int) w'=>j'=(g.1:Int)∧g.1≤i∧g.2.size=d.size∧insInner ltN a g.1 g.2=insInner ltN a i e∧St F0 w0 w' (qjb 42 s (ndR g.2) :: ps)) (fun g=>g.1) (i,e) ⟨rfl,Nat.le_refl _,hsz,rfl,h⟩ ?_
   clear h
   rintro ⟨j,f⟩ j' wL2 I2 μ2 ⟨rfl,hj,hfz,hf,h⟩ hnx
   simp only at hj hfz hf h hnx ⊢
   have next:∀ w f,f=insInner ltN a i e→St F0 w0 w (qjb 42 s (ndR f) :: ps)→qi.j3 s (a:Int) (b:Int) (i:Int) (fun v w'=>K (.returned v) w') (fun data_0' a_1' b_2' i_8' w'=>(data_0'=s∧a_1'=(a:Int)∧b_2'=(b:Int))∧I i_8' w'∧μ i_8' w' < μ (i:Int) wL) w:=by
    rintro w f rfl h
    unfold qi.j3
    refine qy (qbe (n:=i+1) (by omega) (by omega)) ?_
    exact ⟨⟨rfl,rfl,rfl⟩,hin (i+1,_) _ _ ⟨rfl,by simp only; omega,by simp only; omega,by simp only; rw [ins_in_size]; exact hsz,he,h⟩ (by simp only; omega)⟩
   unfold qi.b2
   refine h.drewK fun w h=>?_
   refine qmc (fun g2=>?_) (fun g2=>?_)
   · obtain ⟨j,rfl⟩:∃ k,j=k+1:=⟨j - 1,by omega⟩
     rw [insInner] at hf
     have g2:j+1 > a:=by omega
     refine h.cmpN (j+1) j rfl (by rw [qbe (n:=j) (by omega) (by omega)]) (by omega) (by omega) fun r w hr h=>?_
     rw [decide_eq_true g2,Bool.true_and] at hf
     refine qhn hr (fun g3=>?_) (fun g3=>?_)
     · rw [if_pos g3] at hf
       refine h.drewK fun w h=>?_
       refine qed (qed ?_)
       refine h.swap (j+1) j (qbe (by omega) (by omega)) rfl rfl (qbe (by omega) (by omega)) (by omega) (by omega) fun w h=>?_
       refine qy (qbe (n:=j) (by omega) (by omega)) ?_
       exact ⟨⟨rfl,rfl,rfl,rfl⟩,hnx (j,swp f (j+1) j) _ _ ⟨rfl,by simp only; omega,by simp only; rw [swp_size]; exact hfz,hf,h⟩ (by simp only; omega)⟩
     · rw [if_neg (by rw [g3]; decide)] at hf
       exact next w f hf h
   · have hff:f=insInner ltN a i e:=by
      rw [← hf]
      cases j with
      | zero=>rfl
      | succ j=>rw [insInner,if_neg (by simp; omega)]
     exact next w f hff h
 · rw [if_neg (by omega)] at he
   subst he
   exact hk wL h
theorem sift_size (hi first:Nat):∀ (n root:Nat) (d:Array Nd),hi - root≤n→(siftDown ltN hi first root d).size=d.size:=by
 intro n
 induction n with
 | zero =>
   intro root d h
   rw [siftDown,dif_pos (by omega)]
 | succ n ih =>
   intro root d h
   rw [siftDown]
   split
   · rfl
   · split
     · split
       · rfl
       · split
         · rw [ih _ _ (by omega),swp_size]
         · rfl
     · split
       · rfl
       · rw [ih _ _ (by omega),swp_size]
theorem qki.c {lo hi first:Nat} {K:Ending→World→Prop} (h:St F0 w0 w (qjb 42 s (ndR d) :: ps)) (hb:first+hi≤d.size) (hL:d.size≤1000000) (hlo:lo≤1000000)
 (hk:∀ w',St F0 w0 w' (qjb 42 s (ndR (siftDown ltN hi first lo d)) :: ps)→K (.returned (.tuple ⟨[]⟩)) w') :
 Calls Tryz.prog 109 ⟨[sV s,.int .i64 (lo:Int),.int .i64 (hi:Int),.int .i64 (first:Int),.func (.func 27) ⟨[]⟩ ⟨[]⟩]⟩ w K:=by
 refine qec (qu.ok _ _ _ _ _ _ ?_)
 unfold qu qu.j1
 refine qud (fun (g:Nat × Array Nd) (i':Int) w'=>i'=(g.1:Int)∧g.1≤1000000∧g.2.size=d.size∧siftDown ltN hi first g.1 g.2=siftDown ltN hi first lo d∧St F0 w0 w' (qjb 42 s (ndR g.2) :: ps)) (fun g=>1000001 - g.1) (lo,d) ⟨rfl,hlo,rfl,rfl,h⟩ ?_
 clear h
 rintro ⟨root,e⟩ i' wL I μ ⟨rfl,hr,hsz,he,h⟩ hin
 simp only at hr hsz he h hin ⊢
 rw [siftDown] at he
 unfold qu.b1
 refine qy (qbe (n:=2 * root) (by omega) (by omega)) (qy (qbe (n:=2 * root+1) (by omega) (by omega)) ?_)
 have step:∀ (c:Nat) w,c < hi→root < c→(if (!ltN e[first+root]! e[first+c]!)=true then e else siftDown ltN hi first c (swp e (first+root) (first+c)))=siftDown ltN hi first lo d→St F0 w0 w (qjb 42 s (ndR e) :: ps) →
  qu.j3 s (hi:Int) (first:Int) (root:Int) (c:Int) (fun v w'=>K (.returned v) w') (fun d_0' t2' t3' t10' w'=>(d_0'=s∧t2'=(hi:Int)∧t3'=(first:Int))∧I t10' w'∧μ t10' w' < μ (root:Int) wL) w:=by
  intro c w hc hrc he h
  unfold qu.j3
  refine h.drewK fun w h=>?_
  refine qy (qbe (n:=first+root) (by omega) (by omega)) ?_
  refine h.lD (s:=s) (first+root) rfl (by omega) ?_
  refine qy (qbe (n:=first+c) (by omega) (by omega)) ?_
  refine h.lD (s:=s) (first+c) rfl (by omega) ?_
  refine qxf.c h fun w h=>⟨_,rfl,?_⟩
  refine qhn (c:=!ltN e[first+root]! e[first+c]!) rfl (fun g=>?_) (fun g=>?_)
  · rw [if_pos g] at he
    rw [he] at h
    exact hk w h
  · rw [if_neg (by rw [g]; decide)] at he
    refine h.drewK fun w h=>?_
    refine qy (qbe (n:=first+root) (by omega) (by omega)) (qy (qbe (n:=first+c) (by omega) (by omega)) (qy (qbe (n:=first+c) (by omega) (by omega)) ?_))
    refine h.lD (s:=s) (first+c) rfl (by omega) ?_
    refine qy (qbe (n:=first+root) (by omega) (by omega)) ?_
    refine h.lD (s:=s) (first+root) rfl (by omega) ?_
    refine h.sD (first+root) rfl (by omega) fun w h=>?_
    refine h.sD (first+c) rfl (by simpa using (by omega:first+c < e.size)) fun w h=>?_
    exact ⟨⟨rfl,rfl,rfl⟩,hin (c,swp e (first+root) (first+c)) _ _ ⟨rfl,by simp only; omega,by simp only; rw [swp_size]; exact hsz,he,h⟩ (by simp only; omega)⟩
 unfold qu.j2
 refine qmc (fun g=>?_) (fun g=>?_)
 · rw [dif_pos (by omega)] at he
   rw [he] at h
   exact hk wL h
 · rw [dif_neg (by omega)] at he
   refine h.drewK fun w h=>?_
   refine qy (qbe (n:=2 * root+2) (by omega) (by omega)) ?_
   refine qmc (fun g2=>?_) (fun g2=>?_)
   · refine qy (qbe (n:=first+(2 * root+1)) (by omega) (by omega)) ?_
     refine h.lD (s:=s) (first+(2 * root+1)) rfl (by omega) ?_
     refine qy (qbe (n:=first+(2 * root+1)) (by omega) (by omega)) (qy (qbe (n:=first+(2 * root+1)+1) (by omega) (by omega)) ?_)
     refine h.lD (s:=s) (first+(2 * root+1)+1) rfl (by omega) ?_
     refine qxf.c h fun w h=>⟨_,rfl,?_⟩
     refine qhn (c:=ltN e[first+(2 * root+1)]! e[first+(2 * root+1)+1]!) rfl (fun g3=>?_) (fun g3=>?_)
     · rw [if_pos (by rw [g3,Bool.and_true]; exact decide_eq_true (by omega)),dif_pos (show 2 * root+2 < hi by omega)] at he
       refine qy (qbe (n:=2 * root+2) (by omega) (by omega)) ?_
       exact step (2 * root+2) w (by omega) (by omega) he h
     · rw [if_neg (by rw [g3,Bool.and_false]; decide)] at he
       exact step (2 * root+1) w (by omega) (by omega) he h
   · rw [if_neg (by rw [decide_eq_false (by omega),Bool.false_and]; decide)] at he
     exact step (2 * root+1) w (by omega) (by omega) he h
theorem qpm.c {a b:Nat} {K:Ending→World→Prop} (h:St F0 w0 w (qjb 42 s (ndR d) :: ps)) (hab:a≤b) (hb:b≤d.size) (hL:d.size≤1000000)
 (hk:∀ w',St F0 w0 w' (qjb 42 s (ndR (heapSort ltN d a b)) :: ps)→K (.returned (.tuple ⟨[]⟩)) w') :
 Calls Tryz.prog 90 ⟨[sV s,.int .i64 (a:Int),.int .i64 (b:Int),.func (.func 27) ⟨[]⟩ ⟨[]⟩]⟩ w K:=by
 refine qec (qk.ok _ _ _ _ _ ?_)
 unfold qk qk.j1
 refine qy (qbe (n:=b - a) (by omega) (by omega)) ?_
 unfold qk.j2 qk.j5
 have hhi:IntKind.i64.wrap (((b - a:Nat):Int) - 1)=(((b - a:Nat):Int) - 1):=qm (by omega) (by omega)
 have htd:IntKind.i64.wrap (Int.tdiv (((b - a:Nat):Int) - 1) 2)=(((b - a - 1) / 2+1:Nat):Int) - 1:=by
  have:Int.tdiv (((b - a:Nat):Int) - 1) 2=(((b - a - 1) / 2:Nat):Int):=by
   rcases Nat.eq_zero_or_pos (b - a) with e | e
   · rw [e]; rfl
   · rw [show ((b - a:Nat):Int) - 1=((b - a - 1:Nat):Int) by omega]
     rfl
  rw [this,qm (by omega) (by omega)]; omega
 refine qy hhi ⟨by decide,qy htd ?_⟩
 refine qud (fun (g:Nat × Array Nd) (i':Int) w'=>i'=(g.1:Int) - 1∧g.1≤1000000∧g.2.size=d.size∧heapBuild ltN (b - a) a g.1 g.2=heapBuild ltN (b - a) a ((b - a - 1) / 2+1) d∧St F0 w0 w' (qjb 42 s (ndR g.2) :: ps)) (fun g=>g.1) ((b - a - 1) / 2+1,d) ⟨rfl,by simp only; omega,rfl,rfl,h⟩ ?_
 clear h
 rintro ⟨k,e⟩ i' wL I μ ⟨rfl,hk1,hsz,he,h⟩ hin
 simp only at hk1 hsz he h hin ⊢
 unfold qk.b2
 refine qmc (fun g=>?_) (fun g=>?_)
 · obtain ⟨k,rfl⟩:∃ j,k=j+1:=⟨k - 1,by omega⟩
   rw [heapBuild] at he
   rw [show ((k+1:Nat):Int) - 1=(k:Int) by omega]
   refine qki.c (lo:=k) (hi:=b - a) (first:=a) h (by omega) (by omega) (by omega) fun w h=>⟨rfl,?_⟩
   refine qy (qm (by omega) (by omega)) ?_
   refine ⟨⟨rfl,rfl,rfl,rfl⟩,?_⟩
   have:=hin (k,_) ((k:Int) - 1) w ⟨rfl,by simp only; omega,by simp only; rw [sift_size _ _ _ _ _ (Nat.le_refl _)]; exact hsz,he,h⟩ (by simp only; omega)
   rw [show ((k+1:Nat):Int) - 1=(k:Int) by omega] at this
   exact this
 · have:k=0:=by omega
   subst this
   rw [heapBuild] at he
   clear hin
   unfold qk.j3 qk.j4
   refine qy hhi ?_
   refine qud (fun (g:Nat × Array Nd) (i':Int) w'=>i'=(g.1:Int) - 1∧g.1≤b - a∧g.2.size=d.size∧heapPop ltN a g.1 g.2=heapSort ltN d a b∧St F0 w0 w' (qjb 42 s (ndR g.2) :: ps)) (fun g=>g.1) (b - a,e) ⟨rfl,Nat.le_refl _,hsz,by rw [heapSort,← he],h⟩ ?_
   clear h
   rintro ⟨k,e⟩ i' wL I μ ⟨rfl,hk1,hsz,he,h⟩ hin
   simp only at hk1 hsz he h hin ⊢
   unfold qk.b1
   refine qmc (fun g=>?_) (fun g=>?_)
   · obtain ⟨k,rfl⟩:∃ j,k=j+1:=⟨k - 1,by omega⟩
     rw [heapPop] at he
     have ek:((k+1:Nat):Int) - 1=(k:Int):=by omega
     rw [ek] at hin ⊢
     refine h.drewK fun w h=>?_
     refine qy (qbe (n:=a+k) (by omega) (by omega)) (qy (qbe (n:=a+k) (by omega) (by omega)) ?_)
     refine h.swap a (a+k) rfl rfl rfl rfl (by omega) (by omega) fun w h=>?_
     refine qki.c (lo:=0) (hi:=k) (first:=a) h (by rw [swp_size]; omega) (by rw [swp_size]; omega) (by omega) fun w h=>⟨rfl,?_⟩
     refine qy (qm (by omega) (by omega)) ?_
     exact ⟨⟨rfl,rfl,rfl⟩,hin (k,_) ((k:Int) - 1) w ⟨rfl,by simp only; omega,by simp only; rw [sift_size _ _ _ _ _ (Nat.le_refl _),swp_size]; exact hsz,he,h⟩ (by simp only; omega)⟩
   · have:k=0:=by omega
     subst this
     rw [heapPop] at he
     rw [he] at h
     exact hk wL h
end
end Go.Proofs.YtigmbblgfnkpbaaGreat
namespace Go.Proofs.YtigmbblgfnkpbaaGreat
open Go Go.Proofs
set_option linter.unusedVariables false
set_option maxRecDepth 100000
def qfi (x_0:Int) (Q:VWP) (w:World):Prop :=
 qnf 98 [.int .u64 x_0] w fun r3 w2 =>
 Q (.int .i64 r3) w2
theorem qfi.ok (x_0:Int) (Q:VWP) (w:World) (h:qfi x_0 Q w):Calls Tryz.prog 62 ⟨[.int .u64 x_0]⟩ w (Ret Q) :=
 qgc [.tmp 2] qjd Tryz.func62 rfl rfl rfl rfl .lf (by kernel_rfl) h
def qkd.j2 (x_0 n_2:Int) (Q:VWP) (w:World):Prop :=
 br (decide (x_0 ≥ 256)) (
 (0:Int)≤8 ∧
 lt (shrV .u64 x_0 8) fun x1 =>
 lt (IntKind.i64.wrap (n_2+8)) fun x2 =>
 lt (IntKind.u8.wrap x1) fun x3 =>
 ((0:Int)≤x3∧x3 < (ByteArray.size ({ data:=(List.toArray (List.append (List.append [0,1,2,2,3,3,3,3,4,4,4,4,4,4,4,4,5,5,5,5,5,5,5,5,5,5,5,5,5,5,5,5,6,6,6,6,6,6,6,6,6,6,6,6,6,6,6,6,6,6,6,6,6,6,6,6,6,6,6,6,6,6,6,6] [7,7,7,7,7,7,7,7,7,7,7,7,7,7,7,7,7,7,7,7,7,7,7,7,7,7,7,7,7,7,7,7,7,7,7,7,7,7,7,7,7,7,7,7,7,7,7,7,7,7,7,7,7,7,7,7,7,7,7,7,7,7,7,7]) (List.append [8,8,8,8,8,8,8,8,8,8,8,8,8,8,8,8,8,8,8,8,8,8,8,8,8,8,8,8,8,8,8,8,8,8,8,8,8,8,8,8,8,8,8,8,8,8,8,8,8,8,8,8,8,8,8,8,8,8,8,8,8,8,8,8] [8,8,8,8,8,8,8,8,8,8,8,8,8,8,8,8,8,8,8,8,8,8,8,8,8,8,8,8,8,8,8,8,8,8,8,8,8,8,8,8,8,8,8,8,8,8,8,8,8,8,8,8,8,8,8,8,8,8,8,8,8,8,8,8]))) }):Int)) ∧
 lt (byteAt ({ data:=(List.toArray (List.append (List.append [0,1,2,2,3,3,3,3,4,4,4,4,4,4,4,4,5,5,5,5,5,5,5,5,5,5,5,5,5,5,5,5,6,6,6,6,6,6,6,6,6,6,6,6,6,6,6,6,6,6,6,6,6,6,6,6,6,6,6,6,6,6,6,6] [7,7,7,7,7,7,7,7,7,7,7,7,7,7,7,7,7,7,7,7,7,7,7,7,7,7,7,7,7,7,7,7,7,7,7,7,7,7,7,7,7,7,7,7,7,7,7,7,7,7,7,7,7,7,7,7,7,7,7,7,7,7,7,7]) (List.append [8,8,8,8,8,8,8,8,8,8,8,8,8,8,8,8,8,8,8,8,8,8,8,8,8,8,8,8,8,8,8,8,8,8,8,8,8,8,8,8,8,8,8,8,8,8,8,8,8,8,8,8,8,8,8,8,8,8,8,8,8,8,8,8] [8,8,8,8,8,8,8,8,8,8,8,8,8,8,8,8,8,8,8,8,8,8,8,8,8,8,8,8,8,8,8,8,8,8,8,8,8,8,8,8,8,8,8,8,8,8,8,8,8,8,8,8,8,8,8,8,8,8,8,8,8,8,8,8]))) }) (Int.toNat x3)) fun x4 =>
 lt (IntKind.i64.wrap x4) fun x5 =>
 lt (IntKind.i64.wrap (x2+x5)) fun x6 =>
 Q (.int .i64 x6) w) (
 lt (IntKind.u8.wrap x_0) fun x7 =>
 ((0:Int)≤x7∧x7 < (ByteArray.size ({ data:=(List.toArray (List.append (List.append [0,1,2,2,3,3,3,3,4,4,4,4,4,4,4,4,5,5,5,5,5,5,5,5,5,5,5,5,5,5,5,5,6,6,6,6,6,6,6,6,6,6,6,6,6,6,6,6,6,6,6,6,6,6,6,6,6,6,6,6,6,6,6,6] [7,7,7,7,7,7,7,7,7,7,7,7,7,7,7,7,7,7,7,7,7,7,7,7,7,7,7,7,7,7,7,7,7,7,7,7,7,7,7,7,7,7,7,7,7,7,7,7,7,7,7,7,7,7,7,7,7,7,7,7,7,7,7,7]) (List.append [8,8,8,8,8,8,8,8,8,8,8,8,8,8,8,8,8,8,8,8,8,8,8,8,8,8,8,8,8,8,8,8,8,8,8,8,8,8,8,8,8,8,8,8,8,8,8,8,8,8,8,8,8,8,8,8,8,8,8,8,8,8,8,8] [8,8,8,8,8,8,8,8,8,8,8,8,8,8,8,8,8,8,8,8,8,8,8,8,8,8,8,8,8,8,8,8,8,8,8,8,8,8,8,8,8,8,8,8,8,8,8,8,8,8,8,8,8,8,8,8,8,8,8,8,8,8,8,8]))) }):Int)) ∧
 lt (byteAt ({ data:=(List.toArray (List.append (List.append [0,1,2,2,3,3,3,3,4,4,4,4,4,4,4,4,5,5,5,5,5,5,5,5,5,5,5,5,5,5,5,5,6,6,6,6,6,6,6,6,6,6,6,6,6,6,6,6,6,6,6,6,6,6,6,6,6,6,6,6,6,6,6,6] [7,7,7,7,7,7,7,7,7,7,7,7,7,7,7,7,7,7,7,7,7,7,7,7,7,7,7,7,7,7,7,7,7,7,7,7,7,7,7,7,7,7,7,7,7,7,7,7,7,7,7,7,7,7,7,7,7,7,7,7,7,7,7,7]) (List.append [8,8,8,8,8,8,8,8,8,8,8,8,8,8,8,8,8,8,8,8,8,8,8,8,8,8,8,8,8,8,8,8,8,8,8,8,8,8,8,8,8,8,8,8,8,8,8,8,8,8,8,8,8,8,8,8,8,8,8,8,8,8,8,8] [8,8,8,8,8,8,8,8,8,8,8,8,8,8,8,8,8,8,8,8,8,8,8,8,8,8,8,8,8,8,8,8,8,8,8,8,8,8,8,8,8,8,8,8,8,8,8,8,8,8,8,8,8,8,8,8,8,8,8,8,8,8,8,8]))) }) (Int.toNat x7)) fun x8 =>
 lt (IntKind.i64.wrap x8) fun x9 =>
 lt (IntKind.i64.wrap (n_2+x9)) fun x10 =>
 Q (.int .i64 x10) w)
def qkd.j1 (x_0 n_2:Int) (Q:VWP) (w:World):Prop :=
 br (decide (x_0 ≥ 65536)) (
 (0:Int)≤16 ∧
 lt (shrV .u64 x_0 16) fun x11 =>
 lt (IntKind.i64.wrap (n_2+16)) fun x12 =>
 qkd.j2 x11 x12 Q w) (
 qkd.j2 x_0 n_2 Q w)
def qkd (x_0:Int) (Q:VWP) (w:World):Prop :=
 br (decide (x_0 ≥ 4294967296)) (
 (0:Int)≤32 ∧
 lt (shrV .u64 x_0 32) fun x13 =>
 qkd.j1 x13 32 Q w) (
 qkd.j1 x_0 0 Q w)
theorem qkd.ok (x_0:Int) (Q:VWP) (w:World) (h:qkd x_0 Q w):Calls Tryz.prog 98 ⟨[.int .u64 x_0]⟩ w (Ret Q) :=
 qgc [.tmp 2] qjd Tryz.func98 rfl rfl rfl rfl (.pr 1 [(0,.I .u64),sI 2] (fun a b w=>qkd.j1 a b Q w) (.sq [(0,.I .u64),sI 2] (fun a b w=>qkd.j2 a b Q w) .lf .lf)) (by kernel_rfl) h
end Go.Proofs.YtigmbblgfnkpbaaGreat
namespace Go.Proofs.YtigmbblgfnkpbaaGreat
open Go Go.Proofs Go.Sort
set_option linter.unusedVariables false
set_option linter.unusedSimpArgs false
attribute [local irreducible] apK cpK mkK br
theorem tab_i {T:ByteArray} {x:Int} {K:Int→Prop} (hT:((List.range 256).all fun i=>decide (0≤byteAt T i) && (decide (byteAt T i≤8) && (decide (i=0) || decide (2 ^ (byteAt T i).toNat≤2 * i))))=true) (hs:T.size=256) (h0:0≤x) (h1:x < 256)
 (hk:∀ z:Nat,z≤8→(x=0 ∨ 2 ^ z≤2 * x.toNat)→K z):((0:Int)≤x∧x < (ByteArray.size T:Int))∧lt (byteAt T x.toNat) K:=by
 refine ⟨⟨h0,by rw [hs]; omega⟩,?_⟩
 have:=(List.all_eq_true.1 hT) x.toNat (List.mem_range.2 (by omega))
 simp only [Bool.and_eq_true,Bool.or_eq_true,decide_eq_true_eq] at this
 obtain ⟨a,b,c⟩:=this
 refine qy (show byteAt T x.toNat=(((byteAt T x.toNat).toNat:Nat):Int) by omega) ?_
 refine hk _ (by omega) ?_
 rcases c with c | c
 · left; omega
 · right; exact c
section
variable {F0:List Nat} {w0 w:World} {ps rest:List As} {s:Sl} {d:Array Nd}
theorem len_j2.c {x n:Int} {Q:VWP} (h0:0≤x) (h1:x < 65536) (hn:0≤n) (hn2:n≤64) (hk:∀ z:Nat,z≤16→(x=0 ∨ 2 ^ z≤2 * x.toNat)→Q (.int .i64 (n+z)) w):qkd.j2 x n Q w:=by
 unfold qkd.j2
 refine qmc (fun g=>?_) (fun g=>?_)
 · refine ⟨by decide,qy (qdh .u64 x (t:=8) (by decide)) (qy (qm (by omega) (by omega)) (qy (e':=x / 256) ?_ ?_))⟩
   · rw [quh]; omega
   refine tab_i (by decide +kernel) (by decide +kernel) (by omega) (by omega) fun z hz hz2=>?_
   refine qy (qm (by omega) (by omega)) (qy (qm (by omega) (by omega)) ?_)
   have:=hk (8+z) (by omega) (Or.inr ?_)
   · rw [show n+((8+z:Nat):Int)=n+8+(z:Int) by omega] at this
     exact this
   · rw [Nat.pow_add]
     have:2 ^ z≤2 * (x / 256).toNat:=by omega
     omega
 · refine qy (e':=x) (by rw [quh]; omega) ?_
   refine tab_i (by decide +kernel) (by decide +kernel) (by omega) (by omega) fun z hz hz2=>?_
   refine qy (qm (by omega) (by omega)) (qy (qm (by omega) (by omega)) ?_)
   exact hk z (by omega) hz2
theorem qfi.c {n:Nat} {K:Ending→World→Prop} (hn:n≤1000000) (hk:∀ z:Nat,z≤32→(n=0 ∨ 2 ^ z≤2 * n)→K (.returned (.int .i64 (z:Int))) w) :
 Calls Tryz.prog 62 ⟨[.int .u64 (n:Int)]⟩ w K:=by
 refine qec (qfi.ok _ _ _ ?_)
 unfold qfi
 refine qec (qkd.ok _ _ _ ?_)
 unfold qkd
 refine qmc (fun g=>by exfalso; omega) (fun g=>?_)
 unfold qkd.j1
 refine qmc (fun g=>?_) (fun g=>?_)
 · refine ⟨by decide,qy (qdh .u64 (n:Int) (t:=16) (by decide)) (qy (qm (by omega) (by omega)) ?_)⟩
   refine len_j2.c (by omega) (by omega) (by omega) (by omega) fun z hz hz2=>⟨_,rfl,?_⟩
   have:=hk (16+z) (by omega) (Or.inr ?_)
   · rw [show (0:Int)+16+(z:Int)=((16+z:Nat):Int) by omega]
     exact this
   · rw [Nat.pow_add]
     have:2 ^ z≤2 * ((n:Int) / 2 ^ 16).toNat:=by omega
     omega
 · refine len_j2.c (by omega) (by omega) (by omega) (by omega) fun z hz hz2=>⟨_,rfl,?_⟩
   rw [show (0:Int)+(z:Int)=(z:Int) by omega]
   exact hk z (by omega) (by omega)
theorem nextPow.c {n:Nat} {K:Ending→World→Prop} (hn:n≤1000000) (hk:∀ z:Nat,z≤32→(n=0 ∨ 2 ^ z≤2 * n)→K (.returned (.int .u64 ((2 ^ z:Nat):Int))) w) :
 Calls Tryz.prog 110 ⟨[.int .i64 (n:Int)]⟩ w K:=by
 refine qec (qge.ok _ _ _ ?_)
 unfold qge
 refine qy (show IntKind.u64.wrap (n:Int)=(n:Int) by rw [qee]; omega) ?_
 refine qfi.c hn fun z hz hz2=>⟨_,rfl,by omega,?_⟩
 have hp:2 ^ z≤2 ^ 32:=Nat.pow_le_pow_right (by decide) hz
 have e:((2 ^ z:Nat):Int)=(2:Int) ^ z:=by simp
 refine qy (show qpf .u64 1 (z:Int)=((2 ^ z:Nat):Int) from ?_) (hk z hz hz2)
 rw [shlV_nat .u64 (t:=z) (Nat.le_trans hz (by decide)) (by decide) (by rw [Int.one_mul,← e]; exact Int.lt_of_le_of_lt (Int.ofNat_le.2 hp) (by decide)),Int.one_mul,e]
theorem zc_xor:zc Tryz.prog 156=⟨[.int .u64 0]⟩:=by kernel_rfl
theorem zc_i64:zc Tryz.prog 3=⟨[.int .i64 0]⟩:=by kernel_rfl
theorem xorNext.c {b:Nat} {v:Int} {K:Ending→World→Prop} (h:St F0 w0 w ps) [PkB b ps [.int .u64 v] rest] (hk:∀ v' w',St F0 w0 w' (qnb b [.int .u64 v'] :: rest)→K (.returned (.int .u64 v')) w') :
 Calls Tryz.prog 111 ⟨[.pointer (some ⟨b,0,none⟩)]⟩ w K:=by
 refine qec (qme.ok _ _ _ ?_)
 unfold qme
 refine (h.toB b).drewK fun w h=>?_
 refine qde (h.fI (b:=b) (qde (h.fI (b:=b) ⟨by decide,qed (qed (qde (h.fst (b:=b) trivial fun w h=>?_)))⟩)))
 refine h.drewK fun w h=>?_
 refine qde (h.fI (b:=b) (qde (h.fI (b:=b) ⟨by decide,qed (qed (qde (h.fst (b:=b) trivial fun w h=>?_)))⟩)))
 refine h.drewK fun w h=>?_
 refine qde (h.fI (b:=b) (qde (h.fI (b:=b) ⟨by decide,qed (qed (qde (h.fst (b:=b) trivial fun w h=>?_)))⟩)))
 refine qde (h.fI (b:=b) ?_)
 exact hk _ w h
theorem breakPatterns.c {a b:Nat} {K:Ending→World→Prop} (h:St F0 w0 w (qjb 42 s (ndR d) :: ps)) (hab:a≤b) (hb:b≤d.size) (hL:d.size≤1000000)
 (hk:∀ d' w',PermIn a b d d'→St F0 w0 w' (qjb 42 s (ndR d') :: ps)→K (.returned (.tuple ⟨[]⟩)) w') :
 Calls Tryz.prog 91 ⟨[sV s,.int .i64 (a:Int),.int .i64 (b:Int),.func (.func 27) ⟨[]⟩ ⟨[]⟩]⟩ w K:=by
 refine qec (qh.ok _ _ _ _ _ ?_)
 unfold qh
 generalize hl:b - a=l
 refine qy (qbe (n:=l) (by omega) (by omega)) ?_
 unfold qh.j1
 refine qmc (fun g=>?_) (fun g=>hk d w (permIn_refl _ _ _) h)
 refine qed ?_
 rw [zc_xor]
 refine h.new fun xb w h=>?_
 have h:St F0 w0 w (qnb xb [.int .u64 0] :: qjb 42 s (ndR d) :: ps):=h
 refine h.fst (b:=xb) trivial fun w h=>?_
 unfold qh.j2
 refine nextPow.c (n:=l) (by omega) fun z hz hz2=>⟨_,rfl,?_⟩
 have hp:2 ^ z≤2 * l:=by omega
 have htd:Int.tdiv (l:Int) 4=((l / 4:Nat):Int):=rfl
 rw [htd]
 refine ⟨by decide,qy (qbe (n:=l / 4) (by omega) (by omega)) (qy (qbe (n:=l / 4 * 2) (by omega) (by omega)) (qy (qbe (n:=a+l / 4 * 2) (by omega) (by omega)) (qy (qbe (n:=a+l / 4 * 2 - 1) (by omega) (by omega)) ?_)))⟩
 unfold qh.j3
 refine qud (fun (g:Nat × Array Nd × Int) (i':Int) w'=>i'=(g.1:Int)∧a+l / 4 * 2 - 1≤g.1∧g.1≤a+l / 4 * 2+2∧PermIn a b d g.2.1∧St F0 w0 w' (qnb xb [.int .u64 g.2.2] :: qjb 42 s (ndR g.2.1) :: ps)) (fun g=>a+l / 4 * 2+2 - g.1) (a+l / 4 * 2 - 1,d,_) ⟨rfl,Nat.le_refl _,by simp only; omega,permIn_refl _ _ _,h⟩ ?_
 clear h
 rintro ⟨i,e,v⟩ i' wL I μ ⟨rfl,hi1,hi2,hpe,h⟩ hin
 simp only at hi1 hi2 hpe h hin ⊢
 unfold qh.b1
 rw [htd]
 refine ⟨by decide,qy (qbe (n:=l / 4) (by omega) (by omega)) (qy (qbe (n:=l / 4 * 2) (by omega) (by omega)) (qy (qbe (n:=a+l / 4 * 2) (by omega) (by omega)) (qy (qbe (n:=a+l / 4 * 2+1) (by omega) (by omega)) ?_)))⟩
 refine qmc (fun g2=>?_) (fun g2=>hk e wL hpe h.drop)
 unfold qh.j4
 refine xorNext.c (b:=xb) h fun v' w h=>⟨_,rfl,?_⟩
 have hpz:0 < 2 ^ z:=Nat.two_pow_pos z
 have hm:andV .u64 v' (IntKind.u64.wrap (((2 ^ z:Nat):Int) - 1))=(((v' % 2 ^ z).toNat:Nat):Int):=by
  rw [qee,Int.emod_eq_of_lt (by omega) (by omega)]
  have e1:(((2 ^ z:Nat):Int) - 1)=2 ^ z - 1:=by simp
  rw [e1,qkm .u64 v' (t:=z) (Nat.lt_of_le_of_lt hz (by decide)),Int.toNat_of_nonneg]
  exact Int.emod_nonneg _ (by have:(0:Int) < 2 ^ z:=Int.pow_pos (by decide); omega)
 have hlt:(v' % 2 ^ z).toNat < 2 ^ z:=by
  have h2:(0:Int) < 2 ^ z:=Int.pow_pos (by decide)
  have:=Int.emod_lt_of_pos v' h2
  have e1:((2 ^ z:Nat):Int)=(2:Int) ^ z:=by simp
  omega
 generalize (v' % 2 ^ z).toNat=o at hm hlt
 refine qed (qy hm (qy (qbe (n:=o) rfl (by omega)) ?_))
 have hsz:e.size=d.size:=hpe.1
 have fin:∀ (q:Nat),q < l→qh.j6 s (a:Int) (l:Int) ⟨xb,0,none⟩ ((2 ^ z:Nat):Int) (i:Int) (q:Int) (fun v w'=>K (.returned v) w') (fun d_0' i_1' t8' t9' t10' t11' w'=>(d_0'=s∧i_1'=(a:Int)∧t8'=(l:Int)∧t9'=⟨xb,0,none⟩∧t10'=((2 ^ z:Nat):Int))∧I t11' w'∧μ t11' w' < μ (i:Int) wL) w:=by
  intro q hq
  unfold qh.j6
  refine h.at1.drewK fun w h=>?_
  refine qy (qbe (n:=a+q) (by omega) (by omega)) (qy (qbe (n:=a+q) (by omega) (by omega)) ?_)
  refine h.swap i (a+q) rfl rfl rfl rfl (by omega) (by omega) fun w h=>?_
  unfold qh.j5
  refine qy (qbe (n:=i+1) (by omega) (by omega)) ?_
  exact ⟨⟨rfl,rfl,rfl,rfl,rfl⟩,hin (i+1,swp e i (a+q),v') _ _ ⟨rfl,by simp only; omega,by simp only; omega,permIn_trans _ _ _ _ _ hpe (swp_permIn _ _ _ _ _ (by omega) (by omega) (by omega) (by omega) (by omega)),h.at1⟩ (by simp only; omega)⟩
 refine qmc (fun g3=>?_) (fun g3=>?_)
 · refine qy (qbe (n:=o - l) (by omega) (by omega)) ?_
   exact fin (o - l) (by omega)
 · exact fin o (by omega)
theorem order2.c {b i j:Nat} {v:Int} {K:Ending→World→Prop} (h:St F0 w0 w (qnb b [.int .i64 v] :: qjb 42 s (ndR d) :: ps)) (hi:i < d.size) (hj:j < d.size)
 (hk:∀ (x y:Nat) v' w',(x=i∧y=j ∨ x=j∧y=i)→St F0 w0 w' (qnb b [.int .i64 v'] :: qjb 42 s (ndR d) :: ps)→K (.returned (.tuple ⟨[.int .i64 (x:Int),.int .i64 (y:Int)]⟩)) w') :
 Calls Tryz.prog 117 ⟨[sV s,.int .i64 (i:Int),.int .i64 (j:Int),.pointer (some ⟨b,0,none⟩),.func (.func 27) ⟨[]⟩ ⟨[]⟩]⟩ w K:=by
 refine qec (qxc.ok _ _ _ _ _ _ ?_)
 unfold qxc
 refine h.drewK fun w h=>?_
 have h:St F0 w0 w (qjb 42 s (ndR d) :: qnb b [.int .i64 v] :: ps):=h.at1
 refine h.cmpN j i rfl rfl hj hi fun r w hr h=>?_
 have h:St F0 w0 w (qnb b [.int .i64 v] :: qjb 42 s (ndR d) :: ps):=h.at1
 refine qnc (fun g=>?_) (fun g=>?_)
 · refine qde (h.fI (b:=b) (qed (qde (h.fst (b:=b) trivial fun w h=>?_))))
   exact hk j i _ w (Or.inr ⟨rfl,rfl⟩) h
 · exact hk i j _ w (Or.inl ⟨rfl,rfl⟩) h
theorem median.c {b i j k:Nat} {v:Int} {K:Ending→World→Prop} (h:St F0 w0 w (qnb b [.int .i64 v] :: qjb 42 s (ndR d) :: ps)) (hi:i < d.size) (hj:j < d.size) (hk':k < d.size)
 (hk:∀ (x:Nat) v' w',(x=i ∨ x=j ∨ x=k)→St F0 w0 w' (qnb b [.int .i64 v'] :: qjb 42 s (ndR d) :: ps)→K (.returned (.int .i64 (x:Int))) w') :
 Calls Tryz.prog 113 ⟨[sV s,.int .i64 (i:Int),.int .i64 (j:Int),.int .i64 (k:Int),.pointer (some ⟨b,0,none⟩),.func (.func 27) ⟨[]⟩ ⟨[]⟩]⟩ w K:=by
 refine qec (qyc.ok _ _ _ _ _ _ _ ?_)
 unfold qyc
 refine order2.c h hi hj fun x1 y1 v1 w e1 h=>⟨_,_,rfl,?_⟩
 refine order2.c h (i:=y1) (by omega) hk' fun x2 y2 v2 w e2 h=>⟨_,_,rfl,?_⟩
 refine order2.c h (i:=x1) (by omega) (j:=x2) (by omega) fun x3 y3 v3 w e3 h=>⟨_,_,rfl,?_⟩
 exact hk y3 _ w (by omega) h
theorem medianAdj.c {b i:Nat} {v:Int} {K:Ending→World→Prop} (h:St F0 w0 w (qnb b [.int .i64 v] :: qjb 42 s (ndR d) :: ps)) (hi:1≤i) (hj:i+1 < d.size) (hL:d.size≤1000000)
 (hk:∀ (x:Nat) v' w',(x=i - 1 ∨ x=i ∨ x=i+1)→St F0 w0 w' (qnb b [.int .i64 v'] :: qjb 42 s (ndR d) :: ps)→K (.returned (.int .i64 (x:Int))) w') :
 Calls Tryz.prog 112 ⟨[sV s,.int .i64 (i:Int),.pointer (some ⟨b,0,none⟩),.func (.func 27) ⟨[]⟩ ⟨[]⟩]⟩ w K:=by
 refine qec (qlc.ok _ _ _ _ _ ?_)
 unfold qlc
 refine qy (qbe (n:=i - 1) (by omega) (by omega)) (qy (qbe (n:=i+1) (by omega) (by omega)) ?_)
 refine median.c h (by omega) (by omega) (by omega) fun x v w e h=>⟨_,rfl,?_⟩
 exact hk x v w e h
theorem choosePivot.c {a b:Nat} {K:Ending→World→Prop} (h:St F0 w0 w (qjb 42 s (ndR d) :: ps)) (hab:a < b) (hb:b≤d.size) (hL:d.size≤1000000)
 (hk:∀ (p:Nat) (t:Int) w',a≤p→p < b→St F0 w0 w' (qjb 42 s (ndR d) :: ps)→K (.returned (.tuple ⟨[.int .i64 (p:Int),.int .i64 t]⟩)) w') :
 Calls Tryz.prog 92 ⟨[sV s,.int .i64 (a:Int),.int .i64 (b:Int),.func (.func 27) ⟨[]⟩ ⟨[]⟩]⟩ w K:=by
 refine qec (qv.ok _ _ _ _ _ ?_)
 unfold qv qv.j1
 generalize hl:b - a=l
 refine qy (qbe (n:=l) (by omega) (by omega)) ?_
 rw [zc_i64]
 refine h.new fun xb w h=>?_
 have h:St F0 w0 w (qnb xb [.int .i64 0] :: qjb 42 s (ndR d) :: ps):=h
 have htd:Int.tdiv (l:Int) 4=((l / 4:Nat):Int):=rfl
 unfold qv.j2
 rw [htd]
 refine ⟨by decide,qy (qbe (n:=l / 4) (by omega) (by omega)) (qy (qbe (n:=l / 4 * 1) (by omega) (by omega)) (qy (qbe (n:=a+l / 4 * 1) (by omega) (by omega)) ?_))⟩
 refine ⟨by decide,qy (qbe (n:=l / 4) (by omega) (by omega)) (qy (qbe (n:=l / 4 * 2) (by omega) (by omega)) (qy (qbe (n:=a+l / 4 * 2) (by omega) (by omega)) ?_))⟩
 unfold qv.j3
 rw [htd]
 refine ⟨by decide,qy (qbe (n:=l / 4) (by omega) (by omega)) (qy (qbe (n:=l / 4 * 3) (by omega) (by omega)) (qy (qbe (n:=a+l / 4 * 3) (by omega) (by omega)) ?_))⟩
 have fin:∀ (p:Nat) (v:Int) w,a≤p→p < b→St F0 w0 w (qnb xb [.int .i64 v] :: qjb 42 s (ndR d) :: ps)→qv.j4 ⟨xb,0,none⟩ (p:Int) (fun v w'=>K (.returned v) w') w:=by
  intro p v w h1 h2 h
  unfold qv.j4
  refine h.fI (b:=xb) ?_
  refine qnc (fun g=>hk p _ w h1 h2 h.drop) (fun g=>?_)
  exact qnc (fun g=>hk p _ w h1 h2 h.drop) (fun g=>hk p _ w h1 h2 h.drop)
 refine qmc (fun g=>?_) (fun g=>fin _ _ w (by omega) (by omega) h)
 refine qmc (fun g2=>?_) (fun g2=>?_)
 · refine medianAdj.c h (by omega) (by omega) hL fun x1 v w e1 h=>⟨_,rfl,?_⟩
   refine medianAdj.c h (by omega) (by omega) hL fun x2 v w e2 h=>⟨_,rfl,?_⟩
   refine medianAdj.c h (by omega) (by omega) hL fun x3 v w e3 h=>⟨_,rfl,?_⟩
   refine median.c h (i:=x1) (j:=x2) (k:=x3) (by omega) (by omega) (by omega) fun x v w e h=>⟨_,rfl,?_⟩
   exact fin x v w (by omega) (by omega) h
 · refine median.c h (by omega) (by omega) (by omega) fun x v w e h=>⟨_,rfl,?_⟩
   exact fin x v w (by omega) (by omega) h
theorem reverseRange.c {a b:Nat} {K:Ending→World→Prop} (h:St F0 w0 w (qjb 42 s (ndR d) :: ps)) (hab:a < b) (hb:b≤d.size) (hL:d.size≤1000000)
 (hk:∀ d' w',PermIn a b d d'→St F0 w0 w' (qjb 42 s (ndR d') :: ps)→K (.returned (.tuple ⟨[]⟩)) w') :
 Calls Tryz.prog 93 ⟨[sV s,.int .i64 (a:Int),.int .i64 (b:Int),.func (.func 27) ⟨[]⟩ ⟨[]⟩]⟩ w K:=by
 refine qec (qhb.ok _ _ _ _ _ ?_)
 unfold qhb qhb.j1
 refine qy (qbe (n:=b - 1) (by omega) (by omega)) ?_
 refine qbf (fun (g:Nat × Nat × Array Nd) (i' j':Int) w'=>i'=(g.1:Int)∧j'=(g.2.1:Int)∧a≤g.1∧g.1≤g.2.1+1∧g.2.1 < b∧PermIn a b d g.2.2∧St F0 w0 w' (qjb 42 s (ndR g.2.2) :: ps)) (fun g=>g.2.1+1 - g.1) (a,b - 1,d) ⟨rfl,rfl,Nat.le_refl _,by simp only; omega,by simp only; omega,permIn_refl _ _ _,h⟩ ?_
 clear h
 rintro ⟨i,j,e⟩ i' j' wL I μ ⟨rfl,rfl,h1,h2,h3,hpe,h⟩ hin
 simp only at h1 h2 h3 hpe h hin ⊢
 have hsz:e.size=d.size:=hpe.1
 unfold qhb.b1
 refine qmc (fun g=>?_) (fun g=>hk e wL hpe h)
 refine h.drewK fun w h=>?_
 refine h.swap i j rfl rfl rfl rfl (by omega) (by omega) fun w h=>?_
 refine qy (qbe (n:=i+1) (by omega) (by omega)) (qy (qbe (n:=j - 1) (by omega) (by omega)) ?_)
 exact ⟨rfl,hin (i+1,j - 1,swp e i j) _ _ _ ⟨rfl,rfl,by simp only; omega,by simp only; omega,by simp only; omega,permIn_trans _ _ _ _ _ hpe (swp_permIn _ _ _ _ _ (by omega) (by omega) (by omega) (by omega) (by omega)),h⟩ (by simp only; omega)⟩
end
end Go.Proofs.YtigmbblgfnkpbaaGreat
namespace Go.Proofs.YtigmbblgfnkpbaaGreat
open Go Go.Proofs Go.Sort
set_option linter.unusedVariables false
set_option linter.unusedSimpArgs false
attribute [local irreducible] apK cpK mkK br
section
variable {F0:List Nat} {w0 w:World} {ps rest:List As} {s:Sl} {d:Array Nd}
theorem sc_go {b i:Nat} (h1:i < b) (h2:ltN d[i]! d[i - 1]! = false):scanSorted ltN d b i=scanSorted ltN d b (i+1):=by
 rw [scanSorted,if_pos (by rw [h2,decide_eq_true h1]; rfl)]
theorem sc_no {b i:Nat} (h:i < b→ltN d[i]! d[i - 1]! = true):scanSorted ltN d b i=i:=by
 rw [scanSorted,if_neg]
 by_cases g:i < b
 · rw [h g]; simp
 · simp [g]
theorem sd_go {j:Nat} (h:ltN d[j+1]! d[j]! = true):shiftDown ltN (j+1) d=shiftDown ltN j (swp d (j+1) j):=by
 rw [shiftDown,h]; rfl
theorem sd_no {j:Nat} (h:1≤j→ltN d[j]! d[j - 1]! = false):shiftDown ltN j d=d:=by
 cases j with
 | zero=>rfl
 | succ j=>rw [shiftDown,show ltN d[j+1]! d[j]! = false from h (by omega)]; rfl
theorem su_go {b j:Nat} (h1:j < b) (h:ltN d[j]! d[j - 1]! = true):shiftUp ltN b j d=shiftUp ltN b (j+1) (swp d j (j - 1)):=by
 rw [shiftUp,if_pos h1,h]; rfl
theorem su_no {b j:Nat} (h:j < b→ltN d[j]! d[j - 1]! = false):shiftUp ltN b j d=d:=by
 rw [shiftUp]
 split
 · rename_i g
   rw [h g]; rfl
 · rfl
theorem pi_eq {a b n i i1:Nat} {e:Array Nd} (h:scanSorted ltN e b i=i1):partialIns ltN a b (n+1) i e=if i1=b then (e,true) else if b - a < 50 then (e,false) else
 partialIns ltN a b n i1 (if b - i1 ≥ 2 then shiftUp ltN b (i1+1) (if i1 - a ≥ 2 then shiftDown ltN (i1 - 1) (swp e i1 (i1 - 1)) else swp e i1 (i1 - 1)) else (if i1 - a ≥ 2 then shiftDown ltN (i1 - 1) (swp e i1 (i1 - 1)) else swp e i1 (i1 - 1))):=by
 subst h
 rfl
theorem partialIns.c {a b:Nat} {K:Ending→World→Prop} (h:St F0 w0 w (qjb 42 s (ndR d) :: ps)) (hab:a < b) (hb:b≤d.size) (hL:d.size≤1000000)
 (hk:∀ w',St F0 w0 w' (qjb 42 s (ndR (partialInsertionSort ltN d a b).1) :: ps)→K (.returned (.bool (partialInsertionSort ltN d a b).2)) w') :
 Calls Tryz.prog 94 ⟨[sV s,.int .i64 (a:Int),.int .i64 (b:Int),.func (.func 27) ⟨[]⟩ ⟨[]⟩]⟩ w K:=by
 refine qec (qa.ok _ _ _ _ _ ?_)
 unfold qa qa.j1 qa.j3
 refine qy (qbe (n:=a+1) (by omega) (by omega)) ?_
 generalize hR:partialInsertionSort ltN d a b=R at hk
 unfold partialInsertionSort at hR
 refine qbf (fun (g:Nat × Nat × Array Nd) (i' t':Int) w'=>i'=(g.2.1:Int)∧t'=5 - (g.1:Int)∧g.1≤5∧a+1≤g.2.1∧g.2.1≤b∧g.2.2.size=d.size∧partialIns ltN a b g.1 g.2.1 g.2.2=R∧St F0 w0 w' (qjb 42 s (ndR g.2.2) :: ps)) (fun g=>g.1) (5,a+1,d) ⟨rfl,rfl,Nat.le_refl _,Nat.le_refl _,by simp only; omega,rfl,hR,h⟩ ?_
 clear h hR
 rintro ⟨n,i,e⟩ i' t' wL I μ ⟨rfl,rfl,hn,hi1,hi2,hsz,hR,h⟩ hin
 simp only at hn hi1 hi2 hsz hR h hin ⊢
 unfold qa.b1
 refine qmc (fun g=>?_) (fun g=>?_)
 rotate_left
 · have:n=0:=by omega
   subst this
   unfold qa.j2
   rw [partialIns] at hR
   subst hR
   exact hk wL h
 obtain ⟨n,rfl⟩:∃ k,n=k+1:=⟨n - 1,by omega⟩
 unfold qa.j4
 generalize hs1:scanSorted ltN e b i=i1
 rw [pi_eq hs1] at hR
 refine qud (fun (g:Nat) (i':Int) w'=>i'=(g:Int)∧a+1≤g∧g≤b∧scanSorted ltN e b g=i1∧St F0 w0 w' (qjb 42 s (ndR e) :: ps)) (fun g=>b - g) i ⟨rfl,hi1,hi2,hs1,h⟩ ?_
 clear h hi1 hi2 hs1
 rintro i' _ wL2 I2 μ2 ⟨rfl,hi1,hi2,hs1,h⟩ hnx
 try simp only at hi1 hi2 hs1 h hnx ⊢
 unfold qa.b4
 refine h.drewK fun w h=>?_
 have stop:∀ w,i'=i1→St F0 w0 w (qjb 42 s (ndR e) :: ps)→qa.j6 s (a:Int) (b:Int) (i':Int) (5 - ((n+1:Nat):Int)) (fun v w'=>K (.returned v) w') (fun d_0' i_1' t2' t9' t10' w'=>(d_0'=s∧i_1'=(a:Int)∧t2'=(b:Int))∧I t9' t10' w'∧μ t9' t10' w' < μ (i:Int) (5 - ((n+1:Nat):Int)) wL) w:=by
  rintro w rfl h
  unfold qa.j6
  refine qnc (fun g2=>?_) (fun g2=>?_)
  · have g2:i'=b:=by have:(i':Int)=b:=by simpa using g2
                     omega
    rw [if_pos g2] at hR
    subst hR
    exact hk w h
  have g2:¬ i'=b:=by
   intro e1
   subst e1
   simp at g2
  rw [if_neg g2] at hR
  unfold qa.j7
  refine qy (qbe (n:=b - a) (by omega) (by omega)) ?_
  refine qmc (fun g3=>?_) (fun g3=>?_)
  · rw [if_pos (by omega)] at hR
    subst hR
    exact hk w h
  rw [if_neg (by omega)] at hR
  refine h.drewK fun w h=>?_
  refine qy (qbe (n:=i' - 1) (by omega) (by omega)) (qy (qbe (n:=i' - 1) (by omega) (by omega)) ?_)
  refine h.swap i' (i' - 1) rfl rfl rfl rfl (by omega) (by omega) fun w h=>?_
  generalize hA:swp e i' (i' - 1)=A at hR h
  have hAz:A.size=d.size:=by rw [← hA,swp_size]; exact hsz
  have last:∀ (C:Array Nd) w,C.size=d.size→partialIns ltN a b n i' C=R→St F0 w0 w (qjb 42 s (ndR C) :: ps)→qa.j5 s (a:Int) (b:Int) (i':Int) (5 - ((n+1:Nat):Int)) (fun v w'=>K (.returned v) w') (fun d_0' i_1' t2' t9' t10' w'=>(d_0'=s∧i_1'=(a:Int)∧t2'=(b:Int))∧I t9' t10' w'∧μ t9' t10' w' < μ (i:Int) (5 - ((n+1:Nat):Int)) wL) w:=by
   intro C w hC hRC h
   unfold qa.j5
   refine qy (e':=5 - (n:Int)) (by rw [qm (by omega) (by omega)]; omega) ?_
   exact ⟨⟨rfl,rfl,rfl⟩,hin (n,i',C) _ _ _ ⟨rfl,rfl,by simp only; omega,hi1,hi2,hC,hRC,h⟩ (by simp only; omega)⟩
  have up:∀ (B:Array Nd) w,B.size=d.size→partialIns ltN a b n i' (if b - i' ≥ 2 then shiftUp ltN b (i'+1) B else B)=R→St F0 w0 w (qjb 42 s (ndR B) :: ps)→qa.j9 s (a:Int) (b:Int) (i':Int) (5 - ((n+1:Nat):Int)) (fun v w'=>K (.returned v) w') (fun d_0' i_1' t2' t9' t10' w'=>(d_0'=s∧i_1'=(a:Int)∧t2'=(b:Int))∧I t9' t10' w'∧μ t9' t10' w' < μ (i:Int) (5 - ((n+1:Nat):Int)) wL) w:=by
   intro B w hB hRB h
   unfold qa.j9
   refine qy (qbe (n:=b - i') (by omega) (by omega)) ?_
   unfold qa.j10
   refine qmc (fun g4=>?_) (fun g4=>?_)
   · rw [if_pos (by omega)] at hRB
     refine qy (qbe (n:=i'+1) (by omega) (by omega)) ?_
     unfold qa.j11
     refine qud (fun (g:Nat × Array Nd) (j':Int) w'=>j'=(g.1:Int)∧1≤g.1∧g.1≤b∧g.2.size=d.size∧partialIns ltN a b n i' (shiftUp ltN b g.1 g.2)=R∧St F0 w0 w' (qjb 42 s (ndR g.2) :: ps)) (fun g=>b - g.1) (i'+1,B) ⟨rfl,by simp only; omega,by simp only; omega,hB,hRB,h⟩ ?_
     clear h
     rintro ⟨j,C⟩ _ wL3 I3 μ3 ⟨rfl,hj1,hj2,hC,hRC,h⟩ hn3
     simp only at hj1 hj2 hC hRC h hn3 ⊢
     unfold qa.b2
     refine qmc (fun g5=>?_) (fun g5=>?_)
     · refine h.drewK fun w h=>?_
       refine h.cmpN j (j - 1) rfl (by rw [qbe (n:=j - 1) (by omega) (by omega)]) (by omega) (by omega) fun r w hr h=>?_
       refine qhn (c:=!ltN C[j]! C[j - 1]!) (by rw [hr]) (fun g6=>?_) (fun g6=>?_)
       · rw [su_no (fun _=>by simpa using g6)] at hRC
         exact last C w hC hRC h
       · rw [su_go (by omega) (by simpa using g6)] at hRC
         refine h.drewK fun w h=>?_
         refine qy (qbe (n:=j - 1) (by omega) (by omega)) (qy (qbe (n:=j - 1) (by omega) (by omega)) ?_)
         refine h.swap j (j - 1) rfl rfl rfl rfl (by omega) (by omega) fun w h=>?_
         refine qy (qbe (n:=j+1) (by omega) (by omega)) ?_
         exact ⟨⟨rfl,rfl,rfl,rfl,rfl⟩,hn3 (j+1,swp C j (j - 1)) _ _ ⟨rfl,by simp only; omega,by simp only; omega,by simp only; rw [swp_size]; exact hC,hRC,h⟩ (by simp only; omega)⟩
     · rw [su_no (fun g6=>by exfalso; omega)] at hRC
       exact last C wL3 hC hRC h
   · rw [if_neg (by omega)] at hRB
     exact last B w hB hRB h
  unfold qa.j8
  refine qy (qbe (n:=i' - a) (by omega) (by omega)) ?_
  unfold qa.j12
  refine qmc (fun g4=>?_) (fun g4=>?_)
  · rw [if_pos (show i' - a ≥ 2 by omega)] at hR
    refine qy (qbe (n:=i' - 1) (by omega) (by omega)) ?_
    unfold qa.j13
    refine qud (fun (g:Nat × Array Nd) (j':Int) w'=>j'=(g.1:Int)∧g.1 < b∧g.2.size=d.size∧shiftDown ltN g.1 g.2=shiftDown ltN (i' - 1) A∧St F0 w0 w' (qjb 42 s (ndR g.2) :: ps)) (fun g=>g.1) (i' - 1,A) ⟨rfl,by simp only; omega,hAz,rfl,h⟩ ?_
    clear h
    rintro ⟨j,C⟩ _ wL3 I3 μ3 ⟨rfl,hj2,hC,hRC,h⟩ hn3
    simp only at hj2 hC hRC h hn3 ⊢
    have out:∀ w,C=shiftDown ltN (i' - 1) A→St F0 w0 w (qjb 42 s (ndR C) :: ps)→qa.j9 s (a:Int) (b:Int) (i':Int) (5 - ((n+1:Nat):Int)) (fun v w'=>K (.returned v) w') (fun d_0' i_1' t2' t9' t10' w'=>(d_0'=s∧i_1'=(a:Int)∧t2'=(b:Int))∧I t9' t10' w'∧μ t9' t10' w' < μ (i:Int) (5 - ((n+1:Nat):Int)) wL) w:=by
     intro w hC2 h
     rw [← hC2] at hR
     exact up C w hC hR h
    unfold qa.b3
    refine qmc (fun g5=>?_) (fun g5=>?_)
    · obtain ⟨j,rfl⟩:∃ k,j=k+1:=⟨j - 1,by omega⟩
      refine h.drewK fun w h=>?_
      refine h.cmpN (j+1) j rfl (by rw [qbe (n:=j) (by omega) (by omega)]) (by omega) (by omega) fun r w hr h=>?_
      refine qhn (c:=!ltN C[j+1]! C[j]!) (by rw [hr]) (fun g6=>?_) (fun g6=>?_)
      · rw [sd_no (fun _=>by simpa using g6)] at hRC
        exact out w hRC h
      · rw [sd_go (by simpa using g6)] at hRC
        refine h.drewK fun w h=>?_
        refine qy (qbe (n:=j) (by omega) (by omega)) (qy (qbe (n:=j) (by omega) (by omega)) ?_)
        refine h.swap (j+1) j rfl rfl rfl rfl (by omega) (by omega) fun w h=>?_
        refine qy (qbe (n:=j) (by omega) (by omega)) ?_
        exact ⟨⟨rfl,rfl,rfl,rfl,rfl⟩,hn3 (j,swp C (j+1) j) _ _ ⟨rfl,by simp only; omega,by simp only; rw [swp_size]; exact hC,hRC,h⟩ (by simp only; omega)⟩
    · rw [sd_no (fun g6=>by exfalso; omega)] at hRC
      exact out wL3 hRC h
  · rw [if_neg (show ¬ i' - a ≥ 2 by omega)] at hR
    exact up A w hAz hR h
 refine qmc (fun g1=>?_) (fun g1=>?_)
 · refine h.cmpN i' (i' - 1) rfl (by rw [qbe (n:=i' - 1) (by omega) (by omega)]) (by omega) (by omega) fun r w hr h=>?_
   refine qhn (c:=!ltN e[i']! e[i' - 1]!) (by rw [hr]) (fun g2=>?_) (fun g2=>?_)
   · rw [sc_go (by omega) (by simpa using g2)] at hs1
     refine qy (qbe (n:=i'+1) (by omega) (by omega)) ?_
     exact ⟨⟨rfl,rfl,rfl,rfl⟩,hnx (i'+1) _ _ ⟨rfl,by omega,by omega,hs1,h⟩ (by omega)⟩
   · rw [sc_no (fun _=>by simpa using g2)] at hs1
     exact stop w hs1 h
 · rw [sc_no (fun g2=>by exfalso; omega)] at hs1
   exact stop w hs1 h
theorem up_go {p:Nd→Bool} {i j:Nat} (h1:i≤j) (h2:p d[i]! = true):scanUp p d j i=scanUp p d j (i+1):=by
 rw [scanUp,if_pos (by rw [h2,decide_eq_true h1]; rfl)]
theorem up_no {p:Nd→Bool} {i j:Nat} (h:i≤j→p d[i]! = false):scanUp p d j i=i:=by
 rw [scanUp,if_neg]
 by_cases g:i≤j
 · rw [h g]; simp
 · simp [g]
theorem dn_go {p:Nd→Bool} {i j:Nat} (h1:i≤j+1) (h2:p d[j+1]! = true):scanDown p d i (j+1)=scanDown p d i j:=by
 rw [scanDown,if_pos (by rw [h2,decide_eq_true h1]; rfl)]
theorem dn_no {p:Nd→Bool} {i j:Nat} (h:i≤j→p d[j]! = false):scanDown p d i j=j:=by
 cases j with
 | zero=>rfl
 | succ j =>
   rw [scanDown,if_neg]
   by_cases g:i≤j+1
   · rw [h g]; simp
   · simp [g]
theorem pt_eq {a b p i1 j1:Nat} {d0:Array Nd} (h0:swp d a p=d0) (hi:scanUp (fun x=>ltN x d0[a]!) d0 (b - 1) (a+1)=i1) (hj:scanDown (fun x=>!ltN x d0[a]!) d0 i1 (b - 1)=j1) :
 partition ltN d a b p=if i1 > j1 then (j1,true,swp d0 j1 a) else ((partLoop ltN a (i1+1) (j1 - 1) (swp d0 i1 j1)).1,false,swp (partLoop ltN a (i1+1) (j1 - 1) (swp d0 i1 j1)).2 (partLoop ltN a (i1+1) (j1 - 1) (swp d0 i1 j1)).1 a):=by
 subst h0
 subst hi
 subst hj
 rfl
theorem pl_eq {a i j i1 j1:Nat} {e:Array Nd} (hi:scanUp (fun x=>ltN x e[a]!) e j i=i1) (hj:scanDown (fun x=>!ltN x e[a]!) e i1 j=j1) :
 partLoop ltN a i j e=if i1 > j1 then (j1,e) else partLoop ltN a (i1+1) (j1 - 1) (swp e i1 j1):=by
 rw [partLoop_eq,hi,hj]
theorem partition.c {a b p:Nat} {K:Ending→World→Prop} (h:St F0 w0 w (qjb 42 s (ndR d) :: ps)) (hp1:a≤p) (hp2:p < b) (hb:b≤d.size) (hL:d.size≤1000000)
 (hk:∀ w',St F0 w0 w' (qjb 42 s (ndR (partition ltN d a b p).2.2) :: ps)→K (.returned (.tuple ⟨[.int .i64 ((partition ltN d a b p).1:Int),.bool (partition ltN d a b p).2.1]⟩)) w') :
 Calls Tryz.prog 96 ⟨[sV s,.int .i64 (a:Int),.int .i64 (b:Int),.int .i64 (p:Int),.func (.func 27) ⟨[]⟩ ⟨[]⟩]⟩ w K:=by
 refine qec (qd.ok _ _ _ _ _ _ ?_)
 unfold qd qd.j1
 generalize hR:partition ltN d a b p=R at hk
 generalize hd:swp d a p=d0
 generalize hi:scanUp (fun x=>ltN x d0[a]!) d0 (b - 1) (a+1)=i1
 generalize hj:scanDown (fun x=>!ltN x d0[a]!) d0 i1 (b - 1)=j1
 rw [pt_eq hd hi hj] at hR
 refine h.drewK fun w h=>?_
 refine h.swap a p rfl rfl rfl rfl (by omega) (by omega) fun w h=>?_
 rw [hd] at h
 have hsz:d0.size=d.size:=by rw [← hd,swp_size]
 refine qy (qbe (n:=a+1) (by omega) (by omega)) (qy (qbe (n:=b - 1) (by omega) (by omega)) ?_)
 unfold qd.j2
 refine qud (fun (g:Nat) (i':Int) w'=>i'=(g:Int)∧a+1≤g∧g≤b∧scanUp (fun x=>ltN x d0[a]!) d0 (b - 1) g=i1∧St F0 w0 w' (qjb 42 s (ndR d0) :: ps)) (fun g=>b - g) (a+1) ⟨rfl,Nat.le_refl _,by omega,hi,h⟩ ?_
 clear h hi
 rintro i _ wL I μ ⟨rfl,h1,h2,hi,h⟩ hin
 try simp only at h1 h2 hi h hin ⊢
 unfold qd.b5
 refine h.drewK fun w h=>?_
 have stop:∀ w,i=i1→St F0 w0 w (qjb 42 s (ndR d0) :: ps)→qd.j3 s (a:Int) (i:Int) ((b - 1:Nat):Int) (fun v w'=>K (.returned v) w') w:=by
  rintro w rfl h
  clear hin
  unfold qd.j3
  refine qud (fun (g:Nat) (j':Int) w'=>j'=(g:Int)∧a≤g∧g < b∧scanDown (fun x=>!ltN x d0[a]!) d0 i g=j1∧St F0 w0 w' (qjb 42 s (ndR d0) :: ps)) (fun g=>g) (b - 1) ⟨rfl,by omega,by omega,hj,h⟩ ?_
  clear h hj
  rintro j _ wL I μ ⟨rfl,h3,h4,hj,h⟩ hin
  try simp only at h3 h4 hj h hin ⊢
  have fin:∀ w,j=j1→St F0 w0 w (qjb 42 s (ndR d0) :: ps)→qd.j4 s (a:Int) (i:Int) (j:Int) (fun v w'=>K (.returned v) w') w:=by
   rintro w rfl h
   clear hin
   unfold qd.j4
   refine qmc (fun g=>?_) (fun g=>?_)
   · rw [if_pos (by omega)] at hR
     refine h.drewK fun w h=>?_
     refine h.swap j a rfl rfl rfl rfl (by omega) (by omega) fun w h=>?_
     subst hR
     exact hk w h
   rw [if_neg (by omega)] at hR
   refine h.drewK fun w h=>?_
   refine h.swap i j rfl rfl rfl rfl (by omega) (by omega) fun w h=>?_
   unfold qd.j5 qd.j6
   refine qy (qbe (n:=i+1) (by omega) (by omega)) (qy (qbe (n:=j - 1) (by omega) (by omega)) ?_)
   generalize hP:partLoop ltN a (i+1) (j - 1) (swp d0 i j)=P at hR
   refine qbf (fun (g:Nat × Nat × Array Nd) (i' j':Int) w'=>i'=(g.1:Int)∧j'=(g.2.1:Int)∧a < g.1∧a≤g.2.1∧g.1≤b+1∧g.2.1 < b∧g.2.2.size=d.size∧partLoop ltN a g.1 g.2.1 g.2.2=P∧St F0 w0 w' (qjb 42 s (ndR g.2.2) :: ps)) (fun g=>g.2.1+1 - g.1) (i+1,j - 1,swp d0 i j)
    ⟨rfl,rfl,by simp only; omega,by simp only; omega,by simp only; omega,by simp only; omega,by simp only; rw [swp_size]; exact hsz,hP,h⟩ ?_
   clear h hP h1 h2 h3 h4 hi hj g
   rintro ⟨i0,j0,e⟩ _ _ wL I μ ⟨rfl,rfl,h1,h2,h3,h4,hez,hP,h⟩ hin
   simp only at h1 h2 h3 h4 hez hP h hin ⊢
   generalize hi:scanUp (fun x=>ltN x e[a]!) e j0 i0=i1
   generalize hj:scanDown (fun x=>!ltN x e[a]!) e i1 j0=j1
   rw [pl_eq hi hj] at hP
   have q1:i0≤i1:=by rw [← hi]; exact scanUp_ge _ _ _ _
   have q2:j1≤j0:=by rw [← hj]; exact scanDown_le _ _ _ _
   unfold qd.b1
   refine qud (fun (g:Nat) (i':Int) w'=>i'=(g:Int)∧a < g∧g≤b+1∧scanUp (fun x=>ltN x e[a]!) e j0 g=i1∧St F0 w0 w' (qjb 42 s (ndR e) :: ps)) (fun g=>b+1 - g) i0 ⟨rfl,h1,h3,hi,h⟩ ?_
   clear h hi
   rintro ia _ wL2 I2 μ2 ⟨rfl,k1,k2,hi,h⟩ hnx
   try simp only at k1 k2 hi h hnx ⊢
   have out:∀ w,ia=i1→St F0 w0 w (qjb 42 s (ndR e) :: ps)→qd.j8 s (a:Int) (ia:Int) (j0:Int) (fun v w'=>K (.returned v) w') (fun d_0' i_1' t12' t13' w'=>(d_0'=s∧i_1'=(a:Int))∧I t12' t13' w'∧μ t12' t13' w' < μ (i0:Int) (j0:Int) wL) w:=by
    rintro w rfl h
    clear hnx
    unfold qd.j8
    refine qud (fun (g:Nat) (j':Int) w'=>j'=(g:Int)∧a≤g∧g < b∧scanDown (fun x=>!ltN x e[a]!) e ia g=j1∧St F0 w0 w' (qjb 42 s (ndR e) :: ps)) (fun g=>g) j0 ⟨rfl,h2,h4,hj,h⟩ ?_
    clear h hj
    rintro ja _ wL3 I3 μ3 ⟨rfl,m1,m2,hj,h⟩ hn3
    try simp only at m1 m2 hj h hn3 ⊢
    have end':∀ w,ja=j1→St F0 w0 w (qjb 42 s (ndR e) :: ps)→qd.j9 s (a:Int) (ia:Int) (ja:Int) (fun v w'=>K (.returned v) w') (fun d_0' i_1' t12' t13' w'=>(d_0'=s∧i_1'=(a:Int))∧I t12' t13' w'∧μ t12' t13' w' < μ (i0:Int) (j0:Int) wL) w:=by
     rintro w rfl h
     clear hn3
     unfold qd.j9
     refine qmc (fun g=>?_) (fun g=>?_)
     · rw [if_pos (by omega)] at hP
       unfold qd.j7
       refine h.drewK fun w h=>?_
       refine h.swap ja a rfl rfl rfl rfl (by omega) (by omega) fun w h=>?_
       subst hP
       subst hR
       exact hk w h
     · rw [if_neg (by omega)] at hP
       refine h.drewK fun w h=>?_
       refine h.swap ia ja rfl rfl rfl rfl (by omega) (by omega) fun w h=>?_
       refine qy (qbe (n:=ia+1) (by omega) (by omega)) (qy (qbe (n:=ja - 1) (by omega) (by omega)) ?_)
       exact ⟨⟨rfl,rfl⟩,hin (ia+1,ja - 1,swp e ia ja) _ _ _ ⟨rfl,rfl,by simp only; omega,by simp only; omega,by simp only; omega,by simp only; omega,by simp only; rw [swp_size]; exact hez,hP,h⟩ (by simp only; omega)⟩
    unfold qd.b2
    refine h.drewK fun w h=>?_
    refine qmc (fun g=>?_) (fun g=>?_)
    · obtain ⟨ja,rfl⟩:∃ k,ja=k+1:=⟨ja - 1,by omega⟩
      refine h.cmpN (ja+1) a rfl rfl (by omega) (by omega) fun r w hr h=>?_
      refine qhn (c:=!ltN e[ja+1]! e[a]!) (by rw [hr]) (fun g2=>?_) (fun g2=>?_)
      · rw [dn_go (p:=fun x=>!ltN x e[a]!) (by omega) g2] at hj
        refine qy (qbe (n:=ja) (by omega) (by omega)) ?_
        exact ⟨⟨rfl,rfl,rfl⟩,hn3 ja _ _ ⟨rfl,by omega,by omega,hj,h⟩ (by omega)⟩
      · rw [dn_no (p:=fun x=>!ltN x e[a]!) (fun _=>g2)] at hj
        exact end' w hj h
    · rw [dn_no (p:=fun x=>!ltN x e[a]!) (fun g2=>by exfalso; omega)] at hj
      exact end' w hj h
   unfold qd.b3
   refine h.drewK fun w h=>?_
   refine qmc (fun g=>?_) (fun g=>?_)
   · refine h.cmpN ia a rfl rfl (by omega) (by omega) fun r w hr h=>?_
     refine qhn (c:=ltN e[ia]! e[a]!) hr (fun g2=>?_) (fun g2=>?_)
     · rw [up_go (p:=fun x=>ltN x e[a]!) (by omega) g2] at hi
       refine qy (qbe (n:=ia+1) (by omega) (by omega)) ?_
       exact ⟨⟨rfl,rfl,rfl⟩,hnx (ia+1) _ _ ⟨rfl,by omega,by omega,hi,h⟩ (by omega)⟩
     · rw [up_no (p:=fun x=>ltN x e[a]!) (fun _=>g2)] at hi
       exact out w hi h
   · rw [up_no (p:=fun x=>ltN x e[a]!) (fun g2=>by exfalso; omega)] at hi
     exact out w hi h
  unfold qd.b4
  refine h.drewK fun w h=>?_
  refine qmc (fun g=>?_) (fun g=>?_)
  · obtain ⟨j,rfl⟩:∃ k,j=k+1:=⟨j - 1,by omega⟩
    refine h.cmpN (j+1) a rfl rfl (by omega) (by omega) fun r w hr h=>?_
    refine qhn (c:=!ltN d0[j+1]! d0[a]!) (by rw [hr]) (fun g2=>?_) (fun g2=>?_)
    · rw [dn_go (p:=fun x=>!ltN x d0[a]!) (by omega) g2] at hj
      refine qy (qbe (n:=j) (by omega) (by omega)) ?_
      exact ⟨⟨rfl,rfl,rfl⟩,hin j _ _ ⟨rfl,by omega,by omega,hj,h⟩ (by omega)⟩
    · rw [dn_no (p:=fun x=>!ltN x d0[a]!) (fun _=>g2)] at hj
      exact fin w hj h
  · rw [dn_no (p:=fun x=>!ltN x d0[a]!) (fun g2=>by exfalso; omega)] at hj
    exact fin w hj h
 refine qmc (fun g=>?_) (fun g=>?_)
 · refine h.cmpN i a rfl rfl (by omega) (by omega) fun r w hr h=>?_
   refine qhn (c:=ltN d0[i]! d0[a]!) hr (fun g2=>?_) (fun g2=>?_)
   · rw [up_go (p:=fun x=>ltN x d0[a]!) (by omega) g2] at hi
     refine qy (qbe (n:=i+1) (by omega) (by omega)) ?_
     exact ⟨⟨rfl,rfl,rfl⟩,hin (i+1) _ _ ⟨rfl,by omega,by omega,hi,h⟩ (by omega)⟩
   · rw [up_no (p:=fun x=>ltN x d0[a]!) (fun _=>g2)] at hi
     exact stop w hi h
 · rw [up_no (p:=fun x=>ltN x d0[a]!) (fun g2=>by exfalso; omega)] at hi
   exact stop w hi h
end
end Go.Proofs.YtigmbblgfnkpbaaGreat
namespace Go.Proofs.YtigmbblgfnkpbaaGreat
open Go Go.Proofs Go.Sort
set_option linter.unusedVariables false
set_option linter.unusedSimpArgs false
attribute [local irreducible] apK cpK mkK br
theorem swoN:SWO ltN:=⟨fun x=>qhf _,fun x y z=>qri,fun x y z=>ltI_ntrans⟩
theorem qtm {a b:Nat} {d d':Array Nd} (hb:b≤d.size) (h:PermIn a b d d'):d'.toList.Perm d.toList:=by
 have h0:PermIn 0 d.size d d':=permIn_mono _ _ a b 0 d.size (Nat.zero_le _) hb (Nat.le_refl _) h
 have h1:=h0.2.2
 have e1:d.extract 0 d.size=d:=by simp
 have e2:d'.extract 0 d.size=d':=by rw [← h0.1]; simp
 rw [e1,e2] at h1
 exact h1
def Dst (d:Array Nd):Prop:=(d.toList.map (·.id)).Nodup
theorem Dst.perm {a b:Nat} {d d':Array Nd} (hd:Dst d) (hb:b≤d.size) (h:PermIn a b d d'):Dst d' :=
 (List.Perm.nodup_iff ((qtm hb h).map (fun x:Nd=>x.id))).2 hd
theorem Dst.ne {d:Array Nd} (hd:Dst d) {i j:Nat} (hij:i < j) (hj:j < d.size):d[i]!.id ≠ d[j]!.id:=by
 have:=(List.pairwise_iff_getElem.1 hd) i j (by simpa using (by omega:i < d.size)) (by simpa using hj) hij
 simpa [hj,(by omega:i < d.size)] using this
section
variable {F0:List Nat} {w0 w:World} {ps rest:List As} {s:Sl} {d:Array Nd}
theorem pdq.c:∀ (n:Nat) {w:World} {d:Array Nd} {a b:Nat} {lim:Int} {K:Ending→World→Prop},b - a≤n→a≤b→b≤d.size→d.size≤1000000→0≤lim→lim≤64→Below ltN a b d→Dst d→St F0 w0 w (qjb 42 s (ndR d) :: ps) →
 (∀ d' w',PermIn a b d d'→SortedIn ltN a b d'→St F0 w0 w' (qjb 42 s (ndR d') :: ps)→K (.returned (.tuple ⟨[]⟩)) w') →
 Calls Tryz.prog 61 ⟨[sV s,.int .i64 (a:Int),.int .i64 (b:Int),.int .i64 lim,.func (.func 27) ⟨[]⟩ ⟨[]⟩]⟩ w K:=by
 intro n
 induction n with
 | zero =>
   intro w d a b lim K hn hab hb hL hl0 hl1 hB hD h hk
   refine qec (qf.ok _ _ _ _ _ _ ?_)
   unfold qf qf.j1
   refine ⟨fun i t2 t3 t10 t11 w'=>i=a∧t2=b∧St F0 w0 w' (qjb 42 s (ndR d) :: ps),fun _ _ _ _ _ _=>0,⟨rfl,rfl,h⟩,?_⟩
   clear h
   rintro _ _ l1 q1 q2 w ⟨rfl,rfl,h⟩
   unfold qf.b1
   refine qy (qbe (n:=b - a) (by omega) (by omega)) ?_
   refine qmc (fun g=>?_) (fun g=>by exfalso; omega)
   obtain ⟨r1,r2⟩:=insertionSort_holds swoN d a b hab hb
   refine qwg.c h hb hL (by omega) fun w h=>⟨rfl,?_⟩
   exact hk _ w r1 r2 h
 | succ n ih =>
   intro w d a b lim K hn hab hb hL hl0 hl1 hB hD h hk
   refine qec (qf.ok _ _ _ _ _ _ ?_)
   unfold qf qf.j1
   refine ⟨fun i t2 t3 t10 t11 w'=>∃ (a' b':Nat) (e:Array Nd),i=a'∧t2=b'∧0≤t3∧t3≤64∧a'≤b'∧b' - a'≤n+1∧b'≤d.size∧e.size=d.size∧Below ltN a' b' e∧Dst e ∧
    (∀ d',PermIn a' b' e d'→SortedIn ltN a' b' d'→PermIn a b d d'∧SortedIn ltN a b d')∧St F0 w0 w' (qjb 42 s (ndR e) :: ps),fun i t2 _ _ _ _=>(t2 - i).toNat,⟨a,b,d,rfl,rfl,hl0,hl1,hab,hn,hb,rfl,hB,hD,fun d' h1 h2=>⟨h1,h2⟩,h⟩,?_⟩
   have hds:d.size=d.size:=rfl
   generalize hsz:d.size=N at *
   clear h hB hD hl0 hl1 hn
   rintro _ _ l1 q1 q2 w ⟨a',b',e,rfl,rfl,hl0,hl1,hab',hn',hb',hez,hB,hD,hfin,h⟩
   generalize hI:(fun i t2 (t3:Int) (t10 t11:Bool) w'=>∃ (a' b':Nat) (e:Array Nd),i=(a':Int)∧t2=(b':Int)∧0≤t3∧t3≤64∧a'≤b'∧b' - a'≤n+1∧b'≤N∧e.size=N∧Below ltN a' b' e∧Dst e ∧
    (∀ d',PermIn a' b' e d'→SortedIn ltN a' b' d'→PermIn a b d d'∧SortedIn ltN a b d')∧St F0 w0 w' (qjb 42 s (ndR e) :: ps))=I
   have done:∀ d' w,PermIn a' b' e d'→SortedIn ltN a' b' d'→St F0 w0 w (qjb 42 s (ndR d') :: ps)→K (.returned (.tuple ⟨[]⟩)) w:=fun d' w h1 h2 h=>hk d' w (hfin d' h1 h2).1 (hfin d' h1 h2).2 h
   have next:∀ (a2 b2:Nat) (l2:Int) (q3 q4:Bool) (f:Array Nd) w,0≤l2→l2≤64→a'≤a2→a2≤b2→b2≤b'→b2 - a2 < b' - a'→f.size=N→Below ltN a2 b2 f→Dst f→(∀ d',PermIn a2 b2 f d'→SortedIn ltN a2 b2 d'→PermIn a' b' e d'∧SortedIn ltN a' b' d')→St F0 w0 w (qjb 42 s (ndR f) :: ps) →
    (s=s∧I (a2:Int) (b2:Int) l2 q3 q4 w∧((b2:Int) - (a2:Int)).toNat < ((b':Int) - (a':Int)).toNat):=by
    intro a2 b2 l2 q3 q4 f w g1 g2 g3 g4 g5 g6 g7 g8 g9 g10 h
    subst hI
    exact ⟨rfl,⟨a2,b2,f,rfl,rfl,g1,g2,g4,by omega,by omega,g7,g8,g9,fun d' h1 h2=>hfin d' (g10 d' h1 h2).1 (g10 d' h1 h2).2,h⟩,by omega⟩
   clear hfin hI
   unfold qf.b1
   refine qy (qbe (n:=b' - a') (by omega) (by omega)) ?_
   refine qmc (fun g=>?_) (fun g=>?_)
   · obtain ⟨r1,r2⟩:=insertionSort_holds swoN e a' b' hab' (by omega)
     refine qwg.c h (by omega) (by omega) (by omega) fun w h=>⟨rfl,?_⟩
     exact done _ w r1 r2 h
   unfold qf.j2
   refine qnc (fun g1=>?_) (fun g1=>?_)
   · obtain ⟨r1,r2⟩:=heapSort_holds swoN e a' b' hab' (by omega)
     refine qpm.c h (by omega) (by omega) (by omega) fun w h=>⟨rfl,?_⟩
     exact done _ w r1 r2 h
   have g1:l1 ≠ 0:=by simpa using g1
   have j3:∀ (l2:Int) (e1:Array Nd) w,0≤l2→l2≤64→PermIn a' b' e e1→St F0 w0 w (qjb 42 s (ndR e1) :: ps)→qf.j3 s (a':Int) (b':Int) l2 q1 q2 ((b' - a':Nat):Int) (fun v w'=>K (.returned v) w') (fun d_0' i_1' t2' t3' t10' t11' w'=>(d_0'=s)∧I i_1' t2' t3' t10' t11' w'∧(t2' - i_1').toNat < ((b':Int) - (a':Int)).toNat) w:=by
    intro l2 e1 w hl2 hl3 hp1 h
    have z1:e1.size=N:=by rw [hp1.1,hez]
    have j6:∀ (p:Nat) (e3:Array Nd) w,a'≤p→p < b'→PermIn a' b' e e3→St F0 w0 w (qjb 42 s (ndR e3) :: ps)→qf.j6 s (a':Int) (b':Int) l2 ((b' - a':Nat):Int) (p:Int) (fun v w'=>K (.returned v) w') (fun d_0' i_1' t2' t3' t10' t11' w'=>(d_0'=s)∧I i_1' t2' t3' t10' t11' w'∧(t2' - i_1').toNat < ((b':Int) - (a':Int)).toNat) w:=by
     intro p e3 w hpa hpb hp3 h
     have z3:e3.size=N:=by rw [hp3.1,hez]
     have B3:Below ltN a' b' e3:=hB.perm (by omega) hp3
     have D3:Dst e3:=hD.perm (by omega) hp3
     unfold qf.j6
     refine partition.c h hpa hpb (by omega) (by omega) fun w h=>⟨_,_,rfl,?_⟩
     obtain ⟨_,_,hp4,_,_⟩:=partition_holds ltN swoN e3 a' b' p hpa hpb (by omega)
     obtain ⟨m1,m2,z4,Ba,Bb,hl,hr⟩:=round_part swoN (partition_holds ltN) hpa hpb (by omega) B3 (show partition ltN e3 a' b' p=((partition ltN e3 a' b' p).1,(partition ltN e3 a' b' p).2.1,(partition ltN e3 a' b' p).2.2) from rfl)
     generalize (partition ltN e3 a' b' p).1=mid at *
     generalize (partition ltN e3 a' b' p).2.1=ap at *
     generalize (partition ltN e3 a' b' p).2.2=e4 at *
     have D4:Dst e4:=D3.perm (by omega) hp4
     refine qy (qbe (n:=mid - a') (by omega) (by omega)) (qy (qbe (n:=b' - mid) (by omega) (by omega)) ⟨by decide,qed ?_⟩)
     refine qmc (fun g2=>?_) (fun g2=>?_)
     · refine ih (a:=a') (b:=mid) (by omega) m1 (by omega) (by omega) hl2 hl3 Ba D4 h fun e5 w hp5 hs5 h=>⟨rfl,?_⟩
       obtain ⟨B5,hfin⟩:=hl e5 hp5 hs5
       have z5:e5.size=N:=by rw [hp5.1,z4,z3]
       refine qy (qbe (n:=mid+1) (by omega) (by omega)) ?_
       exact next (mid+1) b' l2 _ _ e5 w hl2 hl3 (by omega) (by omega) (Nat.le_refl _) (by omega) z5 B5 (D4.perm (by omega) hp5) (fun d' h1 h2=>⟨permIn_trans _ _ _ _ _ hp3 (hfin d' h1 h2).1,(hfin d' h1 h2).2⟩) h
     · refine qy (qbe (n:=mid+1) (by omega) (by omega)) ?_
       refine ih (a:=mid+1) (b:=b') (by omega) (by omega) (by omega) (by omega) hl2 hl3 Bb D4 h fun e5 w hp5 hs5 h=>⟨rfl,?_⟩
       obtain ⟨B5,hfin⟩:=hr e5 hp5 hs5
       have z5:e5.size=N:=by rw [hp5.1,z4,z3]
       exact next a' mid l2 _ _ e5 w hl2 hl3 (Nat.le_refl _) m1 (by omega) (by omega) z5 B5 (D4.perm (by omega) hp5) (fun d' h1 h2=>⟨permIn_trans _ _ _ _ _ hp3 (hfin d' h1 h2).1,(hfin d' h1 h2).2⟩) h
    have j5:∀ (p:Nat) (e3:Array Nd) w,a'≤p→p < b'→PermIn a' b' e e3→St F0 w0 w (qjb 42 s (ndR e3) :: ps)→qf.j5 s (a':Int) (b':Int) l2 q1 q2 ((b' - a':Nat):Int) (p:Int) (fun v w'=>K (.returned v) w') (fun d_0' i_1' t2' t3' t10' t11' w'=>(d_0'=s)∧I i_1' t2' t3' t10' t11' w'∧(t2' - i_1').toNat < ((b':Int) - (a':Int)).toNat) w:=by
     intro p e3 w hpa hpb hp3 h
     have z3:e3.size=N:=by rw [hp3.1,hez]
     have B3:Below ltN a' b' e3:=hB.perm (by omega) hp3
     have D3:Dst e3:=hD.perm (by omega) hp3
     unfold qf.j5
     refine h.drewK fun w h=>?_
     refine qmc (fun g2=>?_) (fun g2=>?_)
     · refine qy (qbe (n:=a' - 1) (by omega) (by omega)) ?_
       refine h.cmpN (a' - 1) p rfl rfl (by omega) (by omega) fun r w hr h=>?_
       unfold qf.j7
       refine qhn (c:=!ltN e3[a' - 1]! e3[p]!) (by rw [hr]) (fun g3=>?_) (fun g3=>j6 p e3 w hpa hpb hp3 h)
       exfalso
       rcases B3 with h0 | h0
       · omega
       · exact D3.ne (i:=a' - 1) (j:=p) (by omega) (by omega) (qik (show ltN e3[a' - 1]! e3[p]! = false by simpa using g3) (h0 p hpa hpb))
     · unfold qf.j7
       refine qnc (fun g3=>by cases g3) (fun g3=>j6 p e3 w hpa hpb hp3 h)
    have j4:∀ (p:Nat) (t:Int) (e2:Array Nd) w,a'≤p→p < b'→PermIn a' b' e e2→St F0 w0 w (qjb 42 s (ndR e2) :: ps)→qf.j4 s (a':Int) (b':Int) l2 q1 q2 ((b' - a':Nat):Int) (p:Int) t (fun v w'=>K (.returned v) w') (fun d_0' i_1' t2' t3' t10' t11' w'=>(d_0'=s)∧I i_1' t2' t3' t10' t11' w'∧(t2' - i_1').toNat < ((b':Int) - (a':Int)).toNat) w:=by
     intro p t e2 w hpa hpb hp2 h
     have z2:e2.size=N:=by rw [hp2.1,hez]
     have B2:Below ltN a' b' e2:=hB.perm (by omega) hp2
     unfold qf.j4
     refine qnc (fun g2=>?_) (fun g2=>j5 p e2 w hpa hpb hp2 h)
     refine qnc (fun g3=>?_) (fun g3=>j5 p e2 w hpa hpb hp2 h)
     refine qnc (fun g4=>?_) (fun g4=>j5 p e2 w hpa hpb hp2 h)
     obtain ⟨r1,r2⟩:=partialInsertionSort_holds swoN e2 a' b' (by omega) (by omega) B2
     refine partialIns.c h (by omega) (by omega) (by omega) fun w h=>⟨_,rfl,?_⟩
     refine qnc (fun g5=>?_) (fun g5=>?_)
     · exact done _ w (permIn_trans _ _ _ _ _ hp2 r1) (r2 g5) h
     · exact j5 p _ w hpa hpb (permIn_trans _ _ _ _ _ hp2 r1) h
    unfold qf.j3
    refine choosePivot.c h (by omega) (by omega) (by omega) fun p t w hpa hpb h=>⟨_,_,rfl,?_⟩
    refine qnc (fun g2=>?_) (fun g2=>?_)
    · refine reverseRange.c h (by omega) (by omega) (by omega) fun e2 w hp2 h=>⟨rfl,?_⟩
      refine qy (qbe (n:=b' - 1) (by omega) (by omega)) (qy (qbe (n:=p - a') (by omega) (by omega)) (qy (qbe (n:=(b' - 1) - (p - a')) (by omega) (by omega)) ?_))
      exact j4 _ 1 e2 w (by omega) (by omega) (permIn_trans _ _ _ _ _ hp1 hp2) h
    · exact j4 p t e1 w hpa hpb hp1 h
   refine qnc (fun g2=>?_) (fun g2=>?_)
   · refine breakPatterns.c h hab' (by omega) (by omega) fun e1 w hp1 h=>⟨rfl,?_⟩
     refine qy (qm (by omega) (by omega)) ?_
     exact j3 _ e1 w (by omega) (by omega) hp1 h
   · exact j3 l1 e w hl0 hl1 (permIn_refl _ _ _) h
theorem SortFunc.c {L:List Nd} {K:Ending→World→Prop} (h:St F0 w0 w ps) [PkO s ps 42 (L.flatMap ndC) rest] (hL:L.length≤1000000) (hd:(L.map (·.id)).Nodup)
 (hk:∀ (L':List Nd) w',L'.Perm L→L'.Pairwise (fun x y=>ltN x y=true)→St F0 w0 w' (qjb 42 s (L'.flatMap ndC) :: rest)→K (.returned (.tuple ⟨[]⟩)) w') :
 Calls Tryz.prog 26 ⟨[sV s,.func (.func 27) ⟨[]⟩ ⟨[]⟩]⟩ w K:=by
 have h:=h.toO s
 have hl:=h.len
 rw [qtd] at hl
 have hl:=Nat.eq_of_mul_eq_mul_right (by decide) hl
 refine qec (qgd.ok _ _ _ ?_)
 unfold qgd
 refine qy (show IntKind.u64.wrap (s.len:Int)=(s.len:Int) by rw [qee]; omega) ?_
 refine qfi.c (by omega) fun z hz _=>⟨_,rfl,?_⟩
 have h:St F0 w0 w (qjb 42 s (ndR L.toArray) :: rest):=h
 have hs:L.toArray.size=s.len:=by simpa using hl
 refine pdq.c s.len (d:=L.toArray) (a:=0) (b:=s.len) (by omega) (Nat.zero_le _) (by omega) (by omega) (by omega) (by omega) (Or.inl rfl) hd h fun d' w hp hso h=>⟨rfl,?_⟩
 have hpm:=qtm (by omega) hp
 refine hk d'.toList w hpm (List.pairwise_iff_getElem.2 fun i j hi hj hij=>?_) h
 have hi':i < d'.size:=by simpa using hi
 have hj':j < d'.size:=by simpa using hj
 have h1:=hso i j (Nat.zero_le _) hij (by rw [hp.1] at hj'; omega)
 have h2:Dst d':=(Dst.perm (d:=L.toArray) hd (by omega) hp)
 have h3:=h2.ne hij hj'
 rw [arrN_get hi',arrN_get hj']
 cases hc:ltN d'[i]! d'[j]! with
 | true=>rfl
 | false=>exact absurd (qik hc h1) h3
end
end Go.Proofs.YtigmbblgfnkpbaaGreat
namespace Go.Proofs.YtigmbblgfnkpbaaGreat
open Go Go.Proofs
set_option linter.unusedVariables false
set_option linter.unusedSimpArgs false
attribute [local irreducible] apK cpK mkK br
abbrev Tw:=Nd × Sl
def twN (x:Tw):Nd:=x.1.setP x.2
def twA (pr:Nd→List Nm) (x:Tw):As:=rdA 20 x.2 ((pr x.1).flatMap nmC)
section
variable {F0:List Nat} {w0 w:World} {ps rest:List As} {s:Sl} {L:List Nd} {n:Nd} {P:List Nm} {pr:Nd→List Nm} {K:Ending→World→Prop}
theorem nds_Clip.c (h:St F0 w0 w (qjb 42 s (L.flatMap ndC) :: ps)) (hk:∀ t w',t.len=s.len→St F0 w0 w' (rdA 42 t (L.flatMap ndC) :: ps)→K (.returned (slV t)) w') :
 Calls Tryz.prog 50 ⟨[sV s]⟩ w K:=by
 have hc:=own_cap (by decide) h
 refine qec (qzd.ok _ _ _ ?_)
 unfold qzd
 refine qbk rfl hc (qbk rfl (Nat.le_refl _) (qed ?_))
 refine hk _ w ?_ (h.ro.recap ?_ ?_)
 · show s.len - 0=s.len
   omega
 · show qwd s.a s.len 0 42=s.a
   unfold qwd
   split
   · rfl
   · rw [Nat.zero_mul]
     cases s.a with
     | none=>rfl
     | some a=>simp [Addr.add]
 · show s.len - 0=s.len
   omega
theorem qwb.c (h:St F0 w0 w ps) [Rdb F0 w0 s ps 42 (L.flatMap ndC)] (hL:L.length≤1000000) (hown:ownN (qwc L)) (hsum:((qwc L).map fun e=>(pr e.2).length).sum≤1000000) (hP:∀ e ∈ qwc L,Rdb F0 w0 e.2.par ps 20 ((pr e.2).flatMap nmC)) (hlen:(qwc L).length≤1000000)
 (hk:∀ (O:List Nm) (G:Rws Int) (tw:List Tw) (R:List Nd) t w',WkE (qwc L) pr false O G→(∀ x ∈ tw,(x.1.id,x.1) ∈ qwc L)→(∀ k:Nm,k.1 ∈ tw.map (fun x=>x.1.id) ↔ k ∈ O)→(tw.map fun x=>x.1.id).Nodup→R.Perm (tw.map twN)→R.Pairwise (fun x y=>ltN x y=true) →
   t.len=R.length→St F0 w0 w' (rdA 42 t (R.flatMap ndC) :: qie (tw.map (twA pr)) :: ps)→K (.returned (slV t)) w') :
 Calls Tryz.prog 14 ⟨[sV s]⟩ w K:=by
 have lenC:∀ p:Nm,(nmC p).length=20:=fun p=>(inferInstance:Rec nmC 20).len p
 refine qec (qwb.ok _ _ _ ?_)
 unfold qwb qwb.j1
 refine qhc.c h hL fun mb w h=>⟨_,rfl,?_⟩
 generalize qwc L=M at h hown hsum hP hlen hk
 have hnM:=(h.okE mb).1
 have hidM:=(h.okE mb).2
 have hpr:∀ e ∈ M,(pr e.2).length≤1000000:=fun e he=>Nat.le_trans (qgf (f:=fun e:List Int × Nd=>(pr e.2).length) he) hsum
 unfold qwb.j2
 refine ql.c (lost:=false) (pr:=pr) h hlen hown hsum hP fun gb O G w hE h=>⟨_,rfl,?_⟩
 have hnG:=(h.okE gb).1
 have hGl:G.length≤M.length:=by
  have:=qkg (O:=kys G) (S:=kys M) hnG hE.mem
  simpa [kys] using this
 refine h.trange gb 53 fun r w h=>?_
 unfold qwb.j4
 have h:St F0 w0 w (trA inV gb r G [] :: tmA ndV mb M :: qie [] :: qjb 42 ⟨none,0,0⟩ [] :: ps):=by
  have h1:St F0 w0 w (qjb 42 ⟨none,0,0⟩ [] :: _):=h.nilO
  have h2:St F0 w0 w (qie [] :: _):=h1.bag0
  exact h2.sub
 refine qud (fun (a:Rws Int × List Tw) (o:Sl) w'=>kys a.1=a.2.map (fun x=>x.1.id)∧(∀ x ∈ a.2,(x.1.id,x.1) ∈ M)∧St F0 w0 w' (trA inV gb r G a.1 :: tmA ndV mb M :: qie (a.2.map (twA pr)) :: qjb 42 o ((a.2.map twN).flatMap ndC) :: ps)) (fun a=>G.length - a.1.length) ([],[]) ⟨rfl,by simp,h⟩ ?_
 clear h
 rintro ⟨D,tw⟩ o wL I μ ⟨hD,htw,h⟩ hin
 simp only at hD htw h hin ⊢
 have htl:tw.length=D.length:=by
  have:=congrArg List.length hD
  simp [kys] at this
  omega
 have hDl:=h.trle.2.2
 unfold qwb.b1
 refine h.tnext 0 (fun w hp h=>?_) fun f w hf hfD h hen=>?_
 · refine qnc (fun g=>by cases g) (fun _=>?_)
   unfold qwb.j3
   have hkp:(kys D).Perm (kys G):=List.Perm.map (fun x:List Int × Int=>x.1) hp
   have hnd:(tw.map fun x=>x.1.id).Nodup:=by rw [← hD]; exact hkp.nodup_iff.2 hnG
   have hid:(tw.map twN).map (·.id)=tw.map fun x=>x.1.id:=by rw [List.map_map]; rfl
   refine SortFunc.c (s:=o) (L:=tw.map twN) h (by rw [List.length_map]; omega) (by rw [hid]; exact hnd) fun R w hR hs h=>⟨rfl,?_⟩
   have hlR:=h.rlen (s:=o) (f:=ndC) (L:=R)
   refine nds_Clip.c h fun t w ht h=>⟨t,rfl,?_⟩
   refine hk O G tw R t w hE htw (fun k=>?_) hnd hR hs (by omega) h.sub
   rw [← hD,hkp.mem_iff]
   exact hE.keys k
 · have hok:idOk f.1:=(h.okE gb).2 f hf
   have hlt:=h.trle.2.2
   simp only [List.length_append,List.length_singleton] at hlt
   refine qnc (fun _=>⟨⟨nmC ⟨f.1,hok⟩⟩,f.2,hen,?_⟩) (fun g=>by cases g)
   refine h.newNm (p:=⟨f.1,hok⟩) fun xb w h=>?_
   refine h.lA (b:=xb) (lenC _) ?_
   have hfM:f.1 ∈ kys M:=hE.mem f.1 (List.mem_map.2 ⟨f,hf,rfl⟩)
   obtain ⟨n,hn⟩:∃ n,lkE M f.1=some n:=by
    cases hl:lkE M f.1 with
    | none=>exact absurd hfM (qcf.1 hl)
    | some n=>exact ⟨n,rfl⟩
   have hnM2:=qsg hn
   have hni:f.1=n.id:=hown _ hnM2
   refine ⟨⟨ndC n⟩,?_,?_⟩
   · have:=h.tlook1 mb 93 hok
     rw [hn] at this
     exact this
   haveI:=hP _ hnM2
   refine qlg.c (n:=n) (P:=pr n) h (hpr _ hnM2) fun t w ht h=>⟨_,rfl,qob _,?_⟩
   rw [qjf (by rw [qob,qeg]; rfl)]
   refine h.pushR (s:=o) (L:=tw.map twN) (x:=n.setP t) (by rw [List.length_map]; omega) rfl fun s' w' hs h=>?_
   refine ⟨⟨rfl,rfl⟩,hin (D ++ [f],tw ++ [(n,t)]) s' w' ⟨?_,fun x hx=>?_,?_⟩ (by simp only [List.length_append,List.length_singleton]; omega)⟩
   · unfold kys at hD ⊢
     rw [List.map_append,List.map_append,hD]
     show _ ++ [f.1]=_ ++ [n.id]
     rw [hni]
   · rcases List.mem_append.1 hx with hx | hx
     · exact htw x hx
     · have:x=(n,t):=by simpa using hx
       rw [this]
       simp only
       rw [← hni]
       exact hnM2
   · simp only
     have h1:St F0 w0 w' (rdA 20 t ((pr n).flatMap nmC) :: qie (tw.map (twA pr)) :: qjb 42 s' ((tw.map twN ++ [n.setP t]).flatMap ndC) :: trA inV gb r G (D ++ [f]) :: tmA ndV mb M :: ps):=h.sub
     have h2:St F0 w0 w' (qie (((n,t) :: tw).map (twA pr)) :: qjb 42 s' ((tw.map twN ++ [n.setP t]).flatMap ndC) :: trA inV gb r G (D ++ [f]) :: tmA ndV mb M :: ps):=h1.bagIn
     have h3:=h2.bagP (l':=(tw ++ [(n,t)]).map (twA pr)) ((List.perm_append_singleton (n,t) tw).symm.map _)
     have e:(tw ++ [(n,t)]).map twN=tw.map twN ++ [n.setP t]:=by rw [List.map_append]; rfl
     rw [e]
     exact h3.sub
end
end Go.Proofs.YtigmbblgfnkpbaaGreat
