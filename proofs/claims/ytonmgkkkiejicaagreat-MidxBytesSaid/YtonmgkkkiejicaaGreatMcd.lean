/- Own texts as one, only what is reached (shake.py). -/
import Derived.Test.YtonmgkkkiejicaaGreatMcc
import Derived.ChangeSlices
import Derived.Deep.Slices
import Derived.Test.YtonmgkkkiejicaaGreatProg
set_option linter.unusedSectionVars false
namespace Go.Proofs.YtonmgkkkiejicaaGreat
open Go Go.Proofs
set_option linter.unusedVariables false
set_option linter.unusedSimpArgs false
attribute [local irreducible] apK cpK mkK br
def spZ:Sp:=(⟨z20,by refine ⟨rfl,?_⟩; decide⟩,0,0)
instance:Inhabited Sp:=⟨spZ⟩
theorem qjl:zc Tryz.prog 75=⟨spC spZ⟩:=by kernel_rfl
instance elt_sp:EltR Tryz.prog 75 22 (spC spZ):=⟨⟨Tryz.t75,by kernel_rfl,rfl,by decide,by decide⟩,by kernel_rfl,rfl,by decide⟩
theorem eqT_q {a:Nat} {K:Prop} (h:K):eqT a a K:=by
 have:Nat.beq a a=true:=Nat.beq_refl a
 unfold eqT
 rw [this]
 exact h
theorem asG_q {c:Array Value} {F:Array Value→Prop} (h:F c):asG (.agg c) F:=by
 unfold asG
 exact h
section
variable {F0:List Nat} {w0 w:World} {ps r1:List As} {s:Sl} {D:List Sp} {qb:Nat} {x:Sp}
theorem q_Push.c {K:Ending→World→Prop} (h:St F0 w0 w (qt qb [.slice s.a s.len s.cap] :: qv 22 s (D.flatMap spC) :: ps)) (hD:D.length≤999999999)
 (hk:∀ s' w',St F0 w0 w' (qt qb [.slice s'.a s'.len s'.cap] :: qv 22 s' ((D ++ [x]).flatMap spC) :: ps)→K (.returned (.tuple ⟨[]⟩)) w') :
 Calls Tryz.prog 139 ⟨[.pointer (some ⟨qb,0,none⟩),.iface 75 (.agg ⟨spC x⟩)]⟩ w K:=by
 refine qsb (qif.ok _ (75,.agg ⟨spC x⟩) _ _ ?_)
 unfold qif
 refine eqT_q (asG_q ?_)
 rw [qjl]
 refine h.new fun xb w h=>?_
 have h:St F0 w0 w (qt xb (spC spZ) :: qt qb [.slice s.a s.len s.cap] :: qv 22 s (D.flatMap spC) :: ps):=h
 refine ⟨qxc _,?_⟩
 refine h.setR (f:=spC) (x:=x) (qxc _) fun w h=>?_
 refine h.drewK fun w h=>?_
 refine qgd ((h.toB qb).blk.ldL (n:=s) rfl ?_)
 refine h.lA (b:=xb) (qxc _) ⟨qxc _,?_⟩
 rw [qvg (by rw [qxc]; rfl)]
 refine h.pushR (s:=s) (L:=D) (x:=x) hD rfl fun s' w hs h=>?_
 have h:St F0 w0 w (qt qb [.slice s.a s.len s.cap] :: qv 22 s' ((D ++ [x]).flatMap spC) :: ps):=h.sub
 refine qgd (h.st (by show 0 < 1; decide) trivial fun w h=>?_)
 exact hk s' w h
theorem q_Pop.c {K:Ending→World→Prop} (h:St F0 w0 w (qt qb [.slice s.a s.len s.cap] :: qv 22 s ((D ++ [x]).flatMap spC) :: ps)) (hD:D.length≤999999999)
 (hk:∀ s' w',St F0 w0 w' (qt qb [.slice s'.a s'.len s'.cap] :: qv 22 s' (D.flatMap spC) :: ps)→K (.returned (.iface 75 (.agg ⟨spC x⟩))) w') :
 Calls Tryz.prog 138 ⟨[.pointer (some ⟨qb,0,none⟩)]⟩ w K:=by
 have hl:=h.rlen (s:=s) (f:=spC) (L:=D ++ [x])
 rw [List.length_append,List.length_singleton] at hl
 refine qsb (quf.ok _ _ _ ?_)
 unfold quf
 refine qgd ((h.toB qb).blk.ldL (n:=s) rfl ?_)
 refine qx (e':=((D.length:Nat):Int)) (by rw [qh (by omega) (by omega)]; omega) ?_
 refine qgd ((h.toB qb).blk.ldL (n:=s) rfl ?_)
 refine h.lr (s:=s) (f:=spC) (L:=D ++ [x]) D.length rfl (by simp) ?_
 have ex:(D ++ [x])[D.length]'(by simp)=x:=by simp
 rw [ex,qjl]
 refine h.new fun xb w h=>?_
 have h:St F0 w0 w (qt xb (spC spZ) :: qt qb [.slice s.a s.len s.cap] :: qv 22 s ((D ++ [x]).flatMap spC) :: ps):=h
 refine ⟨qxc _,?_⟩
 refine h.setR (f:=spC) (x:=x) (qxc _) fun w h=>?_
 refine qgd ((h.toB qb).blk.ldL (n:=s) rfl ?_)
 have h1:St F0 w0 w (qv 22 s ((D ++ [x]).flatMap spC) :: qt xb (spC x) :: qt qb [.slice s.a s.len s.cap] :: ps):=h.sub
 obtain ⟨g1,g2,h2⟩:=h1.popR (f:=spC)
 refine qnj (n:=D.length) rfl (by omega) (qjc ?_)
 refine qgd ?_
 have h3:St F0 w0 w (qt qb [.slice s.a s.len s.cap] :: qt xb (spC x) :: qv 22 ⟨qfe s.a s.cap 0 22,D.length - 0,s.cap - 0⟩ (D.flatMap spC) :: ps):=h2.sub
 refine h3.st (by show 0 < 1; decide) trivial fun w h=>?_
 refine h.lA (b:=xb) (qxc _) ?_
 have h4:St F0 w0 w (qt qb [.slice (qfe s.a s.cap 0 22) (D.length - 0) (s.cap - 0)] :: qv 22 ⟨qfe s.a s.cap 0 22,D.length - 0,s.cap - 0⟩ (D.flatMap spC) :: ps):=by
  have h5:St F0 w0 w (qt qb [.slice (qfe s.a s.cap 0 22) (D.length - 0) (s.cap - 0)] :: qt xb (spC x) :: qv 22 ⟨qfe s.a s.cap 0 22,D.length - 0,s.cap - 0⟩ (D.flatMap spC) :: ps):=h
  exact h5.sub
 exact hk ⟨qfe s.a s.cap 0 22,D.length - 0,s.cap - 0⟩ w h4
end
end Go.Proofs.YtonmgkkkiejicaaGreat
namespace Go.Proofs.YtonmgkkkiejicaaGreat
open Go Go.Proofs
set_option linter.unusedVariables false
set_option linter.unusedSimpArgs false
def leS (x y:Sp):Prop:=spL y x=false
theorem ltI_tot {a b:List Int} (hl:a.length=b.length) (h1:ltI a b=false) (h2:ltI b a=false):a=b:=by
 unfold ltI at h1 h2
 have g1:=of_decide_eq_false h1
 have g2:=of_decide_eq_false h2
 have:∀ (a b:List Int),¬ cmpI a b < 0→¬ cmpI b a < 0→a.length=b.length→a=b:=by
  intro a
  induction a with
  | nil=>intro b _ _ h; cases b with
    | nil=>rfl
    | cons y b=>simp at h
  | cons x a ih =>
    intro b h1 h2 h
    cases b with
    | nil=>simp at h
    | cons y b =>
      rw [cmpI] at h1 h2
      by_cases k1:x < y
      · rw [if_pos k1] at h1; exact absurd (by decide) h1
      · by_cases k2:y < x
        · rw [if_pos k2] at h2; exact absurd (by decide) h2
        · have:x=y:=by omega
          subst this
          rw [if_neg (by omega),if_neg (by omega)] at h1 h2
          rw [ih b h1 h2 (by simpa using h)]
 exact this a b g1 g2 hl
theorem qfl (x:Sp):leS x x:=by
 unfold leS spL
 rw [if_pos rfl]
 exact decide_eq_false (by omega)
theorem lt_le {x y:Sp} (h:spL x y=true):leS x y:=by
 unfold leS
 unfold spL at h ⊢
 by_cases e:x.1=y.1
 · rw [if_pos e] at h
   rw [if_pos e.symm]
   have:=of_decide_eq_true h
   exact decide_eq_false (by omega)
 · rw [if_neg e] at h
   rw [if_neg fun x=>e x.symm]
   exact qvl h
theorem leS_iff {x y:Sp}:leS x y ↔ (x.1=y.1∧x.2.1≤y.2.1) ∨ ltI x.1.1 y.1.1=true:=by
 unfold leS spL
 by_cases e:y.1=x.1
 · rw [if_pos e,decide_eq_false_iff_not]
   constructor
   · intro h; exact Or.inl ⟨e.symm,by omega⟩
   · rintro (⟨_,h⟩ | h)
     · omega
     · rw [e,qzd] at h; cases h
 · rw [if_neg e]
   constructor
   · intro h
     cases h2:ltI x.1.1 y.1.1 with
     | true=>exact Or.inr rfl
     | false=>exact absurd (Nm.ext' (ltI_tot (by rw [x.1.2.1,y.1.2.1]) h h2)) e
   · rintro (⟨h,_⟩ | h)
     · exact absurd h.symm e
     · exact qvl h
theorem qyj {x y z:Sp} (h1:leS x y) (h2:leS y z):leS x z:=by
 rw [leS_iff] at h1 h2 ⊢
 rcases h1 with ⟨e1,h1⟩ | h1
 · rcases h2 with ⟨e2,h2⟩ | h2
   · exact Or.inl ⟨e1.trans e2,by omega⟩
   · exact Or.inr (by rw [e1]; exact h2)
 · rcases h2 with ⟨e2,h2⟩ | h2
   · exact Or.inr (by rw [← e2]; exact h1)
   · exact Or.inr (qki h1 h2)
def HpD (D:List Sp):Prop:=∀ k,0 < k→k < D.length→leS (D.getD ((k - 1) / 2) spZ) (D.getD k spZ)
def HpU (D:List Sp) (j:Nat):Prop:=(∀ k,0 < k→k < D.length→k ≠ j→leS (D.getD ((k - 1) / 2) spZ) (D.getD k spZ))∧(∀ k,0 < k→k < D.length→(k - 1) / 2=j→0 < j→leS (D.getD ((j - 1) / 2) spZ) (D.getD k spZ))
theorem qcg {D:List Sp} {i k:Nat} {x:Sp} (hi:i < D.length):(D.set i x).getD k spZ=if k=i then x else D.getD k spZ:=by
 rw [List.getD_eq_getElem?_getD,List.getElem?_set,List.getD_eq_getElem?_getD]
 by_cases e:k=i
 · subst e; simp [hi]
 · rw [if_neg (fun h=>e h.symm),if_neg e]
theorem hpU_start {D:List Sp} {x:Sp} (h:HpD D):HpU (D ++ [x]) D.length:=by
 refine ⟨fun k h0 hk hne=>?_,fun k h0 hk hp h1=>?_⟩
 · have hk2:k < D.length:=by simp at hk; omega
   have:=h k h0 hk2
   rw [List.getD_eq_getElem?_getD,List.getD_eq_getElem?_getD] at this ⊢
   rw [List.getElem?_append_left (by omega),List.getElem?_append_left hk2]
   exact this
 · exfalso
   simp at hk
   omega
theorem hpU_zero {D:List Sp} (h:HpU D 0):HpD D:=fun k h0 hk=>h.1 k h0 hk (by omega)
theorem hpU_done {D:List Sp} {j:Nat} (h:HpU D j) (hj:leS (D.getD ((j - 1) / 2) spZ) (D.getD j spZ)):HpD D:=fun k h0 hk=>by
 by_cases e:k=j
 · subst e; exact hj
 · exact h.1 k h0 hk e
theorem hpU_step {D:List Sp} {j:Nat} (h:HpU D j) (h0:0 < j) (hj:j < D.length) (hlt:leS (D.getD j spZ) (D.getD ((j - 1) / 2) spZ)) :
 HpU ((D.set ((j - 1) / 2) (D.getD j spZ)).set j (D.getD ((j - 1) / 2) spZ)) ((j - 1) / 2):=by
 obtain ⟨h1,h2⟩:=h
 have hi:(j - 1) / 2 < D.length:=by omega
 have hg:∀ k,((D.set ((j - 1) / 2) (D.getD j spZ)).set j (D.getD ((j - 1) / 2) spZ)).getD k spZ=if k=j then D.getD ((j - 1) / 2) spZ else if k=(j - 1) / 2 then D.getD j spZ else D.getD k spZ:=fun k=>by
  rw [qcg (by rw [List.length_set]; exact hj),qcg hi]
 refine ⟨fun k k0 hk hne=>?_,fun k k0 hk hp hi0=>?_⟩
 · rw [List.length_set,List.length_set] at hk
   rw [hg,hg]
   by_cases e:k=j
   · subst e
     rw [if_neg (by omega),if_pos rfl,if_pos rfl]
     exact hlt
   · rw [if_neg e,if_neg hne]
     by_cases e2:(k - 1) / 2=j
     · rw [if_pos e2]
       exact h2 k k0 hk e2 h0
     · rw [if_neg e2]
       by_cases e3:(k - 1) / 2=(j - 1) / 2
       · rw [if_pos e3]
         have:=h1 k k0 hk e
         rw [e3] at this
         exact qyj hlt this
       · rw [if_neg e3]
         exact h1 k k0 hk e
 · rw [List.length_set,List.length_set] at hk
   rw [hg,hg,if_neg (show ((j - 1) / 2 - 1) / 2 ≠ j by omega),if_neg (show ((j - 1) / 2 - 1) / 2 ≠ (j - 1) / 2 by omega)]
   have hpi:=h1 ((j - 1) / 2) hi0 hi (by omega)
   by_cases e:k=j
   · subst e
     rw [if_pos rfl]
     exact hpi
   · rw [if_neg e,if_neg (by omega)]
     have:=h1 k k0 hk e
     rw [hp] at this
     exact qyj hpi this
end Go.Proofs.YtonmgkkkiejicaaGreat
namespace Go.Proofs.YtonmgkkkiejicaaGreat
open Go Go.Proofs
set_option linter.unusedVariables false
set_option linter.unusedSimpArgs false
attribute [local irreducible] apK cpK mkK br
section
variable {F0:List Nat} {w0 w:World} {ps r1:List As} {s:Sl} {D:List Sp} {qb:Nat} {x:Sp}
theorem quc {D:List Sp} {i:Nat} (h:i < D.length):D.getD i spZ=D[i]:=by
 rw [List.getD_eq_getElem?_getD,List.getElem?_eq_getElem h]
 rfl
theorem qol {D:List Sp} {i j:Nat} (hi:i < D.length) (hj:j < D.length):((D.set i D[j]).set j D[i]).Perm D:=List.set_set_perm hi hj
theorem qpf.c {j:Nat} {K:Ending→World→Prop} (h:St F0 w0 w (qt qb [.slice s.a s.len s.cap] :: qv 22 s (D.flatMap spC) :: ps)) (hD:D.length≤1000000000) (hj:j < D.length) (hu:HpU D j)
 (hk:∀ D' w',HpD D'→D'.Perm D→St F0 w0 w' (qt qb [.slice s.a s.len s.cap] :: qv 22 s (D'.flatMap spC) :: ps)→K (.returned (.tuple ⟨[]⟩)) w') :
 Calls Tryz.prog 88 ⟨[.iface 127 (.pointer (some ⟨qb,0,none⟩)),.int .i64 j]⟩ w K:=by
 refine qsb (qpf.ok _ _ _ _ ?_)
 unfold qpf
 refine qud (fun (a:Nat × List Sp) (j':Int) w'=>j'=(a.1:Int)∧a.1 < a.2.length∧HpU a.2 a.1∧a.2.Perm D∧St F0 w0 w' (qt qb [.slice s.a s.len s.cap] :: qv 22 s (a.2.flatMap spC) :: ps)) (fun a=>a.1) (j,D) ⟨rfl,hj,hu,.refl _,h⟩ ?_
 clear h hj hu
 rintro ⟨j,E⟩ _ wL I μ ⟨rfl,hj,hu,hp,h⟩ hin
 simp only at hj hu hp h hin ⊢
 have hEl:=hp.length_eq
 unfold qpf.b1
 by_cases h0:j=0
 · subst h0
   refine qx (e':=-1) (by rw [qh (by omega) (by omega)]; rfl) ⟨by decide,?_⟩
   refine qx (e':=0) (by kernel_rfl) ?_
   exact qmd (fun _=>hk E _ (hpU_zero hu) hp h) (fun g=>by cases g)
 · have hi:(j - 1) / 2 < E.length:=by omega
   refine qx (e':=((j - 1:Nat):Int)) (by rw [qh (by omega) (by omega)]; omega) ⟨by decide,?_⟩
   refine qx (e':=(((j - 1) / 2:Nat):Int)) (by
    have:Int.tdiv ((j - 1:Nat):Int) 2=(((j - 1) / 2:Nat):Int):=rfl
    rw [this,qh (by omega) (by omega)]) ?_
   refine qmd (fun g=>?_) (fun _=>?_)
   · exfalso
     have g:(((j - 1) / 2:Nat):Int)=(j:Int):=by simpa using g
     omega
   · refine (h.toB qb).blk.ldL (n:=s) rfl ?_
     refine q_Less.c (D:=E) h hj hi fun w h=>⟨_,rfl,?_⟩
     cases hl:spL E[j] E[(j - 1) / 2] with
     | false =>
       refine qmd (fun _=>hk E _ (hpU_done hu ?_) hp h) (fun g=>by cases g)
       rw [quc hj,quc hi]
       exact hl
     | true =>
       refine qmd (fun g=>by cases g) (fun _=>?_)
       refine (h.toB qb).blk.ldL (n:=s) rfl ?_
       have h1:St F0 w0 w (qv 22 s (E.flatMap spC) :: qt qb [.slice s.a s.len s.cap] :: ps):=h.sub
       refine q_Swap.c (D:=E) h1 hi hj fun w h=>⟨rfl,?_⟩
       have hs:=hpU_step hu (by omega) hj (by rw [quc hj,quc hi]; exact lt_le hl)
       rw [quc hj,quc hi] at hs
       refine ⟨rfl,hin ((j - 1) / 2,(E.set ((j - 1) / 2) E[j]).set j E[(j - 1) / 2]) _ _ ⟨rfl,by simp only [List.length_set]; omega,hs,(qol hi hj).trans hp,?_⟩ (by simp only; omega)⟩
       exact h.sub
theorem q_Len.c {K:Ending→World→Prop} (hk:K (.returned (.int .i64 (s.len:Int))) w):Calls Tryz.prog 51 ⟨[sV s]⟩ w K:=by
 refine qsb (qvf.ok _ _ _ ?_)
 unfold qvf
 exact hk
theorem qgh.c {K:Ending→World→Prop} (h:St F0 w0 w (qt qb [.slice s.a s.len s.cap] :: qv 22 s (D.flatMap spC) :: ps)) (hD:D.length≤999999998) (hh:HpD D)
 (hk:∀ s' D' w',HpD D'→D'.Perm (D ++ [x])→St F0 w0 w' (qt qb [.slice s'.a s'.len s'.cap] :: qv 22 s' (D'.flatMap spC) :: ps)→K (.returned (.tuple ⟨[]⟩)) w') :
 Calls Tryz.prog 50 ⟨[.iface 127 (.pointer (some ⟨qb,0,none⟩)),.iface 75 (.agg ⟨spC x⟩)]⟩ w K:=by
 refine qsb (qgh.ok _ (75,.agg ⟨spC x⟩) _ _ ?_)
 unfold qgh
 refine q_Push.c (x:=x) h (by omega) fun s' w h=>⟨rfl,?_⟩
 have hl:=h.rlen (s:=s') (f:=spC) (L:=D ++ [x])
 rw [List.length_append,List.length_singleton] at hl
 refine (h.toB qb).blk.ldL (n:=s') rfl ?_
 refine q_Len.c ⟨_,rfl,?_⟩
 refine qx (e':=((D.length:Nat):Int)) (by rw [qh (by omega) (by omega)]; omega) ?_
 refine qpf.c (D:=D ++ [x]) h (by rw [List.length_append,List.length_singleton]; omega) (by rw [List.length_append,List.length_singleton]; omega) (hpU_start hh) fun D' w hD' hp h=>⟨rfl,hk s' D' w hD' hp h⟩
end
end Go.Proofs.YtonmgkkkiejicaaGreat
namespace Go.Proofs.YtonmgkkkiejicaaGreat
open Go Go.Proofs
set_option linter.unusedVariables false
set_option linter.unusedSimpArgs false
def HpN (D:List Sp) (n:Nat):Prop:=∀ k,0 < k→k < n→leS (D.getD ((k - 1) / 2) spZ) (D.getD k spZ)
def HpW (D:List Sp) (n i:Nat):Prop:=(∀ k,0 < k→k < n→(k - 1) / 2 ≠ i→leS (D.getD ((k - 1) / 2) spZ) (D.getD k spZ))∧(∀ k,0 < k→k < n→(k - 1) / 2=i→0 < i→leS (D.getD ((i - 1) / 2) spZ) (D.getD k spZ))
theorem hpW_done {D:List Sp} {n i:Nat} (h:HpW D n i) (hc:∀ k,0 < k→k < n→(k - 1) / 2=i→leS (D.getD i spZ) (D.getD k spZ)):HpN D n:=fun k h0 hk=>by
 by_cases e:(k - 1) / 2=i
 · rw [e]; exact hc k h0 hk e
 · exact h.1 k h0 hk e
theorem hpW_step {D:List Sp} {n i j:Nat} (h:HpW D n i) (hn:n≤D.length) (hj0:0 < j) (hj:j < n) (hp:(j - 1) / 2=i) (hmin:∀ k,0 < k→k < n→(k - 1) / 2=i→leS (D.getD j spZ) (D.getD k spZ)) (hle:leS (D.getD j spZ) (D.getD i spZ)) :
 HpW ((D.set i (D.getD j spZ)).set j (D.getD i spZ)) n j:=by
 obtain ⟨h1,h2⟩:=h
 have hg:∀ k,((D.set i (D.getD j spZ)).set j (D.getD i spZ)).getD k spZ=if k=j then D.getD i spZ else if k=i then D.getD j spZ else D.getD k spZ:=fun k=>by
  rw [qcg (by rw [List.length_set]; omega),qcg (by omega)]
 refine ⟨fun k k0 hk hne=>?_,fun k k0 hk hpk _=>?_⟩
 · rw [hg,hg,if_neg hne]
   by_cases e:k=j
   · subst e
     rw [if_pos rfl,if_pos hp]
     exact hle
   · rw [if_neg e]
     by_cases e2:k=i
     · subst e2
       rw [if_pos rfl,if_neg (by omega)]
       exact h2 j hj0 hj hp k0
     · rw [if_neg e2]
       by_cases e3:(k - 1) / 2=i
       · rw [if_pos e3]
         exact hmin k k0 hk e3
       · rw [if_neg e3]
         exact h1 k k0 hk e3
 · rw [hg,hg,hp,if_neg (show i ≠ j by omega),if_pos rfl,if_neg (show k ≠ j by omega),if_neg (show k ≠ i by omega)]
   have:=h1 k k0 hk (by omega)
   rw [hpk] at this
   exact this
theorem hpD_least {D:List Sp} (h:HpD D):∀ k,k < D.length→leS (D.getD 0 spZ) (D.getD k spZ):=by
 intro k
 induction k using Nat.strongRecOn with
 | _ k ih =>
   intro hk
   by_cases h0:k=0
   · subst h0; exact qfl _
   · exact qyj (ih ((k - 1) / 2) (by omega) (by omega)) (h k (by omega) hk)
end Go.Proofs.YtonmgkkkiejicaaGreat
namespace Go.Proofs.YtonmgkkkiejicaaGreat
open Go Go.Proofs
set_option linter.unusedVariables false
set_option linter.unusedSimpArgs false
attribute [local irreducible] apK cpK mkK br
section
variable {F0:List Nat} {w0 w:World} {ps r1:List As} {s:Sl} {D:List Sp} {qb n:Nat} {x:Sp}
theorem qrb.c {K:Ending→World→Prop} (h:St F0 w0 w (qt qb [.slice s.a s.len s.cap] :: qv 22 s (D.flatMap spC) :: ps)) (hD:D.length≤1000000000) (hn:n≤D.length) (hw:HpW D n 0)
 (hk:∀ (b:Bool) D' w',HpN D' n→D'.Perm D→(∀ k,n≤k→D'.getD k spZ=D.getD k spZ)→St F0 w0 w' (qt qb [.slice s.a s.len s.cap] :: qv 22 s (D'.flatMap spC) :: ps)→K (.returned (.bool b)) w') :
 Calls Tryz.prog 89 ⟨[.iface 127 (.pointer (some ⟨qb,0,none⟩)),.int .i64 0,.int .i64 n]⟩ w K:=by
 refine qsb (qrb.ok _ _ _ _ _ ?_)
 unfold qrb qrb.j1
 refine qud (fun (a:Nat × List Sp) (i':Int) w'=>i'=(a.1:Int)∧(a.1 < n ∨ a.1=0)∧HpW a.2 n a.1∧a.2.Perm D∧(∀ k,n≤k→a.2.getD k spZ=D.getD k spZ)∧St F0 w0 w' (qt qb [.slice s.a s.len s.cap] :: qv 22 s (a.2.flatMap spC) :: ps)) (fun a=>n - a.1) (0,D) ⟨rfl,Or.inr rfl,hw,.refl _,fun _ _=>rfl,h⟩ ?_
 clear h hw
 rintro ⟨i,E⟩ _ wL I μ ⟨rfl,hi,hw,hp,hr,h⟩ hin
 simp only at hi hw hp hr h hin ⊢
 have hEl:=hp.length_eq
 have fin:∀ w,(∀ k,0 < k→k < n→(k - 1) / 2=i→leS (E.getD i spZ) (E.getD k spZ))→St F0 w0 w (qt qb [.slice s.a s.len s.cap] :: qv 22 s (E.flatMap spC) :: ps)→qrb.j2 0 (i:Int) (fun v w'=>K (.returned v) w') w:=fun w hc h=>by
  unfold qrb.j2
  exact hk _ E w (hpW_done hw hc) hp hr h
 unfold qrb.b1
 refine qx (e':=((2 * i:Nat):Int)) (by rw [qh (by omega) (by omega)]; omega) ?_
 refine qx (e':=((2 * i+1:Nat):Int)) (by rw [qh (by omega) (by omega)]; omega) ?_
 refine qsc (fun g=>fin _ (fun k k0 hk2 hp2=>by exfalso; omega) h) (fun g=>?_)
 refine qsc (fun g2=>by exfalso; omega) (fun _=>?_)
 have hin1:2 * i+1 < n:=by omega
 have hiE:i < E.length:=by omega
 have j4:∀ (j:Nat) (w:World),0 < j→j < n→(j - 1) / 2=i→(∀ k,0 < k→k < n→(k - 1) / 2=i→leS (E.getD j spZ) (E.getD k spZ))→St F0 w0 w (qt qb [.slice s.a s.len s.cap] :: qv 22 s (E.flatMap spC) :: ps) →
  qrb.j4 ⟨qb,0,none⟩ 0 n (i:Int) (j:Int) (fun v w'=>K (.returned v) w') (fun h_0' i0_1' n_2' i_7' w'=>(h_0'=⟨qb,0,none⟩∧i0_1'=0∧n_2'=(n:Int))∧I i_7' w'∧μ i_7' w' < μ (i:Int) wL) w:=by
  intro j w hj0 hj hpj hmin h
  have hjE:j < E.length:=by omega
  unfold qrb.j4
  refine (h.toB qb).blk.ldL (n:=s) rfl ?_
  refine q_Less.c (D:=E) h hjE hiE fun w h=>⟨_,rfl,?_⟩
  cases hl:spL E[j] E[i] with
  | false =>
    refine qmd (fun _=>fin w (fun k k0 hk2 hp2=>?_) h) (fun g=>by cases g)
    refine qyj ?_ (hmin k k0 hk2 hp2)
    rw [quc hjE,quc hiE]
    exact hl
  | true =>
    refine qmd (fun g=>by cases g) (fun _=>?_)
    refine (h.toB qb).blk.ldL (n:=s) rfl ?_
    have h1:St F0 w0 w (qv 22 s (E.flatMap spC) :: qt qb [.slice s.a s.len s.cap] :: ps):=h.sub
    refine q_Swap.c (D:=E) h1 hiE hjE fun w h=>⟨rfl,?_⟩
    have hs:=hpW_step hw (by omega) hj0 hj hpj hmin (by rw [quc hjE,quc hiE]; exact lt_le hl)
    have hg:∀ k,n≤k→((E.set i (E.getD j spZ)).set j (E.getD i spZ)).getD k spZ=D.getD k spZ:=fun k hk2=>by
     rw [qcg (by rw [List.length_set]; omega),qcg (by omega),if_neg (by omega),if_neg (by omega)]
     exact hr k hk2
    rw [quc hjE,quc hiE] at hs hg
    exact ⟨⟨rfl,rfl,rfl⟩,hin (j,(E.set i E[j]).set j E[i]) _ _ ⟨rfl,Or.inl hj,hs,(qol hiE hjE).trans hp,hg,h.sub⟩ (by simp only; omega)⟩
 unfold qrb.j3
 refine qx (e':=((2 * i+2:Nat):Int)) (by rw [qh (by omega) (by omega)]; omega) ?_
 refine qsc (fun g3=>?_) (fun g3=>?_)
 · have hin2:2 * i+2 < n:=by omega
   have a1:2 * i+1 < E.length:=by omega
   have a2:2 * i+2 < E.length:=by omega
   refine (h.toB qb).blk.ldL (n:=s) rfl ?_
   refine q_Less.c (D:=E) h a2 a1 fun w h=>⟨_,rfl,?_⟩
   cases hl:spL E[2 * i+2] E[2 * i+1] with
   | true =>
     refine qmd (fun _=>j4 (2 * i+2) w (by omega) hin2 (by omega) (fun k k0 hk2 hp2=>?_) h) (fun g=>by cases g)
     have:k=2 * i+1 ∨ k=2 * i+2:=by omega
     rcases this with rfl | rfl
     · rw [quc a1,quc a2]; exact lt_le hl
     · exact qfl _
   | false =>
     refine qmd (fun g=>by cases g) (fun _=>j4 (2 * i+1) w (by omega) hin1 (by omega) (fun k k0 hk2 hp2=>?_) h)
     have:k=2 * i+1 ∨ k=2 * i+2:=by omega
     rcases this with rfl | rfl
     · exact qfl _
     · rw [quc a1,quc a2]; exact hl
 · refine j4 (2 * i+1) _ (by omega) hin1 (by omega) (fun k k0 hk2 hp2=>?_) h
   have:k=2 * i+1:=by omega
   subst this
   exact qfl _
end
end Go.Proofs.YtonmgkkkiejicaaGreat
namespace Go.Proofs.YtonmgkkkiejicaaGreat
open Go Go.Proofs
set_option linter.unusedVariables false
set_option linter.unusedSimpArgs false
attribute [local irreducible] apK cpK mkK br
section
variable {F0:List Nat} {w0 w:World} {ps r1:List As} {s:Sl} {D:List Sp} {qb:Nat}
theorem qdj.c {K:Ending→World→Prop} (h:St F0 w0 w (qt qb [.slice s.a s.len s.cap] :: qv 22 s (D.flatMap spC) :: ps)) (hD:D.length≤999999998) (hne:0 < D.length) (hh:HpD D)
 (hk:∀ s' x D' w',(x :: D').Perm D→HpD D'→(∀ y ∈ D,leS x y)→St F0 w0 w' (qt qb [.slice s'.a s'.len s'.cap] :: qv 22 s' (D'.flatMap spC) :: ps)→K (.returned (.iface 75 (.agg ⟨spC x⟩))) w') :
 Calls Tryz.prog 52 ⟨[.iface 127 (.pointer (some ⟨qb,0,none⟩))]⟩ w K:=by
 have hl:=h.rlen (s:=s) (f:=spC) (L:=D)
 obtain ⟨n,hn⟩:∃ n,D.length=n+1:=⟨D.length - 1,by omega⟩
 have hnD:n < D.length:=by omega
 refine qsb (qdj.ok _ _ _ ?_)
 unfold qdj
 refine (h.toB qb).blk.ldL (n:=s) rfl ?_
 refine q_Len.c ⟨_,rfl,?_⟩
 refine qx (e':=(n:Int)) (by rw [qh (by omega) (by omega)]; omega) ?_
 refine (h.toB qb).blk.ldL (n:=s) rfl ?_
 have h1:St F0 w0 w (qv 22 s (D.flatMap spC) :: qt qb [.slice s.a s.len s.cap] :: ps):=h.sub
 refine q_Swap.c (D:=D) (i:=0) (k:=n) h1 hne hnD fun w h=>⟨rfl,?_⟩
 have hg:∀ k,((D.set 0 D[n]).set n D[0]).getD k spZ=if k=n then D[0] else if k=0 then D[n] else D.getD k spZ:=fun k=>by
  rw [qcg (by rw [List.length_set]; exact hnD),qcg hne]
 have hpE:=qol hne hnD
 have hEl:=hpE.length_eq
 have hw:HpW ((D.set 0 D[n]).set n D[0]) n 0:=by
  refine ⟨fun k k0 hk2 hp=>?_,fun k _ _ _ h0=>by omega⟩
  rw [hg,hg,if_neg (by omega),if_neg hp,if_neg (by omega),if_neg (by omega)]
  exact hh k k0 (by omega)
 have h2:St F0 w0 w (qt qb [.slice s.a s.len s.cap] :: qv 22 s (((D.set 0 D[n]).set n D[0]).flatMap spC) :: ps):=h.sub
 refine qrb.c (n:=n) (D:=(D.set 0 D[n]).set n D[0]) h2 (by omega) (by omega) hw fun b D' w hN hp hr h=>⟨_,rfl,?_⟩
 have hDl:=hp.length_eq
 have hx:D'.getD n spZ=D[0]:=by rw [hr n (Nat.le_refl _),hg,if_pos rfl]
 have hlD':D'.length=n+1:=by omega
 have hcut:D'=D'.take n ++ [D[0]]:=by
  have e:=List.take_succ_eq_append_getElem (l:=D') (i:=n) (by omega)
  rw [List.take_of_length_le (by omega)] at e
  rw [quc (by omega)] at hx
  rw [hx] at e
  exact e
 have hpT:(D[0] :: D'.take n).Perm D:=by
  have e:(D'.take n ++ [D[0]]).Perm D:=by rw [← hcut]; exact hp.trans hpE
  exact (List.perm_append_singleton _ _).symm.trans e
 have hT:HpD (D'.take n):=fun k k0 hk2=>by
  rw [List.length_take] at hk2
  have:=hN k k0 (by omega)
  rw [quc (by omega),quc (by omega)] at this
  rw [quc (by rw [List.length_take]; omega),quc (by rw [List.length_take]; omega),List.getElem_take,List.getElem_take]
  exact this
 rw [hcut] at h
 refine q_Pop.c (D:=D'.take n) (x:=D[0]) h (by rw [List.length_take]; omega) fun s' w h=>?_
 refine ⟨(75,.agg ⟨spC D[0]⟩),rfl,hk s' D[0] (D'.take n) w hpT hT (fun y hy=>?_) h⟩
 obtain ⟨k,hk2,rfl⟩:=List.getElem_of_mem hy
 have:=hpD_least hh k hk2
 rw [quc hne,quc hk2] at this
 exact this
end
end Go.Proofs.YtonmgkkkiejicaaGreat
namespace Go.Proofs.YtonmgkkkiejicaaGreat
open Go Go.Proofs
set_option linter.unusedVariables false
set_option linter.unusedSimpArgs false
attribute [local irreducible] apK cpK mkK br
def spR (i:Nat) (r:Rw):Sp:=(r.1,(i:Int),r.2.2)
def qjj (rw:Mk→List Rw) (L:List Mk):List Sp:=L.zipIdx.flatMap fun p=>(rw p.1).map (spR p.2)
theorem spsA_snoc (rw:Mk→List Rw) (L:List Mk) (m:Mk):qjj rw (L ++ [m])=qjj rw L ++ (rw m).map (spR L.length):=by
 unfold qjj
 rw [List.zipIdx_append,List.flatMap_append]
 simp
theorem spsA_le (rw:Mk→List Rw) (L:List Mk) (i:Nat):(qjj rw (L.take i)).length≤(qjj rw L).length:=by
 have e:qjj rw L=qjj rw (L.take i ++ L.drop i):=by rw [List.take_append_drop]
 rw [e]
 unfold qjj
 rw [List.zipIdx_append,List.flatMap_append,List.length_append]
 omega
def MgO (S O:List Sp):Prop:=O.Pairwise (fun x y=>ltI x.1.1 y.1.1=true)∧(∀ o ∈ O,o ∈ S)∧(∀ y ∈ S,∃ o ∈ O,o.1=y.1∧o.2.1≤y.2.1)
theorem row_sp (r:Rw) (i:Nat):(List.set (List.set (spl ([.int .u8 0,.int .u8 0,.int .u8 0,.int .u8 0,.int .u8 0,.int .u8 0,.int .u8 0,.int .u8 0,.int .u8 0,.int .u8 0,.int .u8 0,.int .u8 0,.int .u8 0,.int .u8 0,.int .u8 0,.int .u8 0,.int .u8 0,.int .u8 0,.int .u8 0,.int .u8 0,.int .i64 0,.int .i64 0]:List Value) 0 ⟨nmC r.1⟩) 20 (.int .i64 i)) 21 (.int .i64 r.2.2))=spC (spR i r):=by
 have hl:(nmC r.1).length=20:=(inferInstance:Rec nmC 20).len r.1
 have e00:([.int .u8 0,.int .u8 0,.int .u8 0,.int .u8 0,.int .u8 0,.int .u8 0,.int .u8 0,.int .u8 0,.int .u8 0,.int .u8 0,.int .u8 0,.int .u8 0,.int .u8 0,.int .u8 0,.int .u8 0,.int .u8 0,.int .u8 0,.int .u8 0,.int .u8 0,.int .u8 0,.int .i64 0,.int .i64 0]:List Value)=ivs .u8 z20 ++ [.int .i64 0,.int .i64 0]:=rfl
 rw [e00,spl_eq _ _ _ (by rw [hl]; decide),hl]
 unfold spC spR
 have e:(ivs .u8 z20 ++ [Value.int .i64 0,.int .i64 0]).drop (0+20)=[.int .i64 0,.int .i64 0]:=rfl
 rw [e]
 have e0:(ivs .u8 z20 ++ [Value.int .i64 0,.int .i64 0]).take 0=[]:=rfl
 rw [e0,List.nil_append,List.set_append_right _ _ (by rw [hl]; decide),hl,List.set_append_right _ _ (by rw [hl]; decide),hl]
 rfl
section
variable {F0:List Nat} {w0 w:World} {ps r1:List As} {s:Sl} {L:List Mk} {D:List Sp} {qb:Nat} {rw:Mk→List Rw} {K:Ending→World→Prop}
theorem merge_out (S:List Sp) (hS:S.length≤900000000) (h:St F0 w0 w (qt qb [.slice s.a s.len s.cap] :: qv 22 s (D.flatMap spC) :: ps)) (hp:D.Perm S) (hh:HpD D)
 (hk:∀ t O w',MgO S O→St F0 w0 w' (qv 22 t (O.flatMap spC) :: ps)→K (.returned (sV t)) w') :
 qbb.j3 (some ⟨qb,0,none⟩) ⟨none,0,0⟩ (fun v w'=>K (.returned v) w') w:=by
 unfold qbb.j3
 refine qud (fun (a:Sl × List Sp × List Sp) (t:Sl) w'=>St F0 w0 w' (qt qb [.slice a.1.a a.1.len a.1.cap] :: qv 22 a.1 (a.2.1.flatMap spC) :: qv 22 t (a.2.2.flatMap spC) :: ps)∧HpD a.2.1∧a.2.1.length≤S.length∧(∀ y ∈ a.2.1,y ∈ S)∧(∀ x ∈ a.2.2,∀ y ∈ a.2.1,leS x y)∧a.2.2.Pairwise (fun x y=>ltI x.1.1 y.1.1=true)∧(∀ o ∈ a.2.2,o ∈ S)∧(∀ y ∈ S,y ∈ a.2.1 ∨ ∃ o ∈ a.2.2,o.1=y.1∧o.2.1≤y.2.1)∧a.2.2.length+a.2.1.length≤S.length) (fun a=>a.2.1.length) (s,D,[]) ⟨?_,hh,by simp [hp.length_eq],fun y hy=>hp.mem_iff.1 hy,by simp,List.Pairwise.nil,by simp,fun y hy=>Or.inl (hp.mem_iff.2 hy),by simp [hp.length_eq]⟩ ?_
 · have h1:St F0 w0 w (qv 22 ⟨none,0,0⟩ (([]:List Sp).flatMap spC) :: qt qb [.slice s.a s.len s.cap] :: qv 22 s (D.flatMap spC) :: ps):=h.nilO
   exact h1.sub
 clear h hp hh
 rintro ⟨s,D,O⟩ t wL I μ ⟨h,hh,hDS,hD,hle,hO,hOS,hc,hlen⟩ hin
 simp only at h hh hDS hD hle hO hOS hc hlen hin ⊢
 have hl:=h.rlen (s:=s) (f:=spC) (L:=D)
 have hlt:=h.rlen (s:=t) (f:=spC) (L:=O)
 unfold qbb.b1
 refine qgd ((h.toB qb).blk.ldL (n:=s) rfl ?_)
 refine q_Len.c ⟨_,rfl,?_⟩
 refine qsc (fun g=>?_) (fun g=>?_)
 · have hne:0 < D.length:=by omega
   refine qdj.c h (by omega) hne hh fun s' x D' w hp hh' hx h=>?_
   refine ⟨(75,.agg ⟨spC x⟩),rfl,eqT_q (asG_q ?_)⟩
   have hpl:D'.length+1=D.length:=by rw [← hp.length_eq]; rfl
   have hxD:x ∈ D:=hp.mem_iff.1 List.mem_cons_self
   have hD':∀ y ∈ D',y ∈ D:=fun y hy=>hp.mem_iff.1 (List.mem_cons_of_mem _ hy)
   rw [qjl]
   refine h.new fun xb w h=>?_
   have h:St F0 w0 w (qt xb (spC spZ) :: qt qb [.slice s'.a s'.len s'.cap] :: qv 22 s' (D'.flatMap spC) :: qv 22 t (O.flatMap spC) :: ps):=h
   refine ⟨qxc _,?_⟩
   refine h.setR (f:=spC) (x:=x) (qxc _) fun w h=>?_
   refine h.drewK fun w h=>qjc ?_
   have push:(∀ o ∈ O,ltI o.1.1 x.1.1=true)→∀ w,St F0 w0 w (qt xb (spC x) :: qt qb [.slice s'.a s'.len s'.cap] :: qv 22 s' (D'.flatMap spC) :: qv 22 t (O.flatMap spC) :: ps) →
    ldA w ⟨xb,0,none⟩ 22 fun c14=>(c14).size=22∧nw w ⟨(spl (ivs .u8 z20 ++ [.int .i64 0,.int .i64 0]) 0 c14)⟩ 75 fun a15 w16=>rdO w16 (some a15) (1 * 22) fun c17=>apK Tryz.prog 75 w16 t.a t.len t.cap 1 c17 fun s18 w19=>(some (⟨qb,0,none⟩:Addr)=some ⟨qb,0,none⟩)∧I s18 w19∧μ s18 w19 < μ t wL:=by
    intro hlt2 w h
    refine h.lA (b:=xb) (qxc _) ⟨qxc _,?_⟩
    rw [qvg (by rw [qxc]; rfl)]
    refine h.pushR (s:=t) (L:=O) (x:=x) (by omega) rfl fun t' w ht h=>⟨rfl,?_⟩
    refine hin (s',D',O ++ [x]) _ _ ⟨h.sub,hh',by simp only; omega,fun y hy=>hD y (hD' y hy),?_,?_,?_,?_,?_⟩ (by simp only; omega)
    · intro o ho y hy
      rcases List.mem_append.1 ho with ho | ho
      · exact hle o ho y (hD' y hy)
      · rw [List.mem_singleton.1 ho]; exact hx y (hD' y hy)
    · rw [List.pairwise_append]
      refine ⟨hO,List.pairwise_singleton _ _,fun a ha b hb=>?_⟩
      rw [List.mem_singleton.1 hb]
      exact hlt2 a ha
    · intro o ho
      rcases List.mem_append.1 ho with ho | ho
      · exact hOS o ho
      · rw [List.mem_singleton.1 ho]; exact hD x hxD
    · intro y hy
      rcases hc y hy with hy | ⟨o,ho,h1,h2⟩
      · rcases List.mem_cons.1 (hp.mem_iff.2 hy) with rfl | hy
        · exact Or.inr ⟨y,by simp,rfl,Int.le_refl _⟩
        · exact Or.inl hy
      · exact Or.inr ⟨o,by simp [ho],h1,h2⟩
    · simp only [List.length_append,List.length_singleton]; omega
   by_cases hO0:O.length=0
   · have:t.len=0:=by omega
     have hOn:O=[]:=List.eq_nil_of_length_eq_zero hO0
     refine qck (by rw [this]; rfl) (push (by simp [hOn]) w h)
   · refine qxg (by
      have:¬ ((t.len:Int)=0):=by omega
      simpa using this) ?_
     have hj:O.length - 1 < O.length:=by omega
     refine qx (e':=((O.length - 1:Nat):Int)) (by rw [qh (by omega) (by omega)]; omega) ?_
     refine h.spId (s:=t) (D:=O) (O.length - 1) rfl hj ?_
     have hid:∀ {Z:Array Value→Prop},Z ⟨nmC x.1⟩→ldA w (Addr.add ⟨xb,0,none⟩ 0) 20 Z:=fun hz=>by
      rw [qmb]
      refine h.blk.ldA (cs:=⟨nmC x.1⟩) (by unfold nmC; simp [x.1.2.1]) (fun i hi=>?_) hz
      unfold spC nmC
      rw [List.getElem?_append_left (by rw [qw,x.1.2.1]; omega)]
      simp
     refine hid ?_
     refine eqA_i (xs:=O[O.length - 1].1.1) (ys:=x.1.1) O[O.length - 1].1.2.1 x.1.2.1 ?_
     have hlast:O[O.length - 1] ∈ O:=List.getElem_mem hj
     have hlx:=leS_iff.1 (hle _ hlast x hxD)
     by_cases e:O[O.length - 1].1=x.1
     · rw [e,beq_self_eq_true]
       refine qmd (fun g=>by cases g) (fun _=>⟨rfl,?_⟩)
       refine hin (s',D',O) _ _ ⟨h.sub,hh',by simp only; omega,fun y hy=>hD y (hD' y hy),fun o ho y hy=>hle o ho y (hD' y hy),hO,hOS,fun y hy=>?_,by simp only; omega⟩ (by simp only; omega)
       rcases hc y hy with hy | hy
       · rcases List.mem_cons.1 (hp.mem_iff.2 hy) with rfl | hy
         · rcases hlx with ⟨_,h2⟩ | h2
           · exact Or.inr ⟨_,hlast,e,h2⟩
           · rw [e,qzd] at h2; cases h2
         · exact Or.inl hy
       · exact Or.inr hy
     · have e2:(O[O.length - 1].1.1 == x.1.1)=false:=beq_eq_false_iff_ne.2 fun y=>e (Nm.ext' y)
       rw [e2]
       refine qmd (fun _=>push (fun o ho=>?_) w h) (fun g=>by cases g)
       have hl2:ltI O[O.length - 1].1.1 x.1.1=true:=by
        rcases hlx with ⟨h1,_⟩ | h2
        · exact absurd h1 e
        · exact h2
       obtain ⟨k,hk2,rfl⟩:=List.getElem_of_mem ho
       by_cases ek:k=O.length - 1
       · subst ek; exact hl2
       · exact qki (List.pairwise_iff_getElem.1 hO k (O.length - 1) hk2 hj (by omega)) hl2
 · have:D=[]:=List.eq_nil_of_length_eq_zero (by omega)
   subst this
   unfold qbb.j4
   exact hk t O _ ⟨hO,hOS,fun y hy=>(hc y hy).elim (fun e=>by cases e) id⟩ (h.drop.drop)
theorem push_ct {x:Sp} {c:Array Value} {X:World→Prop} (hc:c=⟨spC x⟩) (h:St F0 w0 w (qt qb [.slice s.a s.len s.cap] :: qv 22 s (D.flatMap spC) :: ps)) (hD:D.length≤999999998) (hh:HpD D)
 (hk:∀ s' D' w',HpD D'→D'.Perm (D ++ [x])→St F0 w0 w' (qt qb [.slice s'.a s'.len s'.cap] :: qv 22 s' (D'.flatMap spC) :: ps)→X w') :
 ct_ 50 [.iface 127 (.pointer (some ⟨qb,0,none⟩)),.iface 75 (.agg c)] w X:=by
 subst hc
 exact qgh.c (D:=D) (x:=x) h hD hh fun q' D' w a b h=>⟨rfl,hk q' D' w a b h⟩
theorem merge.c (h:St F0 w0 w ps) [iR:Rdb F0 w0 s ps 2 (mks L)] (hL:L.length≤1000000) (hS:(qjj rw L).length≤900000000) (hRl:∀ m ∈ L,(rw m).length≤1000000000) (hP:∀ m ∈ L,Rdb F0 w0 m.2 ps 22 ((rw m).flatMap rwC))
 (hk:∀ t O w',MgO (qjj rw L) O→St F0 w0 w' (qv 22 t (O.flatMap spC) :: ps)→K (.returned (sV t)) w') :
 Calls Tryz.prog 22 ⟨[sV s]⟩ w K:=by
 haveI iR2:Rdb F0 w0 s ps 2 (L.flatMap mkC):=iR
 have hl:=h.rlen (s:=s) (f:=mkC) (L:=L)
 refine qsb (qbb.ok _ _ _ ?_)
 unfold qbb
 refine h.new fun zb w h=>?_
 have h:St F0 w0 w (qt zb [] :: ps):=h
 have h:St F0 w0 w (qv 22 ⟨some ⟨zb,0,none⟩,0,0⟩ [] :: ps):=h.ownBR rfl
 refine h.new fun qb w h=>?_
 have h:St F0 w0 w (qt qb [.slice (some ⟨zb,0,none⟩) 0 0] :: qv 22 ⟨some ⟨zb,0,none⟩,0,0⟩ [] :: ps):=h
 unfold qbb.j1 qbb.j5
 refine qud (fun (a:Nat × Sl × List Sp) (i':Int) w'=>i'=(a.1:Int)∧a.1≤L.length∧HpD a.2.2∧a.2.2.Perm (qjj rw (L.take a.1))∧St F0 w0 w' (qt qb [.slice a.2.1.a a.2.1.len a.2.1.cap] :: qv 22 a.2.1 (a.2.2.flatMap spC) :: ps)) (fun a=>L.length - a.1) (0,⟨some ⟨zb,0,none⟩,0,0⟩,[]) ⟨rfl,Nat.zero_le _,fun k h0 hk=>by simp at hk,.refl _,h⟩ ?_
 clear h
 rintro ⟨i,q,D⟩ _ wL I μ ⟨rfl,hi,hh,hp,h⟩ hin
 simp only at hi hh hp h hin ⊢
 unfold qbb.b2
 refine qsc (fun g=>?_) (fun g=>?_)
 · have hix:i < L.length:=by omega
   have hm:=List.getElem_mem hix
   haveI iP:=hP _ hm
   have hlR:=h.rlen (s:=L[i].2) (f:=rwC) (L:=rw L[i])
   have hsn:L.take (i+1)=L.take i ++ [L[i]]:=List.take_succ_eq_append_getElem hix
   have hlen:(L.take i).length=i:=by rw [List.length_take]; omega
   have hSn:qjj rw (L.take (i+1))=qjj rw (L.take i) ++ (rw L[i]).map (spR i):=by
    rw [hsn,spsA_snoc,hlen]
   have hSl:(qjj rw (L.take i)).length+(rw L[i]).length≤900000000:=by
    have:=spsA_le rw L (i+1)
    rw [hSn,List.length_append,List.length_map] at this
    omega
   unfold qbb.j6
   refine h.lr (s:=s) (f:=mkC) (L:=L) i rfl hix ?_
   rw [zc_pack]
   refine h.new fun pb w h=>?_
   have h:St F0 w0 w (qt pb (mkC (⟨⟨[]⟩⟩,⟨none,0,0⟩)) :: qt qb [.slice q.a q.len q.cap] :: qv 22 q (D.flatMap spC) :: ps):=h
   refine ⟨rfl,?_⟩
   refine h.setR (f:=mkC) (x:=L[i]) rfl fun w h=>?_
   have e1:Addr.add ⟨pb,0,none⟩ 1=⟨pb,1,none⟩:=qmb _ _ _
   rw [e1]
   refine (h.toB pb).blk.ldL (n:=L[i].2) rfl ?_
   have h:=h.drop
   unfold qbb.j8
   refine qud (fun (a:Nat × Sl × List Sp) (k':Int) w'=>k'=(a.1:Int)∧a.1≤(rw L[i]).length∧HpD a.2.2∧a.2.2.Perm (qjj rw (L.take i) ++ ((rw L[i]).take a.1).map (spR i))∧St F0 w0 w' (qt qb [.slice a.2.1.a a.2.1.len a.2.1.cap] :: qv 22 a.2.1 (a.2.2.flatMap spC) :: ps)) (fun a=>(rw L[i]).length - a.1) (0,q,D) ⟨rfl,Nat.zero_le _,hh,by simpa using hp,h⟩ ?_
   clear h hp hh
   rintro ⟨k,q,D⟩ _ wM I2 μ2 ⟨rfl,hkl,hh,hp,h⟩ hin2
   simp only at hkl hh hp h hin2 ⊢
   have hDl:D.length≤900000000:=by
    rw [hp.length_eq,List.length_append,List.length_map,List.length_take]
    omega
   unfold qbb.b3
   refine qsc (fun g2=>?_) (fun g2=>?_)
   · have hkx:k < (rw L[i]).length:=by
      have g2:(k:Int) < (L[i].2.len:Int):=g2
      omega
     have hsn2:(rw L[i]).take (k+1)=(rw L[i]).take k ++ [(rw L[i])[k]]:=List.take_succ_eq_append_getElem hkx
     refine h.lr (s:=L[i].2) (f:=rwC) (L:=rw L[i]) k rfl hkx ?_
     rw [zc_row]
     refine h.new fun rb w h=>?_
     have h:St F0 w0 w (qt rb (rwC (⟨z20,by refine ⟨rfl,?_⟩; decide⟩,0,0)) :: qt qb [.slice q.a q.len q.cap] :: qv 22 q (D.flatMap spC) :: ps):=h
     refine ⟨qwd _,?_⟩
     refine h.setR (f:=rwC) (x:=(rw L[i])[k]) (qwd _) fun w h=>?_
     refine (h.toB rb).blk.ldRid ?_
     refine (h.toB rb).blk.ldAt ?_
     refine ⟨by unfold nmC; simp [(rw L[i])[k].1.2.1],?_⟩
     have h:=h.drop
     refine push_ct (D:=D) (x:=spR i (rw L[i])[k]) (congrArg Array.mk (row_sp _ _)) h (by omega) hh fun q' D' w hh' hp' h=>?_
     refine qx (e':=((k+1:Nat):Int)) (by rw [qh (by omega) (by omega)]; rfl) ?_
     refine ⟨⟨rfl,rfl,rfl,rfl,rfl,rfl,rfl⟩,hin2 (k+1,q',D') _ _ ⟨rfl,by simp only; omega,hh',?_,h⟩ (by simp only; omega)⟩
     simp only
     rw [hsn2,List.map_append,← List.append_assoc]
     exact hp'.trans (hp.append_right _)
   · have:k=(rw L[i]).length:=by
      have g2:¬ (k:Int) < (L[i].2.len:Int):=g2
      omega
     subst this
     rw [List.take_length,← hSn] at hp
     unfold qbb.j7
     refine qx (e':=((i+1:Nat):Int)) (by rw [qh (by omega) (by omega)]; rfl) ?_
     exact ⟨⟨rfl,rfl,rfl⟩,hin (i+1,q,D) _ _ ⟨rfl,by simp only; omega,hh,hp,h⟩ (by simp only; omega)⟩
 · have:i=L.length:=by omega
   subst this
   rw [List.take_length] at hp
   unfold qbb.j2
   exact merge_out (qjj rw L) hS h hp hh hk
end
end Go.Proofs.YtonmgkkkiejicaaGreat
namespace Go.Proofs.YtonmgkkkiejicaaGreat
open Go Go.Proofs
set_option linter.unusedVariables false
set_option linter.unusedSimpArgs false
section
variable {M:Rws Nd} {pr:Nd→List Nm} {lost:Bool} {O O1 O2 A:List Nm} {G G1 G2:Rws Int}
theorem WkE.inM (h:WkE M pr lost O G) {q:Nm} (hq:q ∈ O):Go.Proofs.YtonmgkkkiejicaaGreat.inM M q=true:=by
 have:=h.mem q.1 ((h.keys q).2 hq)
 unfold Go.Proofs.YtonmgkkkiejicaaGreat.inM
 cases hl:lkE M q.1 with
 | none=>exact absurd this (lk_none.1 hl)
 | some x=>rfl
end
end Go.Proofs.YtonmgkkkiejicaaGreat
namespace Go.Proofs.YtonmgkkkiejicaaGreat
open Go Go.Proofs
set_option linter.unusedVariables false
set_option linter.unusedSimpArgs false
structure Cm where
 id:Nm
 tree:Nm
 par:List Nm
 date:Int
instance:Inhabited Cm:=⟨⟨default,default,[],0⟩⟩
def Nd.tr (n:Nd):Nm:=⟨n.tree,n.htr,n.btr⟩
def cmN (pr:Nd→List Nm) (n:Nd):Cm:=⟨n.nm,n.tr,pr n,n.date⟩
section
variable (f:Nm→Option (List Nm)) (lost:Bool)
def fineF (ps:List Nm):Bool:=lost || ps.all fun p=>(f p).isSome
inductive EnF:List Nm→Prop
 | nil:EnF []
 | snoc {O:List Nm} {c:Nm} {ps:List Nm}:EnF O→f c=some ps→fineF f lost ps=true→(∀ p ∈ ps,(f p).isSome=true→p ∈ O)→EnF (O ++ [c])
def mxF (g:Nm→Int) (O:List Nm):List Nm→Int
 | []=>0
 | p :: ps=>if p ∈ O then max (g p+1) (mxF g O ps) else mxF g O ps
def MostF (O:List Nm):Prop:=∀ k ps,f k=some ps→fineF f lost ps=true→(∀ p ∈ ps,(f p).isSome=true→p ∈ O)→k ∈ O
structure Wk (O:List Nm) (g:Nm→Int):Prop where
 nd:O.Nodup
 en:EnF f lost O
 most:MostF f lost O
 gens:∀ c ps,c ∈ O→f c=some ps→g c=max 1 (mxF g O ps)
end
section
variable {f:Nm→Option (List Nm)} {lost:Bool} {O O1 O2 A:List Nm} {g g1 g2:Nm→Int}
theorem EnF.dom (h:EnF f lost A):∀ q ∈ A,∃ ps,f q=some ps∧fineF f lost ps=true∧∀ p ∈ ps,(f p).isSome=true→p ∈ A:=by
 induction h with
 | nil=>intro q hq; cases hq
 | @snoc O c ps _ h1 h2 h3 ih =>
   intro q hq
   rcases List.mem_append.1 hq with hq | hq
   · obtain ⟨ms,k1,k2,k3⟩:=ih q hq
     exact ⟨ms,k1,k2,fun p hp hm=>List.mem_append_left _ (k3 p hp hm)⟩
   · have:q=c:=by simpa using hq
     subst this
     exact ⟨ps,h1,h2,fun p hp hm=>List.mem_append_left _ (h3 p hp hm)⟩
theorem mxF_same {ps:List Nm} (h:∀ p ∈ ps,(p ∈ O1 ↔ p ∈ O2)∧(p ∈ O1→g1 p=g2 p)):mxF g1 O1 ps=mxF g2 O2 ps:=by
 induction ps with
 | nil=>rfl
 | cons p ps ih =>
   obtain ⟨h1,h2⟩:=h p (by simp)
   rw [mxF,mxF,ih fun q hq=>h q (by simp [hq])]
   by_cases g:p ∈ O1
   · rw [if_pos g,if_pos (h1.1 g),h2 g]
   · rw [if_neg g,if_neg fun e=>g (h1.2 e)]
end
section
variable {M:Rws Nd} {pr:Nd→List Nm} {lost:Bool} {O:List Nm} {G:Rws Int}
end
def fC (C:List Cm) (k:Nm):Option (List Nm):=(C.find? fun c=>decide (c.id=k)).map (·.par)
def fstC (C:List Cm) (k:Nm):Option Cm:=C.find? fun c=>decide (c.id=k)
theorem nm_eq {n:Nd} {k:Nm}:n.nm=k ↔ n.id=k.1:=⟨fun h=>by rw [← h]; rfl,fun h=>Nm.ext' h⟩
theorem fC_fst (C:List Cm) (k:Nm):fC C k=(fstC C k).map (·.par):=rfl
theorem fst_id {C:List Cm} {k:Nm} {c:Cm} (h:fstC C k=some c):c ∈ C∧c.id=k:=⟨List.mem_of_find?_eq_some h,by have:=List.find?_some h; simpa using this⟩
theorem fst_none {C:List Cm} {k:Nm}:fstC C k=none ↔ k ∉ C.map (·.id):=by
 unfold fstC
 rw [List.find?_eq_none]
 constructor
 · intro h hm
   obtain ⟨c,hc,e⟩:=List.mem_map.1 hm
   exact h c hc (by simpa using e)
 · intro h c hc e
   exact h (List.mem_map.2 ⟨c,hc,by simpa using e⟩)
theorem fC_isSome {C:List Cm} {k:Nm}:(fC C k).isSome=true ↔ k ∈ C.map (·.id):=by
 rw [fC_fst,Option.isSome_map]
 cases h:fstC C k with
 | none=>simp [fst_none.1 h]
 | some c =>
   obtain ⟨h1,h2⟩:=fst_id h
   simp
   exact ⟨c,h1,h2⟩
def ltC (a b:Cm):Prop:=ltI a.id.1 b.id.1=true
end Go.Proofs.YtonmgkkkiejicaaGreat
namespace Go.Proofs.YtonmgkkkiejicaaGreat
open Go Go.Proofs
set_option linter.unusedVariables false
set_option linter.unusedSimpArgs false
attribute [local irreducible] apK cpK mkK br
abbrev Cx:=Nd × List Nm
section
variable {F0:List Nat} {w0 w:World} {ps rest:List As} {s:Sl} {L:List Nd} {pr:Nd→List Nm} {X:List Cx} {K:Ending→World→Prop}
theorem rd_one {sz:Nat} {cs ds:List Value} (h1:Rd w sz s cs) (h2:Rd w sz s ds):cs=ds:=by
 have hl:cs.length=ds.length:=h1.1.trans h2.1.symm
 apply List.ext_getElem? 
 intro i
 by_cases hi:i < cs.length
 · obtain ⟨a,ha,c1⟩:=h1.2 i hi
   obtain ⟨b,hb,c2⟩:=h2.2 i (by omega)
   rw [ha] at hb
   injection hb with hb
   subst hb
   rw [← c1,← c2]
 · rw [List.getElem?_eq_none (by omega),List.getElem?_eq_none (by omega)]
end
end Go.Proofs.YtonmgkkkiejicaaGreat
namespace Go.Proofs.YtonmgkkkiejicaaGreat
open Go Go.Proofs
set_option linter.unusedVariables false
set_option linter.unusedSimpArgs false
attribute [local irreducible] apK cpK mkK br
def fndN (L:List Nd) (k:List Int):Option Nd:=L.find? fun n=>decide (n.id=k)
theorem fnd_app (L M:List Nd) (k:List Int):fndN (L ++ M) k=(fndN L k).or (fndN M k):=by unfold fndN; exact List.find?_append ..
theorem fnd_cons (n:Nd) (L:List Nd) (k:List Int):fndN (n :: L) k=if n.id=k then some n else fndN L k:=by
 unfold fndN
 rw [List.find?_cons]
 by_cases g:n.id=k
 · simp [g]
 · simp [g]
theorem fnd_some {L:List Nd} {k:List Int} {n:Nd} (h:fndN L k=some n):n ∈ L∧n.id=k:=⟨List.mem_of_find?_eq_some h,by have:=List.find?_some h; simpa using this⟩
abbrev RisN (R:List Nd):Prop:=R.Pairwise fun x y=>ltN x y=true
theorem RisN.nd {R:List Nd} (h:RisN R):(R.map (·.id)).Nodup:=by
 unfold List.Nodup
 rw [List.pairwise_map]
 exact h.imp fun {a b} hab e=>by
  unfold ltN at hab
  rw [e,qzd] at hab
  cases hab
theorem qbm {R:List Nd} (hn:(R.map (·.id)).Nodup) {n:Nd} (h:n ∈ R):fndN R n.id=some n:=by
 induction R with
 | nil=>cases h
 | cons m R ih =>
   have hn':m.id ∉ R.map (·.id)∧(R.map (·.id)).Nodup:=List.nodup_cons.1 hn
   rw [fnd_cons]
   rcases List.mem_cons.1 h with rfl | h
   · simp
   · rw [if_neg fun e=>hn'.1 (by rw [e]; exact List.mem_map.2 ⟨n,h,rfl⟩),ih hn'.2 h]
structure SrtN (L R:List Nd):Prop where
 ris:RisN R
 fnd:∀ k,fndN R k=fndN L k
theorem SrtN.perm {L R:List Nd} (h:SrtN L R) (hn:(L.map (·.id)).Nodup):R.Perm L:=by
 have nd:∀ {A:List Nd},(A.map (·.id)).Nodup→A.Nodup:=fun h=>by
  unfold List.Nodup at h ⊢
  rw [List.pairwise_map] at h
  exact h.imp fun hab e=>hab (by rw [e])
 rw [List.perm_ext_iff_of_nodup (nd h.ris.nd) (nd hn)]
 intro n
 constructor
 · intro hm
   have:=qbm h.ris.nd hm
   rw [h.fnd] at this
   exact (fnd_some this).1
 · intro hm
   have:=qbm hn hm
   rw [← h.fnd] at this
   exact (fnd_some this).1
theorem SrtN.skip {L R:List Nd} {n m:Nd} (h:SrtN L R) (hm:m ∈ R) (e:m.id=n.id):SrtN (L ++ [n]) R:=by
 refine ⟨h.ris,fun k=>?_⟩
 rw [fnd_app,h.fnd,fnd_cons]
 by_cases g:n.id=k
 · rw [if_pos g]
   have:=qbm h.ris.nd hm
   rw [e,g,h.fnd] at this
   rw [this]; rfl
 · rw [if_neg g]
   show _=Option.or _ none
   simp
section
variable {F0:List Nat} {w0 w:World} {ps rest:List As} {s t:Sl} {L R:List Nd} {n:Nd} {K:Ending→World→Prop} {k i:Nat}
 {Q:VWP} {nx1:Sl→Sl→Int→World→Prop}
end
end Go.Proofs.YtonmgkkkiejicaaGreat
namespace Go.Proofs.YtonmgkkkiejicaaGreat
open Go Go.Proofs
set_option linter.unusedVariables false
set_option linter.unusedSimpArgs false
attribute [local irreducible] apK cpK mkK br
theorem atD_neg:∀ {L:List Nd} {q:Nm},atD L q < 0 ↔ q ∉ L.map Nd.nm:=by
 intro L
 induction L with
 | nil=>intro q; simp [atD]
 | cons n L ih =>
   intro q
   rw [atD,List.map_cons,List.mem_cons]
   by_cases g:n.id=q.1
   · rw [if_pos g]
     have:q=n.nm:=(nm_eq.2 g).symm
     simp [this]
   · rw [if_neg g]
     have hne:¬ q=n.nm:=fun e=>g (nm_eq.1 e.symm)
     by_cases g2:atD L q < 0
     · rw [if_pos g2]
       have:=ih.1 g2
       simp [hne,this]
     · rw [if_neg g2]
       have:q ∈ L.map Nd.nm:=Classical.byContradiction fun e=>g2 (ih.2 e)
       constructor
       · intro; omega
       · intro h; exact absurd (Or.inr this) h
theorem SrtN.sub {L S:List Nd} (h:SrtN L S) {n:Nd} (hn:n ∈ S):n ∈ L∧fndN L n.id=some n:=by
 have:=qbm h.ris.nd hn
 rw [h.fnd] at this
 exact ⟨(fnd_some this).1,this⟩
section
variable {F0:List Nat} {w0 w:World} {ps rest:List As} {s t:Sl} {L R:List Nd} {n:Nd} {pr:Nd→List Nm} {K:Ending→World→Prop}
end
end Go.Proofs.YtonmgkkkiejicaaGreat
namespace Go.Proofs.YtonmgkkkiejicaaGreat
open Go Go.Proofs
set_option linter.unusedVariables false
set_option linter.unusedSimpArgs false
attribute [local irreducible] apK cpK mkK br
theorem atD_get:∀ {L:List Nd} {q:Nm} (h:0≤atD L q),∃ hj:(atD L q).toNat < L.length,L[(atD L q).toNat].nm=q:=by
 intro L q h
 have hm:q ∈ L.map Nd.nm:=Classical.byContradiction fun e=>by have:=atD_neg.2 e; omega
 obtain ⟨n,hn,e⟩:=List.mem_map.1 hm
 have:∀ {M:List Nd},0≤atD M q→∃ hj:(atD M q).toNat < M.length,M[(atD M q).toNat].nm=q:=by
  intro M
  induction M with
  | nil=>intro h; simp [atD] at h
  | cons m M ih =>
    intro h
    rw [atD] at h
    by_cases g:m.id=q.1
    · have e:atD (m :: M) q=0:=by rw [atD,if_pos g]
      simp only [e]
      exact ⟨by simp,nm_eq.2 g⟩
    · rw [if_neg g] at h
      by_cases g2:atD M q < 0
      · rw [if_pos g2] at h; omega
      · obtain ⟨hj,e1⟩:=ih (by omega)
        have e:(atD (m :: M) q).toNat=(atD M q).toNat+1:=by rw [atD,if_neg g,if_neg g2]; omega
        simp only [e]
        exact ⟨by rw [List.length_cons]; omega,by simpa using e1⟩
 exact this h
theorem atD_nd {L:List Nd} (hn:(L.map (·.id)).Nodup) {i:Nat} (hi:i < L.length):atD L L[i].nm=i :=
 atD_hit hi rfl fun j hj hji e=>by
  unfold List.Nodup at hn
  rw [List.pairwise_map] at hn
  exact List.pairwise_iff_getElem.1 hn j i hj hi hji e
def gF (L:List Nd) (gl:List Int) (q:Nm):Int:=if atD L q < 0 then 0 else gl.getD (atD L q).toNat 0
structure GnS (L:List Nd) (f:Nm→Option (List Nm)) (gl:List Int) (O:List Nm):Prop where
 len:gl.length=L.length
 nd:O.Nodup
 en:EnF f true O
 dn:∀ j (h:j < L.length),(L[j].nm ∈ O→1≤gl.getD j 0)∧(L[j].nm ∉ O→gl.getD j 0=0)
 gens:∀ c ps,c ∈ O→f c=some ps→gF L gl c=max 1 (mxF (gF L gl) O ps)
 bd:∀ q,gF L gl q≤O.length
theorem mxF_le {g:Nm→Int} {B:Int} (hB:0≤B) (h:∀ q,g q+1≤B) (O:List Nm):∀ ps,mxF g O ps≤B:=by
 intro ps
 induction ps with
 | nil=>exact hB
 | cons p ps ih =>
   rw [mxF]
   have:=h p
   split <;> omega
theorem GnS.step {L:List Nd} {f:Nm→Option (List Nm)} {gl:List Int} {O:List Nm} (h:GnS L f gl O) (hn:(L.map (·.id)).Nodup) {pr:Nd→List Nm} (hf:∀ k:Nm,f k=(fndN L k.1).map pr) {i:Nat} (hi:i < L.length) (hO:L[i].nm ∉ O) (hp:∀ p ∈ pr L[i],(f p).isSome=true→p ∈ O) :
 GnS L f (gl.set i (max 1 (mxF (gF L gl) O (pr L[i])))) (O ++ [L[i].nm]):=by
 have hfi:f L[i].nm=some (pr L[i]):=by
  rw [hf]
  show (fndN L L[i].id).map pr=_
  rw [qbm hn (List.getElem_mem hi)]
  rfl
 generalize hv:max 1 (mxF (gF L gl) O (pr L[i]))=v
 have hset:∀ j,j < L.length→(gl.set i v).getD j 0=if i=j then v else gl.getD j 0:=fun j hj=>getD_setL (by rw [h.len]; exact hi)
 have hgF:∀ q,q ≠ L[i].nm→gF L (gl.set i v) q=gF L gl q:=by
  intro q hq
  unfold gF
  by_cases g:atD L q < 0
  · rw [if_pos g,if_pos g]
  · rw [if_neg g,if_neg g]
    obtain ⟨hj,e⟩:=atD_get (L:=L) (q:=q) (by omega)
    rw [hset _ hj,if_neg fun e2=>hq (by
     subst e2
     exact e.symm)]
 have hgi:gF L (gl.set i v) L[i].nm=v:=by
  unfold gF
  rw [atD_nd hn hi,if_neg (by omega),Int.toNat_natCast,hset i hi,if_pos rfl]
 have hno:L[i].nm ∉ pr L[i]:=fun e=>hO (hp _ e (by rw [hfi]; rfl))
 have hmx:∀ ps,L[i].nm ∉ ps→mxF (gF L (gl.set i v)) (O ++ [L[i].nm]) ps=mxF (gF L gl) O ps:=by
  intro ps hps
  refine mxF_same fun p hpp=>?_
  have hne:p ≠ L[i].nm:=fun e=>hps (e ▸ hpp)
  exact ⟨by simp [hne],fun _=>hgF p hne⟩
 refine ⟨by rw [List.length_set]; exact h.len,?_,.snoc h.en hfi rfl hp,fun j hj=>?_,fun c ps hc hfc=>?_,fun q=>?_⟩
 · rw [List.nodup_append]
   exact ⟨h.nd,by simp,fun a ha b hb e=>hO (by
    have:b=L[i].nm:=by simpa using hb
    rw [← this,← e]; exact ha)⟩
 · rw [hset j hj]
   by_cases e:i=j
   · subst e
     rw [if_pos rfl]
     exact ⟨fun _=>by omega,fun e=>absurd (by simp) e⟩
   · rw [if_neg e]
     have hne:L[j].nm ≠ L[i].nm:=fun e2=>by
      have h1:=atD_nd hn hj
      rw [e2,atD_nd hn hi] at h1
      omega
     have:=h.dn j hj
     exact ⟨fun hm=>this.1 (by simpa [hne] using hm),fun hm=>this.2 fun h2=>hm (by simp [h2])⟩
 · rcases List.mem_append.1 hc with hc | hc
   · have hne:c ≠ L[i].nm:=fun e=>hO (e ▸ hc)
     rw [hgF c hne,h.gens c ps hc hfc,hmx]
     intro hps
     obtain ⟨ms,k1,_,k3⟩:=h.en.dom c hc
     rw [hfc] at k1
     injection k1 with k1
     subst k1
     exact hO (k3 _ hps (by rw [hfi]; rfl))
   · have:c=L[i].nm:=by simpa using hc
     subst this
     rw [hfi] at hfc
     injection hfc with hfc
     subst hfc
     rw [hgi,hmx _ hno]
     exact hv.symm
 · rw [List.length_append,List.length_singleton]
   have hb:=h.bd
   by_cases e:q=L[i].nm
   · subst e
     rw [hgi]
     have:=mxF_le (g:=gF L gl) (B:=(O.length:Int)+1) (by omega) (fun q=>by have:=hb q; omega) O (pr L[i])
     omega
   · rw [hgF q e]
     have:=hb q
     omega
end Go.Proofs.YtonmgkkkiejicaaGreat
namespace Go.Proofs.YtonmgkkkiejicaaGreat
open Go Go.Proofs
set_option linter.unusedVariables false
set_option linter.unusedSimpArgs false
attribute [local irreducible] apK cpK mkK br
section
variable {F0:List Nat} {w0 w:World} {ps rest:List As} {s t:Sl} {L R:List Nd} {n:Nd} {pr:Nd→List Nm} {K:Ending→World→Prop} {gl:List Int} {O:List Nm}
theorem GnS.at (h:GnS L (fC (L.map (cmN pr))) gl O) {p:Nm} (hp:0≤atD L p):∃ hj:(atD L p).toNat < L.length,gl.getD (atD L p).toNat 0=gF L gl p∧(p ∈ O→1≤gF L gl p)∧(p ∉ O→gF L gl p=0):=by
 obtain ⟨hj,e⟩:=atD_get hp
 have:=h.dn _ hj
 rw [e] at this
 have e2:gl.getD (atD L p).toNat 0=gF L gl p:=by unfold gF; rw [if_neg (by omega)]
 rw [e2] at this
 exact ⟨hj,e2,this⟩
theorem GnS.le (h:GnS L (fC (L.map (cmN pr))) gl O):O.length≤L.length:=by
 have:=len_sub (O:=O) (S:=L.map Nd.nm) h.nd fun q hq=>by
  obtain ⟨ps,h1,_⟩:=h.en.dom q hq
  have:(fC (L.map (cmN pr)) q).isSome=true:=by rw [h1]; rfl
  rw [fC_isSome,List.map_map] at this
  exact this
 simpa using this
end
end Go.Proofs.YtonmgkkkiejicaaGreat
namespace Go.Proofs.YtonmgkkkiejicaaGreat
open Go Go.Proofs
set_option linter.unusedVariables false
set_option linter.unusedSimpArgs false
attribute [local irreducible] apK cpK mkK br
structure OkC (C:List Cm):Prop where
 nd:(C.map (·.id)).Nodup
 dt:∀ c ∈ C,0≤c.date∧c.date < 17179869184
 par:∀ c ∈ C,∀ p ∈ c.par,p ∈ C.map (·.id)
theorem OkC.perm {C D:List Cm} (h:OkC C) (hp:C.Perm D):OkC D :=
 ⟨(hp.map _).nodup_iff.1 h.nd,fun c hc=>h.dt c (hp.mem_iff.2 hc),fun c hc p hpp=>(hp.map _).mem_iff.1 (h.par c (hp.mem_iff.2 hc) p hpp)⟩
section
variable {F0:List Nat} {w0 w:World} {ps rest:List As} {s t:Sl} {L R:List Nd} {n:Nd} {pr:Nd→List Nm} {K:Ending→World→Prop}
end
end Go.Proofs.YtonmgkkkiejicaaGreat
namespace Go.Proofs.YtonmgkkkiejicaaGreat
open Go Go.Proofs
set_option linter.unusedVariables false
set_option maxRecDepth 100000
def qqg (x_0 n_1:Int) (Q:VWP) (w:World):Prop :=
 lt (World.drew w) fun w1 =>
 (0:Int)≤n_1 ∧
 lt (shlV .u32 x_0 n_1) fun x2 =>
 lt (IntKind.i64.wrap (32 - n_1)) fun x3 =>
 (0:Int)≤x3 ∧
 lt (shrV .u32 x_0 x3) fun x4 =>
 lt (orV .u32 x2 x4) fun x5 =>
 Q (.int .u32 x5) w1
theorem qqg.ok (x_0:Int) (n_1:Int) (Q:VWP) (w:World) (h:qqg x_0 n_1 Q w):Calls Tryz.prog 106 ⟨[.int .u32 x_0,.int .i64 n_1]⟩ w (Ret Q) :=
 qvb [.tmp 4] qkd Tryz.func106 rfl rfl rfl rfl .lf (by kernel_rfl) h
def qgk (t_0 b_1 c_2 d_3:Int) (Q:VWP) (w:World):Prop :=
 (20:Int) ≠ 0 ∧
 lt (IntKind.i64.wrap (Int.tdiv t_0 20)) fun x1 =>
 br (x1 == 0) (
 lt (andV .u32 b_1 c_2) fun x2 =>
 lt (qpj .u32 (if IntKind.signed .u32 then -1 else IntKind.max .u32) b_1) fun x3 =>
 lt (andV .u32 x3 d_3) fun x4 =>
 lt (orV .u32 x2 x4) fun x5 =>
 Q (.tuple ⟨[.int .u32 x5,.int .u32 1518500249]⟩) w) (
 br (x1 == 1) (
 lt (qpj .u32 b_1 c_2) fun x6 =>
 lt (qpj .u32 x6 d_3) fun x7 =>
 Q (.tuple ⟨[.int .u32 x7,.int .u32 1859775393]⟩) w) (
 br (x1 == 2) (
 lt (andV .u32 b_1 c_2) fun x8 =>
 lt (andV .u32 b_1 d_3) fun x9 =>
 lt (orV .u32 x8 x9) fun x10 =>
 lt (andV .u32 c_2 d_3) fun x11 =>
 lt (orV .u32 x10 x11) fun x12 =>
 Q (.tuple ⟨[.int .u32 x12,.int .u32 2400959708]⟩) w) (
 lt (qpj .u32 b_1 c_2) fun x13 =>
 lt (qpj .u32 x13 d_3) fun x14 =>
 Q (.tuple ⟨[.int .u32 x14,.int .u32 3395469782]⟩) w)))
theorem qgk.ok (t_0:Int) (b_1:Int) (c_2:Int) (d_3:Int) (Q:VWP) (w:World) (h:qgk t_0 b_1 c_2 d_3 Q w):Calls Tryz.prog 107 ⟨[.int .i64 t_0,.int .u32 b_1,.int .u32 c_2,.int .u32 d_3]⟩ w (Ret Q) :=
 qvb [.tmp 8,.tmp 9] qkd Tryz.func107 rfl rfl rfl rfl .lf (by kernel_rfl) h
def qn.b1 (d_0:OAd) (t121:(Array Value)) (t122:Int) (Q:VWP) (nx1:OAd→(Array Value)→Int→WP) (w:World):Prop :=
 br (decide (t122 < 5)) (
 ((0:Int)≤t122∧t122 < ((5:Nat):Int)) ∧
 ptI .u32 t121 (Int.toNat t122 * 1) fun x1 =>
 lt (World.drew w) fun w2 =>
 nz d_0 fun a3 =>
 ixA (Addr.add a3 0) 5 t122 1 fun a4 =>
 ldI .u32 w2 a4 fun x5 =>
 lt (IntKind.u32.wrap (x5+x1)) fun x6 =>
 nz d_0 fun a7 =>
 ixA (Addr.add a7 0) 5 t122 1 fun a8 =>
 st w2 a8 (.int .u32 x6) fun w9 =>
 lt (IntKind.i64.wrap (t122+1)) fun x10 =>
 nx1 d_0 t121 x10 w9) (
 Q (.tuple ⟨[]⟩) w)
def qn.l1 (d_0:OAd) (t121:(Array Value)) (t122:Int) (Q:VWP) (w:World):Prop :=
 ∃ (I:Int→WP) (μ:Int→World→Nat),I t122 w∧∀ t122:Int,∀ w:World,I t122 w→qn.b1 d_0 t121 t122 Q (fun d_0' t121' t122' w'=>(d_0'=d_0∧t121'=t121)∧I t122' w'∧μ t122' w' < μ t122 w) w
def qn.j6 (d_0:OAd) (t121:(Array Value)) (t122:Int) (Q:VWP) (w:World):Prop :=
 qn.l1 d_0 t121 t122 Q w
def qn.j5 (d_0:OAd) (t8:Int) (t9 t10 t11 t12:Int) (Q:VWP) (w:World):Prop :=
 qn.j6 d_0 ⟨[.int .u32 t8,.int .u32 t9,.int .u32 t10,.int .u32 t11,.int .u32 t12]⟩ 0 Q w
def qn.b2 (d_0:OAd) (t87:(Array Value)) (t8 t9 t10 t11 t12 t88:Int) (Q:VWP) (nx2:OAd→(Array Value)→Int→Int→Int→Int→Int→Int→WP) (w:World):Prop :=
 br (decide (t88 < 80)) (
 ((0:Int)≤t88∧t88 < ((80:Nat):Int)) ∧
 ptI .u32 t87 (Int.toNat t88 * 1) fun x11 =>
 Calls Tryz.prog 107 ⟨[.int .i64 t88,.int .u32 t9,.int .u32 t10,.int .u32 t11]⟩ w fun e12 w13 =>
 ∃ r14:Int,∃ r15:Int,e12=.returned (.tuple ⟨[.int .u32 r14,.int .u32 r15]⟩) ∧
 qqi 106 [.int .u32 t8,.int .i64 5] w13 fun r18 w17 =>
 lt (IntKind.u32.wrap (r18+r14)) fun x19 =>
 lt (IntKind.u32.wrap (x19+t12)) fun x20 =>
 lt (IntKind.u32.wrap (x20+r15)) fun x21 =>
 lt (IntKind.u32.wrap (x21+x11)) fun x22 =>
 qqi 106 [.int .u32 t9,.int .i64 30] w17 fun r25 w24 =>
 lt (IntKind.i64.wrap (t88+1)) fun x26 =>
 nx2 d_0 t87 x22 t8 r25 t10 t11 x26 w24) (
 qn.j5 d_0 t8 t9 t10 t11 t12 Q w)
def qn.l2 (d_0:OAd) (t87:(Array Value)) (t8 t9 t10 t11 t12 t88:Int) (Q:VWP) (w:World):Prop :=
 ∃ (I:Int→Int→Int→Int→Int→Int→WP) (μ:Int→Int→Int→Int→Int→Int→World→Nat),I t8 t9 t10 t11 t12 t88 w∧∀ t8:Int,∀ t9:Int,∀ t10:Int,∀ t11:Int,∀ t12:Int,∀ t88:Int,∀ w:World,I t8 t9 t10 t11 t12 t88 w→qn.b2 d_0 t87 t8 t9 t10 t11 t12 t88 Q (fun d_0' t87' t8' t9' t10' t11' t12' t88' w'=>(d_0'=d_0∧t87'=t87)∧I t8' t9' t10' t11' t12' t88' w'∧μ t8' t9' t10' t11' t12' t88' w' < μ t8 t9 t10 t11 t12 t88 w) w
def qn.j7 (d_0:OAd) (t8:Int) (t9 t10 t11 t12:Int) (t87:(Array Value)) (t88:Int) (Q:VWP) (w:World):Prop :=
 qn.l2 d_0 t87 t8 t9 t10 t11 t12 t88 Q w
def qn.j4 (d_0:OAd) (t4:Addr) (t8 t9 t10 t11 t12:Int) (Q:VWP) (w:World):Prop :=
 ldA w t4 80 fun c27 =>
 qn.j7 d_0 t8 t9 t10 t11 t12 c27 0 Q w
def qn.j3 (d_0:OAd) (t4:Addr) (Q:VWP) (w:World):Prop :=
 lt (World.drew w) fun w28 =>
 nz d_0 fun a29 =>
 ixA (Addr.add a29 0) 5 0 1 fun a30 =>
 ldI .u32 w28 a30 fun x31 =>
 nz d_0 fun a32 =>
 ixA (Addr.add a32 0) 5 1 1 fun a33 =>
 ldI .u32 w28 a33 fun x34 =>
 nz d_0 fun a35 =>
 ixA (Addr.add a35 0) 5 2 1 fun a36 =>
 ldI .u32 w28 a36 fun x37 =>
 nz d_0 fun a38 =>
 ixA (Addr.add a38 0) 5 3 1 fun a39 =>
 ldI .u32 w28 a39 fun x40 =>
 nz d_0 fun a41 =>
 ixA (Addr.add a41 0) 5 4 1 fun a42 =>
 ldI .u32 w28 a42 fun x43 =>
 qn.j4 d_0 t4 x31 x34 x37 x40 x43 Q w28
def qn.b3 (d_0:OAd) (t4:Addr) (t7:Int) (Q:VWP) (nx3:OAd→Addr→Int→WP) (w:World):Prop :=
 br (decide (t7 < 80)) (
 lt (World.drew w) fun w44 =>
 lt (IntKind.i64.wrap (t7 - 3)) fun x45 =>
 ixA t4 80 x45 1 fun a46 =>
 ldI .u32 w44 a46 fun x47 =>
 lt (IntKind.i64.wrap (t7 - 8)) fun x48 =>
 ixA t4 80 x48 1 fun a49 =>
 ldI .u32 w44 a49 fun x50 =>
 lt (qpj .u32 x47 x50) fun x51 =>
 lt (IntKind.i64.wrap (t7 - 14)) fun x52 =>
 ixA t4 80 x52 1 fun a53 =>
 ldI .u32 w44 a53 fun x54 =>
 lt (qpj .u32 x51 x54) fun x55 =>
 lt (IntKind.i64.wrap (t7 - 16)) fun x56 =>
 ixA t4 80 x56 1 fun a57 =>
 ldI .u32 w44 a57 fun x58 =>
 lt (qpj .u32 x55 x58) fun x59 =>
 qqi 106 [.int .u32 x59,.int .i64 1] w44 fun r62 w61 =>
 ixA t4 80 t7 1 fun a63 =>
 st w61 a63 (.int .u32 r62) fun w64 =>
 lt (IntKind.i64.wrap (t7+1)) fun x65 =>
 nx3 d_0 t4 x65 w64) (
 qn.j3 d_0 t4 Q w)
def qn.l3 (d_0:OAd) (t4:Addr) (t7:Int) (Q:VWP) (w:World):Prop :=
 ∃ (I:Int→WP) (μ:Int→World→Nat),I t7 w∧∀ t7:Int,∀ w:World,I t7 w→qn.b3 d_0 t4 t7 Q (fun d_0' t4' t7' w'=>(d_0'=d_0∧t4'=t4)∧I t7' w'∧μ t7' w' < μ t7 w) w
def qn.j8 (d_0:OAd) (t4:Addr) (t7:Int) (Q:VWP) (w:World):Prop :=
 qn.l3 d_0 t4 t7 Q w
def qn.j2 (d_0:OAd) (t4:Addr) (Q:VWP) (w:World):Prop :=
 qn.j8 d_0 t4 16 Q w
def qn.b4 (d_0:OAd) (t4:Addr) (t19:(Array Value)) (t20:Int) (Q:VWP) (nx4:OAd→Addr→(Array Value)→Int→WP) (w:World):Prop :=
 br (decide (t20 < 64)) (
 ((0:Int)≤t20∧t20 < ((64:Nat):Int)) ∧
 ptI .u8 t19 (Int.toNat t20 * 1) fun x66 =>
 (4:Int) ≠ 0 ∧
 lt (IntKind.i64.wrap (Int.tdiv t20 4)) fun x67 =>
 (4:Int) ≠ 0 ∧
 lt (IntKind.i64.wrap (Int.tdiv t20 4)) fun x68 =>
 ixA t4 80 x68 1 fun a69 =>
 ldI .u32 w a69 fun x70 =>
 (0:Int)≤8 ∧
 lt (shlV .u32 x70 8) fun x71 =>
 lt (IntKind.u32.wrap x66) fun x72 =>
 lt (orV .u32 x71 x72) fun x73 =>
 ixA t4 80 x67 1 fun a74 =>
 st w a74 (.int .u32 x73) fun w75 =>
 lt (IntKind.i64.wrap (t20+1)) fun x76 =>
 nx4 d_0 t4 t19 x76 w75) (
 qn.j2 d_0 t4 Q w)
def qn.l4 (d_0:OAd) (t4:Addr) (t19:(Array Value)) (t20:Int) (Q:VWP) (w:World):Prop :=
 ∃ (I:Int→WP) (μ:Int→World→Nat),I t20 w∧∀ t20:Int,∀ w:World,I t20 w→qn.b4 d_0 t4 t19 t20 Q (fun d_0' t4' t19' t20' w'=>(d_0'=d_0∧t4'=t4∧t19'=t19)∧I t20' w'∧μ t20' w' < μ t20 w) w
def qn.j9 (d_0:OAd) (t4:Addr) (t19:(Array Value)) (t20:Int) (Q:VWP) (w:World):Prop :=
 qn.l4 d_0 t4 t19 t20 Q w
def qn.j1 (d_0:OAd) (t3:Addr) (t4:Addr) (Q:VWP) (w:World):Prop :=
 ldA w t3 64 fun c77 =>
 qn.j9 d_0 t4 c77 0 Q w
def qn (d_0:OAd) (i_1:(Array Value)) (Q:VWP) (w:World):Prop :=
 nw w i_1 171 fun a78 w79 =>
 nw w79 (zc Tryz.prog 183) 183 fun a80 w81 =>
 qn.j1 d_0 a78 a80 Q w81
theorem qn.ok (d_0:OAd) (i_1:(Array Value)) (Q:VWP) (w:World) (h:qn d_0 i_1 Q w):Calls Tryz.prog 91 ⟨[.pointer d_0,.agg i_1]⟩ w (Ret Q) :=
 qvb [] qkd Tryz.func91 rfl rfl rfl rfl (.pr 1 [sP 0,sA 3,sA 4] (fun a b c w=>qn.j1 a b c Q w) (.sq [sP 0,sA 4] (fun a b w=>qn.j2 a b Q w) (.sq [sP 0,sA 4,(19,.G),sI 20] (fun a b c d w=>qn.j9 a b c d Q w) .lf (.bk (.lo [sP 0,sA 4,(19,.G)] [sI 20] (fun a b c d w=>qn.l4 a b c d Q w) (fun nx4 a b c d w=>qn.b4 a b c d Q nx4 w) fun nx4=>.lf))) (.sq [sP 0,sA 4] (fun a b w=>qn.j3 a b Q w) (.sq [sP 0,sA 4,sI 7] (fun a b c w=>qn.j8 a b c Q w) .lf (.bk (.lo [sP 0,sA 4] [sI 7] (fun a b c w=>qn.l3 a b c Q w) (fun nx3 a b c w=>qn.b3 a b c Q nx3 w) fun nx3=>.lf))) (.sq [sP 0,sA 4,(8,.I .u32),(9,.I .u32),(10,.I .u32),(11,.I .u32),(12,.I .u32)] (fun a b c d e f g w=>qn.j4 a b c d e f g Q w) .lf (.sq [sP 0,(8,.I .u32),(9,.I .u32),(10,.I .u32),(11,.I .u32),(12,.I .u32)] (fun a b c d e f w=>qn.j5 a b c d e f Q w) (.sq [sP 0,(8,.I .u32),(9,.I .u32),(10,.I .u32),(11,.I .u32),(12,.I .u32),(87,.G),sI 88] (fun a b c d e f g h w=>qn.j7 a b c d e f g h Q w) .lf (.bk (.lo [sP 0,(87,.G)] [(8,.I .u32),(9,.I .u32),(10,.I .u32),(11,.I .u32),(12,.I .u32),sI 88] (fun a b c d e f g h w=>qn.l2 a b c d e f g h Q w) (fun nx2 a b c d e f g h w=>qn.b2 a b c d e f g h Q nx2 w) fun nx2=>.lf))) (.sq [sP 0,(121,.G),sI 122] (fun a b c w=>qn.j6 a b c Q w) .lf (.bk (.lo [sP 0,(121,.G)] [sI 122] (fun a b c w=>qn.l1 a b c Q w) (fun nx1 a b c w=>qn.b1 a b c Q nx1 w) fun nx1=>.lf)))))))) (by kernel_rfl) h
def qqb.b1 (h_0:OAd) (t6:Sl) (t7 t8:Int) (Q:VWP) (nx1:OAd→Sl→Int→Int→WP) (w:World):Prop :=
 br (decide (t8 < t7)) (
 ixS t6.a t6.len t8 1 fun a1 =>
 ldI .u8 w a1 fun x2 =>
 lt (World.drew w) fun w3 =>
 nz h_0 fun a4 =>
 ldI .i64 w3 (Addr.add a4 69) fun x5 =>
 (64:Int) ≠ 0 ∧
 lt (Int.tmod x5 64) fun x6 =>
 nz h_0 fun a7 =>
 ixA (Addr.add a7 5) 64 x6 1 fun a8 =>
 st w3 a8 (.int .u8 x2) fun w9 =>
 nz h_0 fun a10 =>
 ldI .i64 w9 (Addr.add a10 69) fun x11 =>
 lt (IntKind.i64.wrap (x11+1)) fun x12 =>
 nz h_0 fun a13 =>
 st w9 (Addr.add a13 69) (.int .i64 x12) fun w14 =>
 nz h_0 fun a15 =>
 ldI .i64 w14 (Addr.add a15 69) fun x16 =>
 (64:Int) ≠ 0 ∧
 lt (Int.tmod x16 64) fun x17 =>
 br (x17 == 0) (
 nz h_0 fun a18 =>
 ldA w14 (Addr.add a18 5) 64 fun c19 =>
 ct_ 91 [.pointer h_0,.agg c19] w14 fun w21 =>
 lt (IntKind.i64.wrap (t8+1)) fun x22 =>
 nx1 h_0 t6 t7 x22 w21) (
 lt (IntKind.i64.wrap (t8+1)) fun x23 =>
 nx1 h_0 t6 t7 x23 w14)) (
 Q (.tuple ⟨[]⟩) w)
def qqb.l1 (h_0:OAd) (t6:Sl) (t7 t8:Int) (Q:VWP) (w:World):Prop :=
 ∃ (I:Int→WP) (μ:Int→World→Nat),I t8 w∧∀ t8:Int,∀ w:World,I t8 w→qqb.b1 h_0 t6 t7 t8 Q (fun h_0' t6' t7' t8' w'=>(h_0'=h_0∧t6'=t6∧t7'=t7)∧I t8' w'∧μ t8' w' < μ t8 w) w
def qqb.j1 (h_0:OAd) (t6:Sl) (t7 t8:Int) (Q:VWP) (w:World):Prop :=
 qqb.l1 h_0 t6 t7 t8 Q w
def qqb (h_0:OAd) (b_1:Sl) (Q:VWP) (w:World):Prop :=
 qqb.j1 h_0 b_1 (b_1.len:Int) 0 Q w
theorem qqb.ok (h_0:OAd) (b_1:Sl) (Q:VWP) (w:World) (h:qqb h_0 b_1 Q w):Calls Tryz.prog 56 ⟨[.pointer h_0,sV b_1]⟩ w (Ret Q) :=
 qvb [] qkd Tryz.func56 rfl rfl rfl rfl (.sq [sP 0,sL 6,sI 7,sI 8] (fun a b c d w=>qqb.j1 a b c d Q w) .lf (.bk (.lo [sP 0,sL 6,sI 7] [sI 8] (fun a b c d w=>qqb.l1 a b c d Q w) (fun nx1 a b c d w=>qqb.b1 a b c d Q nx1 w) fun nx1=>.lf))) (by kernel_rfl) h
def qwe (h_0:OAd) (Q:VWP) (w:World):Prop :=
 nz h_0 fun a1 =>
 ldA w a1 70 fun c2 =>
 nw w (zc Tryz.prog 173) 173 fun a3 w4 =>
 (c2).size=70 ∧
 stA w4 a3 c2 fun w5 =>
 Q (.pointer (some a3)) w5
theorem qwe.ok (h_0:OAd) (Q:VWP) (w:World) (h:qwe h_0 Q w):Calls Tryz.prog 92 ⟨[.pointer h_0]⟩ w (Ret Q) :=
 qvb [.tmp 2] qkd Tryz.func92 rfl rfl rfl rfl .lf (by kernel_rfl) h
def qz.j5 (t2:Addr) (out_4:Sl) (Q:VWP) (w:World):Prop :=
 20≤out_4.len ∧
 nz out_4.a fun a1 =>
 ldA w a1 20 fun c2 =>
 (c2).size=20 ∧
 stA w t2 c2 fun w3 =>
 ldA w3 t2 20 fun c4 =>
 Q (.agg c4) w3
def qz.b1 (t2:Addr) (t32:(Array Value)) (out_4:Sl) (t33:Int) (Q:VWP) (nx1:Addr→(Array Value)→Sl→Int→WP) (w:World):Prop :=
 br (decide (t33 < 5)) (
 ((0:Int)≤t33∧t33 < ((5:Nat):Int)) ∧
 ptI .u32 t32 (Int.toNat t33 * 1) fun x5 =>
 lt (IntKind.i64.wrap x5) fun x6 =>
 qqf 23 [sV out_4,.int .i64 x6] w fun r9 w8 =>
 lt (IntKind.i64.wrap (t33+1)) fun x10 =>
 nx1 t2 t32 r9 x10 w8) (
 qz.j5 t2 out_4 Q w)
def qz.l1 (t2:Addr) (t32:(Array Value)) (out_4:Sl) (t33:Int) (Q:VWP) (w:World):Prop :=
 ∃ (I:Sl→Int→WP) (μ:Sl→Int→World→Nat),I out_4 t33 w∧∀ out_4:Sl,∀ t33:Int,∀ w:World,I out_4 t33 w→qz.b1 t2 t32 out_4 t33 Q (fun t2' t32' out_4' t33' w'=>(t2'=t2∧t32'=t32)∧I out_4' t33' w'∧μ out_4' t33' w' < μ out_4 t33 w) w
def qz.j6 (t2:Addr) (out_4:Sl) (t32:(Array Value)) (t33:Int) (Q:VWP) (w:World):Prop :=
 qz.l1 t2 t32 out_4 t33 Q w
def qz.j4 (t2:Addr) (t_3:OAd) (out_4:Sl) (Q:VWP) (w:World):Prop :=
 nz t_3 fun a11 =>
 ldA w (Addr.add a11 0) 5 fun c12 =>
 qz.j6 t2 out_4 c12 0 Q w
def qz.j3 (h_0:OAd) (t2:Addr) (t_3:OAd) (Q:VWP) (w:World):Prop :=
 nz h_0 fun a13 =>
 ldI .i64 w (Addr.add a13 69) fun x14 =>
 lt (IntKind.i64.wrap (8 * x14)) fun x15 =>
 qqf 25 [.slice none 0 0,.int .i64 x15] w fun r18 w17 =>
 ct_ 56 [.pointer t_3,sV r18] w17 fun w20 =>
 qz.j4 t2 t_3 ⟨none,0,0⟩ Q w20
def qz.b2 (h_0:OAd) (t2:Addr) (t_3:OAd) (Q:VWP) (nx2:OAd→Addr→OAd→WP) (w:World):Prop :=
 nz t_3 fun a21 =>
 ldI .i64 w (Addr.add a21 69) fun x22 =>
 (64:Int) ≠ 0 ∧
 lt (Int.tmod x22 64) fun x23 =>
 br (x23 != 56) (
 nw w ⟨[.int .u8 0]⟩ 5 fun a24 w25 =>
 ct_ 56 [.pointer t_3,.slice (some a24) 1 1] w25 fun w27 =>
 nx2 h_0 t2 t_3 w27) (
 qz.j3 h_0 t2 t_3 Q w)
def qz.l2 (h_0:OAd) (t2:Addr) (t_3:OAd) (Q:VWP) (w:World):Prop :=
 ∃ (I:WP) (μ:World→Nat),I  w∧∀ w:World,I  w→qz.b2 h_0 t2 t_3 Q (fun h_0' t2' t_3' w'=>(h_0'=h_0∧t2'=t2∧t_3'=t_3)∧I  w'∧μ  w' < μ  w) w
def qz.j2 (h_0:OAd) (t2:Addr) (t_3:OAd) (Q:VWP) (w:World):Prop :=
 qz.l2 h_0 t2 t_3 Q w
def qz.j1 (h_0:OAd) (t2:Addr) (Q:VWP) (w:World):Prop :=
 cr_P 92 [.pointer h_0] w fun r30 w29 =>
 nw w29 ⟨[.int .u8 128]⟩ 5 fun a31 w32 =>
 ct_ 56 [.pointer r30,.slice (some a31) 1 1] w32 fun w34 =>
 qz.j2 h_0 t2 r30 Q w34
def qz (h_0:OAd) (Q:VWP) (w:World):Prop :=
 nw w (zc Tryz.prog 39) 39 fun a35 w36 =>
 qz.j1 h_0 a35 Q w36
theorem qz.ok (h_0:OAd) (Q:VWP) (w:World) (h:qz h_0 Q w):Calls Tryz.prog 57 ⟨[.pointer h_0]⟩ w (Ret Q) :=
 qvb [.cell 2 39] qkd Tryz.func57 rfl rfl rfl rfl (.sq [sP 0,sA 2] (fun a b w=>qz.j1 a b Q w) .lf (.pr 1 [sP 0,sA 2,sP 3] (fun a b c w=>qz.j2 a b c Q w) (.sq [sP 0,sA 2,sP 3] (fun a b c w=>qz.j3 a b c Q w) (.bk (.lo [sP 0,sA 2,sP 3] [] (fun a b c w=>qz.l2 a b c Q w) (fun nx2 a b c w=>qz.b2 a b c Q nx2 w) fun nx2=>.lf)) (.pr 1 [sA 2,sP 3,sL 4] (fun a b c w=>qz.j4 a b c Q w) (.sq [sA 2,sL 4] (fun a b w=>qz.j5 a b Q w) (.sq [sA 2,sL 4,(32,.G),sI 33] (fun a b c d w=>qz.j6 a b c d Q w) .lf (.bk (.lo [sA 2,(32,.G)] [sL 4,sI 33] (fun a b c d w=>qz.l1 a b c d Q w) (fun nx1 a b c d w=>qz.b1 a b c d Q nx1 w) fun nx1=>.lf))) .lf))))) (by kernel_rfl) h
def qhk  (Q:VWP) (w:World):Prop :=
 ((⟨[.int .u32 1732584193,.int .u32 4023233417,.int .u32 2562383102,.int .u32 271733878,.int .u32 3285377520]⟩:Array Value)).size=5 ∧
 nw w (⟨(spl (zc Tryz.prog 173).toList 0 (⟨[.int .u32 1732584193,.int .u32 4023233417,.int .u32 2562383102,.int .u32 271733878,.int .u32 3285377520]⟩:Array Value))⟩:Array Value) 173 fun a1 w2 =>
 Q (.pointer (some a1)) w2
theorem qhk.ok  (Q:VWP) (w:World) (h:qhk  Q w):Calls Tryz.prog 55 ⟨[]⟩ w (Ret Q) :=
 qvb [.tmp 0] qkd Tryz.func55 rfl rfl rfl rfl .lf (by kernel_rfl) h
def qph (b_0:Sl) (Q:VWP) (w:World):Prop :=
 nw w (zc Tryz.prog 39) 39 fun a1 w2 =>
 cr_P 55 [] w2 fun r5 w4 =>
 ct_ 56 [.pointer r5,sV b_0] w4 fun w7 =>
 cr_G 57 [.pointer r5] w7 fun r10 w9 =>
 (r10).size=20 ∧
 stA w9 a1 r10 fun w11 =>
 ldA w11 a1 20 fun c12 =>
 Q (.agg c12) w11
theorem qph.ok (b_0:Sl) (Q:VWP) (w:World) (h:qph b_0 Q w):Calls Tryz.prog 27 ⟨[sV b_0]⟩ w (Ret Q) :=
 qvb [.cell 2 39] qkd Tryz.func27 rfl rfl rfl rfl .lf (by kernel_rfl) h
end Go.Proofs.YtonmgkkkiejicaaGreat
namespace Go.Proofs.YtonmgkkkiejicaaGreat
open Go Go.Proofs
set_option linter.unusedVariables false
set_option maxRecDepth 100000
def qkc (w_0 n_1:Int) (Q:VWP) (w:World):Prop :=
 (0:Int)≤n_1 ∧
 lt (shlV .u32 w_0 n_1) fun x1 =>
 lt (IntKind.u64.wrap (32 - n_1)) fun x2 =>
 (0:Int)≤x2 ∧
 lt (shrV .u32 w_0 x2) fun x3 =>
 lt (orV .u32 x1 x3) fun x4 =>
 Q (.int .u32 x4) w
theorem qkc.ok (w_0:Int) (n_1:Int) (Q:VWP) (w:World) (h:qkc w_0 n_1 Q w):Calls Tryz.prog 99 ⟨[.int .u32 w_0,.int .u64 n_1]⟩ w (Ret Q) :=
 qvb [.tmp 4] qkd Tryz.func99 rfl rfl rfl rfl .lf (by kernel_rfl) h
def qhe (b_0:Sl) (Q:VWP) (w:World):Prop :=
 lt (World.drew w) fun w1 =>
 ixS b_0.a b_0.len 0 1 fun a2 =>
 ldI .u8 w1 a2 fun x3 =>
 lt (IntKind.u32.wrap x3) fun x4 =>
 (0:Int)≤24 ∧
 lt (shlV .u32 x4 24) fun x5 =>
 ixS b_0.a b_0.len 1 1 fun a6 =>
 ldI .u8 w1 a6 fun x7 =>
 lt (IntKind.u32.wrap x7) fun x8 =>
 (0:Int)≤16 ∧
 lt (shlV .u32 x8 16) fun x9 =>
 lt (orV .u32 x5 x9) fun x10 =>
 ixS b_0.a b_0.len 2 1 fun a11 =>
 ldI .u8 w1 a11 fun x12 =>
 lt (IntKind.u32.wrap x12) fun x13 =>
 (0:Int)≤8 ∧
 lt (shlV .u32 x13 8) fun x14 =>
 lt (orV .u32 x10 x14) fun x15 =>
 ixS b_0.a b_0.len 3 1 fun a16 =>
 ldI .u8 w1 a16 fun x17 =>
 lt (IntKind.u32.wrap x17) fun x18 =>
 lt (orV .u32 x15 x18) fun x19 =>
 Q (.int .u32 x19) w1
theorem qhe.ok (b_0:Sl) (Q:VWP) (w:World) (h:qhe b_0 Q w):Calls Tryz.prog 98 ⟨[sV b_0]⟩ w (Ret Q) :=
 qvb [.tmp 2] qkd Tryz.func98 rfl rfl rfl rfl .lf (by kernel_rfl) h
def qe.j6 (t2 t4:Addr) (Q:VWP) (w:World):Prop :=
 ldA w t2 5 fun c1 =>
 (c1).size=5 ∧
 stA w t4 c1 fun w2 =>
 ldA w2 t4 5 fun c3 =>
 Q (.agg c3) w2
def qe.b1 (t2 t4 t8:Addr) (t13:Int) (Q:VWP) (nx1:Addr→Addr→Addr→Int→WP) (w:World):Prop :=
 br (decide (t13 < 5)) (
 lt (World.drew w) fun w4 =>
 ixA t2 5 t13 1 fun a5 =>
 ldI .u32 w4 a5 fun x6 =>
 ixA t8 5 t13 1 fun a7 =>
 ldI .u32 w4 a7 fun x8 =>
 lt (IntKind.u32.wrap (x6+x8)) fun x9 =>
 ixA t2 5 t13 1 fun a10 =>
 st w4 a10 (.int .u32 x9) fun w11 =>
 lt (IntKind.i64.wrap (t13+1)) fun x12 =>
 nx1 t2 t4 t8 x12 w11) (
 qe.j6 t2 t4 Q w)
def qe.l1 (t2 t4 t8:Addr) (t13:Int) (Q:VWP) (w:World):Prop :=
 ∃ (I:Int→WP) (μ:Int→World→Nat),I t13 w∧∀ t13:Int,∀ w:World,I t13 w→qe.b1 t2 t4 t8 t13 Q (fun t2' t4' t8' t13' w'=>(t2'=t2∧t4'=t4∧t8'=t8)∧I t13' w'∧μ t13' w' < μ t13 w) w
def qe.j7 (t2 t4 t8:Addr) (t13:Int) (Q:VWP) (w:World):Prop :=
 qe.l1 t2 t4 t8 t13 Q w
def qe.j5 (t2 t4 t8:Addr) (Q:VWP) (w:World):Prop :=
 qe.j7 t2 t4 t8 0 Q w
def qe.j10 (t2 t4:Addr) (t5:Sl) (t8:Addr) (t9:Int) (Q:VWP) (nx2:Addr→Addr→Sl→Addr→Int→WP) (w:World):Prop :=
 lt (IntKind.i64.wrap (t9+1)) fun x13 =>
 nx2 t2 t4 t5 t8 x13 w
def qe.j13 (t2 t4:Addr) (t5:Sl) (t8:Addr) (t9:Int) (t12:Int) (Q:VWP) (nx2:Addr→Addr→Sl→Addr→Int→WP) (w:World):Prop :=
 ixA t8 5 3 1 fun a14 =>
 ldI .u32 w a14 fun x15 =>
 ixA t8 5 4 1 fun a16 =>
 st w a16 (.int .u32 x15) fun w17 =>
 ixA t8 5 2 1 fun a18 =>
 ldI .u32 w17 a18 fun x19 =>
 ixA t8 5 3 1 fun a20 =>
 st w17 a20 (.int .u32 x19) fun w21 =>
 ixA t8 5 1 1 fun a22 =>
 ldI .u32 w21 a22 fun x23 =>
 qqi 99 [.int .u32 x23,.int .u64 30] w21 fun r26 w25 =>
 ixA t8 5 2 1 fun a27 =>
 st w25 a27 (.int .u32 r26) fun w28 =>
 ixA t8 5 0 1 fun a29 =>
 ldI .u32 w28 a29 fun x30 =>
 ixA t8 5 1 1 fun a31 =>
 st w28 a31 (.int .u32 x30) fun w32 =>
 ixA t8 5 0 1 fun a33 =>
 st w32 a33 (.int .u32 t12) fun w34 =>
 qe.j10 t2 t4 t5 t8 t9 Q nx2 w34
def qe.j12 (t2 t4:Addr) (t5:Sl) (t8:Addr) (t9:Int) (t10 t11:Int) (Q:VWP) (nx2:Addr→Addr→Sl→Addr→Int→WP) (w:World):Prop :=
 lt (World.drew w) fun w35 =>
 ixA t8 5 0 1 fun a36 =>
 ldI .u32 w35 a36 fun x37 =>
 ixA t8 5 4 1 fun a38 =>
 ixS t5.a t5.len t9 1 fun a39 =>
 (qqi 99 [.int .u32 x37,.int .u64 5] w35 fun r42 w41 =>
 lt (IntKind.u32.wrap (r42+t10)) fun x43 =>
 (ldI .u32 w41 a38 fun x44 =>
 lt (IntKind.u32.wrap (x43+x44)) fun x45 =>
 lt (IntKind.u32.wrap (x45+t11)) fun x46 =>
 ldI .u32 w41 a39 fun x47 =>
 lt (IntKind.u32.wrap (x46+x47)) fun x48 =>
 qe.j13 t2 t4 t5 t8 t9 x48 Q nx2 w41)∧(
 ldI .u32 w41 a39 fun x49 =>
 ldI .u32 w41 a38 fun x50 =>
 lt (IntKind.u32.wrap (x43+x50)) fun x51 =>
 lt (IntKind.u32.wrap (x51+t11)) fun x52 =>
 lt (IntKind.u32.wrap (x52+x49)) fun x53 =>
 qe.j13 t2 t4 t5 t8 t9 x53 Q nx2 w41))∧(
 ldI .u32 w35 a38 fun x54 =>
 (qqi 99 [.int .u32 x37,.int .u64 5] w35 fun r57 w56 =>
 lt (IntKind.u32.wrap (r57+t10)) fun x58 =>
 lt (IntKind.u32.wrap (x58+x54)) fun x59 =>
 lt (IntKind.u32.wrap (x59+t11)) fun x60 =>
 ldI .u32 w56 a39 fun x61 =>
 lt (IntKind.u32.wrap (x60+x61)) fun x62 =>
 qe.j13 t2 t4 t5 t8 t9 x62 Q nx2 w56)∧(
 ldI .u32 w35 a39 fun x63 =>
 qqi 99 [.int .u32 x37,.int .u64 5] w35 fun r66 w65 =>
 lt (IntKind.u32.wrap (r66+t10)) fun x67 =>
 lt (IntKind.u32.wrap (x67+x54)) fun x68 =>
 lt (IntKind.u32.wrap (x68+t11)) fun x69 =>
 lt (IntKind.u32.wrap (x69+x63)) fun x70 =>
 qe.j13 t2 t4 t5 t8 t9 x70 Q nx2 w65))∧(
 ldI .u32 w35 a39 fun x71 =>
 (qqi 99 [.int .u32 x37,.int .u64 5] w35 fun r74 w73 =>
 lt (IntKind.u32.wrap (r74+t10)) fun x75 =>
 ldI .u32 w73 a38 fun x76 =>
 lt (IntKind.u32.wrap (x75+x76)) fun x77 =>
 lt (IntKind.u32.wrap (x77+t11)) fun x78 =>
 lt (IntKind.u32.wrap (x78+x71)) fun x79 =>
 qe.j13 t2 t4 t5 t8 t9 x79 Q nx2 w73)∧(
 ldI .u32 w35 a38 fun x80 =>
 qqi 99 [.int .u32 x37,.int .u64 5] w35 fun r83 w82 =>
 lt (IntKind.u32.wrap (r83+t10)) fun x84 =>
 lt (IntKind.u32.wrap (x84+x80)) fun x85 =>
 lt (IntKind.u32.wrap (x85+t11)) fun x86 =>
 lt (IntKind.u32.wrap (x86+x71)) fun x87 =>
 qe.j13 t2 t4 t5 t8 t9 x87 Q nx2 w82))
def qe.j11 (t2 t4:Addr) (t5:Sl) (t8:Addr) (t9:Int) (Q:VWP) (nx2:Addr→Addr→Sl→Addr→Int→WP) (w:World):Prop :=
 br (decide (t9 < 20)) (
 ixA t8 5 1 1 fun a88 =>
 ldI .u32 w a88 fun x89 =>
 ixA t8 5 2 1 fun a90 =>
 ldI .u32 w a90 fun x91 =>
 lt (andV .u32 x89 x91) fun x92 =>
 ixA t8 5 1 1 fun a93 =>
 ldI .u32 w a93 fun x94 =>
 lt (qpj .u32 (if IntKind.signed .u32 then -1 else IntKind.max .u32) x94) fun x95 =>
 ixA t8 5 3 1 fun a96 =>
 ldI .u32 w a96 fun x97 =>
 lt (andV .u32 x95 x97) fun x98 =>
 lt (orV .u32 x92 x98) fun x99 =>
 qe.j12 t2 t4 t5 t8 t9 x99 1518500249 Q nx2 w) (
 br (decide (t9 < 40)) (
 ixA t8 5 1 1 fun a100 =>
 ldI .u32 w a100 fun x101 =>
 ixA t8 5 2 1 fun a102 =>
 ldI .u32 w a102 fun x103 =>
 lt (qpj .u32 x101 x103) fun x104 =>
 ixA t8 5 3 1 fun a105 =>
 ldI .u32 w a105 fun x106 =>
 lt (qpj .u32 x104 x106) fun x107 =>
 qe.j12 t2 t4 t5 t8 t9 x107 1859775393 Q nx2 w) (
 br (decide (t9 < 60)) (
 ixA t8 5 1 1 fun a108 =>
 ldI .u32 w a108 fun x109 =>
 ixA t8 5 2 1 fun a110 =>
 ldI .u32 w a110 fun x111 =>
 lt (andV .u32 x109 x111) fun x112 =>
 ixA t8 5 1 1 fun a113 =>
 ldI .u32 w a113 fun x114 =>
 ixA t8 5 3 1 fun a115 =>
 ldI .u32 w a115 fun x116 =>
 lt (andV .u32 x114 x116) fun x117 =>
 lt (orV .u32 x112 x117) fun x118 =>
 ixA t8 5 2 1 fun a119 =>
 ldI .u32 w a119 fun x120 =>
 ixA t8 5 3 1 fun a121 =>
 ldI .u32 w a121 fun x122 =>
 lt (andV .u32 x120 x122) fun x123 =>
 lt (orV .u32 x118 x123) fun x124 =>
 qe.j12 t2 t4 t5 t8 t9 x124 2400959708 Q nx2 w) (
 ixA t8 5 1 1 fun a125 =>
 ldI .u32 w a125 fun x126 =>
 ixA t8 5 2 1 fun a127 =>
 ldI .u32 w a127 fun x128 =>
 lt (qpj .u32 x126 x128) fun x129 =>
 ixA t8 5 3 1 fun a130 =>
 ldI .u32 w a130 fun x131 =>
 lt (qpj .u32 x129 x131) fun x132 =>
 qe.j12 t2 t4 t5 t8 t9 x132 3395469782 Q nx2 w)))
def qe.j9 (t2 t4:Addr) (t5:Sl) (t8:Addr) (t9:Int) (Q:VWP) (nx2:Addr→Addr→Sl→Addr→Int→WP) (w:World):Prop :=
 qe.j11 t2 t4 t5 t8 t9 Q nx2 w
def qe.b2 (t2 t4:Addr) (t5:Sl) (t8:Addr) (t9:Int) (Q:VWP) (nx2:Addr→Addr→Sl→Addr→Int→WP) (w:World):Prop :=
 br (decide (t9 < 80)) (
 qe.j9 t2 t4 t5 t8 t9 Q nx2 w) (
 qe.j5 t2 t4 t8 Q w)
def qe.l2 (t2 t4:Addr) (t5:Sl) (t8:Addr) (t9:Int) (Q:VWP) (w:World):Prop :=
 ∃ (I:Int→WP) (μ:Int→World→Nat),I t9 w∧∀ t9:Int,∀ w:World,I t9 w→qe.b2 t2 t4 t5 t8 t9 Q (fun t2' t4' t5' t8' t9' w'=>(t2'=t2∧t4'=t4∧t5'=t5∧t8'=t8)∧I t9' w'∧μ t9' w' < μ t9 w) w
def qe.j8 (t2 t4:Addr) (t5:Sl) (t8:Addr) (t9:Int) (Q:VWP) (w:World):Prop :=
 qe.l2 t2 t4 t5 t8 t9 Q w
def qe.j4 (t2 t4:Addr) (t5:Sl) (t8:Addr) (Q:VWP) (w:World):Prop :=
 qe.j8 t2 t4 t5 t8 0 Q w
def qe.j3 (t2 t4:Addr) (t5:Sl) (Q:VWP) (w:World):Prop :=
 ldA w t2 5 fun c133 =>
 nw w (zc Tryz.prog 149) 149 fun a134 w135 =>
 (c133).size=5 ∧
 stA w135 a134 c133 fun w136 =>
 qe.j4 t2 t4 t5 a134 Q w136
def qe.b3 (t2 t4:Addr) (t5:Sl) (t7:Int) (Q:VWP) (nx3:Addr→Addr→Sl→Int→WP) (w:World):Prop :=
 br (decide (t7 < 80)) (
 lt (World.drew w) fun w137 =>
 lt (IntKind.i64.wrap (t7 - 3)) fun x138 =>
 ixS t5.a t5.len x138 1 fun a139 =>
 ldI .u32 w137 a139 fun x140 =>
 lt (IntKind.i64.wrap (t7 - 8)) fun x141 =>
 ixS t5.a t5.len x141 1 fun a142 =>
 ldI .u32 w137 a142 fun x143 =>
 lt (qpj .u32 x140 x143) fun x144 =>
 lt (IntKind.i64.wrap (t7 - 14)) fun x145 =>
 ixS t5.a t5.len x145 1 fun a146 =>
 ldI .u32 w137 a146 fun x147 =>
 lt (qpj .u32 x144 x147) fun x148 =>
 lt (IntKind.i64.wrap (t7 - 16)) fun x149 =>
 ixS t5.a t5.len x149 1 fun a150 =>
 ldI .u32 w137 a150 fun x151 =>
 lt (qpj .u32 x148 x151) fun x152 =>
 qqi 99 [.int .u32 x152,.int .u64 1] w137 fun r155 w154 =>
 ixS t5.a t5.len t7 1 fun a156 =>
 st w154 a156 (.int .u32 r155) fun w157 =>
 lt (IntKind.i64.wrap (t7+1)) fun x158 =>
 nx3 t2 t4 t5 x158 w157) (
 qe.j3 t2 t4 t5 Q w)
def qe.l3 (t2 t4:Addr) (t5:Sl) (t7:Int) (Q:VWP) (w:World):Prop :=
 ∃ (I:Int→WP) (μ:Int→World→Nat),I t7 w∧∀ t7:Int,∀ w:World,I t7 w→qe.b3 t2 t4 t5 t7 Q (fun t2' t4' t5' t7' w'=>(t2'=t2∧t4'=t4∧t5'=t5)∧I t7' w'∧μ t7' w' < μ t7 w) w
def qe.j14 (t2 t4:Addr) (t5:Sl) (t7:Int) (Q:VWP) (w:World):Prop :=
 qe.l3 t2 t4 t5 t7 Q w
def qe.j2 (t2 t4:Addr) (t5:Sl) (Q:VWP) (w:World):Prop :=
 qe.j14 t2 t4 t5 16 Q w
def qe.b4 (i_1:Sl) (t2:Addr) (t4:Addr) (t5:Sl) (t6:Int) (Q:VWP) (nx4:Sl→Addr→Addr→Sl→Int→WP) (w:World):Prop :=
 br (decide (t6 < 16)) (
 lt (IntKind.i64.wrap (4 * t6)) fun x159 =>
 bd x159 i_1.len fun n160 =>
 lt (⟨qfe i_1.a i_1.cap n160 1,i_1.len - n160,i_1.cap - n160⟩:Sl) fun s161 =>
 qqi 98 [sV s161] w fun r164 w163 =>
 ixS t5.a t5.len t6 1 fun a165 =>
 st w163 a165 (.int .u32 r164) fun w166 =>
 lt (IntKind.i64.wrap (t6+1)) fun x167 =>
 nx4 i_1 t2 t4 t5 x167 w166) (
 qe.j2 t2 t4 t5 Q w)
def qe.l4 (i_1:Sl) (t2:Addr) (t4:Addr) (t5:Sl) (t6:Int) (Q:VWP) (w:World):Prop :=
 ∃ (I:Int→WP) (μ:Int→World→Nat),I t6 w∧∀ t6:Int,∀ w:World,I t6 w→qe.b4 i_1 t2 t4 t5 t6 Q (fun i_1' t2' t4' t5' t6' w'=>(i_1'=i_1∧t2'=t2∧t4'=t4∧t5'=t5)∧I t6' w'∧μ t6' w' < μ t6 w) w
def qe.j15 (i_1:Sl) (t2:Addr) (t4:Addr) (t5:Sl) (t6:Int) (Q:VWP) (w:World):Prop :=
 qe.l4 i_1 t2 t4 t5 t6 Q w
def qe.j1 (i_1:Sl) (t2:Addr) (t4:Addr) (t5:Sl) (Q:VWP) (w:World):Prop :=
 qe.j15 i_1 t2 t4 t5 0 Q w
def qe (d_0:(Array Value)) (i_1:Sl) (Q:VWP) (w:World):Prop :=
 nw w d_0 149 fun a168 w169 =>
 nw w169 (zc Tryz.prog 149) 149 fun a170 w171 =>
 mkK Tryz.prog 40 w171 80 80 fun s172 w173 =>
 qe.j1 i_1 a168 a170 s172 Q w173
theorem qe.ok (d_0:(Array Value)) (i_1:Sl) (Q:VWP) (w:World) (h:qe d_0 i_1 Q w):Calls Tryz.prog 69 ⟨[.agg d_0,sV i_1]⟩ w (Ret Q) :=
 qvb [.cell 4 149] qkd Tryz.func69 rfl rfl rfl rfl (.pr 1 [sL 1,sA 2,sA 4,sL 5] (fun a b c d w=>qe.j1 a b c d Q w) (.sq [sA 2,sA 4,sL 5] (fun a b c w=>qe.j2 a b c Q w) (.sq [sL 1,sA 2,sA 4,sL 5,sI 6] (fun a b c d e w=>qe.j15 a b c d e Q w) .lf (.bk (.lo [sL 1,sA 2,sA 4,sL 5] [sI 6] (fun a b c d e w=>qe.l4 a b c d e Q w) (fun nx4 a b c d e w=>qe.b4 a b c d e Q nx4 w) fun nx4=>.lf))) (.sq [sA 2,sA 4,sL 5] (fun a b c w=>qe.j3 a b c Q w) (.sq [sA 2,sA 4,sL 5,sI 7] (fun a b c d w=>qe.j14 a b c d Q w) .lf (.bk (.lo [sA 2,sA 4,sL 5] [sI 7] (fun a b c d w=>qe.l3 a b c d Q w) (fun nx3 a b c d w=>qe.b3 a b c d Q nx3 w) fun nx3=>.lf))) (.sq [sA 2,sA 4,sL 5,sA 8] (fun a b c d w=>qe.j4 a b c d Q w) .lf (.sq [sA 2,sA 4,sA 8] (fun a b c w=>qe.j5 a b c Q w) (.sq [sA 2,sA 4,sL 5,sA 8,sI 9] (fun a b c d e w=>qe.j8 a b c d e Q w) .lf (.bk (.lo [sA 2,sA 4,sL 5,sA 8] [sI 9] (fun a b c d e w=>qe.l2 a b c d e Q w) (fun nx2 a b c d e w=>qe.b2 a b c d e Q nx2 w) fun nx2=>(.sq [sA 2,sA 4,sL 5,sA 8,sI 9] (fun a b c d e w=>qe.j9 a b c d e Q nx2 w) .lf (.sq [sA 2,sA 4,sL 5,sA 8,sI 9] (fun a b c d e w=>qe.j10 a b c d e Q nx2 w) (.bk (.sq [sA 2,sA 4,sL 5,sA 8,sI 9] (fun a b c d e w=>qe.j11 a b c d e Q nx2 w) .lf (.pr 1 [sA 2,sA 4,sL 5,sA 8,sI 9,(10,.I .u32),(11,.I .u32)] (fun a b c d e f g w=>qe.j12 a b c d e f g Q nx2 w) (.sq [sA 2,sA 4,sL 5,sA 8,sI 9,(12,.I .u32)] (fun a b c d e f w=>qe.j13 a b c d e f Q nx2 w) .lf .lf)))) .lf))))) (.sq [sA 2,sA 4] (fun a b w=>qe.j6 a b Q w) (.sq [sA 2,sA 4,sA 8,sI 13] (fun a b c d w=>qe.j7 a b c d Q w) .lf (.bk (.lo [sA 2,sA 4,sA 8] [sI 13] (fun a b c d w=>qe.l1 a b c d Q w) (fun nx1 a b c d w=>qe.b1 a b c d Q nx1 w) fun nx1=>.lf))) .lf)))))) (by kernel_rfl) h
def qi.j9 (t2 t8:Addr) (Q:VWP) (w:World):Prop :=
 ldA w t8 20 fun c1 =>
 (c1).size=20 ∧
 stA w t2 c1 fun w2 =>
 ldA w2 t2 20 fun c3 =>
 Q (.agg c3) w2
def qi.b1 (t2 t6 t8:Addr) (t9:Int) (Q:VWP) (nx1:Addr→Addr→Addr→Int→WP) (w:World):Prop :=
 br (decide (t9 < 20)) (
 (4:Int) ≠ 0 ∧
 lt (IntKind.i64.wrap (Int.tdiv t9 4)) fun x4 =>
 ixA t6 5 x4 1 fun a5 =>
 ldI .u32 w a5 fun x6 =>
 (4:Int) ≠ 0 ∧
 lt (Int.tmod t9 4) fun x7 =>
 lt (IntKind.u64.wrap x7) fun x8 =>
 lt (IntKind.u64.wrap (8 * x8)) fun x9 =>
 lt (IntKind.u64.wrap (24 - x9)) fun x10 =>
 (0:Int)≤x10 ∧
 lt (shrV .u32 x6 x10) fun x11 =>
 lt (IntKind.u8.wrap x11) fun x12 =>
 ixA t8 20 t9 1 fun a13 =>
 st w a13 (.int .u8 x12) fun w14 =>
 lt (IntKind.i64.wrap (t9+1)) fun x15 =>
 nx1 t2 t6 t8 x15 w14) (
 qi.j9 t2 t8 Q w)
def qi.l1 (t2 t6 t8:Addr) (t9:Int) (Q:VWP) (w:World):Prop :=
 ∃ (I:Int→WP) (μ:Int→World→Nat),I t9 w∧∀ t9:Int,∀ w:World,I t9 w→qi.b1 t2 t6 t8 t9 Q (fun t2' t6' t8' t9' w'=>(t2'=t2∧t6'=t6∧t8'=t8)∧I t9' w'∧μ t9' w' < μ t9 w) w
def qi.j10 (t2 t6 t8:Addr) (t9:Int) (Q:VWP) (w:World):Prop :=
 qi.l1 t2 t6 t8 t9 Q w
def qi.j8 (t2 t6 t8:Addr) (Q:VWP) (w:World):Prop :=
 qi.j10 t2 t6 t8 0 Q w
def qi.j7 (t2 t6:Addr) (Q:VWP) (w:World):Prop :=
 nw w (zc Tryz.prog 38) 38 fun a16 w17 =>
 qi.j8 t2 t6 a16 Q w17
def qi.b2 (t2:Addr) (t3:Sl) (t6:Addr) (t7:Int) (Q:VWP) (nx2:Addr→Sl→Addr→Int→WP) (w:World):Prop :=
 br (decide (t7 < (t3.len:Int))) (
 lt (World.drew w) fun w18 =>
 ldA w18 t6 5 fun c19 =>
 lt (IntKind.i64.wrap (t7+64)) fun x20 =>
 bd x20 t3.cap fun n21 =>
 bd t7 n21 fun n22 =>
 lt (⟨qfe t3.a t3.cap n22 1,n21 - n22,t3.cap - n22⟩:Sl) fun s23 =>
 cr_G 69 [.agg c19,sV s23] w18 fun r26 w25 =>
 (r26).size=5 ∧
 stA w25 t6 r26 fun w27 =>
 lt (IntKind.i64.wrap (t7+64)) fun x28 =>
 nx2 t2 t3 t6 x28 w27) (
 qi.j7 t2 t6 Q w)
def qi.l2 (t2:Addr) (t3:Sl) (t6:Addr) (t7:Int) (Q:VWP) (w:World):Prop :=
 ∃ (I:Int→WP) (μ:Int→World→Nat),I t7 w∧∀ t7:Int,∀ w:World,I t7 w→qi.b2 t2 t3 t6 t7 Q (fun t2' t3' t6' t7' w'=>(t2'=t2∧t3'=t3∧t6'=t6)∧I t7' w'∧μ t7' w' < μ t7 w) w
def qi.j11 (t2:Addr) (t3:Sl) (t6:Addr) (t7:Int) (Q:VWP) (w:World):Prop :=
 qi.l2 t2 t3 t6 t7 Q w
def qi.j6 (t2:Addr) (t3:Sl) (t6:Addr) (Q:VWP) (w:World):Prop :=
 qi.j11 t2 t3 t6 0 Q w
def qi.j5 (t2:Addr) (t3:Sl) (Q:VWP) (w:World):Prop :=
 nw w (zc Tryz.prog 149) 149 fun a29 w30 =>
 ((⟨[.int .u32 1732584193,.int .u32 4023233417,.int .u32 2562383102,.int .u32 271733878,.int .u32 3285377520]⟩:Array Value)).size=5 ∧
 stA w30 a29 (⟨[.int .u32 1732584193,.int .u32 4023233417,.int .u32 2562383102,.int .u32 271733878,.int .u32 3285377520]⟩:Array Value) fun w31 =>
 qi.j6 t2 t3 a29 Q w31
def qi.b3 (t2:Addr) (t4:Int) (t3:Sl) (t5:Int) (Q:VWP) (nx3:Addr→Int→Sl→Int→WP) (w:World):Prop :=
 br (decide (t5 ≥ 0)) (
 lt (IntKind.u64.wrap t5) fun x32 =>
 lt (IntKind.u64.wrap (8 * x32)) fun x33 =>
 (0:Int)≤x33 ∧
 lt (shrV .u64 t4 x33) fun x34 =>
 lt (IntKind.u8.wrap x34) fun x35 =>
 nw w ⟨[.int .u8 x35]⟩ 5 fun a36 w37 =>
 rdO w37 (some a36) (1 * 1) fun c38 =>
 apK Tryz.prog 5 w37 t3.a t3.len t3.cap 1 c38 fun s39 w40 =>
 lt (IntKind.i64.wrap (t5 - 1)) fun x41 =>
 nx3 t2 t4 s39 x41 w40) (
 qi.j5 t2 t3 Q w)
def qi.l3 (t2:Addr) (t4:Int) (t3:Sl) (t5:Int) (Q:VWP) (w:World):Prop :=
 ∃ (I:Sl→Int→WP) (μ:Sl→Int→World→Nat),I t3 t5 w∧∀ t3:Sl,∀ t5:Int,∀ w:World,I t3 t5 w→qi.b3 t2 t4 t3 t5 Q (fun t2' t4' t3' t5' w'=>(t2'=t2∧t4'=t4)∧I t3' t5' w'∧μ t3' t5' w' < μ t3 t5 w) w
def qi.j12 (t2:Addr) (t3:Sl) (t4 t5:Int) (Q:VWP) (w:World):Prop :=
 qi.l3 t2 t4 t3 t5 Q w
def qi.j4 (t2:Addr) (t3:Sl) (t4:Int) (Q:VWP) (w:World):Prop :=
 qi.j12 t2 t3 t4 7 Q w
def qi.j3 (d_0:Sl) (t2:Addr) (t3:Sl) (Q:VWP) (w:World):Prop :=
 lt (IntKind.u64.wrap (d_0.len:Int)) fun x42 =>
 lt (IntKind.u64.wrap (x42 * 8)) fun x43 =>
 qi.j4 t2 t3 x43 Q w
def qi.b4 (d_0:Sl) (t2:Addr) (t3:Sl) (Q:VWP) (nx4:Sl→Addr→Sl→WP) (w:World):Prop :=
 (64:Int) ≠ 0 ∧
 lt (Int.tmod (t3.len:Int) 64) fun x44 =>
 br (x44 != 56) (
 nw w ⟨[.int .u8 0]⟩ 5 fun a45 w46 =>
 rdO w46 (some a45) (1 * 1) fun c47 =>
 apK Tryz.prog 5 w46 t3.a t3.len t3.cap 1 c47 fun s48 w49 =>
 nx4 d_0 t2 s48 w49) (
 qi.j3 d_0 t2 t3 Q w)
def qi.l4 (d_0:Sl) (t2:Addr) (t3:Sl) (Q:VWP) (w:World):Prop :=
 ∃ (I:Sl→WP) (μ:Sl→World→Nat),I t3 w∧∀ t3:Sl,∀ w:World,I t3 w→qi.b4 d_0 t2 t3 Q (fun d_0' t2' t3' w'=>(d_0'=d_0∧t2'=t2)∧I t3' w'∧μ t3' w' < μ t3 w) w
def qi.j2 (d_0:Sl) (t2:Addr) (t3:Sl) (Q:VWP) (w:World):Prop :=
 qi.l4 d_0 t2 t3 Q w
def qi.j1 (d_0:Sl) (t2:Addr) (Q:VWP) (w:World):Prop :=
 nw w ⟨[]⟩ 5 fun a50 w51 =>
 rdO w51 d_0.a (d_0.len * 1) fun c52 =>
 apK Tryz.prog 5 w51 (some a50) 0 0 d_0.len c52 fun s53 w54 =>
 nw w54 ⟨[.int .u8 128]⟩ 5 fun a55 w56 =>
 rdO w56 (some a55) (1 * 1) fun c57 =>
 apK Tryz.prog 5 w56 s53.a s53.len s53.cap 1 c57 fun s58 w59 =>
 qi.j2 d_0 t2 s58 Q w59
def qi (d_0:Sl) (Q:VWP) (w:World):Prop :=
 nw w (zc Tryz.prog 38) 38 fun a60 w61 =>
 qi.j1 d_0 a60 Q w61
theorem qi.ok (d_0:Sl) (Q:VWP) (w:World) (h:qi d_0 Q w):Calls Tryz.prog 34 ⟨[sV d_0]⟩ w (Ret Q) :=
 qvb [.cell 2 38] qkd Tryz.func34 rfl rfl rfl rfl (.sq [sL 0,sA 2] (fun a b w=>qi.j1 a b Q w) .lf (.pr 1 [sL 0,sA 2,sL 3] (fun a b c w=>qi.j2 a b c Q w) (.sq [sL 0,sA 2,sL 3] (fun a b c w=>qi.j3 a b c Q w) (.bk (.lo [sL 0,sA 2] [sL 3] (fun a b c w=>qi.l4 a b c Q w) (fun nx4 a b c w=>qi.b4 a b c Q nx4 w) fun nx4=>.lf)) (.sq [sA 2,sL 3,(4,.I .u64)] (fun a b c w=>qi.j4 a b c Q w) .lf (.sq [sA 2,sL 3] (fun a b w=>qi.j5 a b Q w) (.sq [sA 2,sL 3,(4,.I .u64),sI 5] (fun a b c d w=>qi.j12 a b c d Q w) .lf (.bk (.lo [sA 2,(4,.I .u64)] [sL 3,sI 5] (fun a b c d w=>qi.l3 a b c d Q w) (fun nx3 a b c d w=>qi.b3 a b c d Q nx3 w) fun nx3=>.lf))) (.sq [sA 2,sL 3,sA 6] (fun a b c w=>qi.j6 a b c Q w) .lf (.sq [sA 2,sA 6] (fun a b w=>qi.j7 a b Q w) (.sq [sA 2,sL 3,sA 6,sI 7] (fun a b c d w=>qi.j11 a b c d Q w) .lf (.bk (.lo [sA 2,sL 3,sA 6] [sI 7] (fun a b c d w=>qi.l2 a b c d Q w) (fun nx2 a b c d w=>qi.b2 a b c d Q nx2 w) fun nx2=>.lf))) (.sq [sA 2,sA 6,sA 8] (fun a b c w=>qi.j8 a b c Q w) .lf (.sq [sA 2,sA 8] (fun a b w=>qi.j9 a b Q w) (.sq [sA 2,sA 6,sA 8,sI 9] (fun a b c d w=>qi.j10 a b c d Q w) .lf (.bk (.lo [sA 2,sA 6,sA 8] [sI 9] (fun a b c d w=>qi.l1 a b c d Q w) (fun nx1 a b c d w=>qi.b1 a b c d Q nx1 w) fun nx1=>.lf))) .lf))))))))) (by kernel_rfl) h
end Go.Proofs.YtonmgkkkiejicaaGreat
namespace Go.Proofs.YtonmgkkkiejicaaGreat
open Go Go.Proofs
set_option linter.unusedVariables false
set_option linter.unusedSimpArgs false
attribute [local irreducible] apK cpK mkK
def lf (x n:Int):Int:=orV .u32 (shlV .u32 x n) (shrV .u32 x (32 - n))
def no32 (b:Int):Int:=qpj .u32 4294967295 b
def mixF (t:Nat) (b c d:Int):Int × Int :=
 if t < 20 then (orV .u32 (andV .u32 b c) (andV .u32 (no32 b) d),1518500249)
 else if t < 40 then (qpj .u32 (qpj .u32 b c) d,1859775393)
 else if t < 60 then (orV .u32 (orV .u32 (andV .u32 b c) (andV .u32 b d)) (andV .u32 c d),2400959708)
 else (qpj .u32 (qpj .u32 b c) d,3395469782)
structure W5 where
 a:Int
 b:Int
 c:Int
 d:Int
 e:Int
def stepF (t:Nat) (x:Int) (s:W5):W5 :=
 ⟨IntKind.u32.wrap (IntKind.u32.wrap (IntKind.u32.wrap (IntKind.u32.wrap (lf s.a 5+(mixF t s.b s.c s.d).1)+s.e)+(mixF t s.b s.c s.d).2)+x),s.a,lf s.b 30,s.c,s.d⟩
def rounds (l:List Int):Nat→W5→W5
 | 0,s=>s
 | n+1,s=>stepF n (l.getD n 0) (rounds l n s)
def nextW (l:List Int):Int:=lf (qpj .u32 (qpj .u32 (qpj .u32 (l.getD (l.length - 3) 0) (l.getD (l.length - 8) 0)) (l.getD (l.length - 14) 0)) (l.getD (l.length - 16) 0)) 1
def qaf:Nat→List Int→List Int
 | 0,l=>l
 | n+1,l=>qaf n (l ++ [nextW l])
theorem qwm (n:Nat):∀ l,qaf (n+1) l=qaf n l ++ [nextW (qaf n l)]:=by
 induction n with
 | zero=>intro l; rfl
 | succ n ih=>intro l; rw [qaf,ih]; rfl
theorem qwk (n:Nat) (l:List Int):(qaf n l).length=l.length+n:=by
 induction n generalizing l with
 | zero=>rfl
 | succ n ih=>rw [qaf,ih]; simp; omega
def be (l:List Int):Int:=l.foldl (fun a x=>a * 256+x) 0
theorem be_snoc (l:List Int) (x:Int):be (l ++ [x])=be l * 256+x:=by simp [be]
def qod (p:List Int):List Int:=(List.range 16).map fun t=>be ((p.drop (4 * t)).take 4)
def addW (s x:W5):W5:=⟨IntKind.u32.wrap (s.a+x.a),IntKind.u32.wrap (s.b+x.b),IntKind.u32.wrap (s.c+x.c),IntKind.u32.wrap (s.d+x.d),IntKind.u32.wrap (s.e+x.e)⟩
def blkF (s:W5) (p:List Int):W5:=addW s (rounds (qaf 64 (qod p)) 80 s)
def W5.l (s:W5):List Int:=[s.a,s.b,s.c,s.d,s.e]
abbrev qae (l:List Int):List Value:=l.map (Value.int .u32)
theorem qfc (l:List Int):(qae l).length=l.length:=by simp [qae]
theorem qvi {l:List Int} {i:Nat} (h:i < l.length):(qae l)[i]?=some (.int .u32 (l.getD i 0)):=by
 simp [qae,h,List.getD,List.getElem?_eq_getElem h]
theorem u32s_set (l:List Int) (i:Nat) (v:Int):(qae l).set i (.int .u32 v)=qae (l.set i v):=by
 unfold qae; rw [List.map_set]
theorem u8s_get {l:List Int} {i:Nat} (h:i < l.length):(u8s l)[i]?=some (.int .u8 (l.getD i 0)):=by
 simp [u8s,h,List.getD,List.getElem?_eq_getElem h]
def init5:W5:=⟨1732584193,4023233417,2562383102,271733878,3285377520⟩
def hs (xs:List Int):Nat→W5
 | 0=>init5
 | n+1=>blkF (hs xs n) ((xs.drop (64 * n)).take 64)
theorem hs_front (xs ys:List Int):∀ n,64 * n≤xs.length→hs (xs ++ ys) n=hs xs n
 | 0,_=>rfl
 | n+1,h=>by
   rw [hs,hs,hs_front xs ys n (by omega)]
   congr 1
   rw [List.drop_append_of_le_length (by omega),List.take_append_of_le_length (by rw [List.length_drop]; omega)]
def be8 (n:Int):List Int:=(List.range 8).map fun i=>n / 2 ^ (8 * (7 - i)) % 256
def zeros (n:Nat):List Int:=List.replicate ((119 - n % 64) % 64) 0
def padded (xs:List Int):List Int:=xs ++ [128] ++ zeros xs.length ++ be8 (8 * xs.length)
theorem padded_length (xs:List Int):(padded xs).length % 64=0:=by
 simp [padded,zeros,be8]; omega
def sumW (xs:List Int):W5:=hs (padded xs) ((padded xs).length / 64)
def word4 (x:Int):List Int:=[x / 2 ^ 24 % 256,x / 2 ^ 16 % 256,x / 2 ^ 8 % 256,x % 256]
def qie (xs:List Int):List Int:=(sumW xs).l.flatMap word4
section
variable {F0:List Nat} {w0 w:World} {ps:List As}
theorem qwh {b o n sz:Nat} {i:Int} {K:Addr→Prop} (h0:0≤i) (h1:i < (n:Int)) (hk:K ⟨b,o+i.toNat * sz,none⟩):ixA ⟨b,o,none⟩ n i sz K:=by
 unfold ixA
 rw [qmb]
 exact ⟨⟨h0,h1⟩,hk⟩
theorem qqg.c {x n:Int} {K:Ending→World→Prop} (hn:0≤n∧n≤32) (hk:∀ w',Mod [] w w'→K (.returned (.int .u32 (lf x n))) w'):Calls Tryz.prog 106 ⟨[.int .u32 x,.int .i64 n]⟩ w K:=by
 refine qsb (qqg.ok _ _ _ _ ?_)
 unfold qqg
 refine qjc ?_
 refine ⟨hn.1,qjc ?_⟩
 refine qx (qh (by omega) (by omega)) ?_
 refine ⟨by omega,qjc (qjc ?_)⟩
 exact hk _ (Mod.drew w)
theorem qkc.c {x n:Int} {K:Ending→World→Prop} (hn:0≤n∧n≤32) (hk:K (.returned (.int .u32 (lf x n))) w):Calls Tryz.prog 99 ⟨[.int .u32 x,.int .u64 n]⟩ w K:=by
 refine qsb (qkc.ok _ _ _ _ ?_)
 unfold qkc
 refine ⟨hn.1,qjc ?_⟩
 refine qx (show IntKind.u64.wrap (32 - n)=32 - n by rw [qle]; omega) ?_
 refine ⟨by omega,qjc (qjc ?_)⟩
 exact hk
theorem qgk.c {t:Nat} {b c d:Int} {K:Ending→World→Prop} (ht:t < 80) (hk:K (.returned (.tuple ⟨[.int .u32 (mixF t b c d).1,.int .u32 (mixF t b c d).2]⟩)) w):Calls Tryz.prog 107 ⟨[.int .i64 t,.int .u32 b,.int .u32 c,.int .u32 d]⟩ w K:=by
 refine qsb (qgk.ok _ _ _ _ _ _ ?_)
 unfold qgk
 refine ⟨by decide,?_⟩
 rw [tdiv_nn (by omega)]
 refine qx (qh (by omega) (by omega)) ?_
 unfold mixF at hk
 refine qmd (fun h1=>?_) (fun h1=>?_)
 · have h1:(t:Int) / 20=0:=by simpa using h1
   rw [if_pos (by omega)] at hk
   exact qjc (qjc (qjc (qjc hk)))
 have h1:¬ (t:Int) / 20=0:=by simpa using h1
 rw [if_neg (by omega)] at hk
 refine qmd (fun h2=>?_) (fun h2=>?_)
 · have h2:(t:Int) / 20=1:=by simpa using h2
   rw [if_pos (by omega)] at hk
   exact qjc (qjc hk)
 have h2:¬ (t:Int) / 20=1:=by simpa using h2
 rw [if_neg (by omega)] at hk
 refine qmd (fun h3=>?_) (fun h3=>?_)
 · have h3:(t:Int) / 20=2:=by simpa using h3
   rw [if_pos (by omega)] at hk
   exact qjc (qjc (qjc (qjc (qjc hk))))
 have h3:¬ (t:Int) / 20=2:=by simpa using h3
 rw [if_neg (by omega)] at hk
 exact qjc (qjc hk)
end
end Go.Proofs.YtonmgkkkiejicaaGreat
namespace Go.Proofs.YtonmgkkkiejicaaGreat
open Go Go.Proofs
set_option linter.unusedVariables false
set_option linter.unusedSimpArgs false
attribute [local irreducible] apK cpK mkK
theorem loop6 {α A B D E G H:Type} {C:(A→B→D→E→G→H→World→Prop)→(A→B→D→E→G→H→World→Nat)→A→B→D→E→G→H→World→Prop} {x:A} {y:B} {z:D} {u:E} {v:G} {t:H} {w:World} (Inv:α→A→B→D→E→G→H→World→Prop) (m:α→Nat) (a:α) (h:Inv a x y z u v t w)
 (hb:∀ a x y z u v t w I μ,Inv a x y z u v t w→(∀ a' x' y' z' u' v' t' w',Inv a' x' y' z' u' v' t' w'→m a' < m a→I x' y' z' u' v' t' w'∧μ x' y' z' u' v' t' w' < μ x y z u v t w)→C I μ x y z u v t w):∃ I μ,I x y z u v t w∧∀ x y z u v t w,I x y z u v t w→C I μ x y z u v t w:=by
 obtain ⟨I,μ,h1,h2⟩:=qeh (σ:=A × B × D × E × G × H × World) (C:=fun I μ s=>C (fun x y z u v t w=>I (x,y,z,u,v,t,w)) (fun x y z u v t w=>μ (x,y,z,u,v,t,w)) s.1 s.2.1 s.2.2.1 s.2.2.2.1 s.2.2.2.2.1 s.2.2.2.2.2.1 s.2.2.2.2.2.2) (s:=(x,y,z,u,v,t,w))
  (fun a s=>Inv a s.1 s.2.1 s.2.2.1 s.2.2.2.1 s.2.2.2.2.1 s.2.2.2.2.2.1 s.2.2.2.2.2.2) m a h
  (fun a s I μ hi hn=>hb a s.1 s.2.1 s.2.2.1 s.2.2.2.1 s.2.2.2.2.1 s.2.2.2.2.2.1 s.2.2.2.2.2.2 _ _ hi fun a' x' y' z' u' v' t' w'=>hn a' (x',y',z',u',v',t',w'))
 exact ⟨fun x y z u v t w=>I (x,y,z,u,v,t,w),fun x y z u v t w=>μ (x,y,z,u,v,t,w),h1,fun x y z u v t w hI=>h2 (x,y,z,u,v,t,w) hI⟩
attribute [local irreducible] rounds qaf
theorem qeg (l:List Value) (i:Nat):(⟨l⟩:Array Value)[i]?=l[i]?:=by simp
def qzc (l:List Int):Prop:=∀ x ∈ l,0≤x∧x < 256
theorem be_lt:∀ (l:List Int),qzc l→0≤be l∧be l < 256 ^ l.length:=by
 intro l
 have key:∀ (l:List Int) (a:Int) (k:Nat),qzc l→0≤a→a < 256 ^ k→0≤l.foldl (fun a x=>a * 256+x) a∧l.foldl (fun a x=>a * 256+x) a < 256 ^ (k+l.length):=by
  intro l
  induction l with
  | nil=>intro a k _ h0 h1; exact ⟨h0,h1⟩
  | cons x l ih =>
    intro a k hb h0 h1
    have hx:=hb x (by simp)
    have:=ih (a * 256+x) (k+1) (fun y hy=>hb y (by simp [hy])) (by omega) (by rw [Int.pow_succ]; omega)
    rw [List.foldl_cons,List.length_cons,show k+(l.length+1)=k+1+l.length by omega]
    exact this
 intro hb
 have:=key l 0 0 hb (by omega) (by decide)
 rwa [Nat.zero_add] at this
theorem or_byte {x c:Int} (hx:0≤x∧x < 16777216) (hc:0≤c∧c < 256):orV .u32 (shlV .u32 x 8) c=x * 256+c:=by
 obtain ⟨n,rfl⟩:∃ n:Nat,x=n:=⟨x.toNat,by omega⟩
 obtain ⟨m,rfl⟩:∃ m:Nat,c=m:=⟨c.toNat,by omega⟩
 have h1:shlV .u32 (n:Int) 8=(n:Int) * 2 ^ 8:=shlV_u (k:=.u32) (t:=8) rfl (by decide) (by show n * 2 ^ 8 < 2 ^ 32; omega)
 rw [h1,orV_comm,orV_uadd (k:=.u32) (t:=8) rfl (by omega) (by show m+n * 2 ^ 8 < 2 ^ 32; omega)]
 omega
def fillW (p:List Int) (i:Nat):List Int:=(List.range 80).map fun t=>be (((p.take i).drop (4 * t)).take 4)
theorem qpi (p:List Int) (i:Nat):(fillW p i).length=80:=by unfold fillW; rw [List.length_map,List.length_range]
theorem fillW_zero (p:List Int):fillW p 0=List.replicate 80 0:=by
 apply List.ext_getElem
 · simp [fillW]
 · intro i h1 h2
   rw [List.getElem_replicate]
   simp [fillW,be]
theorem fillW_getD {p:List Int} {i t:Nat} (h:t < 80):(fillW p i).getD t 0=be (((p.take i).drop (4 * t)).take 4):=by
 unfold fillW
 rw [List.getD_eq_getElem?_getD,List.getElem?_map,List.getElem?_range h]
 rfl
theorem fillW_bound {p:List Int} {i:Nat} (hp:qzc p) (hi:i < p.length):0≤be (((p.take i).drop (4 * (i / 4))).take 4)∧be (((p.take i).drop (4 * (i / 4))).take 4) < 16777216:=by
 have h:=be_lt (((p.take i).drop (4 * (i / 4))).take 4) (fun x hx=>hp x (List.mem_of_mem_take (List.mem_of_mem_drop (List.mem_of_mem_take hx))))
 refine ⟨h.1,Int.lt_of_lt_of_le h.2 ?_⟩
 have hl:(((p.take i).drop (4 * (i / 4))).take 4).length≤3:=by
  rw [List.length_take,List.length_drop,List.length_take]; omega
 generalize (((p.take i).drop (4 * (i / 4))).take 4).length=n at hl ⊢
 have h3:(256:Nat) ^ n≤256 ^ 3:=Nat.pow_le_pow_right (by decide) hl
 have h4:((256 ^ n:Nat):Int)=256 ^ n:=by rw [Int.natCast_pow]; rfl
 have h5:(256:Nat) ^ 3=16777216:=by decide
 omega
theorem fillW_succ {p:List Int} {i:Nat} (hi:i < p.length) (h64:i < 64):(fillW p i).set (i / 4) (be (((p.take i).drop (4 * (i / 4))).take 4) * 256+p[i])=fillW p (i+1):=by
 apply List.ext_getElem
 · simp [fillW]
 · intro t h1 h2
   simp only [List.length_set,qpi] at h1
   have htk:p.take (i+1)=p.take i ++ [p[i]]:=List.take_succ_eq_append_getElem hi
   rw [List.getElem_set]
   simp only [fillW,List.getElem_map,List.getElem_range]
   have hlen:(p.take i).length=i:=by rw [List.length_take]; omega
   by_cases h:i / 4=t
   · subst h
     rw [if_pos rfl,← be_snoc,htk,List.drop_append_of_le_length (by rw [hlen]; omega),List.take_append,List.take_of_length_le (l:=(p.take i).drop _) (by rw [List.length_drop,hlen]; omega)]
     congr 2
     rw [List.length_drop,hlen,List.take_of_length_le]
     simp; omega
   · rw [if_neg h,htk]
     congr 1
     rcases Nat.lt_or_ge t (i / 4) with h3 | h3
     · rw [List.drop_append_of_le_length (by rw [hlen]; omega),List.take_append_of_le_length (by rw [List.length_drop,hlen]; omega)]
     · rw [List.drop_eq_nil_of_le (by rw [hlen]; omega),List.drop_eq_nil_of_le (by rw [List.length_append,hlen]; simp; omega)]
theorem fillW_end {p:List Int} (hp:p.length=64):fillW p 64=qod p ++ List.replicate 64 0:=by
 apply List.ext_getElem
 · simp [fillW,qod]
 · intro t h1 h2
   rw [List.getElem_append]
   simp only [fillW,List.getElem_map,List.getElem_range,qod,List.length_map,List.length_range]
   have e:p.take 64=p:=List.take_of_length_le (by omega)
   rw [e]
   split
   · rfl
   · rw [List.drop_eq_nil_of_le (by omega)]
     rw [List.getElem_replicate]
     simp [be]
theorem qpe {l m:List Int} {i:Nat} (h:i < l.length):(l ++ m).getD i 0=l.getD i 0:=by
 simp [List.getD,List.getElem?_append_left h]
theorem zc_w80:zc Tryz.prog 183=⟨qae (List.replicate 80 0)⟩:=by kernel_rfl
section
variable {F0:List Nat} {w0 w:World} {ps:List As}
theorem St.ldu32 {b o:Nat} {l:List Int} {m:List Value} {i:Nat} {K:Int→Prop} (h:St F0 w0 w (qt b (qae l ++ m) :: ps)) (ho:o=i) (hi:i < l.length) (hk:K (l.getD i 0)):ldI .u32 w ⟨b,o,none⟩ K:=by
 subst ho
 refine h.blk.ldI ?_ hk
 rw [List.getElem?_append_left (by rw [qfc]; exact hi),qvi hi]
theorem St.ldu32' {b o:Nat} {l:List Int} {i:Nat} {K:Int→Prop} (h:St F0 w0 w (qt b (qae l) :: ps)) (ho:o=i) (hi:i < l.length) (hk:K (l.getD i 0)):ldI .u32 w ⟨b,o,none⟩ K:=by
 subst ho
 exact h.blk.ldI (qvi hi) hk
theorem St.stu32 {b o:Nat} {l:List Int} {i:Nat} {v:Int} {K:World→Prop} (h:St F0 w0 w (qt b (qae l) :: ps)) (ho:o=i) (hi:i < l.length) (hk:∀ w',St F0 w0 w' (qt b (qae (l.set i v)) :: ps)→K w'):Go.Proofs.YtonmgkkkiejicaaGreat.st w ⟨b,o,none⟩ (.int .u32 v) K:=by
 subst ho
 refine h.st (by rw [qfc]; exact hi) trivial fun w' h=>hk w' ?_
 rw [u32s_set] at h
 exact h
def someW (s x:W5) (n:Nat):List Int :=
 [if 0 < n then IntKind.u32.wrap (s.a+x.a) else s.a,if 1 < n then IntKind.u32.wrap (s.b+x.b) else s.b,if 2 < n then IntKind.u32.wrap (s.c+x.c) else s.c,if 3 < n then IntKind.u32.wrap (s.d+x.d) else s.d,if 4 < n then IntKind.u32.wrap (s.e+x.e) else s.e]
theorem qn.add {hb:Nat} {s x:W5} {tl:List Value} {Q:VWP} (h:St F0 w0 w (qt hb (qae s.l ++ tl) :: ps))
 (hk:∀ w',St F0 w0 w' (qt hb (qae (addW s x).l ++ tl) :: ps)→Q (.tuple ⟨[]⟩) w'):qn.l1 (some ⟨hb,0,none⟩) ⟨qae x.l⟩ 0 Q w:=by
 refine qud (fun (i:Nat) (i':Int) w=>i'=i∧i≤5∧St F0 w0 w (qt hb (qae (someW s x i) ++ tl) :: ps)) (fun i=>5 - i) 0 ⟨rfl,by omega,h⟩ ?_
 clear h
 rintro i i' w I μ ⟨rfl,hi,h⟩ hin
 unfold qn.b1
 refine qsc (fun h1=>?_) (fun h1=>?_)
 · refine ⟨by omega,?_⟩
   have ei:((i:Int)).toNat * 1=i:=by omega
   rw [ei]
   refine ⟨x.l.getD i 0,?_,?_⟩
   · rw [qeg]
     exact qvi (by show i < 5; omega)
   refine h.drewK fun w h=>?_
   refine qgd (qwh (by omega) (by omega) ?_)
   rw [ei]
   refine h.ldu32 (i:=i) (by omega) (by show i < 5; omega) ?_
   refine qjc ?_
   refine qgd (qwh (by omega) (by omega) ?_)
   rw [ei]
   refine h.st (by rw [List.length_append,qfc]; show 0+i < 5+tl.length; omega) trivial fun w h=>?_
   refine qx (qh (by omega) (by omega)) ?_
   refine ⟨⟨rfl,rfl⟩,hin (i+1) _ _ ⟨by simp,by omega,?_⟩ (by omega)⟩
   rw [List.set_append_left _ _ (by rw [qfc]; show 0+i < 5; omega),u32s_set] at h
   have hc:i=0 ∨ i=1 ∨ i=2 ∨ i=3 ∨ i=4:=by omega
   rcases hc with rfl | rfl | rfl | rfl | rfl <;> exact h
 · have:i=5:=by omega
   subst this
   exact hk w h
theorem qn.rounds {hb:Nat} {s:W5} {tl:List Value} {l:List Int} (hl:l.length=80) {Q:VWP} (h:St F0 w0 w (qt hb (qae s.l ++ tl) :: ps))
 (hk:∀ w',St F0 w0 w' (qt hb (qae (addW s (rounds l 80 s)).l ++ tl) :: ps)→Q (.tuple ⟨[]⟩) w'):qn.l2 (some ⟨hb,0,none⟩) ⟨qae l⟩ s.a s.b s.c s.d s.e 0 Q w:=by
 refine loop6 (fun (t:Nat) a b c d e (t':Int) w=>t'=t∧t≤80∧(⟨a,b,c,d,e⟩:W5)=Go.Proofs.YtonmgkkkiejicaaGreat.rounds l t s∧St F0 w0 w (qt hb (qae s.l ++ tl) :: ps)) (fun t=>80 - t) 0 ⟨rfl,by omega,by rw [Go.Proofs.YtonmgkkkiejicaaGreat.rounds],h⟩ ?_
 clear h
 rintro t a b c d e t' w I μ ⟨rfl,ht,hr,h⟩ hin
 unfold qn.b2
 refine qsc (fun h1=>?_) (fun h1=>?_)
 · refine ⟨by omega,?_⟩
   have ei:((t:Int)).toNat * 1=t:=by omega
   rw [ei]
   refine ⟨l.getD t 0,?_,?_⟩
   · rw [qeg]
     exact qvi (by omega)
   refine qgk.c (by omega) ⟨_,_,rfl,?_⟩
   refine qqg.c (by decide) fun w1 hm=>⟨_,rfl,?_⟩
   have h:=h.skip hm
   refine qjc (qjc (qjc (qjc ?_)))
   refine qqg.c (by decide) fun w2 hm=>⟨_,rfl,?_⟩
   have h:=h.skip hm
   refine qx (qh (by omega) (by omega)) ?_
   refine ⟨⟨rfl,rfl⟩,hin (t+1) _ _ _ _ _ _ _ ⟨by simp,by omega,?_,h⟩ (by omega)⟩
   rw [Go.Proofs.YtonmgkkkiejicaaGreat.rounds,← hr]
   rfl
 · have:t=80:=by omega
   subst this
   unfold qn.j5 qn.j6
   refine qn.add (x:=⟨a,b,c,d,e⟩) h ?_
   rw [hr]
   exact hk
theorem qn.c {hb:Nat} {s:W5} {tl:List Value} {p:List Int} {K:Ending→World→Prop} (hp:p.length=64) (hpb:qzc p) (h:St F0 w0 w (qt hb (qae s.l ++ tl) :: ps))
 (hk:∀ w',St F0 w0 w' (qt hb (qae (blkF s p).l ++ tl) :: ps)→K (.returned (.tuple ⟨[]⟩)) w'):Calls Tryz.prog 91 ⟨[.pointer (some ⟨hb,0,none⟩),.agg ⟨u8s p⟩]⟩ w K:=by
 unfold blkF at hk
 refine qsb (qn.ok _ _ _ _ ?_)
 unfold qn
 refine h.new fun n1 w h=>?_
 refine h.new fun n2 w h=>?_
 unfold qn.j1
 refine h.blk1.ldA (cs:=⟨u8s p⟩) (by show (u8s p).length=64; rw [qeb,hp]) (fun i hi=>by rw [Nat.zero_add,qeg]) ?_
 have h:St F0 w0 w (qt n2 (qae (fillW p 0)) :: qt hb (qae s.l ++ tl) :: ps):=by
  have h:=h.at1.drop
  rw [zc_w80] at h
  rw [fillW_zero]
  exact h
 unfold qn.j9
 refine qud (fun (i:Nat) (i':Int) w=>i'=i∧i≤64∧St F0 w0 w (qt n2 (qae (fillW p i)) :: qt hb (qae s.l ++ tl) :: ps)) (fun i=>64 - i) 0 ⟨rfl,by omega,h⟩ ?_
 clear h
 rintro i i' w I μ ⟨rfl,hi,h⟩ hin
 unfold qn.b4
 refine qsc (fun h1=>?_) (fun h1=>?_)
 · refine ⟨by omega,?_⟩
   have ei:((i:Int)).toNat * 1=i:=by omega
   have ei4:((i:Int) / 4).toNat * 1=i / 4:=by omega
   rw [ei]
   refine ⟨p.getD i 0,?_,?_⟩
   · rw [qeg]
     exact u8s_get (by omega)
   have hip:i < p.length:=by omega
   have hc:p.getD i 0=p[i]:=by simp [List.getD,hip]
   have hcb:=hpb p[i] (List.getElem_mem hip)
   rw [hc]
   refine ⟨by decide,?_⟩
   rw [tdiv_nn (by omega)]
   refine qx (qh (by omega) (by omega)) ?_
   refine ⟨by decide,?_⟩
   refine qx (qh (by omega) (by omega)) ?_
   refine qwh (by omega) (by omega) ?_
   rw [ei4]
   refine h.ldu32' (i:=i / 4) (by omega) (by rw [qpi]; omega) ?_
   rw [fillW_getD (by omega)]
   refine ⟨by decide,qjc ?_⟩
   refine qx (show IntKind.u32.wrap p[i]=p[i] by rw [qui]; omega) ?_
   refine qx (or_byte (fillW_bound hpb hip) hcb) ?_
   refine qwh (by omega) (by omega) ?_
   rw [ei4]
   refine h.stu32 (i:=i / 4) (by omega) (by rw [qpi]; omega) fun w h=>?_
   refine qx (qh (by omega) (by omega)) ?_
   refine ⟨⟨rfl,rfl,rfl⟩,hin (i+1) _ _ ⟨by simp,by omega,?_⟩ (by omega)⟩
   rw [fillW_succ hip (by omega)] at h
   exact h
 have:i=64:=by omega
 subst this
 rw [fillW_end hp] at h
 clear hin hi h1
 unfold qn.j2 qn.j8
 have hb16:(qod p).length=16:=by simp [qod]
 refine qud (fun (t:Nat) (t':Int) w=>t'=(t:Int)+16∧t≤64∧St F0 w0 w (qt n2 (qae (qaf t (qod p) ++ List.replicate (64 - t) 0)) :: qt hb (qae s.l ++ tl) :: ps)) (fun t=>64 - t) 0 ⟨rfl,by omega,by rw [qaf]; exact h⟩ ?_
 clear h
 rintro t t' w I μ ⟨rfl,ht,h⟩ hin
 have hgl:(qaf t (qod p)).length=t+16:=by rw [qwk,hb16]; omega
 unfold qn.b3
 refine qsc (fun h1=>?_) (fun h1=>?_)
 · refine h.drewK fun w h=>?_
   have hlen:(qaf t (qod p) ++ List.replicate (64 - t) (0:Int)).length=80:=by rw [List.length_append,hgl,List.length_replicate]; omega
   refine qx (qh (by omega) (by omega)) ?_
   refine qwh (by omega) (by omega) ?_
   refine h.ldu32' (i:=t+13) (by omega) (by omega) ?_
   refine qx (qh (by omega) (by omega)) ?_
   refine qwh (by omega) (by omega) ?_
   refine h.ldu32' (i:=t+8) (by omega) (by omega) ?_
   refine qjc ?_
   refine qx (qh (by omega) (by omega)) ?_
   refine qwh (by omega) (by omega) ?_
   refine h.ldu32' (i:=t+2) (by omega) (by omega) ?_
   refine qjc ?_
   refine qx (qh (by omega) (by omega)) ?_
   refine qwh (by omega) (by omega) ?_
   refine h.ldu32' (i:=t) (by omega) (by omega) ?_
   refine qjc ?_
   refine qqg.c (by decide) fun w1 hm=>⟨_,rfl,?_⟩
   have h:=h.skip hm
   refine qwh (by omega) (by omega) ?_
   refine h.stu32 (i:=t+16) (by omega) (by omega) fun w h=>?_
   refine qx (qh (by omega) (by omega)) ?_
   refine ⟨⟨rfl,rfl⟩,hin (t+1) _ _ ⟨by omega,by omega,?_⟩ (by omega)⟩
   rw [qpe (by omega),qpe (by omega),qpe (by omega),qpe (by omega)] at h
   have e:qaf (t+1) (qod p) ++ List.replicate (64 - (t+1)) 0=(qaf t (qod p) ++ List.replicate (64 - t) 0).set (t+16)
    (lf (qpj .u32 (qpj .u32 (qpj .u32 ((qaf t (qod p)).getD (t+13) 0) ((qaf t (qod p)).getD (t+8) 0)) ((qaf t (qod p)).getD (t+2) 0)) ((qaf t (qod p)).getD t 0)) 1):=by
    rw [qwm,List.set_append_right _ _ (by omega),hgl,Nat.sub_self,show 64 - t=(64 - (t+1))+1 by omega,List.replicate_succ,List.set_cons_zero,List.append_assoc]
    unfold nextW
    rw [hgl]
    rfl
   rw [e]
   exact h
 have:t=64:=by omega
 subst this
 clear hin ht h1
 rw [Nat.sub_self,List.replicate_zero,List.append_nil] at h
 unfold qn.j3
 refine h.drewK fun w h=>?_
 have hw:=h.at1
 refine qgd (qwh (by decide) (by decide) ?_)
 refine hw.ldu32 (i:=0) (by decide) (by show 0 < 5; decide) ?_
 refine qgd (qwh (by decide) (by decide) ?_)
 refine hw.ldu32 (i:=1) (by decide) (by show 1 < 5; decide) ?_
 refine qgd (qwh (by decide) (by decide) ?_)
 refine hw.ldu32 (i:=2) (by decide) (by show 2 < 5; decide) ?_
 refine qgd (qwh (by decide) (by decide) ?_)
 refine hw.ldu32 (i:=3) (by decide) (by show 3 < 5; decide) ?_
 refine qgd (qwh (by decide) (by decide) ?_)
 refine hw.ldu32 (i:=4) (by decide) (by show 4 < 5; decide) ?_
 unfold qn.j4
 refine h.blk.ldA (cs:=⟨qae (qaf 64 (qod p))⟩) (by show (qae _).length=80; rw [qfc,hgl]) (fun i hi=>by rw [Nat.zero_add,qeg]) ?_
 unfold qn.j7
 exact qn.rounds (by rw [hgl]) hw.at1.drop fun w h=>hk w h
end
end Go.Proofs.YtonmgkkkiejicaaGreat
namespace Go.Proofs.YtonmgkkkiejicaaGreat
open Go Go.Proofs
set_option linter.unusedVariables false
set_option maxRecDepth 100000
def qtc.j2 (out_7:Sl) (Q:VWP) (w:World):Prop :=
 qqf 28 [sV out_7] w fun r3 w2 =>
 Q (sV r3) w2
def qtc.b1 (v_1 bits_2:Int) (out_7:Sl) (Q:VWP) (nx1:Int→Int→Sl→WP) (w:World):Prop :=
 br (decide (bits_2 > 0)) (
 lt (IntKind.i64.wrap (bits_2 - 8)) fun x4 =>
 (0:Int)≤x4 ∧
 lt (shrV .i64 v_1 x4) fun x5 =>
 lt (IntKind.u8.wrap x5) fun x6 =>
 nw w ⟨[.int .u8 x6]⟩ 5 fun a7 w8 =>
 rdO w8 (some a7) (1 * 1) fun c9 =>
 apK Tryz.prog 5 w8 out_7.a out_7.len out_7.cap 1 c9 fun s10 w11 =>
 nx1 v_1 x4 s10 w11) (
 qtc.j2 out_7 Q w)
def qtc.l1 (v_1 bits_2:Int) (out_7:Sl) (Q:VWP) (w:World):Prop :=
 ∃ (I:Int→Sl→WP) (μ:Int→Sl→World→Nat),I bits_2 out_7 w∧∀ bits_2:Int,∀ out_7:Sl,∀ w:World,I bits_2 out_7 w→qtc.b1 v_1 bits_2 out_7 Q (fun v_1' bits_2' out_7' w'=>(v_1'=v_1)∧I bits_2' out_7' w'∧μ bits_2' out_7' w' < μ bits_2 out_7 w) w
def qtc.j1 (v_1 bits_2:Int) (out_7:Sl) (Q:VWP) (w:World):Prop :=
 qtc.l1 v_1 bits_2 out_7 Q w
def qtc (b_0:Sl) (v_1:Int) (bits_2:Int) (Q:VWP) (w:World):Prop :=
 qqf 90 [sV b_0] w fun r14 w13 =>
 qtc.j1 v_1 bits_2 r14 Q w13
theorem qtc.ok (b_0:Sl) (v_1:Int) (bits_2:Int) (Q:VWP) (w:World) (h:qtc b_0 v_1 bits_2 Q w):Calls Tryz.prog 53 ⟨[sV b_0,.int .i64 v_1,.int .i64 bits_2]⟩ w (Ret Q) :=
 qvb [.tmp 6] qkd Tryz.func53 rfl rfl rfl rfl (.pr 1 [sI 1,sI 2,sL 7] (fun a b c w=>qtc.j1 a b c Q w) (.sq [sL 7] (fun a w=>qtc.j2 a Q w) (.bk (.lo [sI 1] [sI 2,sL 7] (fun a b c w=>qtc.l1 a b c Q w) (fun nx1 a b c w=>qtc.b1 a b c Q nx1 w) fun nx1=>.lf)) .lf)) (by kernel_rfl) h
def qhd (b_0:Sl) (v_1:Int) (Q:VWP) (w:World):Prop :=
 qqf 53 [sV b_0,.int .i64 v_1,.int .i64 32] w fun r3 w2 =>
 Q (sV r3) w2
theorem qhd.ok (b_0:Sl) (v_1:Int) (Q:VWP) (w:World) (h:qhd b_0 v_1 Q w):Calls Tryz.prog 23 ⟨[sV b_0,.int .i64 v_1]⟩ w (Ret Q) :=
 qvb [.tmp 4] qkd Tryz.func23 rfl rfl rfl rfl .lf (by kernel_rfl) h
def qqe (b_0:Sl) (v_1:Int) (Q:VWP) (w:World):Prop :=
 qqf 53 [sV b_0,.int .i64 v_1,.int .i64 64] w fun r3 w2 =>
 Q (sV r3) w2
theorem qqe.ok (b_0:Sl) (v_1:Int) (Q:VWP) (w:World) (h:qqe b_0 v_1 Q w):Calls Tryz.prog 25 ⟨[sV b_0,.int .i64 v_1]⟩ w (Ret Q) :=
 qvb [.tmp 4] qkd Tryz.func25 rfl rfl rfl rfl .lf (by kernel_rfl) h
end Go.Proofs.YtonmgkkkiejicaaGreat
namespace Go.Proofs.YtonmgkkkiejicaaGreat
open Go Go.Proofs
set_option linter.unusedVariables false
set_option linter.unusedSimpArgs false
attribute [local irreducible] apK cpK mkK hs
def cellsH (s:W5) (rest:List Int) (n:Int):List Value:=qae s.l ++ (u8s rest ++ [.int .i64 n])
theorem W5.l_length (s:W5):s.l.length=5:=rfl
theorem qbk {s:W5} {rest:List Int} {n:Int} (h:rest.length=64):(cellsH s rest n)[69]?=some (.int .i64 n):=by
 unfold cellsH
 rw [List.getElem?_append_right (by rw [qfc,W5.l_length]; omega),qfc,W5.l_length,List.getElem?_append_right (by rw [qeb]; omega),qeb,h]
 rfl
theorem qxh {s:W5} {rest:List Int} {n:Int} (h:rest.length=64):(cellsH s rest n).length=70:=by
 unfold cellsH
 rw [List.length_append,List.length_append,qfc,qeb,W5.l_length,h]
 rfl
theorem cellsH_setn {s:W5} {rest:List Int} {n m:Int} (h:rest.length=64):(cellsH s rest n).set 69 (.int .i64 m)=cellsH s rest m:=by
 unfold cellsH
 rw [List.set_append_right _ _ (by rw [qfc,W5.l_length]; omega),qfc,W5.l_length,List.set_append_right _ _ (by rw [qeb]; omega),qeb,h]
 rfl
theorem cellsH_set {s:W5} {rest:List Int} {n c:Int} {k:Nat} (h:rest.length=64) (hk:k < 64):(cellsH s rest n).set (5+k) (.int .u8 c)=cellsH s (rest.set k c) n:=by
 unfold cellsH
 rw [List.set_append_right _ _ (by rw [qfc,W5.l_length]; omega),qfc,W5.l_length,show 5+k - 5=k by omega,List.set_append_left _ _ (by rw [qeb]; omega),u8s_set]
theorem cellsH_rest {s:W5} {rest:List Int} {n:Int} (h:rest.length=64) {i:Nat} (hi:i < 64):(cellsH s rest n)[5+i]?=(u8s rest)[i]?:=by
 unfold cellsH
 rw [List.getElem?_append_right (by rw [qfc,W5.l_length]; omega),qfc,W5.l_length,show 5+i - 5=i by omega,List.getElem?_append_left (by rw [qeb]; omega)]
def shA (hb:Nat) (xs:List Int):As:=exA fun rest:List Int=>ifA (rest.length=64∧rest.take (xs.length % 64)=xs.drop (64 * (xs.length / 64))∧qzc rest) <| qt hb (cellsH (Go.Proofs.YtonmgkkkiejicaaGreat.hs xs (xs.length / 64)) rest (xs.length:Int))
section
variable {F0:List Nat} {w0 w:World} {ps:List As}
theorem shA_o {hb:Nat} {xs:List Int} (h:St F0 w0 w (shA hb xs :: ps)):∃ rest:List Int,rest.length=64∧rest.take (xs.length % 64)=xs.drop (64 * (xs.length / 64))∧qzc rest∧St F0 w0 w (qt hb (cellsH (hs xs (xs.length / 64)) rest (xs.length:Int)) :: ps):=by
 obtain ⟨rest,h⟩:=h.exE
 obtain ⟨⟨h1,h2,h3⟩,h⟩:=h.ifE
 exact ⟨rest,h1,h2,h3,h⟩
theorem shA_i {hb:Nat} {xs rest:List Int} (h1:rest.length=64) (h2:rest.take (xs.length % 64)=xs.drop (64 * (xs.length / 64))) (h3:qzc rest) (h:St F0 w0 w (qt hb (cellsH (hs xs (xs.length / 64)) rest (xs.length:Int)) :: ps)):St F0 w0 w (shA hb xs :: ps) :=
 (h.ifI ⟨h1,h2,h3⟩).exI (p:=fun rest:List Int=>ifA (rest.length=64∧rest.take (xs.length % 64)=xs.drop (64 * (xs.length / 64))∧qzc rest) <| qt hb (cellsH (hs xs (xs.length / 64)) rest (xs.length:Int))) rest
theorem allB_set {l:List Int} {k:Nat} {c:Int} (h:qzc l) (hc:0≤c∧c < 256):qzc (l.set k c):=by
 intro x hx
 rcases List.mem_or_eq_of_mem_set hx with h1 | h1
 · exact h x h1
 · subst h1; exact hc
theorem qqb.c {hb:Nat} {xs zs:List Int} {s:Sl} {K:Ending→World→Prop} (h:St F0 w0 w (shA hb xs :: ps)) (hr:∀ w' p,St F0 w0 w' (p :: ps)→Rd w' 1 s (u8s zs)) (hz:qzc zs) (hL:xs.length+zs.length≤1099511627776)
 (hk:∀ w',St F0 w0 w' (shA hb (xs ++ zs) :: ps)→K (.returned (.tuple ⟨[]⟩)) w'):Calls Tryz.prog 56 ⟨[.pointer (some ⟨hb,0,none⟩),.slice s.a s.len s.cap]⟩ w K:=by
 have hs0:=(hr w _ h).1
 rw [qeb] at hs0
 refine qsb (qqb.ok _ _ _ _ ?_)
 unfold qqb qqb.j1
 refine qud (fun (i:Nat) (i':Int) w=>i'=i∧i≤zs.length∧St F0 w0 w (shA hb (xs ++ zs.take i) :: ps)) (fun i=>zs.length - i) 0 ⟨rfl,by omega,by simpa using h⟩ ?_
 clear h
 rintro i i' w I μ ⟨rfl,hi,h⟩ hin
 unfold qqb.b1
 refine qsc (fun h1=>?_) (fun h1=>?_)
 · have hiz:i < zs.length:=by omega
   have ei:((i:Int)).toNat * 1=i:=by omega
   refine (hr w _ h).ix (by decide) (by omega) (by omega) fun a ha=>?_
   rw [ei]
   refine (hr w _ h).ldI (n:=zs[i]) ha (by simp [u8s,hiz]) ?_
   have hcb:=hz zs[i] (List.getElem_mem hiz)
   have htk:xs ++ zs.take (i+1)=(xs ++ zs.take i) ++ [zs[i]]:=by rw [List.take_succ_eq_append_getElem hiz,List.append_assoc]
   have hlen:(xs ++ zs.take i).length≤1099511627776:=by rw [List.length_append,List.length_take]; omega
   generalize hy:xs ++ zs.take i=ys at h htk hlen
   generalize zs[i]=c at hcb htk
   refine h.drewK fun w h=>?_
   obtain ⟨rest,r1,r2,r3,h⟩:=shA_o h
   refine qgd (h.blk.ldI (o:=69) (qbk r1) ?_)
   refine ⟨by decide,?_⟩
   refine qx (qml (by omega)) ?_
   have em:(ys.length:Int) % 64=(ys.length % 64:Nat):=by omega
   rw [em]
   have hk64:ys.length % 64 < 64:=Nat.mod_lt _ (by decide)
   refine qgd (qwh (by omega) (by omega) ?_)
   have eo:0+5+(((ys.length % 64:Nat):Int)).toNat * 1=5+ys.length % 64:=by omega
   rw [eo]
   refine h.st (by rw [qxh r1]; omega) trivial fun w h=>?_
   rw [cellsH_set r1 hk64] at h
   have r1':(rest.set (ys.length % 64) c).length=64:=by rw [List.length_set]; exact r1
   refine qgd (h.blk.ldI (o:=69) (qbk r1') ?_)
   refine qx (qh (by omega) (by omega)) ?_
   refine qgd (h.st (o:=69) (by rw [qxh r1']; omega) trivial fun w h=>?_)
   rw [cellsH_setn r1'] at h
   refine qgd (h.blk.ldI (o:=69) (qbk r1') ?_)
   refine ⟨by decide,?_⟩
   refine qx (qml (by omega)) ?_
   have r3':=allB_set (k:=ys.length % 64) r3 hcb
   have r2':(rest.set (ys.length % 64) c).take (ys.length % 64+1)=(ys ++ [c]).drop (64 * (ys.length / 64)):=by
    rw [List.take_succ_eq_append_getElem (by omega),List.getElem_set_self,List.take_set_of_le (Nat.le_refl _),r2,List.drop_append_of_le_length (by omega)]
   have hl1:(ys ++ [c]).length=ys.length+1:=by simp
   refine qmd (fun h2=>?_) (fun h2=>?_)
   · have h2:((ys.length:Int)+1) % 64=0:=by simpa using h2
     refine qgd (h.blk.ldA (cs:=⟨u8s (rest.set (ys.length % 64) c)⟩) (by show (u8s _).length=64; rw [qeb,r1']) (fun j hj=>by rw [qeg,Nat.zero_add,cellsH_rest r1' hj]) ?_)
     unfold cellsH at h
     refine qn.c r1' r3' h fun w h=>⟨rfl,?_⟩
     refine qx (qh (by omega) (by omega)) ?_
     refine ⟨⟨rfl,rfl,rfl⟩,hin (i+1) _ _ ⟨by simp,by omega,?_⟩ (by omega)⟩
     rw [htk]
     refine shA_i r1' ?_ r3' ?_
     · rw [hl1,show (ys.length+1) % 64=0 by omega,List.take_zero,List.drop_eq_nil_of_le (by rw [hl1]; omega)]
     · rw [hl1,show (ys.length+1) / 64=ys.length / 64+1 by omega,hs,hs_front ys [c] _ (by omega)]
       have e:((ys ++ [c]).drop (64 * (ys.length / 64))).take 64=rest.set (ys.length % 64) c:=by
        rw [← r2',List.take_of_length_le (l:=(rest.set (ys.length % 64) c)) (by omega),List.take_of_length_le (by omega)]
       rw [e]
       exact h
   · have h2:¬ ((ys.length:Int)+1) % 64=0:=by simpa using h2
     refine qx (qh (by omega) (by omega)) ?_
     refine ⟨⟨rfl,rfl,rfl⟩,hin (i+1) _ _ ⟨by simp,by omega,?_⟩ (by omega)⟩
     rw [htk]
     refine shA_i r1' ?_ r3' ?_
     · rw [hl1,show (ys.length+1) % 64=ys.length % 64+1 by omega,show (ys.length+1) / 64=ys.length / 64 by omega]
       exact r2'
     · rw [hl1,show (ys.length+1) / 64=ys.length / 64 by omega,hs_front ys [c] _ (by omega)]
       exact h
 · have:i=zs.length:=by omega
   subst this
   rw [List.take_length] at h
   exact hk w h
end
end Go.Proofs.YtonmgkkkiejicaaGreat
namespace Go.Proofs.YtonmgkkkiejicaaGreat
open Go Go.Proofs
set_option linter.unusedVariables false
set_option linter.unusedSimpArgs false
attribute [local irreducible] apK cpK mkK hs
theorem zc_hash_size:(zc Tryz.prog 173).size=70:=by kernel_rfl
theorem new_cells:spl (zc Tryz.prog 173).toList 0 (⟨[.int .u32 1732584193,.int .u32 4023233417,.int .u32 2562383102,.int .u32 271733878,.int .u32 3285377520]⟩:Array Value)=cellsH init5 (List.replicate 64 0) 0:=by kernel_rfl
def beJ (n j:Nat) (v:Int):List Int:=(List.range j).map fun i=>v / 2 ^ (8 * (n - 1 - i)) % 256
theorem qlc (n j:Nat) (v:Int):(beJ n j v).length=j:=by simp [beJ]
theorem qil (n j:Nat) (v:Int):beJ n (j+1) v=beJ n j v ++ [v / 2 ^ (8 * (n - 1 - j)) % 256]:=by simp [beJ,List.range_succ]
theorem qbl (n j:Nat) (v:Int):qzc (beJ n j v):=by
 intro x hx
 obtain ⟨i,_,rfl⟩:=List.mem_map.1 hx
 omega
section
variable {F0:List Nat} {w0 w:World} {ps:List As}
theorem St.blkrd {b n:Nat} {l:List Value} (h:St F0 w0 w (qt b l :: ps)) (hn:l.length=n):St F0 w0 w (rdA 1 ⟨some ⟨b,0,none⟩,n,n⟩ l :: ps):=by
 refine h.mp ?_
 rintro F ⟨hb,rfl⟩
 exact ⟨by simp [hn],Or.inr ⟨b,0,l,rfl,hb.rb,rfl,fun i hi=>by rw [Nat.zero_add]⟩⟩
theorem qwe.c {hb:Nat} {xs:List Int} {K:Ending→World→Prop} (h:St F0 w0 w (shA hb xs :: ps)) (hk:∀ tb w',St F0 w0 w' (shA tb xs :: shA hb xs :: ps)→K (.returned (.pointer (some ⟨tb,0,none⟩))) w'):Calls Tryz.prog 92 ⟨[.pointer (some ⟨hb,0,none⟩)]⟩ w K:=by
 refine qsb (qwe.ok _ _ _ ?_)
 unfold qwe
 obtain ⟨rest,r1,r2,r3,h⟩:=shA_o h
 have hlen:=qxh (s:=hs xs (xs.length / 64)) (n:=(xs.length:Int)) r1
 refine qgd (h.blk.ldA (cs:=⟨cellsH (hs xs (xs.length / 64)) rest (xs.length:Int)⟩) hlen (fun j hj=>by rw [qeg,Nat.zero_add]) ?_)
 refine h.new fun nb w h=>?_
 refine ⟨hlen,?_⟩
 have hz:(zc Tryz.prog 173).toList.length=70:=by rw [Array.length_toList]; exact zc_hash_size
 refine h.stA (o:=0) (by rw [hz,Nat.zero_add]; show (cellsH _ _ _).length≤70; omega) ?_ fun w h=>?_
 · intro v hv
   have hv:v ∈ cellsH (hs xs (xs.length / 64)) rest (xs.length:Int):=by simpa using hv
   unfold cellsH at hv
   rcases List.mem_append.1 hv with hv | hv
   · obtain ⟨n,_,rfl⟩:=List.mem_map.1 hv; trivial
   rcases List.mem_append.1 hv with hv | hv
   · obtain ⟨n,_,rfl⟩:=List.mem_map.1 hv; trivial
   · rw [List.mem_singleton.1 hv]; trivial
 · have e:(zc Tryz.prog 173).toList.take 0 ++ (⟨cellsH (hs xs (xs.length / 64)) rest (xs.length:Int)⟩:Array Value).toList ++ (zc Tryz.prog 173).toList.drop (0+(⟨cellsH (hs xs (xs.length / 64)) rest (xs.length:Int)⟩:Array Value).size)=cellsH (hs xs (xs.length / 64)) rest (xs.length:Int):=by
    rw [List.take_zero,List.nil_append,List.drop_eq_nil_of_le (by rw [hz]; show 70≤0+(cellsH _ _ _).length; omega),List.append_nil]
   rw [e] at h
   exact hk nb w ((shA_i r1 r2 r3 h).tail fun _ _ _ h=>shA_i r1 r2 r3 h)
theorem new_as {nb:Nat} {l m:List Value} (e:l=m) (h:St F0 w0 w (qt nb (⟨l⟩:Array Value).toList :: ps)):St F0 w0 w (qt nb m :: ps):=by
 subst e; exact h
theorem qhk.c {K:Ending→World→Prop} (h:St F0 w0 w ps) (hk:∀ hb w',St F0 w0 w' (shA hb [] :: ps)→K (.returned (.pointer (some ⟨hb,0,none⟩))) w'):Calls Tryz.prog 55 ⟨[]⟩ w K:=by
 refine qsb (qhk.ok _ _ ?_)
 unfold qhk
 refine ⟨rfl,?_⟩
 refine h.new fun nb w h=>?_
 have h:=new_as new_cells h
 refine hk nb w (shA_i (xs:=[]) (rest:=List.replicate 64 0) (by decide) rfl ?_ ?_)
 · intro x hx
   rw [List.eq_of_mem_replicate hx]; decide
 · have e:hs [] (([]:List Int).length / 64)=init5:=by show hs [] 0=init5; rw [hs]
   rw [e]
   exact h
theorem qtc.c {s:Sl} {xs:List Int} {v:Int} {n:Nat} {K:Ending→World→Prop} (h:St F0 w0 w ps) (hr:Rd w 1 s (u8s xs)) (hL:xs.length≤1099511627776) (hn:n≤8)
 (hk:∀ s' w',s'.len=xs.length+n→s'.cap=s'.len→St F0 w0 w' (rdA 1 s' (u8s (xs ++ beJ n n v)) :: ps)→K (.returned (.slice s'.a s'.len s'.cap)) w'):Calls Tryz.prog 53 ⟨[.slice s.a s.len s.cap,.int .i64 v,.int .i64 ((8 * n:Nat):Int)]⟩ w K:=by
 refine qsb (qtc.ok _ _ _ _ _ ?_)
 unfold qtc
 refine qhc.c h hr (by omega) fun s1 w h=>⟨s1,rfl,?_⟩
 unfold qtc.j1
 refine loop2 (fun (j:Nat) (b':Int) (o':Sl) w=>b'=((8 * (n - j):Nat):Int)∧j≤n∧St F0 w0 w (qv 1 o' (u8s (xs ++ beJ n j v)) :: ps)) (fun j=>n - j) 0 ⟨rfl,by omega,by simpa [beJ] using h⟩ ?_
 clear h
 rintro j b' o w I μ ⟨rfl,hj,h⟩ hin
 unfold qtc.b1
 refine qsc (fun h1=>?_) (fun h1=>?_)
 · refine qx (qh (by omega) (by omega)) ?_
   have e:((8 * (n - j):Nat):Int) - 8=((8 * (n - 1 - j):Nat):Int):=by omega
   rw [e]
   refine ⟨by omega,?_⟩
   refine qx (qoh .i64 _ (show 8 * (n - 1 - j)≤64 by omega)) ?_
   refine qx (qqj _) ?_
   refine h.new fun nb w h=>?_
   refine h.rdB rfl ?_
   refine h.drop.append_u8 (by rw [List.length_append,qlc]; omega) rfl fun s2 w h=>?_
   refine ⟨rfl,hin (j+1) _ _ _ ⟨?_,by omega,?_⟩ (by omega)⟩
   · rw [show n - 1 - j=n - (j+1) by omega]
   · rw [qil,← List.append_assoc]
     exact h
 · have:j=n:=by omega
   subst this
   have hcap:=h.cap (by decide)
   have hlen:=h.len
   rw [qeb,List.length_append,qlc] at hlen
   unfold qtc.j2
   refine qzb.c h.ro hcap fun s3 hs1 hs2 h=>⟨s3,rfl,hk s3 w (by omega) (by omega) h⟩
end
end Go.Proofs.YtonmgkkkiejicaaGreat
namespace Go.Proofs.YtonmgkkkiejicaaGreat
open Go Go.Proofs
set_option linter.unusedVariables false
set_option linter.unusedSimpArgs false
attribute [local irreducible] apK cpK mkK hs
def okW (s:W5):Prop:=∀ x ∈ s.l,0≤x∧x < 4294967296
theorem okW_hs (xs:List Int):∀ n,okW (hs xs n)
 | 0=>by
   rw [hs]
   intro x hx
   simp [W5.l,init5] at hx
   rcases hx with rfl | rfl | rfl | rfl | rfl <;> decide
 | n+1=>by
   rw [hs]
   unfold blkF
   generalize rounds _ 80 _=y
   generalize hs xs n=z
   intro x hx
   simp only [W5.l,addW,qui,List.mem_cons,List.not_mem_nil,or_false] at hx
   rcases hx with rfl | rfl | rfl | rfl | rfl <;> omega
theorem qom:(zc Tryz.prog 39).size=20:=by kernel_rfl
theorem beJ4 (x:Int):beJ 4 4 x=word4 x:=by
 simp [beJ,word4,List.range_succ]
theorem be8_eq (v:Int):beJ 8 8 v=be8 v:=rfl
section
variable {F0:List Nat} {w0 w:World} {ps:List As}
theorem qhd.c {s:Sl} {xs:List Int} {v:Int} {K:Ending→World→Prop} (h:St F0 w0 w ps) (hr:Rd w 1 s (u8s xs)) (hL:xs.length≤1099511627776)
 (hk:∀ s' w',s'.len=xs.length+4→s'.cap=s'.len→St F0 w0 w' (rdA 1 s' (u8s (xs ++ word4 v)) :: ps)→K (.returned (.slice s'.a s'.len s'.cap)) w'):Calls Tryz.prog 23 ⟨[.slice s.a s.len s.cap,.int .i64 v]⟩ w K:=by
 refine qsb (qhd.ok _ _ _ _ ?_)
 unfold qhd
 refine qtc.c (n:=4) h hr hL (by decide) fun s' w h1 h2 h=>⟨s',rfl,?_⟩
 rw [beJ4] at h
 exact hk s' w h1 h2 h
theorem qqe.c {s:Sl} {xs:List Int} {v:Int} {K:Ending→World→Prop} (h:St F0 w0 w ps) (hr:Rd w 1 s (u8s xs)) (hL:xs.length≤1099511627776)
 (hk:∀ s' w',s'.len=xs.length+8→s'.cap=s'.len→St F0 w0 w' (rdA 1 s' (u8s (xs ++ be8 v)) :: ps)→K (.returned (.slice s'.a s'.len s'.cap)) w'):Calls Tryz.prog 25 ⟨[.slice s.a s.len s.cap,.int .i64 v]⟩ w K:=by
 refine qsb (qqe.ok _ _ _ _ ?_)
 unfold qqe
 refine qtc.c (n:=8) h hr hL (by decide) fun s' w h1 h2 h=>⟨s',rfl,?_⟩
 rw [be8_eq] at h
 exact hk s' w h1 h2 h
theorem qnf (xs:List Int):(qie xs).length=20:=rfl
theorem qz.out {tb nb:Nat} {zs:List Int} {c:List Value} (hc:c.length=20) {Q:VWP} (h:St F0 w0 w (shA tb zs :: qt nb c :: ps))
 (hk:∀ w',St F0 w0 w' ps→Q (.agg ⟨u8s ((hs zs (zs.length / 64)).l.flatMap word4)⟩) w'):qz.j4 ⟨nb,0,none⟩ (some ⟨tb,0,none⟩) ⟨none,0,0⟩ Q w:=by
 unfold qz.j4
 obtain ⟨rest,r1,r2,r3,h⟩:=shA_o h
 have hok:=okW_hs zs (zs.length / 64)
 generalize hs zs (zs.length / 64)=s at h hk hok
 refine qgd (h.blk.ldA (cs:=⟨qae s.l⟩) rfl (fun j hj=>?_) ?_)
 · rw [qeg]
   unfold cellsH
   rw [List.getElem?_append_left (by rw [qfc,W5.l_length]; omega)]
   congr 1
   omega
 unfold qz.j6
 refine loop2 (fun (i:Nat) (o':Sl) (i':Int) w=>i'=i∧i≤5∧o'.len=4 * i∧St F0 w0 w (rdA 1 o' (u8s ((s.l.take i).flatMap word4)) :: qt nb c :: ps)) (fun i=>5 - i) 0 ⟨rfl,by omega,rfl,(h.drop.nil 1).ro⟩ ?_
 clear h
 rintro i o i' w I μ ⟨rfl,hi,ho,h⟩ hin
 unfold qz.b1
 refine qsc (fun h1=>?_) (fun h1=>?_)
 · refine ⟨by omega,?_⟩
   have ei:((i:Int)).toNat * 1=i:=by omega
   have hil:i < s.l.length:=by rw [W5.l_length]; omega
   rw [ei]
   refine ⟨s.l[i],?_,?_⟩
   · rw [qeg]; simp [qae,hil]
   have hb:=hok s.l[i] (List.getElem_mem hil)
   refine qx (qh (by omega) (by omega)) ?_
   have hlen:=h.rd.1
   rw [qeb] at hlen
   refine qhd.c h h.rd (by omega) fun o2 w l1 l2 h=>⟨o2,rfl,?_⟩
   refine qx (qh (by omega) (by omega)) ?_
   refine ⟨⟨rfl,rfl⟩,hin (i+1) _ _ _ ⟨by simp,by omega,by omega,?_⟩ (by omega)⟩
   rw [List.take_succ_eq_append_getElem hil,List.flatMap_append,List.flatMap_singleton]
   exact h.tail fun _ _ _ h=>h.drop
 · have:i=5:=by omega
   subst this
   have hfl:s.l.take 5=s.l:=rfl
   rw [hfl] at h
   unfold qz.j5
   refine ⟨by omega,?_⟩
   have hr:=h.rd
   obtain ⟨a,ha,_⟩:=hr.2 0 (by show 0 < 20; decide)
   rw [ha]
   refine qgd ⟨⟨u8s (s.l.flatMap word4)⟩,rfl,fun j hj=>?_,?_⟩
   · rw [hr.cell ha (by show j < 20; exact hj),qeg]
   refine ⟨rfl,?_⟩
   refine h.at1.stA (o:=0) (by rw [hc]; exact Nat.le_refl 20) ?_ fun w h=>?_
   · intro v hv
     have hv:v ∈ u8s (s.l.flatMap word4):=by simpa using hv
     obtain ⟨n,_,rfl⟩:=List.mem_map.1 hv
     trivial
   · have e:c.take 0 ++ (⟨u8s (s.l.flatMap word4)⟩:Array Value).toList ++ c.drop (0+(⟨u8s (s.l.flatMap word4)⟩:Array Value).size)=u8s (s.l.flatMap word4):=by
      rw [List.take_zero,List.nil_append,List.drop_eq_nil_of_le (by rw [hc]; exact Nat.le_refl 20),List.append_nil]
     rw [e] at h
     refine h.blk.ldA (cs:=⟨u8s (s.l.flatMap word4)⟩) rfl (fun j hj=>by rw [qeg,Nat.zero_add]) ?_
     exact hk w h.drop.drop
theorem St.tail1 {p q r:As} (h:St F0 w0 w (p :: q :: r :: ps)):St F0 w0 w (p :: r :: ps):=h.tail fun _ _ _ h=>h.drop
theorem qz.c {hb:Nat} {xs:List Int} {K:Ending→World→Prop} (h:St F0 w0 w (shA hb xs :: ps)) (hL:xs.length≤34359738368)
 (hk:∀ w',St F0 w0 w' (shA hb xs :: ps)→K (.returned (.agg ⟨u8s (qie xs)⟩)) w'):Calls Tryz.prog 57 ⟨[.pointer (some ⟨hb,0,none⟩)]⟩ w K:=by
 refine qsb (qz.ok _ _ _ ?_)
 unfold qz
 refine h.new fun nb w h=>?_
 have hz:(zc Tryz.prog 39).toList.length=20:=by rw [Array.length_toList]; exact qom
 generalize (zc Tryz.prog 39).toList=c at h hz
 unfold qz.j1
 refine qwe.c h.at1 fun tb w h=>⟨_,rfl,?_⟩
 refine h.new fun n1 w h=>?_
 have h:=(h.blkrd (n:=1) rfl).at1
 refine qqb.c (s:=⟨some ⟨n1,0,none⟩,1,1⟩) (zs:=[128]) h (fun w' p h=>h.drop.rd) (by intro x hx; rw [List.mem_singleton.1 hx]; decide) (by simp; omega) fun w h=>⟨rfl,?_⟩
 have h:=h.tail1
 unfold qz.j2
 refine loop0 (fun (j:Nat) w=>j≤(119 - xs.length % 64) % 64∧St F0 w0 w (shA tb (xs ++ [128] ++ List.replicate j 0) :: shA hb xs :: qt nb c :: ps)) (fun j=>64 - j) 0 ⟨by omega,by simpa using h⟩ ?_
 clear h
 rintro j w I μ ⟨hj,h⟩ hin
 unfold qz.b2
 obtain ⟨rest,r1,r2,r3,h⟩:=shA_o h
 have hyl:(xs ++ [128] ++ List.replicate j 0).length=xs.length+1+j:=by simp; omega
 refine qgd (h.blk.ldI (o:=69) (qbk r1) ?_)
 have h:=shA_i r1 r2 r3 h
 refine ⟨by decide,?_⟩
 refine qx (qml (by omega)) ?_
 refine qmd (fun h1=>?_) (fun h1=>?_)
 · have h1:¬ ((xs ++ [128] ++ List.replicate j 0).length:Int) % 64=56:=by simpa using h1
   refine h.new fun n2 w h=>?_
   have h:=(h.blkrd (n:=1) rfl).at1
   refine qqb.c (s:=⟨some ⟨n2,0,none⟩,1,1⟩) (zs:=[0]) h (fun w' p h=>h.drop.rd) (by intro x hx; rw [List.mem_singleton.1 hx]; decide) (by simp; omega) fun w h=>⟨rfl,?_⟩
   refine ⟨⟨rfl,rfl,rfl⟩,hin (j+1) _ ⟨by omega,?_⟩ (by omega)⟩
   rw [List.replicate_succ',← List.append_assoc]
   exact h.tail1
 · have h1:((xs ++ [128] ++ List.replicate j 0).length:Int) % 64=56:=by simpa using h1
   have hjz:j=(119 - xs.length % 64) % 64:=by omega
   unfold qz.j3
   obtain ⟨rest,r1,r2,r3,h2⟩:=shA_o h.at1
   refine qgd (h2.blk.ldI (o:=69) (qbk r1) ?_)
   refine qx (qh (by omega) (by omega)) ?_
   refine qqe.c (s:=⟨none,0,0⟩) (xs:=[]) h ⟨rfl,fun i hi=>by simp [u8s] at hi⟩ (by simp) fun s w l1 l2 h=>⟨s,rfl,?_⟩
   refine qqb.c (zs:=be8 (8 * xs.length)) h.at1 (fun w' p h=>h.drop.rd) (qbl 8 8 _) (by rw [hyl]; show _+8≤_; omega) fun w h=>⟨rfl,?_⟩
   have e:xs ++ [128] ++ List.replicate j 0 ++ be8 (8 * xs.length)=padded xs:=by rw [padded,zeros,hjz]
   rw [e] at h
   refine qz.out hz (h.tail1.tail fun _ _ _ h=>h.at1) fun w h=>hk w h
end
end Go.Proofs.YtonmgkkkiejicaaGreat
namespace Go.Proofs.YtonmgkkkiejicaaGreat
open Go Go.Proofs
set_option linter.unusedVariables false
set_option linter.unusedSimpArgs false
attribute [local irreducible] apK cpK mkK hs qie
section
variable {F0:List Nat} {w0 w:World} {ps:List As}
theorem qsf (xs:List Int):(u8s (qie xs)).length=20:=by rw [qeb]; exact qnf xs
theorem qzf {l:List Int}:∀ v ∈ (⟨u8s l⟩:Array Value),qec v:=by
 intro v hv
 have hv:v ∈ u8s l:=by simpa using hv
 obtain ⟨n,_,rfl⟩:=List.mem_map.1 hv
 trivial
theorem St.st20 {nb:Nat} {c l:List Value} {K:World→Prop} (h:St F0 w0 w (qt nb c :: ps)) (hc:c.length=20) (hl:l.length=20) (hs:∀ v ∈ (⟨l⟩:Array Value),qec v)
 (hk:∀ w',St F0 w0 w' (qt nb l :: ps)→K w'):Go.Proofs.YtonmgkkkiejicaaGreat.stA w ⟨nb,0,none⟩ ⟨l⟩ K:=by
 refine h.stA (o:=0) (by show 0+l.length≤c.length; omega) hs fun w' h=>hk w' ?_
 have e:c.take 0 ++ (⟨l⟩:Array Value).toList ++ c.drop (0+(⟨l⟩:Array Value).size)=l:=by
  rw [List.take_zero,List.nil_append,List.drop_eq_nil_of_le (by show c.length≤0+l.length; omega),List.append_nil]
 rwa [e] at h
theorem St.ld20 {nb n:Nat} {l:List Value} {K:Array Value→Prop} (h:St F0 w0 w (qt nb l :: ps)) (hl:l.length=n) (hk:K ⟨l⟩):ldA w ⟨nb,0,none⟩ n K :=
 h.blk.ldA (cs:=⟨l⟩) hl (fun j hj=>by rw [qeg,Nat.zero_add]) hk
theorem qph.c {s:Sl} {xs:List Int} {K:Ending→World→Prop} (h:St F0 w0 w ps) (hr:∀ w' p q,St F0 w0 w' (p :: q :: ps)→Rd w' 1 s (u8s xs)) (hx:qzc xs) (hL:xs.length≤34359738368)
 (hk:∀ w',St F0 w0 w' ps→K (.returned (.agg ⟨u8s (qie xs)⟩)) w'):Calls Tryz.prog 27 ⟨[.slice s.a s.len s.cap]⟩ w K:=by
 refine qsb (qph.ok _ _ _ ?_)
 unfold qph
 refine h.new fun nb w h=>?_
 have hz:(zc Tryz.prog 39).toList.length=20:=by rw [Array.length_toList]; exact qom
 generalize (zc Tryz.prog 39).toList=c at h hz
 refine qhk.c h fun hb w h=>⟨_,rfl,?_⟩
 refine qqb.c h (fun w' p h=>hr w' p _ h) hx (by simp; omega) fun w h=>⟨rfl,?_⟩
 rw [List.nil_append] at h
 refine qz.c h hL fun w h=>⟨_,rfl,?_⟩
 refine ⟨qsf xs,?_⟩
 refine h.drop.st20 hz (qsf xs) qzf fun w h=>?_
 refine h.ld20 (qsf xs) ?_
 exact hk w h.drop
end
end Go.Proofs.YtonmgkkkiejicaaGreat
namespace Go.Proofs.YtonmgkkkiejicaaGreat
open Go Go.Proofs
set_option linter.unusedVariables false
set_option linter.unusedSimpArgs false
attribute [local irreducible] apK cpK mkK hs qie rounds qaf
theorem or32 {a b t m:Nat} (hm:m=2 ^ t) (ha:a < m) (hs:a+b * m < 4294967296):orV .u32 ((b * m:Nat):Int) (a:Int)=((a+b * m:Nat):Int):=by
 subst hm
 have h:=orV_uadd (k:=.u32) (a:=a) (b:=b) (t:=t) rfl ha hs
 rw [orV_comm]
 have e:((b * 2 ^ t:Nat):Int)=(b:Int) * 2 ^ t:=by simp
 rw [e,h,Int.natCast_add,e]
theorem shl32 {a t m:Nat} (hm:m=2 ^ t) (ht:t≤32) (hs:a * m < 4294967296):shlV .u32 (a:Int) (t:Int)=((a * m:Nat):Int):=by
 subst hm
 rw [shlV_u (k:=.u32) rfl ht hs]
 simp
theorem word_of {a b c d:Int} (ha:0≤a∧a < 256) (hb:0≤b∧b < 256) (hc:0≤c∧c < 256) (hd:0≤d∧d < 256) :
 orV .u32 (orV .u32 (orV .u32 (shlV .u32 a 24) (shlV .u32 b 16)) (shlV .u32 c 8)) d=be [a,b,c,d]:=by
 obtain ⟨a,rfl⟩:∃ n:Nat,a=n:=⟨a.toNat,by omega⟩
 obtain ⟨b,rfl⟩:∃ n:Nat,b=n:=⟨b.toNat,by omega⟩
 obtain ⟨c,rfl⟩:∃ n:Nat,c=n:=⟨c.toNat,by omega⟩
 obtain ⟨d,rfl⟩:∃ n:Nat,d=n:=⟨d.toNat,by omega⟩
 have h1:shlV .u32 (a:Int) 24=((a * 16777216:Nat):Int):=shl32 (t:=24) (by decide) (by decide) (by omega)
 have h2:shlV .u32 (b:Int) 16=((b * 65536:Nat):Int):=shl32 (t:=16) (by decide) (by decide) (by omega)
 have h3:shlV .u32 (c:Int) 8=((c * 256:Nat):Int):=shl32 (t:=8) (by decide) (by decide) (by omega)
 have u1:=or32 (a:=b * 65536) (b:=a) (t:=24) (m:=16777216) (by decide) (by omega) (by omega)
 have u2:=or32 (a:=c * 256) (b:=b+a * 256) (t:=16) (m:=65536) (by decide) (by omega) (by omega)
 have u3:=or32 (a:=d) (b:=c+(b+a * 256) * 256) (t:=8) (m:=256) (by decide) (by omega) (by omega)
 rw [show (b+a * 256) * 65536=b * 65536+a * 16777216 by omega] at u2
 rw [show (c+(b+a * 256) * 256) * 256=c * 256+(b * 65536+a * 16777216) by omega] at u3
 rw [h1,h2,h3,u1,u2,u3]
 simp only [be,List.foldl_cons,List.foldl_nil]
 omega
section
variable {F0:List Nat} {w0 w:World} {ps:List As}
theorem qhe.c {s:Sl} {xs:List Int} {K:Ending→World→Prop} (hr:Rd w 1 s (u8s xs)) (hx:qzc xs) (hl:4≤xs.length) (hk:∀ w',Mod [] w w'→K (.returned (.int .u32 (be (xs.take 4)))) w'):Calls Tryz.prog 98 ⟨[.slice s.a s.len s.cap]⟩ w K:=by
 have hs:=hr.1
 rw [qeb] at hs
 refine qsb (qhe.ok _ _ _ ?_)
 unfold qhe
 refine qjc ?_
 have hr:=hr.keep (Mod.drew w) (by simp)
 match xs,hl,hx,hr,hk with
 | a :: b :: c :: d :: r,_,hx,hr,hk =>
   have ha:=hx a (by simp)
   have hb:=hx b (by simp)
   have hc:=hx c (by simp)
   have hd:=hx d (by simp)
   refine hr.ix (by decide) (by decide) (by omega) fun p hp=>?_
   refine hr.ldI (i:=0) (n:=a) hp rfl ?_
   refine qx (show IntKind.u32.wrap a=a by rw [qui]; omega) ?_
   refine ⟨by decide,qjc ?_⟩
   refine hr.ix (by decide) (by decide) (by omega) fun p hp=>?_
   refine hr.ldI (i:=1) (n:=b) hp rfl ?_
   refine qx (show IntKind.u32.wrap b=b by rw [qui]; omega) ?_
   refine ⟨by decide,qjc (qjc ?_)⟩
   refine hr.ix (by decide) (by decide) (by omega) fun p hp=>?_
   refine hr.ldI (i:=2) (n:=c) hp rfl ?_
   refine qx (show IntKind.u32.wrap c=c by rw [qui]; omega) ?_
   refine ⟨by decide,qjc (qjc ?_)⟩
   refine hr.ix (by decide) (by decide) (by omega) fun p hp=>?_
   refine hr.ldI (i:=3) (n:=d) hp rfl ?_
   refine qx (show IntKind.u32.wrap d=d by rw [qui]; omega) ?_
   refine qx (word_of ha hb hc hd) ?_
   exact hk _ (Mod.drew w)
end
end Go.Proofs.YtonmgkkkiejicaaGreat
namespace Go.Proofs.YtonmgkkkiejicaaGreat
open Go Go.Proofs
set_option linter.unusedVariables false
set_option linter.unusedSimpArgs false
attribute [local irreducible] apK cpK mkK hs qie rounds qaf
theorem zc_u32:zc Tryz.prog 40=#[.int .u32 0]:=by kernel_rfl
theorem zc_w5:zc Tryz.prog 149=⟨qae [0,0,0,0,0]⟩:=by kernel_rfl
theorem info_u32:Tryz.prog.info? 40=some Tryz.t40:=by kernel_rfl
theorem bytes_u32:Tryz.prog.bytesOf 40≤16:=by
 rw [Program.bytesOf,info_u32]
 decide
section
variable {F0:List Nat} {w0 w:World} {ps:List As}
theorem St.ldo32 {s:Sl} {l:List Int} {i:Int} {j:Nat} {K:Int→Prop} (h:St F0 w0 w (qv 1 s (qae l) :: ps)) (hi:i=j) (hj:j < l.length) (hk:K (l.getD j 0)):ixS s.a s.len i 1 fun a=>ldI .u32 w a K:=by
 subst hi
 have hr:=h.ord
 have hl:=hr.1
 rw [qfc] at hl
 refine hr.ix (by decide) (by omega) (by omega) fun a ha=>?_
 rw [show ((j:Int)).toNat * 1=j by omega]
 exact hr.ldI ha (qvi hj) hk
theorem St.sto32 {s:Sl} {l:List Int} {i v:Int} {j:Nat} {K:World→Prop} (h:St F0 w0 w (qv 1 s (qae l) :: ps)) (hi:i=j) (hj:j < l.length) (hk:∀ w',St F0 w0 w' (qv 1 s (qae (l.set j v)) :: ps)→K w'):ixS s.a s.len i 1 fun a=>Go.Proofs.YtonmgkkkiejicaaGreat.st w a (.int .u32 v) K:=by
 subst hi
 have hr:=h.ord
 have hl:=hr.1
 rw [qfc] at hl
 refine hr.ix (by decide) (by omega) (by omega) fun a ha=>?_
 rw [show ((j:Int)).toNat * 1=j by omega]
 refine h.setO ha (by rw [qfc]; exact hj) trivial fun w h=>hk w ?_
 rw [u32s_set] at h
 exact h
theorem St.ldx {nb n:Nat} {l:List Int} {i:Int} {j:Nat} {K:Int→Prop} (h:St F0 w0 w (qt nb (qae l) :: ps)) (hi:i=j) (hn:l.length=n) (hj:j < n) (hk:K (l.getD j 0)):ixA ⟨nb,0,none⟩ n i 1 fun a=>ldI .u32 w a K:=by
 subst hi
 refine qwh (by omega) (by omega) ?_
 exact h.ldu32' (i:=j) (by omega) (by omega) hk
theorem St.stx {nb n:Nat} {l:List Int} {i v:Int} {j:Nat} {K:World→Prop} (h:St F0 w0 w (qt nb (qae l) :: ps)) (hi:i=j) (hn:l.length=n) (hj:j < n) (hk:∀ w',St F0 w0 w' (qt nb (qae (l.set j v)) :: ps)→K w'):ixA ⟨nb,0,none⟩ n i 1 fun a=>Go.Proofs.YtonmgkkkiejicaaGreat.st w a (.int .u32 v) K:=by
 subst hi
 refine qwh (by omega) (by omega) ?_
 exact h.stu32 (i:=j) (by omega) (by omega) hk
theorem St.st5 {nb:Nat} {c l:List Value} {n:Nat} {K:World→Prop} (h:St F0 w0 w (qt nb c :: ps)) (hc:c.length=n) (hl:l.length=n) (hs:∀ v ∈ (⟨l⟩:Array Value),qec v)
 (hk:∀ w',St F0 w0 w' (qt nb l :: ps)→K w'):Go.Proofs.YtonmgkkkiejicaaGreat.stA w ⟨nb,0,none⟩ ⟨l⟩ K:=by
 refine h.stA (o:=0) (by show 0+l.length≤c.length; omega) hs fun w' h=>hk w' ?_
 have e:c.take 0 ++ (⟨l⟩:Array Value).toList ++ c.drop (0+(⟨l⟩:Array Value).size)=l:=by
  rw [List.take_zero,List.nil_append,List.drop_eq_nil_of_le (by show c.length≤0+l.length; omega),List.append_nil]
 rwa [e] at h
theorem qhg {l:List Int}:∀ v ∈ (⟨qae l⟩:Array Value),qec v:=by
 intro v hv
 have hv:v ∈ qae l:=by simpa using hv
 obtain ⟨n,_,rfl⟩:=List.mem_map.1 hv
 trivial
theorem qe.add {n2 n4 n8:Nat} {s x:W5} {c:List Value} (hc:c.length=5) {Q:VWP} (h:St F0 w0 w (qt n2 (qae s.l) :: qt n8 (qae x.l) :: qt n4 c :: ps))
 (hk:∀ w',St F0 w0 w' ps→Q (.agg ⟨qae (addW s x).l⟩) w'):qe.j5 ⟨n2,0,none⟩ ⟨n4,0,none⟩ ⟨n8,0,none⟩ Q w:=by
 unfold qe.j5 qe.j7
 refine qud (fun (i:Nat) (i':Int) w=>i'=i∧i≤5∧St F0 w0 w (qt n2 (qae (someW s x i)) :: qt n8 (qae x.l) :: qt n4 c :: ps)) (fun i=>5 - i) 0 ⟨rfl,by omega,h⟩ ?_
 clear h
 rintro i i' w I μ ⟨rfl,hi,h⟩ hin
 unfold qe.b1
 refine qsc (fun h1=>?_) (fun h1=>?_)
 · have hi5:i < 5:=by omega
   refine h.drewK fun w h=>?_
   refine h.ldx (j:=i) rfl rfl hi5 ?_
   refine h.at1.ldx (j:=i) rfl rfl hi5 ?_
   refine qjc ?_
   refine h.stx (j:=i) rfl rfl hi5 fun w h=>?_
   refine qx (qh (by omega) (by omega)) ?_
   refine ⟨⟨rfl,rfl,rfl⟩,hin (i+1) _ _ ⟨by simp,by omega,?_⟩ (by omega)⟩
   have hc:i=0 ∨ i=1 ∨ i=2 ∨ i=3 ∨ i=4:=by omega
   rcases hc with rfl | rfl | rfl | rfl | rfl <;> exact h
 · have:i=5:=by omega
   subst this
   unfold qe.j6
   have h:St F0 w0 w (qt n2 (qae (addW s x).l) :: qt n8 (qae x.l) :: qt n4 c :: ps):=h
   refine h.ld20 rfl ?_
   refine ⟨rfl,?_⟩
   refine h.at2.st5 hc rfl qhg fun w h=>?_
   refine h.ld20 rfl ?_
   exact hk w h.drop.drop.drop
end
end Go.Proofs.YtonmgkkkiejicaaGreat
namespace Go.Proofs.YtonmgkkkiejicaaGreat
open Go Go.Proofs
set_option linter.unusedVariables false
set_option linter.unusedSimpArgs false
attribute [local irreducible] apK cpK mkK hs qie rounds qaf
section
variable {F0:List Nat} {w0 w:World} {ps:List As}
theorem qe.last {n8:Nat} {x:W5} {t:Nat} {v:Int} {t2 t4:Addr} {t5:Sl} {Q:VWP} {nx:Addr→Addr→Sl→Addr→Int→World→Prop} (ht:t < 80) (h:St F0 w0 w (qt n8 (qae x.l) :: ps))
 (hk:∀ w',St F0 w0 w' (qt n8 (qae [v,x.a,lf x.b 30,x.c,x.d]) :: ps)→nx t2 t4 t5 ⟨n8,0,none⟩ ((t:Int)+1) w'):qe.j13 t2 t4 t5 ⟨n8,0,none⟩ t v Q nx w:=by
 unfold qe.j13
 refine h.ldx (j:=3) rfl rfl (by decide) ?_
 refine h.stx (j:=4) rfl rfl (by decide) fun w h=>?_
 refine h.ldx (j:=2) rfl rfl (by decide) ?_
 refine h.stx (j:=3) rfl rfl (by decide) fun w h=>?_
 refine h.ldx (j:=1) rfl rfl (by decide) ?_
 refine qkc.c (by decide) ⟨_,rfl,?_⟩
 refine h.stx (j:=2) rfl rfl (by decide) fun w h=>?_
 refine h.ldx (j:=0) rfl rfl (by decide) ?_
 refine h.stx (j:=1) rfl rfl (by decide) fun w h=>?_
 refine h.stx (j:=0) rfl rfl (by decide) fun w h=>?_
 unfold qe.j10
 refine qx (qh (by omega) (by omega)) ?_
 exact hk w h
theorem qe.mid {n8:Nat} {x:W5} {l:List Int} {t:Nat} {f k:Int} {t2 t4:Addr} {t5:Sl} {Q:VWP} {nx:Addr→Addr→Sl→Addr→Int→World→Prop} (ht:t < 80) (hl:l.length=80) (hf:(mixF t x.b x.c x.d)=(f,k))
 (h:St F0 w0 w (qt n8 (qae x.l) :: qv 1 t5 (qae l) :: ps))
 (hk:∀ w',St F0 w0 w' (qt n8 (qae (stepF t (l.getD t 0) x).l) :: qv 1 t5 (qae l) :: ps)→nx t2 t4 t5 ⟨n8,0,none⟩ ((t:Int)+1) w'):qe.j12 t2 t4 t5 ⟨n8,0,none⟩ t f k Q nx w:=by
 have e:(stepF t (l.getD t 0) x).l=[IntKind.u32.wrap (IntKind.u32.wrap (IntKind.u32.wrap (IntKind.u32.wrap (lf x.a 5+f)+x.e)+k)+l.getD t 0),x.a,lf x.b 30,x.c,x.d]:=by
  unfold stepF
  rw [hf]
  rfl
 rw [e] at hk
 unfold qe.j12
 refine h.drewK fun w h=>?_
 have hr:=h.at1.ord
 have hlen:=hr.1
 rw [qfc] at hlen
 refine h.ldx (j:=0) rfl rfl (by decide) ?_
 refine qwh (by decide) (by decide) ?_
 refine hr.ix (by decide) (by omega) (by omega) fun a ha=>?_
 rw [show ((t:Int)).toNat * 1=t by omega]
 have l4:∀ {K:Int→Prop},K x.e→ldI .u32 w ⟨n8,0+(4:Int).toNat * 1,none⟩ K:=fun hK=>h.ldu32' (i:=4) rfl (by show 4 < 5; decide) hK
 have lw:∀ {K:Int→Prop},K (l.getD t 0)→ldI .u32 w (a.add t) K:=fun hK=>hr.ldI ha (qvi (by omega)) hK
 refine ⟨?_,?_,?_⟩
 · refine qkc.c (by decide) ⟨_,rfl,qjc ⟨?_,?_⟩⟩
   · exact l4 (qjc (qjc (lw (qjc (qe.last ht h hk)))))
   · exact lw (l4 (qjc (qjc (qjc (qe.last ht h hk)))))
 · refine l4 ⟨?_,?_⟩
   · exact qkc.c (by decide) ⟨_,rfl,qjc (qjc (qjc (lw (qjc (qe.last ht h hk)))))⟩
   · exact lw (qkc.c (by decide) ⟨_,rfl,qjc (qjc (qjc (qjc (qe.last ht h hk))))⟩)
 · refine lw ⟨?_,?_⟩
   · exact qkc.c (by decide) ⟨_,rfl,qjc (l4 (qjc (qjc (qjc (qe.last ht h hk)))))⟩
   · exact l4 (qkc.c (by decide) ⟨_,rfl,qjc (qjc (qjc (qjc (qe.last ht h hk))))⟩)
theorem qe.loop {n2 n4 n8:Nat} {s:W5} {l:List Int} {c:List Value} {t5:Sl} (hl:l.length=80) (hc:c.length=5) {Q:VWP}
 (h:St F0 w0 w (qt n8 (qae s.l) :: qv 1 t5 (qae l) :: qt n2 (qae s.l) :: qt n4 c :: ps))
 (hk:∀ w',St F0 w0 w' ps→Q (.agg ⟨qae (addW s (rounds l 80 s)).l⟩) w'):qe.j4 ⟨n2,0,none⟩ ⟨n4,0,none⟩ t5 ⟨n8,0,none⟩ Q w:=by
 unfold qe.j4 qe.j8
 refine qud (fun (t:Nat) (t':Int) w=>t'=t∧t≤80∧St F0 w0 w (qt n8 (qae (rounds l t s).l) :: qv 1 t5 (qae l) :: qt n2 (qae s.l) :: qt n4 c :: ps)) (fun t=>80 - t) 0 ⟨rfl,by omega,by rw [rounds]; exact h⟩ ?_
 clear h
 rintro t t' w I μ ⟨rfl,ht,h⟩ hin
 have hr:rounds l (t+1) s=stepF t (l.getD t 0) (rounds l t s):=by rw [rounds]
 generalize hx:rounds l t s=x at h hr
 unfold qe.b2
 refine qsc (fun h1=>?_) (fun h1=>?_)
 · have ht80:t < 80:=by omega
   have fin:∀ w',St F0 w0 w' (qt n8 (qae (stepF t (l.getD t 0) x).l) :: qv 1 t5 (qae l) :: qt n2 (qae s.l) :: qt n4 c :: ps) →
    ((⟨n2,0,none⟩:Addr)=⟨n2,0,none⟩∧(⟨n4,0,none⟩:Addr)=⟨n4,0,none⟩∧t5=t5∧(⟨n8,0,none⟩:Addr)=⟨n8,0,none⟩)∧I ((t:Int)+1) w'∧μ ((t:Int)+1) w' < μ (t:Int) w:=by
    intro w' h
    rw [← hr] at h
    exact ⟨⟨rfl,rfl,rfl,rfl⟩,hin (t+1) _ _ ⟨by simp,by omega,h⟩ (by omega)⟩
   unfold qe.j9 qe.j11
   have x1:∀ {K:Int→Prop},K x.b→ixA ⟨n8,0,none⟩ 5 1 1 fun a=>ldI .u32 w a K:=fun hK=>h.ldx (j:=1) rfl rfl (by decide) hK
   have x2:∀ {K:Int→Prop},K x.c→ixA ⟨n8,0,none⟩ 5 2 1 fun a=>ldI .u32 w a K:=fun hK=>h.ldx (j:=2) rfl rfl (by decide) hK
   have x3:∀ {K:Int→Prop},K x.d→ixA ⟨n8,0,none⟩ 5 3 1 fun a=>ldI .u32 w a K:=fun hK=>h.ldx (j:=3) rfl rfl (by decide) hK
   refine qsc (fun h2=>?_) (fun h2=>?_)
   · refine x1 (x2 (qjc (x1 (qjc (x3 (qjc (qjc ?_)))))))
     exact qe.mid ht80 hl (by unfold mixF; rw [if_pos (by omega)]; rfl) h fin
   refine qsc (fun h3=>?_) (fun h3=>?_)
   · refine x1 (x2 (qjc (x3 (qjc ?_))))
     exact qe.mid ht80 hl (by unfold mixF; rw [if_neg (by omega),if_pos (by omega)]) h fin
   refine qsc (fun h4=>?_) (fun h4=>?_)
   · refine x1 (x2 (qjc (x1 (x3 (qjc (qjc (x2 (x3 (qjc (qjc ?_))))))))))
     exact qe.mid ht80 hl (by unfold mixF; rw [if_neg (by omega),if_neg (by omega),if_pos (by omega)]) h fin
   · refine x1 (x2 (qjc (x3 (qjc ?_))))
     exact qe.mid ht80 hl (by unfold mixF; rw [if_neg (by omega),if_neg (by omega),if_neg (by omega)]) h fin
 · have:t=80:=by omega
   subst this
   refine qe.add (x:=x) hc (h.at2.tail fun _ _ _ h=>h.tail1) ?_
   rw [← hx]
   exact hk
end
end Go.Proofs.YtonmgkkkiejicaaGreat
namespace Go.Proofs.YtonmgkkkiejicaaGreat
open Go Go.Proofs
set_option linter.unusedVariables false
set_option linter.unusedSimpArgs false
attribute [local irreducible] apK cpK mkK hs qie rounds qaf
section
variable {F0:List Nat} {w0 w:World} {ps:List As}
theorem rep_u32 (n:Nat):List.replicate n (Value.int .u32 0)=qae (List.replicate n 0):=by
 unfold qae
 rw [List.map_replicate]
theorem base_take {p:List Int} {t:Nat} (ht:t < 16):(qod p).take (t+1)=(qod p).take t ++ [be ((p.drop (4 * t)).take 4)]:=by
 have hl:(qod p).length=16:=by simp [qod]
 rw [List.take_succ_eq_append_getElem (by omega)]
 congr 1
 simp [qod]
theorem set_next {l:List Int} {k:Nat} {v:Int} (hk:0 < k):(l ++ List.replicate k 0).set l.length v=(l ++ [v]) ++ List.replicate (k - 1) 0:=by
 rw [List.set_append_right _ _ (Nat.le_refl _),Nat.sub_self]
 cases k with
 | zero=>omega
 | succ k =>
   rw [List.replicate_succ,List.set_cons_zero,List.append_assoc]
   rfl
theorem qe.c {sl:Sl} {s:W5} {p:List Int} {K:Ending→World→Prop} (hp:p.length=64) (hpb:qzc p) (hcap:sl.len≤sl.cap) (h:St F0 w0 w ps) (hr:∀ w' qs,St F0 w0 w' (qs ++ ps)→Rd w' 1 sl (u8s p))
 (hk:∀ w',St F0 w0 w' ps→K (.returned (.agg ⟨qae (blkF s p).l⟩)) w'):Calls Tryz.prog 69 ⟨[.agg ⟨qae s.l⟩,.slice sl.a sl.len sl.cap]⟩ w K:=by
 unfold blkF at hk
 have hsl:=(hr w [] h).1
 rw [qeb] at hsl
 refine qsb (qe.ok _ _ _ _ ?_)
 unfold qe
 refine h.new fun n2 w h=>?_
 refine h.new fun n4 w h=>?_
 rw [zc_w5] at h
 refine h.make1 (n:=80) zc_u32 rfl rfl (by decide) bytes_u32 fun t5 w hl5 hc5 h=>?_
 rw [rep_u32] at h
 unfold qe.j1 qe.j15
 have hb16:(qod p).length=16:=by simp [qod]
 refine qud (fun (t:Nat) (t':Int) w=>t'=t∧t≤16∧St F0 w0 w (qv 1 t5 (qae ((qod p).take t ++ List.replicate (80 - t) 0)) :: qt n4 (qae [0,0,0,0,0]) :: qt n2 (qae s.l) :: ps)) (fun t=>16 - t) 0 ⟨rfl,by omega,h⟩ ?_
 clear h
 rintro t t' w I μ ⟨rfl,ht,h⟩ hin
 unfold qe.b4
 refine qsc (fun h1=>?_) (fun h1=>?_)
 · refine qx (qh (by omega) (by omega)) ?_
   refine ⟨⟨by omega,by omega⟩,qjc ?_⟩
   have hrd:=hr w [_,_,_] h
   have e4:(4 * (t:Int)).toNat=4 * t:=by omega
   rw [e4]
   have hcut:=hrd.cut (n:=4 * t) (m:=sl.len) (by decide) (Nat.le_refl _) (by omega) hcap (sl.cap - 4 * t)
   have ec:((u8s p).drop (4 * t * 1)).take ((sl.len - 4 * t) * 1)=u8s (p.drop (4 * t)):=by
    rw [Nat.mul_one,Nat.mul_one,List.take_of_length_le (by rw [List.length_drop,qeb]; omega)]
    unfold u8s
    rw [List.map_drop]
   rw [ec] at hcut
   refine qhe.c hcut (fun x hx=>hpb x (List.mem_of_mem_drop hx)) (by rw [List.length_drop]; omega) fun w1 hm=>⟨_,rfl,?_⟩
   have h:=h.skip hm
   have hlt:((qod p).take t).length=t:=by rw [List.length_take]; omega
   refine h.sto32 (j:=t) rfl (by rw [List.length_append,hlt,List.length_replicate]; omega) fun w h=>?_
   refine qx (qh (by omega) (by omega)) ?_
   refine ⟨⟨rfl,rfl,rfl,rfl⟩,hin (t+1) _ _ ⟨by simp,by omega,?_⟩ (by omega)⟩
   have es:=set_next (l:=(qod p).take t) (k:=80 - t) (v:=be ((p.drop (4 * t)).take 4)) (by omega)
   rw [hlt] at es
   rw [es,show 80 - t - 1=80 - (t+1) by omega,← base_take (by omega)] at h
   exact h
 have:t=16:=by omega
 subst this
 rw [List.take_of_length_le (by omega)] at h
 clear hin ht h1
 unfold qe.j2 qe.j14
 refine qud (fun (t:Nat) (t':Int) w=>t'=(t:Int)+16∧t≤64∧St F0 w0 w (qv 1 t5 (qae (qaf t (qod p) ++ List.replicate (64 - t) 0)) :: qt n4 (qae [0,0,0,0,0]) :: qt n2 (qae s.l) :: ps)) (fun t=>64 - t) 0 ⟨rfl,by omega,by rw [qaf]; exact h⟩ ?_
 clear h
 rintro t t' w I μ ⟨rfl,ht,h⟩ hin
 have hgl:(qaf t (qod p)).length=t+16:=by rw [qwk,hb16]; omega
 unfold qe.b3
 refine qsc (fun h1=>?_) (fun h1=>?_)
 · refine h.drewK fun w h=>?_
   have hlen:(qaf t (qod p) ++ List.replicate (64 - t) (0:Int)).length=80:=by rw [List.length_append,hgl,List.length_replicate]; omega
   refine qx (qh (by omega) (by omega)) ?_
   refine h.ldo32 (j:=t+13) (by omega) (by omega) ?_
   refine qx (qh (by omega) (by omega)) ?_
   refine h.ldo32 (j:=t+8) (by omega) (by omega) ?_
   refine qjc ?_
   refine qx (qh (by omega) (by omega)) ?_
   refine h.ldo32 (j:=t+2) (by omega) (by omega) ?_
   refine qjc ?_
   refine qx (qh (by omega) (by omega)) ?_
   refine h.ldo32 (j:=t) (by omega) (by omega) ?_
   refine qjc ?_
   refine qkc.c (by decide) ⟨_,rfl,?_⟩
   refine h.sto32 (j:=t+16) (by omega) (by omega) fun w h=>?_
   refine qx (qh (by omega) (by omega)) ?_
   refine ⟨⟨rfl,rfl,rfl⟩,hin (t+1) _ _ ⟨by omega,by omega,?_⟩ (by omega)⟩
   rw [qpe (by omega),qpe (by omega),qpe (by omega),qpe (by omega)] at h
   have es:=set_next (l:=qaf t (qod p)) (k:=64 - t) (v:=nextW (qaf t (qod p))) (by omega)
   rw [hgl,← qwm,show 64 - t - 1=64 - (t+1) by omega] at es
   rw [← es]
   unfold nextW
   rw [hgl]
   exact h
 have:t=64:=by omega
 subst this
 clear hin ht h1
 rw [Nat.sub_self,List.replicate_zero,List.append_nil] at h
 unfold qe.j3
 refine h.at2.ld20 rfl ?_
 refine h.new fun n8 w h=>?_
 rw [zc_w5] at h
 refine ⟨rfl,?_⟩
 refine h.st5 rfl rfl qhg fun w h=>?_
 exact qe.loop (by rw [hgl]) rfl (h.tail fun _ _ _ h=>h.tail fun _ _ _ h=>h.at1) hk
end
end Go.Proofs.YtonmgkkkiejicaaGreat
namespace Go.Proofs.YtonmgkkkiejicaaGreat
open Go Go.Proofs
set_option linter.unusedVariables false
set_option linter.unusedSimpArgs false
attribute [local irreducible] apK cpK mkK hs qie rounds qaf
theorem zc_20:zc Tryz.prog 38=⟨u8s (List.replicate 20 0)⟩:=by kernel_rfl
theorem sum_byte (s:W5) (i:Nat) (hi:i < 20):(s.l.flatMap word4).getD i 0=(s.l.getD (i / 4) 0) / 2 ^ (24 - 8 * (i % 4)) % 256:=by
 have:i=0 ∨ i=1 ∨ i=2 ∨ i=3 ∨ i=4 ∨ i=5 ∨ i=6 ∨ i=7 ∨ i=8 ∨ i=9 ∨ i=10 ∨ i=11 ∨ i=12 ∨ i=13 ∨ i=14 ∨ i=15 ∨ i=16 ∨ i=17 ∨ i=18 ∨ i=19:=by omega
 rcases this with rfl | rfl | rfl | rfl | rfl | rfl | rfl | rfl | rfl | rfl | rfl | rfl | rfl | rfl | rfl | rfl | rfl | rfl | rfl | rfl
 all_goals first
  | rfl
  | (show _ % 256=_ / 2 ^ 0 % 256; rw [Int.pow_zero,Int.ediv_one]; rfl)
section
variable {F0:List Nat} {w0 w:World} {ps:List As}
theorem St.dropN {qs:List As} (h:St F0 w0 w (qs ++ ps)):St F0 w0 w ps:=by
 induction qs with
 | nil=>exact h
 | cons q qs ih=>exact ih h.drop
theorem St.stu8 {b o:Nat} {l:List Int} {i:Nat} {v:Int} {K:World→Prop} (h:St F0 w0 w (qt b (u8s l) :: ps)) (ho:o=i) (hi:i < l.length) (hk:∀ w',St F0 w0 w' (qt b (u8s (l.set i v)) :: ps)→K w'):Go.Proofs.YtonmgkkkiejicaaGreat.st w ⟨b,o,none⟩ (.int .u8 v) K:=by
 subst ho
 refine h.st (by rw [qeb]; exact hi) trivial fun w' h=>hk w' ?_
 rw [u8s_set] at h
 exact h
theorem qi.out {n2 n6:Nat} {s:W5} {c:List Value} (hc:c.length=20) (hs:okW s) {Q:VWP} (h:St F0 w0 w (qt n6 (qae s.l) :: qt n2 c :: ps))
 (hk:∀ w',St F0 w0 w' ps→Q (.agg ⟨u8s (s.l.flatMap word4)⟩) w'):qi.j7 ⟨n2,0,none⟩ ⟨n6,0,none⟩ Q w:=by
 unfold qi.j7
 refine h.new fun n8 w h=>?_
 rw [zc_20] at h
 unfold qi.j8 qi.j10
 have hfl:(s.l.flatMap word4).length=20:=rfl
 refine qud (fun (i:Nat) (i':Int) w=>i'=i∧i≤20∧St F0 w0 w (qt n8 (u8s ((s.l.flatMap word4).take i ++ List.replicate (20 - i) 0)) :: qt n6 (qae s.l) :: qt n2 c :: ps)) (fun i=>20 - i) 0 ⟨rfl,by omega,h⟩ ?_
 clear h
 rintro i i' w I μ ⟨rfl,hi,h⟩ hin
 unfold qi.b1
 refine qsc (fun h1=>?_) (fun h1=>?_)
 · have hi20:i < 20:=by omega
   refine ⟨by decide,?_⟩
   rw [tdiv_nn (by omega)]
   refine qx (qh (by omega) (by omega)) ?_
   refine h.at1.ldx (j:=i / 4) (by omega) rfl (by omega) ?_
   refine ⟨by decide,?_⟩
   refine qx (qml (by omega)) ?_
   have em:(i:Int) % 4=(i % 4:Nat):=by omega
   rw [em]
   refine qx (show IntKind.u64.wrap ((i % 4:Nat):Int)=(i % 4:Nat) by rw [qle]; omega) ?_
   refine qx (show IntKind.u64.wrap (8 * ((i % 4:Nat):Int))=(8 * (i % 4):Nat) by rw [qle]; omega) ?_
   refine qx (show IntKind.u64.wrap (24 - ((8 * (i % 4):Nat):Int))=(24 - 8 * (i % 4):Nat) by rw [qle]; omega) ?_
   refine ⟨by omega,?_⟩
   refine qx (qoh .u32 _ (show 24 - 8 * (i % 4)≤32 by omega)) ?_
   refine qx (qqj _) ?_
   rw [← sum_byte s i hi20]
   have hlt:((s.l.flatMap word4).take i).length=i:=by rw [List.length_take]; omega
   refine qwh (by omega) (by omega) ?_
   refine h.stu8 (i:=i) (by omega) (by rw [List.length_append,hlt,List.length_replicate]; omega) fun w h=>?_
   refine qx (qh (by omega) (by omega)) ?_
   refine ⟨⟨rfl,rfl,rfl⟩,hin (i+1) _ _ ⟨by simp,by omega,?_⟩ (by omega)⟩
   have es:=set_next (l:=(s.l.flatMap word4).take i) (k:=20 - i) (v:=(s.l.flatMap word4).getD i 0) (by omega)
   rw [hlt] at es
   have et:(s.l.flatMap word4).take (i+1)=(s.l.flatMap word4).take i ++ [(s.l.flatMap word4).getD i 0]:=by
    rw [List.take_succ_eq_append_getElem (by omega)]
    congr 2
    simp [List.getD,List.getElem?_eq_getElem (show i < (s.l.flatMap word4).length by omega)]
   rw [es,show 20 - i - 1=20 - (i+1) by omega,← et] at h
   exact h
 · have:i=20:=by omega
   subst this
   have h:St F0 w0 w (qt n8 (u8s (s.l.flatMap word4)) :: qt n6 (qae s.l) :: qt n2 c :: ps):=by
    rw [List.take_of_length_le (by omega),Nat.sub_self,List.replicate_zero,List.append_nil] at h
    exact h
   unfold qi.j9
   have hl20:(u8s (s.l.flatMap word4)).length=20:=by rw [qeb]; exact hfl
   refine h.ld20 hl20 ?_
   refine ⟨hl20,?_⟩
   refine h.at2.st20 hc hl20 qzf fun w h=>?_
   refine h.ld20 hl20 ?_
   exact hk w h.drop.drop.drop
theorem qi.blocks {n2:Nat} {t3:Sl} {xs:List Int} {c:List Value} (hc:c.length=20) (hxb:qzc xs) (hm:xs.length % 64=0) (hL:xs.length≤1099511627776) {Q:VWP} (h:St F0 w0 w (qv 1 t3 (u8s xs) :: qt n2 c :: ps))
 (hk:∀ w',St F0 w0 w' ps→Q (.agg ⟨u8s ((Go.Proofs.YtonmgkkkiejicaaGreat.hs xs (xs.length / 64)).l.flatMap word4)⟩) w'):qi.j5 ⟨n2,0,none⟩ t3 Q w:=by
 unfold qi.j5
 refine h.new fun n6 w h=>?_
 rw [zc_w5] at h
 refine ⟨rfl,?_⟩
 have e0:(⟨[.int .u32 1732584193,.int .u32 4023233417,.int .u32 2562383102,.int .u32 271733878,.int .u32 3285377520]⟩:Array Value)=⟨qae (Go.Proofs.YtonmgkkkiejicaaGreat.hs xs 0).l⟩:=by rw [Go.Proofs.YtonmgkkkiejicaaGreat.hs]; rfl
 rw [e0]
 refine h.st5 (n:=5) rfl rfl qhg fun w h=>?_
 unfold qi.j6 qi.j11
 have hlen:=h.at1.len
 rw [qeb] at hlen
 have hcap:=h.at1.cap (by decide)
 refine qud (fun (k:Nat) (i':Int) w=>i'=((64 * k:Nat):Int)∧64 * k≤xs.length∧St F0 w0 w (qt n6 (qae (Go.Proofs.YtonmgkkkiejicaaGreat.hs xs k).l) :: qv 1 t3 (u8s xs) :: qt n2 c :: ps)) (fun k=>xs.length - 64 * k) 0 ⟨rfl,by omega,h⟩ ?_
 clear h
 rintro k i' w I μ ⟨rfl,hi,h⟩ hin
 unfold qi.b2
 refine qsc (fun h1=>?_) (fun h1=>?_)
 · have h64:64 * k+64≤xs.length:=by omega
   refine h.drewK fun w h=>?_
   refine h.ld20 (n:=5) rfl ?_
   refine qx (qh (by omega) (by omega)) ?_
   refine ⟨⟨by omega,by omega⟩,⟨by omega,by omega⟩,qjc ?_⟩
   have en:(((64 * k:Nat):Int)+64).toNat=64 * k+64:=by omega
   have em:(((64 * k:Nat):Int)).toNat=64 * k:=by omega
   rw [en,em]
   have hlenb:((xs.drop (64 * k)).take 64).length=64:=by rw [List.length_take,List.length_drop]; omega
   refine qe.c (p:=(xs.drop (64 * k)).take 64) hlenb (fun x hx=>hxb x (List.mem_of_mem_drop (List.mem_of_mem_take hx))) (by show 64 * k+64 - 64 * k≤t3.cap - 64 * k; omega) h (fun w' qs h=>?_) fun w h=>⟨_,rfl,?_⟩
   · have hrd:=h.dropN.at1.ord
     have hcut:=hrd.cut (n:=64 * k) (m:=64 * k+64) (by decide) (by omega) (by omega) hcap (t3.cap - 64 * k)
     have ec:((u8s xs).drop (64 * k * 1)).take ((64 * k+64 - 64 * k) * 1)=u8s ((xs.drop (64 * k)).take 64):=by
      rw [Nat.mul_one,Nat.mul_one,show 64 * k+64 - 64 * k=64 by omega]
      unfold u8s
      rw [List.map_take,List.map_drop]
     rw [ec] at hcut
     exact hcut
   refine ⟨rfl,?_⟩
   refine h.st5 (n:=5) rfl rfl qhg fun w h=>?_
   refine qx (qh (by omega) (by omega)) ?_
   refine ⟨⟨rfl,rfl,rfl⟩,hin (k+1) _ _ ⟨by omega,by omega,?_⟩ (by omega)⟩
   rw [Go.Proofs.YtonmgkkkiejicaaGreat.hs]
   exact h
 · have:k=xs.length / 64:=by omega
   subst this
   exact qi.out hc (okW_hs _ _) (h.tail fun _ _ _ h=>h.drop) hk
end
end Go.Proofs.YtonmgkkkiejicaaGreat
namespace Go.Proofs.YtonmgkkkiejicaaGreat
open Go Go.Proofs
set_option linter.unusedVariables false
set_option linter.unusedSimpArgs false
attribute [local irreducible] apK cpK mkK hs qie rounds qaf
section
variable {F0:List Nat} {w0 w:World} {ps:List As}
theorem be8_take (v:Int) {i:Nat} (hi:i < 8):(be8 v).take (i+1)=(be8 v).take i ++ [v / 2 ^ (8 * (7 - i)) % 256]:=by
 have hl:(be8 v).length=8:=by simp [be8]
 rw [List.take_succ_eq_append_getElem (by omega)]
 congr 2
 simp [be8]
theorem qi.c {s:Sl} {xs:List Int} {K:Ending→World→Prop} (h:St F0 w0 w ps) [Rdb F0 w0 s ps 1 (u8s xs)] (hx:qzc xs) (hL:xs.length≤34359738368)
 (hk:∀ w',St F0 w0 w' ps→K (.returned (.agg ⟨u8s (qie xs)⟩)) w'):Calls Tryz.prog 34 ⟨[.slice s.a s.len s.cap]⟩ w K:=by
 have hsl:=(h.rdb s).1
 rw [qeb] at hsl
 refine qsb (qi.ok _ _ _ ?_)
 unfold qi
 refine h.new fun n2 w h=>?_
 have hz:(zc Tryz.prog 38).toList.length=20:=by rw [Array.length_toList,zc_20]; rfl
 generalize (zc Tryz.prog 38).toList=c at h hz
 unfold qi.j1
 refine h.clone (k:=.u8) (s2:=s) (by omega) fun s1 w h=>?_
 refine h.pushI (by omega) fun s2 w h=>?_
 unfold qi.j2
 refine qud (fun (j:Nat) (o:Sl) w=>j≤(119 - xs.length % 64) % 64∧St F0 w0 w (qv 1 o (u8s (xs ++ [128] ++ List.replicate j 0)) :: qt n2 c :: ps)) (fun j=>64 - j) 0 ⟨by omega,by simpa using h⟩ ?_
 clear h
 rintro j o w I μ ⟨hj,h⟩ hin
 have hyl:(xs ++ [128] ++ List.replicate j 0).length=xs.length+1+j:=by simp; omega
 have hol:=h.len
 rw [qeb,hyl] at hol
 unfold qi.b4
 refine ⟨by decide,?_⟩
 refine qx (qml (by omega)) ?_
 refine qmd (fun h1=>?_) (fun h1=>?_)
 · have h1:¬ ((o.len:Nat):Int) % 64=56:=by simpa using h1
   refine h.pushI (by rw [hyl]; omega) fun s2 w h=>?_
   refine ⟨⟨rfl,rfl⟩,hin (j+1) _ _ ⟨by omega,?_⟩ (by omega)⟩
   rw [List.replicate_succ',← List.append_assoc]
   exact h
 have h1:((o.len:Nat):Int) % 64=56:=by simpa using h1
 have hjz:j=(119 - xs.length % 64) % 64:=by omega
 clear hin
 unfold qi.j3
 refine qx (show IntKind.u64.wrap ((s.len:Nat):Int)=xs.length by rw [qle]; omega) ?_
 refine qx (show IntKind.u64.wrap ((xs.length:Int) * 8)=8 * (xs.length:Int) by rw [qle]; omega) ?_
 unfold qi.j4 qi.j12
 have h0:xs ++ [128] ++ List.replicate j 0=xs ++ [128] ++ zeros xs.length:=by rw [zeros,hjz]
 rw [h0] at h
 have hzl:(xs ++ [128] ++ zeros xs.length).length≤34359739000:=by rw [← h0,hyl]; omega
 have hbl:(be8 (8 * (xs.length:Int))).length=8:=by simp [be8]
 refine loop2 (fun (i:Nat) (o:Sl) (i':Int) w=>i'=7 - (i:Int)∧i≤8∧St F0 w0 w (qv 1 o (u8s (xs ++ [128] ++ zeros xs.length ++ (be8 (8 * (xs.length:Int))).take i)) :: qt n2 c :: ps)) (fun i=>8 - i) 0 ⟨rfl,by omega,by rw [List.take_zero,List.append_nil]; exact h⟩ ?_
 clear h
 rintro i o i' w I μ ⟨rfl,hi,h⟩ hin
 unfold qi.b3
 refine qsc (fun h1=>?_) (fun h1=>?_)
 · have hi8:i < 8:=by omega
   refine qx (show IntKind.u64.wrap (7 - (i:Int))=((7 - i:Nat):Int) by rw [qle]; omega) ?_
   refine qx (show IntKind.u64.wrap (8 * ((7 - i:Nat):Int))=((8 * (7 - i):Nat):Int) by rw [qle]; omega) ?_
   refine ⟨by omega,?_⟩
   refine qx (qoh .u64 _ (show 8 * (7 - i)≤64 by omega)) ?_
   refine qx (qqj _) ?_
   refine h.pushI (by rw [List.length_append,List.length_take,hbl]; omega) fun s2 w h=>?_
   refine qx (qh (by omega) (by omega)) ?_
   refine ⟨⟨rfl,rfl⟩,hin (i+1) _ _ _ ⟨by omega,by omega,?_⟩ (by omega)⟩
   rw [be8_take _ hi8,← List.append_assoc]
   exact h
 · have:i=8:=by omega
   subst this
   rw [List.take_of_length_le (by omega)] at h
   have e:xs ++ [128] ++ zeros xs.length ++ be8 (8 * xs.length)=padded xs:=rfl
   rw [e] at h
   have hpb:qzc (padded xs):=by
    rw [← e]
    intro x hx'
    rcases List.mem_append.1 hx' with hx' | hx'
    rcases List.mem_append.1 hx' with hx' | hx'
    rcases List.mem_append.1 hx' with hx' | hx'
    · exact hx x hx'
    · rw [List.mem_singleton.1 hx']; decide
    · rw [List.eq_of_mem_replicate hx']; decide
    · exact qbl 8 8 _ x hx'
   have hpl:(padded xs).length≤1099511627776:=by rw [← e,List.length_append,hbl]; omega
   refine qi.blocks hz hpb (padded_length xs) hpl h fun w h=>?_
   have:=hk w h
   unfold qie sumW at this
   exact this
end
end Go.Proofs.YtonmgkkkiejicaaGreat
namespace Go.Proofs.YtonmgkkkiejicaaGreat
open Go Go.Proofs
set_option linter.unusedVariables false
set_option linter.unusedSimpArgs false
attribute [local irreducible] apK cpK mkK hs qie rounds qaf
section
variable {F0:List Nat} {w0 w:World} {ps rest:List As}
theorem qph.d {s:Sl} {xs:List Int} {K:Ending→World→Prop} (h:St F0 w0 w ps) [Rdb F0 w0 s ps 1 (u8s xs)] (hx:qzc xs) (hL:xs.length≤34359738368)
 (hk:∀ w',St F0 w0 w' ps→K (.returned (.agg ⟨u8s (qie xs)⟩)) w'):Calls Tryz.prog 27 ⟨[.slice s.a s.len s.cap]⟩ w K :=
 qph.c h (fun w' p q h=>h.drop.drop.rdb s) hx hL hk
end
end Go.Proofs.YtonmgkkkiejicaaGreat
namespace Go.Proofs.YtonmgkkkiejicaaGreat
open Go Go.Proofs
set_option linter.unusedVariables false
set_option maxRecDepth 100000
def qkg (b_0:Sl) (Q:VWP) (w:World):Prop :=
 qqf 90 [sV b_0] w fun r3 w2 =>
 nw w2 (⟨[sV r3,.int .i64 0,.int .i64 0]⟩:Array Value) 176 fun a4 w5 =>
 Q (.pointer (some a4)) w5
theorem qkg.ok (b_0:Sl) (Q:VWP) (w:World) (h:qkg b_0 Q w):Calls Tryz.prog 60 ⟨[sV b_0]⟩ w (Ret Q) :=
 qvb [.tmp 2] qkd Tryz.func60 rfl rfl rfl rfl .lf (by kernel_rfl) h
def qxd (r_0:OAd) (Q:VWP) (w:World):Prop :=
 nz r_0 fun a1 =>
 ldI .i64 w (Addr.add a1 2) fun x2 =>
 Q (.int .i64 x2) w
theorem qxd.ok (r_0:OAd) (Q:VWP) (w:World) (h:qxd r_0 Q w):Calls Tryz.prog 65 ⟨[.pointer r_0]⟩ w (Ret Q) :=
 qvb [.tmp 2] qkd Tryz.func65 rfl rfl rfl rfl .lf (by kernel_rfl) h
def qvc (r_0:OAd) (Q:VWP) (w:World):Prop :=
 nz r_0 fun a1 =>
 ldI .i64 w (Addr.add a1 2) fun x2 =>
 br (x2 != 0) (
 Q (.int .i64 0) w) (
 lt (World.drew w) fun w3 =>
 nz r_0 fun a4 =>
 ldL w3 (Addr.add a4 0) fun x5 =>
 nz r_0 fun a6 =>
 ldI .i64 w3 (Addr.add a6 1) fun x7 =>
 lt (IntKind.i64.wrap ((x5.len:Int) - x7)) fun x8 =>
 Q (.int .i64 x8) w3)
theorem qvc.ok (r_0:OAd) (Q:VWP) (w:World) (h:qvc r_0 Q w):Calls Tryz.prog 63 ⟨[.pointer r_0]⟩ w (Ret Q) :=
 qvb [.tmp 2] qkd Tryz.func63 rfl rfl rfl rfl .lf (by kernel_rfl) h
def qub.j1 (r_0:OAd) (n_1:Int) (Q:VWP) (w:World):Prop :=
 nz r_0 fun a1 =>
 ldI .i64 w (Addr.add a1 2) fun x2 =>
 br (x2 != 0) (
 Q (.slice none 0 0) w) (
 nz r_0 fun a3 =>
 ldI .i64 w (Addr.add a3 1) fun x4 =>
 lt (IntKind.i64.wrap (x4+n_1)) fun x5 =>
 nz r_0 fun a6 =>
 st w (Addr.add a6 1) (.int .i64 x5) fun w7 =>
 lt (World.drew w7) fun w8 =>
 nz r_0 fun a9 =>
 ldL w8 (Addr.add a9 0) fun x10 =>
 nz r_0 fun a11 =>
 ldI .i64 w8 (Addr.add a11 1) fun x12 =>
 lt (IntKind.i64.wrap (x12 - n_1)) fun x13 =>
 nz r_0 fun a14 =>
 ldI .i64 w8 (Addr.add a14 1) fun x15 =>
 bd x15 x10.cap fun n16 =>
 bd x13 n16 fun n17 =>
 lt (⟨qfe x10.a x10.cap n17 1,n16 - n17,x10.cap - n17⟩:Sl) fun s18 =>
 Q (sV s18) w8)
def qub (r_0:OAd) (n_1:Int) (Q:VWP) (w:World):Prop :=
 nz r_0 fun a19 =>
 ldI .i64 w (Addr.add a19 2) fun x20 =>
 br (x20 == 0) (
 br (decide (n_1 < 0)) (
 nz r_0 fun a21 =>
 st w (Addr.add a21 2) (.int .i64 3) fun w22 =>
 qub.j1 r_0 n_1 Q w22) (
 qri 63 [.pointer r_0] w fun r25 w24 =>
 br (decide (n_1 > r25)) (
 nz r_0 fun a26 =>
 st w24 (Addr.add a26 2) (.int .i64 3) fun w27 =>
 qub.j1 r_0 n_1 Q w27) (
 qub.j1 r_0 n_1 Q w24))) (
 qub.j1 r_0 n_1 Q w)
theorem qub.ok (r_0:OAd) (n_1:Int) (Q:VWP) (w:World) (h:qub r_0 n_1 Q w):Calls Tryz.prog 96 ⟨[.pointer r_0,.int .i64 n_1]⟩ w (Ret Q) :=
 qvb [.tmp 4] qkd Tryz.func96 rfl rfl rfl rfl (.pr 1 [sP 0,sI 1] (fun a b w=>qub.j1 a b Q w) .lf) (by kernel_rfl) h
def qab.j2 (v_5:Int) (Q:VWP) (w:World):Prop :=
 Q (.int .i64 v_5) w
def qab.b1 (t10:Sl) (t11:Int) (v_5 t12:Int) (Q:VWP) (nx1:Sl→Int→Int→Int→WP) (w:World):Prop :=
 br (decide (t12 < t11)) (
 ixS t10.a t10.len t12 1 fun a1 =>
 ldI .u8 w a1 fun x2 =>
 (0:Int)≤8 ∧
 lt (shlV .i64 v_5 8) fun x3 =>
 lt (IntKind.i64.wrap x2) fun x4 =>
 lt (orV .i64 x3 x4) fun x5 =>
 lt (IntKind.i64.wrap (t12+1)) fun x6 =>
 nx1 t10 t11 x5 x6 w) (
 qab.j2 v_5 Q w)
def qab.l1 (t10:Sl) (t11:Int) (v_5 t12:Int) (Q:VWP) (w:World):Prop :=
 ∃ (I:Int→Int→WP) (μ:Int→Int→World→Nat),I v_5 t12 w∧∀ v_5:Int,∀ t12:Int,∀ w:World,I v_5 t12 w→qab.b1 t10 t11 v_5 t12 Q (fun t10' t11' v_5' t12' w'=>(t10'=t10∧t11'=t11)∧I v_5' t12' w'∧μ v_5' t12' w' < μ v_5 t12 w) w
def qab.j3 (v_5:Int) (t10:Sl) (t11 t12:Int) (Q:VWP) (w:World):Prop :=
 qab.l1 t10 t11 v_5 t12 Q w
def qab.j1 (r_0:OAd) (n_1:Int) (v_5:Int) (Q:VWP) (w:World):Prop :=
 qqf 96 [.pointer r_0,.int .i64 n_1] w fun r9 w8 =>
 qab.j3 v_5 r9 (r9.len:Int) 0 Q w8
def qab (r_0:OAd) (n_1:Int) (Q:VWP) (w:World):Prop :=
 qab.j1 r_0 n_1 0 Q w
theorem qab.ok (r_0:OAd) (n_1:Int) (Q:VWP) (w:World) (h:qab r_0 n_1 Q w):Calls Tryz.prog 94 ⟨[.pointer r_0,.int .i64 n_1]⟩ w (Ret Q) :=
 qvb [.tmp 4] qkd Tryz.func94 rfl rfl rfl rfl (.pr 1 [sP 0,sI 1,sI 5] (fun a b c w=>qab.j1 a b c Q w) (.sq [sI 5] (fun a w=>qab.j2 a Q w) (.sq [sI 5,sL 10,sI 11,sI 12] (fun a b c d w=>qab.j3 a b c d Q w) .lf (.bk (.lo [sL 10,sI 11] [sI 5,sI 12] (fun a b c d w=>qab.l1 a b c d Q w) (fun nx1 a b c d w=>qab.b1 a b c d Q nx1 w) fun nx1=>.lf))) .lf)) (by kernel_rfl) h
def qjd (r_0:OAd) (Q:VWP) (w:World):Prop :=
 qri 94 [.pointer r_0,.int .i64 4] w fun r3 w2 =>
 Q (.int .i64 r3) w2
theorem qjd.ok (r_0:OAd) (Q:VWP) (w:World) (h:qjd r_0 Q w):Calls Tryz.prog 61 ⟨[.pointer r_0]⟩ w (Ret Q) :=
 qvb [.tmp 2] qkd Tryz.func61 rfl rfl rfl rfl .lf (by kernel_rfl) h
def qje (r_0:OAd) (Q:VWP) (w:World):Prop :=
 qri 94 [.pointer r_0,.int .i64 8] w fun r3 w2 =>
 br (decide (r3 < 0)) (
 nz r_0 fun a4 =>
 ldI .i64 w2 (Addr.add a4 1) fun x5 =>
 lt (IntKind.i64.wrap (x5 - 8)) fun x6 =>
 nz r_0 fun a7 =>
 st w2 (Addr.add a7 1) (.int .i64 x6) fun w8 =>
 nz r_0 fun a9 =>
 st w8 (Addr.add a9 2) (.int .i64 5) fun w10 =>
 Q (.int .i64 0) w10) (
 Q (.int .i64 r3) w2)
theorem qje.ok (r_0:OAd) (Q:VWP) (w:World) (h:qje r_0 Q w):Calls Tryz.prog 93 ⟨[.pointer r_0]⟩ w (Ret Q) :=
 qvb [.tmp 2] qkd Tryz.func93 rfl rfl rfl rfl .lf (by kernel_rfl) h
def qfd (r_0:OAd) (n_1:Int) (Q:VWP) (w:World):Prop :=
 qqf 96 [.pointer r_0,.int .i64 n_1] w fun r3 w2 =>
 qqf 90 [sV r3] w2 fun r6 w5 =>
 qqf 28 [sV r6] w5 fun r9 w8 =>
 Q (sV r9) w8
theorem qfd.ok (r_0:OAd) (n_1:Int) (Q:VWP) (w:World) (h:qfd r_0 n_1 Q w):Calls Tryz.prog 64 ⟨[.pointer r_0,.int .i64 n_1]⟩ w (Ret Q) :=
 qvb [.tmp 4] qkd Tryz.func64 rfl rfl rfl rfl .lf (by kernel_rfl) h
end Go.Proofs.YtonmgkkkiejicaaGreat
namespace Go.Proofs.YtonmgkkkiejicaaGreat
open Go Go.Proofs
set_option linter.unusedVariables false
set_option maxRecDepth 100000
def qob.j2 (b_0:Sl) (Q:VWP) (w:World):Prop :=
 Q (sV b_0) w
def qob.b1 (u_7:Int) (b_0:Sl) (i_8:Int) (Q:VWP) (nx1:Int→Sl→Int→WP) (w:World):Prop :=
 br (decide (i_8 ≥ 0)) (
 lt (IntKind.u64.wrap i_8) fun x1 =>
 lt (IntKind.u64.wrap (8 * x1)) fun x2 =>
 (0:Int)≤x2 ∧
 lt (shrV .u64 u_7 x2) fun x3 =>
 lt (IntKind.u8.wrap x3) fun x4 =>
 nw w ⟨[.int .u8 x4]⟩ 5 fun a5 w6 =>
 rdO w6 (some a5) (1 * 1) fun c7 =>
 apK Tryz.prog 5 w6 b_0.a b_0.len b_0.cap 1 c7 fun s8 w9 =>
 lt (IntKind.i64.wrap (i_8 - 1)) fun x10 =>
 nx1 u_7 s8 x10 w9) (
 qob.j2 b_0 Q w)
def qob.l1 (u_7:Int) (b_0:Sl) (i_8:Int) (Q:VWP) (w:World):Prop :=
 ∃ (I:Sl→Int→WP) (μ:Sl→Int→World→Nat),I b_0 i_8 w∧∀ b_0:Sl,∀ i_8:Int,∀ w:World,I b_0 i_8 w→qob.b1 u_7 b_0 i_8 Q (fun u_7' b_0' i_8' w'=>(u_7'=u_7)∧I b_0' i_8' w'∧μ b_0' i_8' w' < μ b_0 i_8 w) w
def qob.j3 (b_0:Sl) (u_7:Int) (i_8:Int) (Q:VWP) (w:World):Prop :=
 qob.l1 u_7 b_0 i_8 Q w
def qob.j1 (b_0:Sl) (n_2:Int) (u_7:Int) (Q:VWP) (w:World):Prop :=
 lt (IntKind.i64.wrap (n_2 - 1)) fun x11 =>
 qob.j3 b_0 u_7 x11 Q w
def qob (b_0:Sl) (v_1:Int) (n_2:Int) (Q:VWP) (w:World):Prop :=
 lt (IntKind.u64.wrap v_1) fun x12 =>
 qob.j1 b_0 n_2 x12 Q w
theorem qob.ok (b_0:Sl) (v_1:Int) (n_2:Int) (Q:VWP) (w:World) (h:qob b_0 v_1 n_2 Q w):Calls Tryz.prog 71 ⟨[sV b_0,.int .i64 v_1,.int .i64 n_2]⟩ w (Ret Q) :=
 qvb [.tmp 6] qkd Tryz.func71 rfl rfl rfl rfl (.pr 1 [sL 0,sI 2,(7,.I .u64)] (fun a b c w=>qob.j1 a b c Q w) (.sq [sL 0] (fun a w=>qob.j2 a Q w) (.sq [sL 0,(7,.I .u64),sI 8] (fun a b c w=>qob.j3 a b c Q w) .lf (.bk (.lo [(7,.I .u64)] [sL 0,sI 8] (fun a b c w=>qob.l1 a b c Q w) (fun nx1 a b c w=>qob.b1 a b c Q nx1 w) fun nx1=>.lf))) .lf)) (by kernel_rfl) h
def qtb (r_0:OAd) (n_1:Int) (Q:VWP) (w:World):Prop :=
 nz r_0 fun a1 =>
 ldI .i64 w (Addr.add a1 2) fun x2 =>
 br (x2 != 0) (
 Q (.slice none 0 0) w) (
 lt (World.drew w) fun w3 =>
 br (decide (n_1 < 0)) (
 nz r_0 fun a4 =>
 st w3 (Addr.add a4 2) (.int .i64 3) fun w5 =>
 Q (.slice none 0 0) w5) (
 nz r_0 fun a6 =>
 ldL w3 (Addr.add a6 0) fun x7 =>
 nz r_0 fun a8 =>
 ldI .i64 w3 (Addr.add a8 1) fun x9 =>
 lt (IntKind.i64.wrap ((x7.len:Int) - x9)) fun x10 =>
 br (decide (n_1 > x10)) (
 nz r_0 fun a11 =>
 st w3 (Addr.add a11 2) (.int .i64 3) fun w12 =>
 Q (.slice none 0 0) w12) (
 lt (World.drew w3) fun w13 =>
 nz r_0 fun a14 =>
 ldL w13 (Addr.add a14 0) fun x15 =>
 nz r_0 fun a16 =>
 ldI .i64 w13 (Addr.add a16 1) fun x17 =>
 nz r_0 fun a18 =>
 ldI .i64 w13 (Addr.add a18 1) fun x19 =>
 lt (IntKind.i64.wrap (x19+n_1)) fun x20 =>
 bd x20 x15.cap fun n21 =>
 bd x17 n21 fun n22 =>
 lt (⟨qfe x15.a x15.cap n22 1,n21 - n22,x15.cap - n22⟩:Sl) fun s23 =>
 nw w13 ⟨[]⟩ 5 fun a24 w25 =>
 rdO w25 s23.a (s23.len * 1) fun c26 =>
 apK Tryz.prog 5 w25 (some a24) 0 0 s23.len c26 fun s27 w28 =>
 nz r_0 fun a29 =>
 ldI .i64 w28 (Addr.add a29 1) fun x30 =>
 lt (IntKind.i64.wrap (x30+n_1)) fun x31 =>
 nz r_0 fun a32 =>
 st w28 (Addr.add a32 1) (.int .i64 x31) fun w33 =>
 Q (sV s27) w33)))
theorem qtb.ok (r_0:OAd) (n_1:Int) (Q:VWP) (w:World) (h:qtb r_0 n_1 Q w):Calls Tryz.prog 36 ⟨[.pointer r_0,.int .i64 n_1]⟩ w (Ret Q) :=
 qvb [.tmp 4] qkd Tryz.func36 rfl rfl rfl rfl .lf (by kernel_rfl) h
def qp.j3 (r_0:OAd) (was_5:Int) (u_7:Int) (Q:VWP) (w:World):Prop :=
 br (decide (u_7 > 9223372036854775807)) (
 nz r_0 fun a1 =>
 st w (Addr.add a1 1) (.int .i64 was_5) fun w2 =>
 nz r_0 fun a3 =>
 st w2 (Addr.add a3 2) (.int .i64 5) fun w4 =>
 Q (.int .i64 0) w4) (
 lt (IntKind.i64.wrap u_7) fun x5 =>
 Q (.int .i64 x5) w)
def qp.b1 (r_0:OAd) (was_5:Int) (x_6:Sl) (u_7:Int) (i_8:Int) (Q:VWP) (nx1:OAd→Int→Sl→Int→Int→WP) (w:World):Prop :=
 br (decide (i_8 < (x_6.len:Int))) (
 (0:Int)≤8 ∧
 lt (shlV .u64 u_7 8) fun x6 =>
 ixS x_6.a x_6.len i_8 1 fun a7 =>
 ldI .u8 w a7 fun x8 =>
 lt (IntKind.u64.wrap x8) fun x9 =>
 lt (orV .u64 x6 x9) fun x10 =>
 lt (IntKind.i64.wrap (i_8+1)) fun x11 =>
 nx1 r_0 was_5 x_6 x10 x11 w) (
 qp.j3 r_0 was_5 u_7 Q w)
def qp.l1 (r_0:OAd) (was_5:Int) (x_6:Sl) (u_7:Int) (i_8:Int) (Q:VWP) (w:World):Prop :=
 ∃ (I:Int→Int→WP) (μ:Int→Int→World→Nat),I u_7 i_8 w∧∀ u_7:Int,∀ i_8:Int,∀ w:World,I u_7 i_8 w→qp.b1 r_0 was_5 x_6 u_7 i_8 Q (fun r_0' was_5' x_6' u_7' i_8' w'=>(r_0'=r_0∧was_5'=was_5∧x_6'=x_6)∧I u_7' i_8' w'∧μ u_7' i_8' w' < μ u_7 i_8 w) w
def qp.j4 (r_0:OAd) (was_5:Int) (x_6:Sl) (u_7:Int) (i_8:Int) (Q:VWP) (w:World):Prop :=
 qp.l1 r_0 was_5 x_6 u_7 i_8 Q w
def qp.j2 (r_0:OAd) (was_5:Int) (x_6:Sl) (u_7:Int) (Q:VWP) (w:World):Prop :=
 qp.j4 r_0 was_5 x_6 u_7 0 Q w
def qp.j1 (r_0:OAd) (n_1:Int) (was_5:Int) (Q:VWP) (w:World):Prop :=
 qqf 36 [.pointer r_0,.int .i64 n_1] w fun r14 w13 =>
 qp.j2 r_0 was_5 r14 0 Q w13
def qp (r_0:OAd) (n_1:Int) (Q:VWP) (w:World):Prop :=
 nz r_0 fun a15 =>
 ldI .i64 w (Addr.add a15 1) fun x16 =>
 qp.j1 r_0 n_1 x16 Q w
theorem qp.ok (r_0:OAd) (n_1:Int) (Q:VWP) (w:World) (h:qp r_0 n_1 Q w):Calls Tryz.prog 35 ⟨[.pointer r_0,.int .i64 n_1]⟩ w (Ret Q) :=
 qvb [.tmp 4] qkd Tryz.func35 rfl rfl rfl rfl (.pr 1 [sP 0,sI 1,sI 5] (fun a b c w=>qp.j1 a b c Q w) (.pr 1 [sP 0,sI 5,sL 6,(7,.I .u64)] (fun a b c d w=>qp.j2 a b c d Q w) (.sq [sP 0,sI 5,(7,.I .u64)] (fun a b c w=>qp.j3 a b c Q w) (.sq [sP 0,sI 5,sL 6,(7,.I .u64),sI 8] (fun a b c d e w=>qp.j4 a b c d e Q w) .lf (.bk (.lo [sP 0,sI 5,sL 6] [(7,.I .u64),sI 8] (fun a b c d e w=>qp.l1 a b c d e Q w) (fun nx1 a b c d e w=>qp.b1 a b c d e Q nx1 w) fun nx1=>.lf))) .lf))) (by kernel_rfl) h
end Go.Proofs.YtonmgkkkiejicaaGreat
namespace Go.Proofs.YtonmgkkkiejicaaGreat
open Go Go.Proofs
set_option linter.unusedVariables false
set_option linter.unusedSimpArgs false
attribute [local irreducible] apK cpK mkK
theorem qqm (k:IntKind) {x y:Int} (h:x % 2 ^ k.bits=y % 2 ^ k.bits):k.wrap x=k.wrap y:=by simp only [IntKind.wrap,h]
theorem wrap_mod (k:IntKind) (x:Int):k.wrap x % 2 ^ k.bits=x % 2 ^ k.bits:=by
 simp only [IntKind.wrap]
 split
 · rw [Int.sub_emod_right,Int.emod_emod]
 · rw [Int.emod_emod]
theorem or_byte64 {k:IntKind} (hb:k.bits=64) {v c:Int} (hc:0≤c∧c < 256):orV k (shlV k v 8) c=k.wrap (v * 256+c):=by
 obtain ⟨n,rfl⟩:∃ n:Nat,c=n:=⟨c.toNat,by omega⟩
 unfold orV shlV
 have h8:min (8:Int).toNat k.bits=8:=by rw [hb]; rfl
 rw [h8]
 have e1:=qrj k.bits (k.wrap (v * 2 ^ 8))
 rw [wrap_mod] at e1
 have e2:(BitVec.ofInt k.bits (n:Int)).toNat=n:=qsg _ _ (by rw [hb]; omega)
 rw [BitVec.toNat_or,e2]
 generalize (BitVec.ofInt k.bits (k.wrap (v * 2 ^ 8))).toNat=A at e1
 have h28:(2:Int) ^ 8=256:=by decide
 have h64:(2:Int) ^ k.bits=18446744073709551616:=by rw [hb]; decide
 rw [h28,h64] at e1
 obtain ⟨q,rfl⟩:∃ q,A=2 ^ 8 * q:=⟨A / 256,by omega⟩
 have:=Nat.two_pow_add_eq_or_of_lt (i:=8) (b:=n) (by omega) q
 rw [← this]
 apply qqm
 rw [h64]
 have h28n:(2:Nat) ^ 8=256:=by decide
 rw [h28n] at e1 ⊢
 omega
theorem be_fold (k:IntKind) (hb:k.bits=64) (a:Int) (l:List Int) (c:Int) (hc:0≤c∧c < 256):orV k (shlV k (k.wrap (be l)) 8) c=k.wrap (be (l ++ [c])):=by
 rw [or_byte64 hb hc,be_snoc]
 apply qqm
 have h64:(2:Int) ^ k.bits=18446744073709551616:=by rw [hb]; decide
 have:=wrap_mod k (be l)
 rw [h64] at this ⊢
 omega
theorem be_beJ (n:Nat) (v:Int):∀ j,j≤n→be (beJ n j v)=v / 2 ^ (8 * (n - j)) % 2 ^ (8 * j):=by
 intro j
 induction j with
 | zero=>intro _; simp [beJ,be,Int.emod_one]
 | succ j ih =>
   intro hj
   rw [qil,be_snoc,ih (by omega),show n - 1 - j=n - (j+1) by omega]
   have e1:v / 2 ^ (8 * (n - j))=v / 2 ^ (8 * (n - (j+1))) / 256:=by
    rw [show 8 * (n - j)=8 * (n - (j+1))+8 by omega,Int.pow_add,show (2:Int) ^ 8=256 by decide,Int.ediv_ediv_of_nonneg (Int.le_of_lt (Int.pow_pos (by decide)))]
   have e2:(2:Int) ^ (8 * (j+1))=256 * 2 ^ (8 * j):=by rw [show 8 * (j+1)=8+8 * j by omega,Int.pow_add]; rfl
   rw [e1,e2]
   generalize v / 2 ^ (8 * (n - (j+1)))=x
   have hp:(0:Int) < 2 ^ (8 * j):=Int.pow_pos (by decide)
   generalize (2:Int) ^ (8 * j)=m at hp
   have h1:=Int.mul_ediv_add_emod (x / 256) m
   have h2:=Int.mul_ediv_add_emod x 256
   have h3:=Int.emod_lt_of_pos (x / 256) hp
   have h4:=Int.emod_nonneg (x / 256) (show m ≠ 0 by omega)
   have h5:x=(x / 256 % m * 256+x % 256)+(x / 256 / m) * (256 * m):=by
    have e:(x / 256 / m) * (256 * m)=256 * (m * (x / 256 / m)):=by rw [← Int.mul_assoc,Int.mul_comm (x / 256 / m) 256,Int.mul_assoc,Int.mul_comm (x / 256 / m) m]
    rw [e]; omega
   have h6:=Int.add_mul_emod_self_right (x / 256 % m * 256+x % 256) (x / 256 / m) (256 * m)
   rw [← h5] at h6
   have h7:(x / 256 % m * 256+x % 256) % (256 * m)=x / 256 % m * 256+x % 256:=Int.emod_eq_of_lt (by omega) (by omega)
   rw [h6,h7]
theorem be_beJ' (n:Nat) (v:Int):be (beJ n n v)=v % 2 ^ (8 * n):=by
 rw [be_beJ n v n (Nat.le_refl _),Nat.sub_self,Nat.mul_zero,Int.pow_zero,Int.ediv_one]
theorem qdk {l:List Int} (h:qzc l) {n:Nat} (hn:l.length≤n):0≤be l∧be l < 2 ^ (8 * n):=by
 have:=be_lt l h
 refine ⟨this.1,Int.lt_of_lt_of_le this.2 ?_⟩
 have e:(256:Int) ^ l.length=2 ^ (8 * l.length):=by rw [show (256:Int)=2 ^ 8 by decide,← Int.pow_mul]
 rw [e]
 exact_mod_cast Nat.pow_le_pow_right (by decide) (show 8 * l.length≤8 * n by omega)
def tkS (xs:List Int) (at':Nat) (err n:Int):List Int × Nat × Int :=
 if err=0∧0≤n∧n≤xs.length - at' then ((xs.drop at').take n.toNat,at'+n.toNat,0) else ([],at',if err=0 then 3 else err)
def nuS (xs:List Int) (at':Nat) (err:Int) (n:Nat):Int × Nat × Int :=
 if 9223372036854775807 < be (tkS xs at' err n).1 then (0,at',5) else (be (tkS xs at' err n).1,(tkS xs at' err n).2)
def brA (rb:Nat) (x:List Int × Nat × Int):As:=exA fun s:Sl=>ifA (x.2.1≤x.1.length∧s.len≤s.cap∧qzc x.1∧x.1.length≤1099511627776) <| andA (qt rb [.slice s.a s.len s.cap,.int .i64 (x.2.1:Int),.int .i64 x.2.2]) (qv 1 s (u8s x.1))
section
variable {F0:List Nat} {w0 w:World} {ps rest:List As} {rb at':Nat} {xs:List Int} {err:Int}
theorem brA_o (h:St F0 w0 w ps) [PkF brA rb ps (xs,at',err) rest]:∃ s:Sl,at'≤xs.length∧s.len≤s.cap∧s.len=xs.length∧qzc xs∧xs.length≤1099511627776∧St F0 w0 w (qt rb [.slice s.a s.len s.cap,.int .i64 (at':Int),.int .i64 err] :: qv 1 s (u8s xs) :: rest):=by
 obtain ⟨s,h⟩:=(h.toF brA rb).exE
 obtain ⟨⟨h1,h2,h3,h4⟩,h⟩:=h.ifE
 have h:=h.split
 have hl:=h.at1.len
 rw [qw] at hl
 exact ⟨s,h1,h2,by simp only at hl; omega,h3,h4,h⟩
theorem brA_i {s:Sl} (h1:at'≤xs.length) (h2:s.len≤s.cap) (h3:qzc xs) (h4:xs.length≤1099511627776) (h:St F0 w0 w (qt rb [.slice s.a s.len s.cap,.int .i64 (at':Int),.int .i64 err] :: qv 1 s (u8s xs) :: rest)):St F0 w0 w (brA rb (xs,at',err) :: rest) :=
 (h.join.ifI (c:=at'≤xs.length∧s.len≤s.cap∧qzc xs∧xs.length≤1099511627776) ⟨h1,h2,h3,h4⟩).exI (p:=fun s:Sl=>ifA (at'≤xs.length∧s.len≤s.cap∧qzc xs∧xs.length≤1099511627776) <| andA (qt rb [.slice s.a s.len s.cap,.int .i64 (at':Int),.int .i64 err]) (qv 1 s (u8s xs))) s
theorem qkg.c {s:Sl} {K:Ending→World→Prop} (h:St F0 w0 w ps) [Rdb F0 w0 s ps 1 (u8s xs)] (hx:qzc xs) (hL:xs.length≤1099511627776)
 (hk:∀ nb w',St F0 w0 w' (brA nb (xs,0,0) :: ps)→K (.returned (.pointer (some ⟨nb,0,none⟩))) w'):Calls Tryz.prog 60 ⟨[.slice s.a s.len s.cap]⟩ w K:=by
 refine qsb (qkg.ok _ _ _ ?_)
 unfold qkg
 refine qhc.c h (h.rdb s) (by omega) fun s1 w h=>⟨s1,rfl,?_⟩
 have hc:=h.cap (by decide)
 refine h.new fun nb w h=>?_
 exact hk nb w (brA_i (Nat.zero_le _) hc hx hL h)
theorem qxd.c {K:Ending→World→Prop} (h:St F0 w0 w ps) [PkF brA rb ps (xs,at',err) rest] (hk:K (.returned (.int .i64 err)) w):Calls Tryz.prog 65 ⟨[.pointer (some ⟨rb,0,none⟩)]⟩ w K:=by
 refine qsb (qxd.ok _ _ _ ?_)
 unfold qxd
 obtain ⟨s,h1,h2,h3,h4,h5,h⟩:=brA_o (rb:=rb) h
 exact qgd (h.fI hk)
theorem qvc.r {s:Sl} {K:Ending→World→Prop} (h:St F0 w0 w (qt rb [.slice s.a s.len s.cap,.int .i64 (at':Int),.int .i64 err] :: rest)) (hl:at'≤s.len) (hL:s.len≤1099511627776)
 (hk:∀ w',St F0 w0 w' (qt rb [.slice s.a s.len s.cap,.int .i64 (at':Int),.int .i64 err] :: rest)→K (.returned (.int .i64 (if err=0 then (s.len:Int) - at' else 0))) w'):Calls Tryz.prog 63 ⟨[.pointer (some ⟨rb,0,none⟩)]⟩ w K:=by
 refine qsb (qvc.ok _ _ _ ?_)
 unfold qvc
 refine qgd (h.fI (qmd (fun g=>?_) (fun g=>?_)))
 · rw [if_neg (by simpa using g)] at hk
   exact hk w h
 · rw [if_pos (by simpa using g)] at hk
   refine h.drewK fun w h=>?_
   refine qgd (h.fL (qgd (h.fI ?_)))
   refine qx (qh (by simp only; omega) (by simp only; omega)) ?_
   exact hk w h
theorem qvc.c {K:Ending→World→Prop} (h:St F0 w0 w ps) [PkF brA rb ps (xs,at',err) rest]
 (hk:∀ w',St F0 w0 w' (brA rb (xs,at',err) :: rest)→K (.returned (.int .i64 (if err=0 then (xs.length:Int) - at' else 0))) w'):Calls Tryz.prog 63 ⟨[.pointer (some ⟨rb,0,none⟩)]⟩ w K:=by
 obtain ⟨s,h1,h2,h3,h4,h5,h⟩:=brA_o (rb:=rb) h
 refine qvc.r h (by omega) (by omega) fun w h=>?_
 rw [h3]
 exact hk w (brA_i h1 h2 h4 h5 h)
theorem qub.r {s:Sl} {n:Int} {K:Ending→World→Prop} (h:St F0 w0 w (qt rb [.slice s.a s.len s.cap,.int .i64 (at':Int),.int .i64 err] :: rest)) (hl:at'≤s.len) (hc:s.len≤s.cap) (hL:s.len≤1099511627776)
 (hk:∀ (m:Nat) w',err=0→n=m→m≤s.len - at'→St F0 w0 w' (qt rb [.slice s.a s.len s.cap,.int .i64 ((at'+m:Nat):Int),.int .i64 0] :: rest)→K (.returned (.slice (qfe s.a s.cap at' 1) (at'+m - at') (s.cap - at'))) w')
 (hk2:∀ w',¬(err=0∧0≤n∧n≤(s.len:Int) - at')→St F0 w0 w' (qt rb [.slice s.a s.len s.cap,.int .i64 (at':Int),.int .i64 (if err=0 then 3 else err)] :: rest)→K (.returned (.slice none 0 0)) w') :
 Calls Tryz.prog 96 ⟨[.pointer (some ⟨rb,0,none⟩),.int .i64 n]⟩ w K:=by
 refine qsb (qub.ok _ _ _ _ ?_)
 unfold qub
 have bad:∀ (e:Int) w',e ≠ 0→e=(if err=0 then 3 else err)→¬(err=0∧0≤n∧n≤(s.len:Int) - at')→St F0 w0 w' (qt rb [.slice s.a s.len s.cap,.int .i64 (at':Int),.int .i64 e] :: rest)→qub.j1 (some ⟨rb,0,none⟩) n (fun v w'=>K (.returned v) w') w':=by
  intro e w he e1 hn h
  unfold qub.j1
  refine qgd (h.fI (qck (by simpa using he) ?_))
  subst e1
  exact hk2 w hn h
 refine qgd (h.fI (qmd (fun g=>?_) (fun g=>?_)))
 · have g:err=0:=by simpa using g
   subst g
   refine qsc (fun g=>?_) (fun g=>?_)
   · refine qgd (h.fst trivial fun w h=>?_)
     exact bad 3 w (by decide) rfl (by omega) h
   · refine qvc.r h hl hL fun w h=>⟨_,rfl,?_⟩
     rw [if_pos rfl]
     refine qsc (fun g2=>?_) (fun g2=>?_)
     · refine qgd (h.fst trivial fun w h=>?_)
       exact bad 3 w (by decide) rfl (by omega) h
     · obtain ⟨m,rfl⟩:∃ m:Nat,n=m:=⟨n.toNat,by omega⟩
       unfold qub.j1
       refine qgd (h.fI (qxg (by simp) ?_))
       refine qgd (h.fI ?_)
       refine qx (qh (by omega) (by omega)) ?_
       refine qgd (h.fst trivial fun w h=>?_)
       refine h.drewK fun w h=>?_
       refine qgd (h.fL (qgd (h.fI ?_)))
       refine qx (qh (by omega) (by omega)) ?_
       refine qgd (h.fI ?_)
       refine qnj (n:=at'+m) (by omega) (by simp only; omega) ?_
       refine qnj (n:=at') (by omega) (by omega) (qjc ?_)
       exact hk m w rfl rfl (by omega) (by rw [Int.natCast_add]; exact h)
 · have g:err ≠ 0:=by simpa using g
   exact bad err w g (by rw [if_neg g]) (fun e=>g e.1) h
end
end Go.Proofs.YtonmgkkkiejicaaGreat
namespace Go.Proofs.YtonmgkkkiejicaaGreat
open Go Go.Proofs
set_option linter.unusedVariables false
set_option linter.unusedSimpArgs false
attribute [local irreducible] apK cpK mkK
theorem tkS_ok {xs:List Int} (hx:qzc xs) (at':Nat) (err n:Int):qzc (tkS xs at' err n).1∧(tkS xs at' err n).1.length≤n.toNat∧(tkS xs at' err n).1.length≤xs.length∧(at'≤xs.length→(tkS xs at' err n).2.1≤xs.length):=by
 unfold tkS
 split
 · refine ⟨fun x h=>hx x (List.mem_of_mem_drop (List.mem_of_mem_take h)),by simp; omega,by simp; omega,fun _=>by simp only; omega⟩
 · exact ⟨fun x h=>by simp at h,by simp,by simp,fun h=>h⟩
theorem take_snoc {xs:List Int} {i:Nat} (h:i < xs.length):xs.take (i+1)=xs.take i ++ [xs.getD i 0]:=by
 rw [List.take_succ_eq_append_getElem h]
 simp [List.getD,List.getElem?_eq_getElem h]
theorem allB_getD {xs:List Int} (hx:qzc xs) {i:Nat} (h:i < xs.length):0≤xs.getD i 0∧xs.getD i 0 < 256:=by
 have:xs.getD i 0=xs[i]:=by simp [List.getD,List.getElem?_eq_getElem h]
 rw [this]; exact hx _ (List.getElem_mem h)
section
variable {F0:List Nat} {w0 w:World} {ps rest:List As} {rb at':Nat} {xs:List Int} {err:Int}
theorem qab.loop {t:Sl} {ys:List Int} {Q:VWP} (h:St F0 w0 w ps) [Rdb F0 w0 t ps 1 (u8s ys)] (hy:qzc ys) (hL:ys.length≤1099511627776)
 (hk:∀ w',St F0 w0 w' ps→Q (.int .i64 (IntKind.i64.wrap (be ys))) w'):qab.j3 0 t ((t.len:Nat):Int) 0 Q w:=by
 unfold qab.j3
 have hl:=(h.rdb t).1
 rw [qw] at hl
 refine loop2 (fun (i:Nat) (v i':Int) w'=>i'=i∧i≤ys.length∧v=IntKind.i64.wrap (be (ys.take i))∧St F0 w0 w' ps) (fun i=>ys.length - i) 0 ⟨rfl,by omega,rfl,h⟩ ?_
 clear h
 rintro i v i' w I μ ⟨rfl,hi,rfl,h⟩ hin
 unfold qab.b1
 refine qsc (fun g=>?_) (fun g=>?_)
 · have hiy:i < ys.length:=by omega
   have hc:=allB_getD hy hiy
   refine h.lx i rfl hiy ⟨by decide,qjc ?_⟩
   refine qx (qh (by omega) (by omega)) ?_
   refine qx (be_fold .i64 rfl 0 _ _ hc) ?_
   rw [← take_snoc hiy]
   refine qx (qh (by omega) (by omega)) ?_
   exact ⟨⟨rfl,rfl⟩,hin (i+1) _ _ _ ⟨by omega,by omega,rfl,h⟩ (by omega)⟩
 · have:i=ys.length:=by omega
   subst this
   rw [List.take_length]
   exact hk w h
theorem qab.c {n:Nat} {K:Ending→World→Prop} (h:St F0 w0 w ps) [PkF brA rb ps (xs,at',err) rest]
 (hk:∀ w',St F0 w0 w' (brA rb (xs,(tkS xs at' err n).2) :: rest)→K (.returned (.int .i64 (IntKind.i64.wrap (be (tkS xs at' err n).1)))) w'):Calls Tryz.prog 94 ⟨[.pointer (some ⟨rb,0,none⟩),.int .i64 (n:Int)]⟩ w K:=by
 refine qsb (qab.ok _ _ _ _ ?_)
 unfold qab qab.j1
 obtain ⟨s,h1,h2,h3,h4,h5,h⟩:=brA_o (rb:=rb) h
 refine qub.r h (by omega) h2 (by omega) (fun m w e1 e2 e3 g=>⟨⟨_,_,_⟩,rfl,?_⟩) (fun w hn h=>⟨⟨none,0,0⟩,rfl,?_⟩)
 · have e2:n=m:=by omega
   subst e2 e1
   have h:=g
   have et:tkS xs at' 0 n=((xs.drop at').take n,at'+n,0):=by unfold tkS; rw [if_pos ⟨rfl,by omega,by omega⟩,Int.toNat_natCast]
   rw [et] at hk
   haveI:=h.cutR s at' (at'+n) (s.cap - at') (ys:=(xs.drop at').take n) (by omega) (by omega) h2 (by rw [show at'+n - at'=n by omega])
   refine qab.loop (t:=⟨qfe s.a s.cap at' 1,at'+n - at',s.cap - at'⟩) (ys:=(xs.drop at').take n) h (fun x hx=>h4 x (List.mem_of_mem_drop (List.mem_of_mem_take hx))) (by simp; omega) fun w h=>?_
   exact hk w (brA_i (by omega) h2 h4 h5 h)
 · have et:tkS xs at' err n=([],at',if err=0 then 3 else err):=by unfold tkS; rw [if_neg (by omega)]
   rw [et] at hk
   haveI:=Rdb.nil (F0:=F0) (w0:=w0) (ps:=qt rb [.slice s.a s.len s.cap,.int .i64 (at':Int),.int .i64 (if err=0 then 3 else err)] :: qv 1 s (u8s xs) :: rest) 0
   refine qab.loop (t:=⟨none,0,0⟩) (ys:=[]) h (fun x hx=>by cases hx) (by simp) fun w h=>?_
   exact hk w (brA_i h1 h2 h4 h5 h)
theorem nuS_small {n:Nat} (hx:qzc xs) (hn:n≤4):IntKind.i64.wrap (be (tkS xs at' err n).1)=(nuS xs at' err n).1∧(nuS xs at' err n).2=(tkS xs at' err n).2:=by
 have h:=tkS_ok hx at' err n
 have h2:=qdk h.1 (n:=4) (by omega)
 have h3:(2:Int) ^ (8 * 4)=4294967296:=by decide
 rw [h3] at h2
 unfold nuS
 rw [if_neg (by omega),qh (by omega) (by omega)]
 exact ⟨rfl,rfl⟩
theorem qjd.c {K:Ending→World→Prop} (h:St F0 w0 w ps) [PkF brA rb ps (xs,at',err) rest] (hx:qzc xs)
 (hk:∀ w',St F0 w0 w' (brA rb (xs,(nuS xs at' err 4).2) :: rest)→K (.returned (.int .i64 (nuS xs at' err 4).1)) w'):Calls Tryz.prog 61 ⟨[.pointer (some ⟨rb,0,none⟩)]⟩ w K:=by
 refine qsb (qjd.ok _ _ _ ?_)
 unfold qjd
 obtain ⟨e1,e2⟩:=nuS_small (at':=at') (err:=err) hx (show 4≤4 by decide)
 refine qab.c (n:=4) h fun w h=>⟨_,rfl,?_⟩
 rw [← e2] at h
 rw [e1]
 exact hk w h
theorem qje.c {K:Ending→World→Prop} (h:St F0 w0 w ps) [PkF brA rb ps (xs,at',err) rest] (hx:qzc xs)
 (hk:∀ w',St F0 w0 w' (brA rb (xs,(nuS xs at' err 8).2) :: rest)→K (.returned (.int .i64 (nuS xs at' err 8).1)) w'):Calls Tryz.prog 93 ⟨[.pointer (some ⟨rb,0,none⟩)]⟩ w K:=by
 refine qsb (qje.ok _ _ _ ?_)
 unfold qje
 have hl0:at'≤xs.length:=by obtain ⟨s,h1,_⟩:=brA_o (rb:=rb) h; exact h1
 refine qab.c (n:=8) h fun w h=>⟨_,rfl,?_⟩
 have hd:((8:Nat):Int)=8:=rfl
 rw [hd] at h ⊢
 have hok:=tkS_ok hx at' err 8
 have h2:=qdk hok.1 (n:=8) (by omega)
 have h3:(2:Int) ^ (8 * 8)=18446744073709551616:=by decide
 rw [h3] at h2
 have hw:=wrap_i64_eq (be (tkS xs at' err 8).1)
 unfold nuS at hk
 rw [hd] at hk
 refine qsc (fun g=>?_) (fun g=>?_)
 · rw [if_pos (by omega)] at hk
   have hat:(tkS xs at' err 8).2=(at'+8,0):=by
    unfold tkS at g ⊢
    split
    · rfl
    · rename_i hn
      rw [if_neg hn] at g
      exact absurd g (by show ¬ IntKind.i64.wrap (be []) < 0; decide)
   rw [hat] at h
   obtain ⟨s,h1,h2,h3,h4,h5,h⟩:=brA_o (rb:=rb) h
   refine qgd (h.fI ?_)
   refine qx (qh (by omega) (by omega)) ?_
   refine qgd (h.fst trivial fun w h=>?_)
   refine qgd (h.fst trivial fun w h=>?_)
   rw [show ((at'+8:Nat):Int) - 8=(at':Int) by omega] at h
   exact hk w (brA_i hl0 h2 h4 h5 h)
 · rw [if_neg (by omega)] at hk
   rw [qh (by omega) (by omega)]
   exact hk w h
theorem qfd.c {n:Int} {K:Ending→World→Prop} (h:St F0 w0 w ps) [PkF brA rb ps (xs,at',err) rest]
 (hk:∀ s' w',St F0 w0 w' (rdA 1 s' (u8s (tkS xs at' err n).1) :: brA rb (xs,(tkS xs at' err n).2) :: rest)→K (.returned (.slice s'.a s'.len s'.cap)) w'):Calls Tryz.prog 64 ⟨[.pointer (some ⟨rb,0,none⟩),.int .i64 n]⟩ w K:=by
 refine qsb (qfd.ok _ _ _ _ ?_)
 unfold qfd
 obtain ⟨s,h1,h2,h3,h4,h5,h⟩:=brA_o (rb:=rb) h
 refine qub.r h (by omega) h2 (by omega) (fun m w e1 e2 e3 g=>⟨⟨_,_,_⟩,rfl,?_⟩) (fun w hn h=>⟨⟨none,0,0⟩,rfl,?_⟩)
 · subst e2 e1
   have h:=g
   have et:tkS xs at' 0 m=((xs.drop at').take m,at'+m,0):=by unfold tkS; rw [if_pos ⟨rfl,by omega,by omega⟩,Int.toNat_natCast]
   rw [et] at hk
   have hr:=(h.cutR s at' (at'+m) (s.cap - at') (ys:=(xs.drop at').take m) (by omega) (by omega) h2 (by rw [show at'+m - at'=m by omega])).rd h
   refine qhc.c h hr (by simp; omega) fun s1 w h=>⟨s1,rfl,?_⟩
   refine qzb.c h.ro (h.cap (by decide)) fun s2 _ _ h=>⟨s2,rfl,?_⟩
   exact hk s2 w (h.tail fun _ _ _ h=>brA_i (by omega) h2 h4 h5 h)
 · have et:tkS xs at' err n=([],at',if err=0 then 3 else err):=by unfold tkS; rw [if_neg (by omega)]
   rw [et] at hk
   refine qhc.c (s:=⟨none,0,0⟩) (xs:=[]) h ((Rdb.nil 0).rd h) (by simp) fun s1 w h=>⟨s1,rfl,?_⟩
   refine qzb.c h.ro (h.cap (by decide)) fun s2 _ _ h=>⟨s2,rfl,?_⟩
   exact hk s2 w (h.tail fun _ _ _ h=>brA_i h1 h2 h4 h5 h)
def brR (rb:Nat) (x:Sl × Nat × Int):As:=qt rb [.slice x.1.a x.1.len x.1.cap,.int .i64 (x.2.1:Int),.int .i64 x.2.2]
theorem brR_o {s:Sl} (h:St F0 w0 w ps) [PkF brR rb ps (s,at',err) rest]:St F0 w0 w (qt rb [.slice s.a s.len s.cap,.int .i64 (at':Int),.int .i64 err] :: rest):=h.toF brR rb
theorem qtb.c {s:Sl} {n:Int} {K:Ending→World→Prop} (h:St F0 w0 w ps) [PkF brR rb ps (s,at',err) rest] [Rdb F0 w0 s rest 1 (u8s xs)] (ha:at'≤xs.length) (hL:xs.length≤1099511627776) (hc:s.len≤s.cap)
 (hk:∀ s' w',St F0 w0 w' (qv 1 s' (u8s (tkS xs at' err n).1) :: brR rb (s,(tkS xs at' err n).2) :: rest)→K (.returned (.slice s'.a s'.len s'.cap)) w'):Calls Tryz.prog 36 ⟨[.pointer (some ⟨rb,0,none⟩),.int .i64 n]⟩ w K:=by
 refine qsb (qtb.ok _ _ _ _ ?_)
 unfold qtb
 have h:=brR_o (rb:=rb) h
 have hl:=(h.rdb s).1
 rw [qw] at hl
 have bad:∀ (e:Int) w',e=(if err=0 then 3 else err)→¬(err=0∧0≤n∧n≤(xs.length:Int) - at')→St F0 w0 w' (qt rb [.slice s.a s.len s.cap,.int .i64 (at':Int),.int .i64 e] :: rest)→K (.returned (.slice none 0 0)) w':=by
  intro e w e1 hn h
  subst e1
  have et:tkS xs at' err n=([],at',if err=0 then 3 else err):=by unfold tkS; rw [if_neg (by omega)]
  rw [et] at hk
  exact hk ⟨none,0,0⟩ w (h.nil 1)
 refine qgd (h.fI (qmd (fun g=>?_) (fun g=>?_)))
 · have g:err ≠ 0:=by simpa using g
   exact bad err w (by rw [if_neg g]) (fun e=>g e.1) h
 · have g:err=0:=by simpa using g
   subst g
   refine h.drewK fun w h=>?_
   refine qsc (fun g=>?_) (fun g=>?_)
   · refine qgd (h.fst trivial fun w h=>?_)
     exact bad 3 w rfl (by omega) h
   refine qgd (h.fL (qgd (h.fI ?_)))
   refine qx (qh (by simp only; omega) (by simp only; omega)) ?_
   refine qsc (fun g2=>?_) (fun g2=>?_)
   · simp only at g2
     refine qgd (h.fst trivial fun w h=>?_)
     exact bad 3 w rfl (by omega) h
   · simp only at g2
     obtain ⟨m,rfl⟩:∃ m:Nat,n=m:=⟨n.toNat,by omega⟩
     refine h.drewK fun w h=>?_
     refine qgd (h.fL (qgd (h.fI (qgd (h.fI ?_)))))
     refine qx (qh (by omega) (by omega)) ?_
     refine qnj (n:=at'+m) (by omega) (by simp only; omega) ?_
     refine qnj (n:=at') (by omega) (by omega) (qjc ?_)
     have et:tkS xs at' 0 m=((xs.drop at').take m,at'+m,0):=by unfold tkS; rw [if_pos ⟨rfl,by omega,by omega⟩,Int.toNat_natCast]
     rw [et] at hk
     haveI:=h.cutR s at' (at'+m) (s.cap - at') (ys:=(xs.drop at').take m) (by omega) (by omega) hc (by rw [show at'+m - at'=m by omega])
     refine h.clone (k:=.u8) (s2:=⟨qfe s.a s.cap at' 1,at'+m - at',s.cap - at'⟩) (ys:=(xs.drop at').take m) (by simp; omega) fun s1 w h=>?_
     refine qgd (h.fI ?_)
     refine qx (qh (by omega) (by omega)) ?_
     refine qgd (h.fst trivial fun w h=>?_)
     have h:=h.at1
     rw [← Int.natCast_add] at h
     exact hk s1 w h
theorem qp.c {s:Sl} {n:Nat} {K:Ending→World→Prop} (hx:qzc xs) (hn:n≤8) (h:St F0 w0 w ps) [PkF brR rb ps (s,at',err) rest] [Rdb F0 w0 s rest 1 (u8s xs)] (ha:at'≤xs.length) (hL:xs.length≤1099511627776) (hc:s.len≤s.cap)
 (hk:∀ w',St F0 w0 w' (brR rb (s,(nuS xs at' err n).2) :: rest)→K (.returned (.int .i64 (nuS xs at' err n).1)) w'):Calls Tryz.prog 35 ⟨[.pointer (some ⟨rb,0,none⟩),.int .i64 (n:Int)]⟩ w K:=by
 refine qsb (qp.ok _ _ _ _ ?_)
 unfold qp qp.j1
 have h:=brR_o (rb:=rb) h
 have h:St F0 w0 w (brR rb (s,at',err) :: rest):=h
 have hh:St F0 w0 w (qt rb [.slice s.a s.len s.cap,.int .i64 (at':Int),.int .i64 err] :: rest):=h
 refine qgd (hh.fI ?_)
 refine qtb.c (xs:=xs) (n:=n) h ha hL hc fun s1 w h=>⟨s1,rfl,?_⟩
 have hok:=tkS_ok hx at' err n
 have hb:=qdk hok.1 (n:=8) (by omega)
 have h3:(2:Int) ^ (8 * 8)=18446744073709551616:=by decide
 rw [h3] at hb
 unfold nuS at hk
 generalize tkS xs at' err n=t at h hok hb hk
 obtain ⟨ys,at2,err2⟩:=t
 simp only at h hok hb hk
 unfold qp.j2 qp.j4
 have hl:=h.len
 rw [qw] at hl
 refine loop2 (fun (i:Nat) (v i':Int) w'=>i'=i∧i≤ys.length∧v=IntKind.u64.wrap (be (ys.take i))∧St F0 w0 w' (qv 1 s1 (u8s ys) :: brR rb (s,at2,err2) :: rest)) (fun i=>ys.length - i) 0 ⟨rfl,by omega,rfl,h⟩ ?_
 clear h
 rintro i v i' w I μ ⟨rfl,hi,rfl,h⟩ hin
 unfold qp.b1
 refine qsc (fun g=>?_) (fun g=>?_)
 · have hiy:i < ys.length:=by omega
   have hcc:=allB_getD hok.1 hiy
   refine ⟨by decide,qjc ?_⟩
   refine h.lx i rfl hiy ?_
   refine qx (show IntKind.u64.wrap (ys.getD i 0)=ys.getD i 0 by rw [qle]; omega) ?_
   refine qx (be_fold .u64 rfl 0 _ _ hcc) ?_
   rw [← take_snoc hiy]
   refine qx (qh (by omega) (by omega)) ?_
   exact ⟨⟨rfl,rfl,rfl⟩,hin (i+1) _ _ _ ⟨by omega,by omega,rfl,h⟩ (by omega)⟩
 · have:i=ys.length:=by omega
   subst this
   rw [List.take_length]
   have ew:IntKind.u64.wrap (be ys)=be ys:=by rw [qle]; omega
   rw [ew]
   unfold qp.j3
   have h:St F0 w0 w (qt rb [.slice s.a s.len s.cap,.int .i64 (at2:Int),.int .i64 err2] :: rest):=h.drop
   refine qsc (fun g=>?_) (fun g=>?_)
   · rw [if_pos (by omega)] at hk
     refine qgd (h.fst trivial fun w h=>?_)
     refine qgd (h.fst trivial fun w h=>?_)
     exact hk w h
   · rw [if_neg (by omega)] at hk
     refine qx (qh (by omega) (by omega)) ?_
     exact hk w h
end
end Go.Proofs.YtonmgkkkiejicaaGreat
namespace Go.Proofs.YtonmgkkkiejicaaGreat
open Go Go.Proofs
set_option linter.unusedVariables false
set_option linter.unusedSimpArgs false
attribute [local irreducible] apK cpK mkK
section
variable {F0:List Nat} {w0 w:World} {ps rest:List As} {xs:List Int}
theorem qzb.d {s:Sl} {ys:List Int} {K:Ending→World→Prop} (h:St F0 w0 w (qv 1 s (u8s ys) :: ps))
 (hk:∀ s':Sl,s'.len=ys.length→s'.cap=s'.len→St F0 w0 w (rdA 1 s' (u8s ys) :: ps)→K (.returned (.slice s'.a s'.len s'.cap)) w):Calls Tryz.prog 28 ⟨[.slice s.a s.len s.cap]⟩ w K:=by
 have hl:=h.len
 rw [qw] at hl
 exact qzb.c h.ro (h.cap (by decide)) fun s' h1 h2 h=>hk s' (by omega) (by omega) h
end
end Go.Proofs.YtonmgkkkiejicaaGreat
namespace Go.Proofs.YtonmgkkkiejicaaGreat
open Go Go.Proofs Go.ChangeShapes Go.WideShapes Go.Deep
set_option linter.unusedVariables false
set_option linter.unusedSimpArgs false
section
variable {H:Type} {enc:TypeId × Value→H} {P:Program} {w:World} {base:Nat} {spare:Nat→Bool} {held:Bool}
theorem open_row {t e:TypeId} {k:IntKind} {fuel:Nat} {s:Sl} {x:DataW H × List MemPlace} (ht:P.underlying t=some (.slice e)) (he:P.underlying e=some (.int k)) (hc:P.cellsOf e=1)
 (h:DataW.trod enc P w base spare held fuel t [.slice s.a s.len s.cap]=some x) :
 ∃ xs:List Int,Rd w 1 s (xs.map (Value.int k))∧(∀ n ∈ xs,(Lit.int k n).wf=true)∧xs.length=s.len∧s.len≤s.cap:=by
 obtain ⟨sa,sl,sc⟩:=s
 rcases open_ints ht he hc h with ⟨hcs,_⟩ | ⟨a,l,c,zs,hcs,_,hl,hm,hz,_,hcell,hwz⟩
 · simp at hcs
   obtain ⟨rfl,rfl,rfl⟩:=hcs
   exact ⟨[],⟨rfl,fun i hi=>by simp at hi⟩,by simp,rfl,Nat.le_refl _⟩
 · simp at hcs
   obtain ⟨rfl,rfl,rfl⟩:=hcs
   have hz:sl≤zs.length:=by rw [hz]; split <;> omega
   refine ⟨zs.take sl,⟨by simp; omega,fun i hi=>⟨a,rfl,?_⟩⟩,fun n hn=>hwz n (List.mem_of_mem_take hn),by simp; omega,hl⟩
   simp only [List.length_map,List.length_take] at hi
   rw [hcell i (by omega)]
   rw [List.getElem?_map,List.getElem?_take,if_pos (by omega),List.getElem?_eq_getElem (show i < zs.length by omega)]
   simp [List.getD,List.getElem?_eq_getElem (show i < zs.length by omega)]
instance:Inhabited Sl:=⟨⟨none,0,0⟩⟩
end
end Go.Proofs.YtonmgkkkiejicaaGreat
namespace Go.Proofs.YtonmgkkkiejicaaGreat
open Go Go.Proofs
set_option linter.unusedVariables false
set_option linter.unusedSimpArgs false
attribute [local irreducible] apK cpK mkK
section
variable {F0:List Nat} {w0 w:World} {ps rest:List As} {xs:List Int}
theorem qhd.d {s:Sl} {v:Int} {K:Ending→World→Prop} (h:St F0 w0 w ps) [Rdb F0 w0 s ps 1 (u8s xs)] (hL:xs.length≤1099511627776)
 (hk:∀ s' w',s'.len=xs.length+4→s'.cap=s'.len→St F0 w0 w' (rdA 1 s' (u8s (xs ++ beJ 4 4 v)) :: ps)→K (.returned (.slice s'.a s'.len s'.cap)) w'):Calls Tryz.prog 23 ⟨[.slice s.a s.len s.cap,.int .i64 v]⟩ w K:=by
 refine qsb (qhd.ok _ _ _ _ ?_)
 unfold qhd
 exact qtc.c (n:=4) h (h.rdb s) hL (by decide) fun s' w h1 h2 h=>⟨s',rfl,hk s' w h1 h2 h⟩
theorem qqe.d {s:Sl} {v:Int} {K:Ending→World→Prop} (h:St F0 w0 w ps) [Rdb F0 w0 s ps 1 (u8s xs)] (hL:xs.length≤1099511627776)
 (hk:∀ s' w',s'.len=xs.length+8→s'.cap=s'.len→St F0 w0 w' (rdA 1 s' (u8s (xs ++ beJ 8 8 v)) :: ps)→K (.returned (.slice s'.a s'.len s'.cap)) w'):Calls Tryz.prog 25 ⟨[.slice s.a s.len s.cap,.int .i64 v]⟩ w K:=by
 refine qsb (qqe.ok _ _ _ _ ?_)
 unfold qqe
 exact qtc.c (n:=8) h (h.rdb s) hL (by decide) fun s' w h1 h2 h=>⟨s',rfl,hk s' w h1 h2 h⟩
end
end Go.Proofs.YtonmgkkkiejicaaGreat
namespace Go.Proofs.YtonmgkkkiejicaaGreat
open Go Go.Proofs
set_option linter.unusedVariables false
set_option linter.unusedSimpArgs false
def nmA (A P:List Nm):List Int:=P.map fun p=>(posN A p:Int)
theorem nmA_len (A P:List Nm):(nmA A P).length=P.length:=by simp [nmA]
def numA (q:List Int):Int:=if 0 < q.length then q.getD 0 0 else 1879048192
def numB (e:Nat) (q:List Int):Int:=if q.length=2 then q.getD 1 0 else if 2 < q.length then 2147483648+(e:Int) else 1879048192
def edw (q:List Int):List Int:=if 2 < q.length then (q.drop 1).dropLast ++ [q.getD (q.length - 1) 0+2147483648] else []
def wB (ws:List Int):List Int:=ws.flatMap (beJ 4 4)
theorem wB_len (ws:List Int):(wB ws).length=4 * ws.length:=by
 induction ws with
 | nil=>rfl
 | cons v ws ih =>
   show (beJ 4 4 v ++ wB ws).length=_
   rw [List.length_append,ih,qlc,List.length_cons]
   omega
theorem wB_app (a b:List Int):wB (a ++ b)=wB a ++ wB b:=by simp [wB]
theorem wB_one (v:Int):wB [v]=beJ 4 4 v:=by simp [wB]
theorem edw_len (q:List Int):(edw q).length=if 2 < q.length then q.length - 1 else 0:=by
 unfold edw
 split
 · simp; omega
 · rfl
def qC (A:List Nm) (c:Cm):List Int:=nmA A c.par
def eG (A:List Nm) (S:List Cm):List Int:=S.flatMap fun c=>edw (qC A c)
def drow (tree q:List Int) (e:Nat) (gd:Int):List Int:=tree ++ (beJ 4 4 (numA q) ++ (beJ 4 4 (numB e q) ++ beJ 8 8 gd))
def drw (A:List Nm) (g:Nm→Int) (S:List Cm) (j:Nat):List Int:=drow (S.getD j default).tree.1 (qC A (S.getD j default)) (eG A (S.take j)).length (g (S.getD j default).id * 17179869184+(S.getD j default).date)
def dG (A:List Nm) (g:Nm→Int) (S:List Cm) (i:Nat):List Int:=(List.range i).flatMap (drw A g S)
def fB (A:List Nm):List Int:=wB (fanL A)
theorem qug (A:List Nm):(fanL A).length=256:=by unfold fanL; rw [qyc]
theorem qem (A:List Nm):(fB A).length=1024:=by unfold fB; rw [wB_len,qug]
def nB (A:List Nm):List Int:=A.flatMap (·.1)
theorem qii (A:List Nm):(nB A).length=20 * A.length:=by
 induction A with
 | nil=>rfl
 | cons a A ih =>
   show (a.1 ++ nB A).length=_
   rw [List.length_append,ih,a.2.1,List.length_cons]
   omega
theorem nB_snoc (A:List Nm) (a:Nm):nB (A ++ [a])=nB A ++ a.1:=by simp [nB]
def wrdB:List (List Int):=[[79,73,68,70],[79,73,68,76],[67,68,65,84],[69,68,71,69]]
def ofs (l:List (List Int)) (i:Nat):Nat:=8+(l.length+1) * 12+(l.take i).flatten.length
def tb (l:List (List Int)) (i:Nat):List Int:=(List.range i).flatMap fun j=>wrdB.getD j [] ++ beJ 8 8 (ofs l j)
def hdB (n:Int):List Int:=[67,71,80,72] ++ [1,1,n,0]
def preB (l:List (List Int)):List Int:=hdB l.length ++ tb l l.length ++ [0,0,0,0] ++ beJ 8 8 (ofs l l.length) ++ l.flatten
def chkB (l:List (List Int)):List Int:=preB l ++ qie (preB l)
def chunkL (A:List Nm) (g:Nm→Int) (S:List Cm):List (List Int):=[fB A,nB A,dG A g S S.length] ++ if (eG A S).length=0 then [] else [wB (eG A S)]
def gB (S:List Cm) (g:Nm→Int):List Int:=chkB (chunkL (S.map (·.id)) g S)
theorem qne {a b:List Int}:qzc (a ++ b) ↔ qzc a∧qzc b:=by
 unfold qzc
 constructor
 · exact fun h=>⟨fun x hx=>h x (by simp [hx]),fun x hx=>h x (by simp [hx])⟩
 · rintro ⟨h1,h2⟩ x hx
   rcases List.mem_append.1 hx with hx | hx
   · exact h1 x hx
   · exact h2 x hx
theorem qsi {α:Type} {f:α→List Int} {l:List α} (h:∀ x ∈ l,qzc (f x)):qzc (l.flatMap f):=by
 intro y hy
 obtain ⟨x,hx,hy⟩:=List.mem_flatMap.1 hy
 exact h x hx y hy
theorem wB_ok (ws:List Int):qzc (wB ws):=qsi fun v _=>qbl 4 4 v
theorem nm_ok (a:Nm):qzc a.1:=a.2.2
theorem nB_ok (A:List Nm):qzc (nB A):=qsi fun a _=>nm_ok a
end Go.Proofs.YtonmgkkkiejicaaGreat
