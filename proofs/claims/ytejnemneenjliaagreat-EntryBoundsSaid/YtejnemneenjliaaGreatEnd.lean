/- Own texts as one, only what is reached (shake.py). -/
import Derived.Test.YtejnemneenjliaaGreatEnc
import Derived.DeepKeys4
import Derived.Maps.Keyed
import Derived.ProofKit
import Derived.Test.YtejnemneenjliaaGreatProg
import Derived.Test.YtejnemneenjliaaGreatRows
namespace Go.Proofs.YtejnemneenjliaaGreat
open Go Go.Proofs
set_option linter.unusedVariables false
set_option linter.unusedSimpArgs false
attribute [local irreducible] apK cpK mkK br
section
variable {F0:List Nat} {w0 w:World} {ps rest rest2:List As} {sb rb V N:Nat} {most:Int} {z:Z}
theorem hdec_nn (l:List Int) (b:List Bool):∀ f n v p,0≤(hdec l b f n v p).1:=by
 intro f
 induction f with
 | zero=>intro n v p; exact Int.le_refl _
 | succ f ih =>
   intro n v p
   rw [hdec]
   split
   · exact Int.le_refl _
   · split
     · exact Int.natCast_nonneg _
     · exact ih _ _ _
theorem zsym_nn {B:List Bool} (ls:List Int):0≤(quj ls B z).1:=by
 unfold quj
 split
 · exact Int.le_refl _
 · exact hdec_nn _ _ _ _ _ _
theorem qp.loop {ca cb:Nat} {ll dl:List Int} {K:Ending→World→Prop} (h:St F0 w0 w (ztA sb rb V N most z :: ps)) [PkF hcA ca ps ll rest] [PkF hcA cb ps dl rest2] (hN:N≤137438953472) (hp:z.1≤8 * N) (hm:most≤1000000) (hL:z.2.1.length≤1000000)
 (hk:∀ w',St F0 w0 w' (ztA sb rb V N most (qie ll dl (qi V (8 * N)) most (8 * N+1) z) :: ps)→K (.returned (.tuple ⟨[]⟩)) w') :
 qp.j2 (some ⟨sb,0,none⟩) (some ⟨ca,0,none⟩) (some ⟨cb,0,none⟩) (fun v w'=>K (.returned v) w') w:=by
 unfold qp.j2
 have hBl:(qi (V:Int) (8 * N)).length=8 * N:=qk _ _
 refine loop0 (fun (a:Nat × Z) w'=>8 * N - a.2.1 < a.1∧a.2.1≤8 * N∧a.2.2.1.length≤1000000∧qie ll dl (qi V (8 * N)) most a.1 a.2=qie ll dl (qi V (8 * N)) most (8 * N+1) z∧St F0 w0 w' (ztA sb rb V N most a.2 :: ps)) (fun a=>a.1) (8 * N+1,z) ⟨by simp only; omega,hp,hL,rfl,h⟩ ?_
 clear h hp hL
 rintro ⟨f,z1⟩ wL I μ ⟨hf,hp,hL,hz,h⟩ hin
 simp only at hf hp hL hz h hin ⊢
 unfold qp.b1
 obtain ⟨f,rfl⟩:∃ g,f=g+1:=⟨f - 1,by omega⟩
 rw [qie] at hz
 have h0:=h
 obtain ⟨o,h⟩:=qss h
 refine qtd (h.fI ?_)
 refine qne (fun g1=>?_) (fun g1=>?_)
 · have g1:z1.2.2=0:=by simpa using g1
   rw [if_neg (by simpa using g1)] at hz
   simp only at hz
   unfold qp.j3
   refine qpe.c (ls:=ll) (cb:=ca) h0 hN hp fun w hs h=>⟨_,rfl,?_⟩
   have so:=quh (B:=qi V (8 * N)) (z:=z1) ll
   have sp:(quj ll (qi V (8 * N)) z1).2.2.2=0→z1.1 < (quj ll (qi V (8 * N)) z1).2.1:=by
    unfold quj
    rw [if_neg (by simpa using g1)]
    exact (hdec_le ll (qi V (8 * N)) (qyh ll 15) 1 0 z1.1 (by rw [hBl]; exact hp)).2.2
   have sn:=zsym_nn (B:=qi V (8 * N)) (z:=z1) ll
   generalize quj ll (qi V (8 * N)) z1=s at h hz hs so sp sn ⊢
   obtain ⟨v,z2⟩:=s
   simp only at h hz hs so sp sn ⊢
   unfold qp.j4
   have h1:=h
   obtain ⟨o,h⟩:=qss h
   refine qtd (h.fI ?_)
   refine qne (fun g2=>?_) (fun g2=>?_)
   · have g2:z2.2.2 ≠ 0:=by simpa using g2
     rw [if_pos (Or.inl g2)] at hz
     rw [← hz] at hk
     unfold qp.j5
     exact qym (hk w h1)
   have g2:z2.2.2=0:=by simpa using g2
   have sp:=sp g2
   unfold qp.j5
   refine qne (fun g3=>?_) (fun g3=>?_)
   · rw [if_pos (Or.inr (by simpa using g3))] at hz
     rw [← hz] at hk
     exact hk w h1
   have g3:v ≠ 256:=by simpa using g3
   rw [if_neg (by rintro (e | e); exact e g2; exact g3 e)] at hz
   refine qnc (fun g4=>?_) (fun g4=>?_)
   · rw [if_pos g4] at hz
     refine que ?_
     rw [qck,show v % 256=v by omega]
     refine qqe.c h1 (by rw [so]; omega) fun w h=>⟨rfl,?_⟩
     refine ⟨⟨rfl,rfl,rfl⟩,hin (f,qqn most v z2) _ ⟨?_,?_,qnj _ hm (by rw [so]; exact hL),?_,h⟩ (by simp only; omega)⟩
     · simp only; rw [qdm]; omega
     · simp only; rw [qdm]; exact hs
     · exact hz
   · rw [if_neg g4] at hz
     have hfw:=qun (most:=most) (B:=qi V (8 * N)) dl v (z:=z2) (by rw [hBl]; exact hs)
     rw [zfwd,hBl] at hfw
     refine qr.c (cb:=cb) (dl:=dl) h1 hN hs hm (by rw [so]; exact hL) fun w h=>⟨rfl,?_⟩
     refine ⟨⟨rfl,rfl,rfl⟩,hin (f,zbehind dl (qi V (8 * N)) most v z2) _ ⟨?_,hfw.2,qtn dl v hm (by rw [so]; exact hL),?_,h⟩ (by simp only; omega)⟩
     · simp only; omega
     · exact hz
 · have g1:z1.2.2 ≠ 0:=by simpa using g1
   rw [if_pos g1] at hz
   rw [← hz] at hk
   exact hk wL h0
theorem zcode_p (ls:List Int):(qxg ls z).1=z.1:=by unfold qxg; split <;> rfl
theorem qdo (ls:List Int):(qxg ls z).2.1=z.2.1:=by unfold qxg; split <;> rfl
theorem qjk (ls:List Int) (h:z.2.2 ≠ 0):qxg ls z=z:=by unfold qxg; rw [if_neg (fun e=>h e.1)]
theorem qp.c {s t:Sl} {ll dl:List Int} {K:Ending→World→Prop} (h:St F0 w0 w (ztA sb rb V N most z :: ps)) [Rdb F0 w0 s ps 1 (ivs .i64 ll)] [Rdb F0 w0 t ps 1 (ivs .i64 dl)] (hll:256 < ll.length) (hN:N≤137438953472) (hp:z.1≤8 * N) (hm:most≤1000000) (hL:z.2.1.length≤1000000)
 (hk:∀ w',St F0 w0 w' (ztA sb rb V N most (zblk ll dl (qi V (8 * N)) most z) :: ps)→K (.returned (.tuple ⟨[]⟩)) w') :
 Calls Tryz.prog 304 ⟨[.pointer (some ⟨sb,0,none⟩),.slice s.a s.len s.cap,.slice t.a t.len t.cap]⟩ w K:=by
 refine qfc (qp.ok _ _ _ _ _ ?_)
 unfold qp
 unfold zblk at hk
 simp only [qk] at hk
 have j1:∀ (z1:Z) w,z1=(if z.2.2=0∧ll.getD 256 0=0 then qkd 2 z else z)→St F0 w0 w (ztA sb rb V N most z1 :: ps)→qp.j1 (some ⟨sb,0,none⟩) s t (fun v w'=>K (.returned v) w') w:=by
  intro z1 w e h
  have hp1:z1.1≤8 * N:=by rw [e]; split; exact hp; exact hp
  have hL1:z1.2.1.length≤1000000:=by rw [e]; split; exact hL; exact hL
  rw [← e] at hk
  clear e
  unfold qp.j1
  have bad:∀ (z2:Z) w,qxg dl (qxg ll z1)=z2→z2.2.2 ≠ 0→St F0 w0 w (ztA sb rb V N most z2 :: ps)→∀ pa pb,nz (some (⟨sb,0,none⟩:Addr)) fun a19=>ldI .i64 w (Addr.add a19 3) fun x20=>br ((x20:Int) != 0) (K (.returned (.tuple ⟨[]⟩)) w) (qp.j2 (some ⟨sb,0,none⟩) pa pb (fun v w'=>K (.returned v) w') w):=by
   intro z2 w e h2 h pa pb
   rw [e,if_pos h2] at hk
   have h0:=h
   obtain ⟨o,h⟩:=qss h
   exact qtd (h.fI (qde (by simpa using h2) (hk w h0)))
  refine qjd.c (s:=s) (ls:=ll) (half:=true) h (fun ca w e1 e2 h=>⟨_,rfl,?_⟩) (fun w e1 e2 h=>⟨_,rfl,?_⟩) (fun e1=>⟨_,rfl,?_⟩)
  · have ec:qxg ll z1=z1:=by unfold qxg; rw [if_neg (fun e=>e.2 e2)]
    refine qjd.c (s:=t) (ls:=dl) (half:=true) h (fun cb w e1 e3 h=>⟨_,rfl,?_⟩) (fun w e1 e3 h=>⟨_,rfl,?_⟩) (fun e3=>absurd e1 e3)
    · have ec2:qxg dl z1=z1:=by unfold qxg; rw [if_neg (fun e=>e.2 e3)]
      rw [ec,ec2,if_neg (by simpa using e1)] at hk
      have h0:=h
      obtain ⟨o,h⟩:=qss h
      refine qtd (h.fI (qle (by simpa using e1) ?_))
      exact qp.loop (ca:=ca) (cb:=cb) (ll:=ll) (dl:=dl) h0 hN hp1 hm hL1 fun w h=>hk w (h.tail fun _ _ _ h=>h.drop.drop)
    · refine bad (qkd 2 z1) w ?_ (qwg (by decide)) (h.tail fun _ _ _ h=>h.drop) _ _
      rw [ec]; unfold qxg; rw [if_pos ⟨e1,e3⟩]
  · have ec:qxg ll z1=qkd 2 z1:=by unfold qxg; rw [if_pos ⟨e1,e2⟩]
    have hne:(qkd 2 z1).2.2 ≠ 0:=qwg (by decide)
    refine qjd.c (s:=t) (ls:=dl) (half:=true) h (fun cb w e1 e3 h=>absurd e1 hne) (fun w e1 e3 h=>absurd e1 hne) (fun e3=>⟨_,rfl,?_⟩)
    exact bad _ w (by rw [ec,qjk _ hne]) hne h _ _
  · refine qjd.c (s:=t) (ls:=dl) (half:=true) h (fun cb w e2 e3 h=>absurd e2 e1) (fun w e2 e3 h=>absurd e2 e1) (fun e3=>⟨_,rfl,?_⟩)
    exact bad _ w (by rw [qjk ll e1,qjk _ e1]) e1 h _ _
 have h0:=h
 obtain ⟨o,h⟩:=qss h
 refine qtd (h.fI ?_)
 refine qne (fun g=>?_) (fun g=>?_)
 · have g:z.2.2=0:=by simpa using g
   refine h.lx (s:=s) 256 rfl hll ?_
   refine qne (fun g2=>?_) (fun g2=>?_)
   · refine qgc.c h0 fun w h=>⟨rfl,?_⟩
     exact j1 _ w (by rw [if_pos ⟨g,by simpa using g2⟩]) h
   · have g3:ll.getD 256 0 ≠ 0:=by intro e; rw [e] at g2; simp at g2
     exact j1 _ w (by rw [if_neg (fun e=>g3 e.2)]) h0
 · exact j1 _ w (by rw [if_neg (fun e=>by simp [e.1] at g)]) h0
theorem zst_len (hm:most≤1000000) {B:List Bool}:∀ n (z:Z),z.2.1.length≤1000000→(zst B most n z).2.1.length≤1000000:=by
 intro n
 induction n with
 | zero=>intro z h; exact h
 | succ n ih=>intro z h; rw [zst]; exact ih _ (qnj _ hm (by rw [qmd]; exact h))
theorem qtb.c {K:Ending→World→Prop} (h:St F0 w0 w (ztA sb rb V N most z :: ps)) (hN:N≤137438953472) (hp:z.1≤8 * N) (hm:most≤1000000) (hm0:0≤most) (hL:z.2.1.length≤1000000)
 (hk:∀ w',(zstored (qi V (8 * N)) most z).1≤8 * N→St F0 w0 w' (ztA sb rb V N most (zstored (qi V (8 * N)) most z) :: ps)→K (.returned (.tuple ⟨[]⟩)) w') :
 Calls Tryz.prog 303 ⟨[.pointer (some ⟨sb,0,none⟩)]⟩ w K:=by
 refine qfc (qtb.ok _ _ _ ?_)
 unfold qtb
 unfold zstored at hk
 simp only at hk
 obtain ⟨o,h⟩:=qss h
 refine qtd (h.fP ?_)
 have h:St F0 w0 w (rrA rb V N z.1 :: qzc sb [.pointer (some ⟨rb,0,none⟩),.slice o.a o.len o.cap,.int .i64 most,.int .i64 z.2.2] :: qcc 1 o (u8s z.2.1) :: ps):=h.at1
 refine qxf.c h (by omega) fun w h=>⟨rfl,?_⟩
 have h:St F0 w0 w (bitA rb (V,N,8 * ((z.1+7) / 8)) :: qzc sb [.pointer (some ⟨rb,0,none⟩),.slice o.a o.len o.cap,.int .i64 most,.int .i64 z.2.2] :: qcc 1 o (u8s z.2.1) :: ps):=h
 have h:=zt_c (p:=8 * ((z.1+7) / 8)) (out:=z.2.1) h.at1
 have hz0:(8 * ((z.1+7) / 8),z.2.1,z.2.2).1≤8 * N:=by simp only; omega
 have hz0L:((8 * ((z.1+7) / 8),z.2.1,z.2.2):Z).2.1.length≤1000000:=hL
 generalize ((8 * ((z.1+7) / 8),z.2.1,z.2.2):Z)=z0 at h hk hz0 hz0L
 refine qoc.c h hN hz0 fun w hg h=>⟨_,rfl,?_⟩
 have gl:=qkj (B:=qi V (8 * N)) (z:=z0) 16
 have go:=qmd (B:=qi V (8 * N)) (z:=z0) 16
 generalize qse (qi V (8 * N)) 16 z0=g at h hk hg gl go ⊢
 refine qoc.c h hN hg fun w hg2 h=>⟨_,rfl,?_⟩
 have go2:=qmd (B:=qi V (8 * N)) (z:=g.2) 16
 generalize qse (qi V (8 * N)) 16 g.2=g2 at h hk hg2 go2 ⊢
 have hgL:g2.2.2.1.length≤1000000:=by rw [go2,go]; exact hz0L
 unfold qtb.j1
 have h0:=h
 obtain ⟨o,h⟩:=qss h
 refine qtd (h.fI ?_)
 refine qne (fun g3=>?_) (fun g3=>?_)
 · have g3:g2.2.2.2 ≠ 0:=by simpa using g3
   rw [if_pos g3] at hk
   exact hk w hg2 h0
 have g3:g2.2.2.2=0:=by simpa using g3
 rw [if_neg (by simpa using g3)] at hk
 refine que ?_
 refine qne (fun g4=>?_) (fun g4=>?_)
 · rw [if_pos (by simpa using g4)] at hk
   exact qgc.c h0 fun w h=>⟨rfl,hk w hg2 h⟩
 rw [if_neg (by simpa using g4)] at hk
 have hol:=h.at2.len
 rw [ql] at hol
 have pl:(2:Int) ^ (16:Int).toNat=65536:=by decide
 rw [pl] at gl
 have h00:=h0.drew
 refine h.drewK fun w h=>?_
 have h0:=zt_c (p:=g2.2.1) h
 refine qtd (h.fI (qtd (h.fL ?_)))
 refine qn (qd (by simp only; omega) (by simp only; omega)) ?_
 refine qnc (fun g5=>?_) (fun g5=>?_)
 · have g5:g.1 > most - ((o.len:Nat):Int):=g5
   rw [if_pos (by omega)] at hk
   exact qgc.c h0 fun w h=>⟨rfl,hk w hg2 h⟩
 have g5:¬ g.1 > most - ((o.len:Nat):Int):=g5
 rw [if_neg (by omega)] at hk
 have h0:St F0 w0 w (ztA sb rb V N most g2.2 :: ps):=h0
 clear h hol g4 g5
 obtain ⟨n,hn⟩:∃ k:Nat,g.1=k:=⟨g.1.toNat,by omega⟩
 rw [hn] at hk gl ⊢
 rw [Int.toNat_natCast] at hk
 generalize g2.2=z2 at hk h0 hg2 hgL
 unfold qtb.j2
 refine qmg (fun (a:Nat × Z) (i':Int) w'=>i'=a.1∧a.1≤n∧a.2.1≤8 * N∧a.2.2.1.length≤1000000∧zst (qi V (8 * N)) most (n - a.1) a.2=zst (qi V (8 * N)) most n z2∧St F0 w0 w' (ztA sb rb V N most a.2 :: ps)) (fun a=>n - a.1) (0,z2) ⟨rfl,by simp,hg2,hgL,rfl,h0⟩ ?_
 clear h0 hg2 hgL
 rintro ⟨i,z3⟩ i' wL I μ ⟨rfl,hi,hp3,hL3,hz,h⟩ hin
 simp only at hi hp3 hL3 hz h hin ⊢
 unfold qtb.b1
 refine qnc (fun g1=>?_) (fun g1=>?_)
 · obtain ⟨f,hf⟩:∃ f,n - i=f+1:=⟨n - i - 1,by omega⟩
   rw [hf,zst] at hz
   refine qoc.c h hN hp3 fun w hg h=>⟨_,rfl,?_⟩
   have gl:=qkj (B:=qi V (8 * N)) (z:=z3) 8
   have go:=qmd (B:=qi V (8 * N)) (z:=z3) 8
   generalize qse (qi V (8 * N)) 8 z3=g at h hz hg gl go ⊢
   have pl:(2:Int) ^ (8:Int).toNat=256:=by decide
   rw [pl] at gl
   refine que ?_
   rw [qck,show g.1 % 256=g.1 by omega]
   refine qqe.c h (by rw [go]; omega) fun w h=>⟨rfl,?_⟩
   refine qn (qd (by omega) (by omega)) ?_
   refine ⟨⟨rfl,rfl⟩,hin (i+1,qqn most g.1 g.2) _ _ ⟨by simp,by simp only; omega,by simp only; rw [qdm]; exact hg,qnj _ hm (by rw [go]; exact hL3),?_,h⟩ (by simp only; omega)⟩
   simp only
   rw [show n - (i+1)=f by omega]
   exact hz
 · have:i=n:=by omega
   subst this
   rw [Nat.sub_self,zst] at hz
   rw [← hz] at hk
   exact hk wL hp3 h
end
end Go.Proofs.YtejnemneenjliaaGreat
namespace Go.Proofs.YtejnemneenjliaaGreat
set_option linter.unusedVariables false
set_option linter.unusedSimpArgs false
abbrev Tk:=Int × Int × Int
def tkN (t:Tk):Nat:=if t.2.1=0 then 1 else t.2.1.toNat
def tkBad (n:Nat) (t:Tk):Prop:=(t.2.1=0∧t.2.2 ≠ 0) ∨ (t.2.1 ≠ 0∧(t.1 ≠ 0 ∨ t.2.1 < 3 ∨ 258 < t.2.1 ∨ t.2.2 < 1 ∨ 32768 < t.2.2 ∨ (n:Int) < t.2.2))
instance (n:Nat) (t:Tk):Decidable (tkBad n t):=by unfold tkBad; infer_instance
def tkCopy (d:Int):Nat→List Int→List Int
 | 0,out=>out
 | k+1,out=>tkCopy d k (out ++ [out.getD (out.length - d.toNat) 0])
def tkExp (out:List Int) (t:Tk):List Int:=if t.2.1=0 then out ++ [t.1] else tkCopy t.2.2 t.2.1.toNat out
def tkAll (most:Int):List Int→List Tk→List Int × Int
 | out,[]=>(out,0)
 | out,t :: r=>if most - out.length < (tkN t:Int) then ([],5) else tkAll most (tkExp out t) r
def tkK (t:Tk):Nat:=if t.2.1=0 then 1 else if t.2.1 < 0 ∨ 258 < t.2.1 then 0 else t.2.1.toNat
theorem qoj (d:Int):∀ (k:Nat) (out:List Int),(tkCopy d k out).length=out.length+k:=by
 intro k
 induction k with
 | zero=>intro out; rfl
 | succ k ih=>intro out; rw [tkCopy,ih]; simp; omega
inductive qng (b:List Int):Nat→List Tk→Nat→Prop
 | nil (n:Nat):qng b n [] n
 | lit {n m:Nat} {r:List Tk} (h:n < b.length):qng b (n+1) r m→qng b n ((b.getD n 0,0,0) :: r) m
 | copy {n m k d:Nat} {r:List Tk} (h3:3≤k) (h258:k≤258) (hd:1≤d) (hdn:d≤n) (hdf:d≤32768) (hk:n+k≤b.length) (hs:∀ j,j < k→b.getD (n - d+j) 0=b.getD (n+j) 0) :
    qng b (n+k) r m→qng b n ((0,(k:Int),(d:Int)) :: r) m
theorem qng.le {b:List Int} {n m:Nat} {l:List Tk} (h:qng b n l m) (hn:n≤b.length):n≤m∧m≤b.length∧l.length≤m - n:=by
 induction h with
 | nil n=>exact ⟨Nat.le_refl _,hn,by simp⟩
 | lit h _ ih=>have:=ih (by omega); simp only [List.length_cons]; omega
 | copy h3 _ _ _ _ hk _ _ ih=>have:=ih hk; simp only [List.length_cons]; omega
theorem qbr {b:List Int} {n i:Nat} (h:i < n):(b.take n).getD i 0=b.getD i 0:=by simp [List.getD,List.getElem?_take,h]
theorem qfh {b:List Int} {n:Nat} (h:n < b.length):b.take (n+1)=b.take n ++ [b.getD n 0]:=by
 rw [List.take_succ_eq_append_getElem h]
 simp [List.getD,h]
theorem qnt {b:List Int} {d:Nat} (hd:1≤d):∀ (k n:Nat),d≤n→n+k≤b.length→(∀ j,j < k→b.getD (n - d+j) 0=b.getD (n+j) 0)→tkCopy d k (b.take n)=b.take (n+k):=by
 intro k
 induction k with
 | zero=>intro n _ _ _; rfl
 | succ k ih =>
   intro n hn hk hs
   have hl:(b.take n).length=n:=by rw [List.length_take]; omega
   rw [tkCopy,hl,Int.toNat_natCast,qbr (by omega)]
   have h0:=hs 0 (by omega)
   rw [Nat.add_zero,Nat.add_zero] at h0
   rw [h0,← qfh (by omega),ih (n+1) (by omega) (by omega) (fun j hj=>?_)]
   · rw [show n+1+k=n+(k+1) by omega]
   · have:=hs (j+1) (by omega)
     rw [show n+1 - d+j=n - d+(j+1) by omega,show n+1+j=n+(j+1) by omega]
     exact this
theorem qng.all {b:List Int} {n m:Nat} {l:List Tk} (h:qng b n l m) {most:Int} (hm:(b.length:Int)≤most):n≤b.length→∀ r,tkAll most (b.take n) (l ++ r)=tkAll most (b.take m) r:=by
 induction h with
 | nil n=>intro _ r; rfl
 | @lit n m r0 h _ ih =>
   intro hn r
   have e:tkN (b.getD n 0,0,0)=1:=rfl
   rw [List.cons_append,tkAll,e,if_neg (by rw [List.length_take]; omega)]
   have:tkExp (b.take n) (b.getD n 0,0,0)=b.take (n+1):=by unfold tkExp; rw [if_pos rfl,qfh h]
   rw [this]
   exact ih (by omega) r
 | @copy n m k d r0 h3 h258 hd hdn hdf hk hs _ ih =>
   intro hn r
   have e:tkN (0,(k:Int),(d:Int))=k:=by unfold tkN; simp; omega
   rw [List.cons_append,tkAll,e,if_neg (by rw [List.length_take]; omega)]
   have:tkExp (b.take n) (0,(k:Int),(d:Int))=b.take (n+k):=by
    unfold tkExp
    rw [if_neg (by simp; omega)]
    exact qnt hd k n hdn hk hs
   rw [this]
   exact ih hk r
theorem qng.size {b:List Int} {n m:Nat} {l:List Tk} (h:qng b n l m):n+(l.map tkK).sum=m:=by
 induction h with
 | nil n=>rfl
 | @lit n m r0 h _ ih =>
   have e:tkK (b.getD n 0,0,0)=1:=rfl
   rw [List.map_cons,List.sum_cons,e]; omega
 | @copy n m k d r0 h3 h258 hd hdn hdf hk hs _ ih =>
   have e:tkK (0,(k:Int),(d:Int))=k:=by
    unfold tkK
    rw [if_neg (by simp; omega),if_neg (by simp; omega)]
    simp
   rw [List.map_cons,List.sum_cons,e]; omega
theorem qng.append {b:List Int} {n m k:Nat} {l r:List Tk} (h:qng b n l m) (h2:qng b m r k):qng b n (l ++ r) k:=by
 induction h with
 | nil n=>exact h2
 | lit h _ ih=>exact qng.lit h (ih h2)
 | copy h3 h258 hd hdn hdf hk hs _ ih=>exact qng.copy h3 h258 hd hdn hdf hk hs (ih h2)
theorem qng.cut {b:List Int} {n m:Nat} {l:List Tk} (h:qng b n l m):∀ c,∃ k,qng b n (l.take c) k∧qng b k (l.drop c) m:=by
 induction h with
 | nil n=>intro c; exact ⟨n,by simpa using qng.nil n,by simpa using qng.nil n⟩
 | lit h hr ih =>
   intro c
   cases c with
   | zero=>exact ⟨_,qng.nil _,qng.lit h hr⟩
   | succ c =>
     obtain ⟨k,h1,h2⟩:=ih c
     exact ⟨k,qng.lit h h1,h2⟩
 | copy h3 h258 hd hdn hdf hk hs hr ih =>
   intro c
   cases c with
   | zero=>exact ⟨_,qng.nil _,qng.copy h3 h258 hd hdn hdf hk hs hr⟩
   | succ c =>
     obtain ⟨k,h1,h2⟩:=ih c
     exact ⟨k,qng.copy h3 h258 hd hdn hdf hk hs h1,h2⟩
end Go.Proofs.YtejnemneenjliaaGreat
namespace Go.Proofs.YtejnemneenjliaaGreat
open Go Go.Proofs
set_option linter.unusedVariables false
set_option linter.unusedSimpArgs false
attribute [local irreducible] apK cpK mkK br
theorem qeh:qzh.length=288:=by unfold qzh; simp only [List.length_append,List.length_replicate]
theorem qhq {i:Nat} (h:i < 288):qzh.getD i 0=if i < 144 then 8 else if i < 256 then 9 else if i < 280 then 7 else 8:=by
 unfold qzh
 rw [List.getD,List.getElem?_append,List.length_replicate]
 by_cases h1:i < 144
 · rw [if_pos h1,if_pos h1,List.getElem?_replicate,if_pos h1]; rfl
 rw [if_neg h1,if_neg h1,List.getElem?_append,List.length_replicate]
 by_cases h2:i < 256
 · rw [if_pos (by omega),if_pos h2,List.getElem?_replicate,if_pos (by omega)]; rfl
 rw [if_neg (by omega),if_neg h2,List.getElem?_append,List.length_replicate]
 by_cases h3:i < 280
 · rw [if_pos (by omega),if_pos h3,List.getElem?_replicate,if_pos (by omega)]; rfl
 rw [if_neg (by omega),if_neg h3,List.getElem?_replicate,if_pos (by omega)]; rfl
theorem qth:qve.length=32:=by unfold qve; simp only [List.length_replicate]
theorem qcs {i:Nat} (h:i < 32):qve.getD i 0=5:=by
 unfold qve
 rw [List.getD,List.getElem?_replicate,if_pos h]; rfl
section
variable {F0:List Nat} {w0 w:World} {ps rest rest2:List As} {sb rb V N:Nat} {most:Int} {z:Z}
theorem qzl.c {s:Sl} {cs:List Value} {K:Ending→World→Prop} (h:St F0 w0 w (rdA 1 s cs :: ps)) (hc:s.len≤s.cap)
 (hk:∀ s':Sl,s'.len=s.len→s'.cap=s.len→St F0 w0 w (rdA 1 s' cs :: ps)→K (.returned (.slice s'.a s'.len s'.cap)) w):Calls Tryz.prog 127 ⟨[.slice s.a s.len s.cap]⟩ w K:=by
 refine qfc (qsi.ok _ _ _ ?_)
 unfold qsi
 refine ⟨⟨by omega,by omega⟩,⟨by omega,by omega⟩,que ?_⟩
 refine hk ⟨_,_,_⟩ (by simp) (by simp) (h.recap ?_ (by simp))
 show qgf s.a _ 0 1=s.a
 unfold qgf
 split
 · rfl
 · cases s.a with
   | none=>rfl
   | some a=>simp [Addr.add]
theorem qu.c {K:Ending→World→Prop} (h:St F0 w0 w ps)
 (hk:∀ s t w',s.len=288→t.len=32→St F0 w0 w' (rdA 1 s (ivs .i64 qzh) :: rdA 1 t (ivs .i64 qve) :: ps)→K (.returned (.tuple ⟨[.slice s.a s.len s.cap,.slice t.a t.len t.cap]⟩)) w'):Calls Tryz.prog 258 ⟨[]⟩ w K:=by
 refine qfc (qu.ok _ _ ?_)
 unfold qu qu.j1 qu.j5
 have e0:qcc 1 ⟨none,0,0⟩ []=qcc 1 ⟨none,0,0⟩ (ivs .i64 (qzh.take 0)):=rfl
 refine qkg (fun (i:Nat) (o:Sl) (i':Int) w'=>i'=i∧i≤288∧St F0 w0 w' (qcc 1 o (ivs .i64 (qzh.take i)) :: ps)) (fun i=>288 - i) 0 ⟨rfl,by omega,h.nil 1⟩ ?_
 clear h
 rintro i o i' wL I μ ⟨rfl,hi,h⟩ hin
 unfold qu.b2
 refine qnc (fun g=>?_) (fun g=>?_)
 · have hi2:i < 288:=by omega
   have j9:∀ n:Int,n=qzh.getD i 0→qu.j9 o ⟨none,0,0⟩ n (i:Int) (fun v w'=>K (.returned v) w') (fun d' o' i' w'=>d'=⟨none,0,0⟩∧I o' i' w'∧μ o' i' w' < μ o (i:Int) wL) wL:=by
    intro n hn
    unfold qu.j9
    refine h.pushI (s:=o) (by rw [List.length_take]; omega) fun o2 w h=>?_
    unfold qu.j7
    refine qn (qd (by omega) (by omega)) ?_
    rw [hn,← qfh (by rw [qeh]; exact hi2)] at h
    exact ⟨rfl,hin (i+1) _ _ _ ⟨by omega,by omega,h⟩ (by omega)⟩
   have hg:=qhq hi2
   unfold qu.j6 qu.j8 qu.j10
   refine qnc (fun g1=>?_) (fun g1=>?_)
   · rw [if_neg (by omega)] at hg
     refine qnc (fun g2=>?_) (fun g2=>?_)
     · exact j9 9 (by rw [hg,if_pos (by omega)])
     · rw [if_neg (by omega)] at hg
       refine qnc (fun g3=>?_) (fun g3=>by omega)
       refine qnc (fun g4=>?_) (fun g4=>?_)
       · exact j9 7 (by rw [hg,if_pos (by omega)])
       · exact j9 8 (by rw [hg,if_neg (by omega)])
   · rw [if_pos (by omega)] at hg
     refine qsj ?_
     refine qnc (fun g3=>by omega) (fun g3=>?_)
     exact j9 8 hg.symm
 · have:i=288:=by omega
   subst this
   rw [List.take_of_length_le (by rw [qeh]; omega)] at h
   unfold qu.j2 qu.j4
   refine qkg (fun (i:Nat) (d:Sl) (i':Int) w'=>i'=i∧i≤32∧St F0 w0 w' (qcc 1 d (ivs .i64 (qve.take i)) :: qcc 1 o (ivs .i64 qzh) :: ps)) (fun i=>32 - i) 0 ⟨rfl,by omega,h.nil 1⟩ ?_
   clear h hin
   rintro i d i' wL2 I2 μ2 ⟨rfl,hi,h⟩ hin
   unfold qu.b1
   refine qnc (fun g=>?_) (fun g=>?_)
   · have hi2:i < 32:=by omega
     refine h.pushI (s:=d) (by rw [List.length_take]; omega) fun d2 w h=>?_
     refine qn (qd (by omega) (by omega)) ?_
     rw [show (5:Int)=qve.getD i 0 by rw [qcs hi2],← qfh (by rw [qth]; exact hi2)] at h
     exact ⟨rfl,hin (i+1) _ _ _ ⟨by omega,by omega,h⟩ (by omega)⟩
   · have:i=32:=by omega
     subst this
     rw [List.take_of_length_le (by rw [qth]; omega)] at h
     unfold qu.j3
     have c1:=h.cap (by decide)
     have c2:=h.at1.cap (by decide)
     have l1:=h.len
     have l2:=h.at1.len
     rw [ql,qth] at l1
     rw [ql,qeh] at l2
     refine qzl.c h.at1.ro c2 fun s h1 h2 h=>⟨s,rfl,?_⟩
     refine qzl.c h.at1.ro c1 fun t h3 h4 h=>⟨t,rfl,?_⟩
     exact hk s t wL2 (by omega) (by omega) h.at1
theorem zcoded_len {ll dl:List Int} {B:List Bool} (hm:most≤1000000):∀ f (z:Z),z.2.1.length≤1000000→(qie ll dl B most f z).2.1.length≤1000000:=by
 intro f
 induction f with
 | zero=>intro z h; exact h
 | succ f ih =>
   intro z h
   rw [qie]
   split
   · exact h
   · simp only
     split
     · rw [quh]; exact h
     · split
       · exact ih _ (qnj _ hm (by rw [quh]; exact h))
       · exact ih _ (qtn dl _ hm (by rw [quh]; exact h))
end
end Go.Proofs.YtejnemneenjliaaGreat
namespace Go.Proofs.YtejnemneenjliaaGreat
open Go Go.Proofs
set_option linter.unusedVariables false
set_option maxRecDepth 100000
def qy.j4 (lit_2 dist_4:Sl) (Q:VWP) (w:World):Prop :=
 Q (.tuple ⟨[sV lit_2,sV dist_4]⟩) w
def qy.b1 (lit_2 dist_4:Sl) (i_5:Int) (Q:VWP) (nx1:Sl→Sl→Int→WP) (w:World):Prop :=
 br (decide (i_5 < 32)) (
 ixS dist_4.a dist_4.len i_5 1 fun a1 =>
 st w a1 (.int .i64 5) fun w2 =>
 lt (IntKind.i64.wrap (i_5+1)) fun x3 =>
 nx1 lit_2 dist_4 x3 w2) (
 qy.j4 lit_2 dist_4 Q w)
def qy.l1 (lit_2 dist_4:Sl) (i_5:Int) (Q:VWP) (w:World):Prop :=
 ∃ (I:Int→WP) (μ:Int→World→Nat),I i_5 w∧∀ i_5:Int,∀ w:World,I i_5 w→qy.b1 lit_2 dist_4 i_5 Q (fun lit_2' dist_4' i_5' w'=>(lit_2'=lit_2∧dist_4'=dist_4)∧I i_5' w'∧μ i_5' w' < μ i_5 w) w
def qy.j5 (lit_2 dist_4:Sl) (i_5:Int) (Q:VWP) (w:World):Prop :=
 qy.l1 lit_2 dist_4 i_5 Q w
def qy.j3 (lit_2 dist_4:Sl) (Q:VWP) (w:World):Prop :=
 qy.j5 lit_2 dist_4 0 Q w
def qy.j2 (lit_2:Sl) (Q:VWP) (w:World):Prop :=
 mkK Tryz.prog 3 w 32 32 fun s4 w5 =>
 qy.j3 lit_2 s4 Q w5
def qy.b2 (lit_2:Sl) (i_3:Int) (Q:VWP) (nx2:Sl→Int→WP) (w:World):Prop :=
 br (decide (i_3 < 288)) (
 br (decide (i_3 < 144)) (
 ixS lit_2.a lit_2.len i_3 1 fun a6 =>
 st w a6 (.int .i64 8) fun w7 =>
 lt (IntKind.i64.wrap (i_3+1)) fun x8 =>
 nx2 lit_2 x8 w7) (
 br (decide (i_3 < 256)) (
 ixS lit_2.a lit_2.len i_3 1 fun a9 =>
 st w a9 (.int .i64 9) fun w10 =>
 lt (IntKind.i64.wrap (i_3+1)) fun x11 =>
 nx2 lit_2 x11 w10) (
 br (decide (i_3 < 280)) (
 ixS lit_2.a lit_2.len i_3 1 fun a12 =>
 st w a12 (.int .i64 7) fun w13 =>
 lt (IntKind.i64.wrap (i_3+1)) fun x14 =>
 nx2 lit_2 x14 w13) (
 ixS lit_2.a lit_2.len i_3 1 fun a15 =>
 st w a15 (.int .i64 8) fun w16 =>
 lt (IntKind.i64.wrap (i_3+1)) fun x17 =>
 nx2 lit_2 x17 w16)))) (
 qy.j2 lit_2 Q w)
def qy.l2 (lit_2:Sl) (i_3:Int) (Q:VWP) (w:World):Prop :=
 ∃ (I:Int→WP) (μ:Int→World→Nat),I i_3 w∧∀ i_3:Int,∀ w:World,I i_3 w→qy.b2 lit_2 i_3 Q (fun lit_2' i_3' w'=>(lit_2'=lit_2)∧I i_3' w'∧μ i_3' w' < μ i_3 w) w
def qy.j6 (lit_2:Sl) (i_3:Int) (Q:VWP) (w:World):Prop :=
 qy.l2 lit_2 i_3 Q w
def qy.j1 (lit_2:Sl) (Q:VWP) (w:World):Prop :=
 qy.j6 lit_2 0 Q w
def qy  (Q:VWP) (w:World):Prop :=
 mkK Tryz.prog 3 w 288 288 fun s18 w19 =>
 qy.j1 s18 Q w19
theorem qy.ok  (Q:VWP) (w:World) (h:qy  Q w):Calls Tryz.prog 274 ⟨[]⟩ w (Ret Q) :=
 qqc [.tmp 0,.tmp 1] qbe Tryz.func274 rfl rfl rfl rfl (.pr 1 [sL 2] (fun a w=>qy.j1 a Q w) (.sq [sL 2] (fun a w=>qy.j2 a Q w) (.sq [sL 2,sI 3] (fun a b w=>qy.j6 a b Q w) .lf (.bk (.lo [sL 2] [sI 3] (fun a b w=>qy.l2 a b Q w) (fun nx2 a b w=>qy.b2 a b Q nx2 w) fun nx2=>.lf))) (.sq [sL 2,sL 4] (fun a b w=>qy.j3 a b Q w) .lf (.sq [sL 2,sL 4] (fun a b w=>qy.j4 a b Q w) (.sq [sL 2,sL 4,sI 5] (fun a b c w=>qy.j5 a b c Q w) .lf (.bk (.lo [sL 2,sL 4] [sI 5] (fun a b c w=>qy.l1 a b c Q w) (fun nx1 a b c w=>qy.b1 a b c Q nx1 w) fun nx1=>.lf))) .lf)))) (by kernel_rfl) h
def qeg (sym_0:Int) (Q:VWP) (w:World):Prop :=
 nw w ⟨[.int .i64 3,.int .i64 4,.int .i64 5,.int .i64 6,.int .i64 7,.int .i64 8,.int .i64 9,.int .i64 10,.int .i64 11,.int .i64 13,.int .i64 15,.int .i64 17,.int .i64 19,.int .i64 23,.int .i64 27,.int .i64 31,.int .i64 35,.int .i64 43,.int .i64 51,.int .i64 59,.int .i64 67,.int .i64 83,.int .i64 99,.int .i64 115,.int .i64 131,.int .i64 163,.int .i64 195,.int .i64 227,.int .i64 258]⟩ 3 fun a1 w2 =>
 nw w2 ⟨[.int .i64 0,.int .i64 0,.int .i64 0,.int .i64 0,.int .i64 0,.int .i64 0,.int .i64 0,.int .i64 0,.int .i64 1,.int .i64 1,.int .i64 1,.int .i64 1,.int .i64 2,.int .i64 2,.int .i64 2,.int .i64 2,.int .i64 3,.int .i64 3,.int .i64 3,.int .i64 3,.int .i64 4,.int .i64 4,.int .i64 4,.int .i64 4,.int .i64 5,.int .i64 5,.int .i64 5,.int .i64 5,.int .i64 0]⟩ 3 fun a3 w4 =>
 br (decide (sym_0 < 257)) (
 Q (.tuple ⟨[.int .i64 0,.int .i64 0,.bool false]⟩) w4) (
 br (decide (sym_0 > 285)) (
 Q (.tuple ⟨[.int .i64 0,.int .i64 0,.bool false]⟩) w4) (
 lt (World.drew w4) fun w5 =>
 lt (IntKind.i64.wrap (sym_0 - 257)) fun x6 =>
 ixS (some a1) 29 x6 1 fun a7 =>
 ldI .i64 w5 a7 fun x8 =>
 lt (IntKind.i64.wrap (sym_0 - 257)) fun x9 =>
 ixS (some a3) 29 x9 1 fun a10 =>
 ldI .i64 w5 a10 fun x11 =>
 Q (.tuple ⟨[.int .i64 x8,.int .i64 x11,.bool true]⟩) w5))
theorem qeg.ok (sym_0:Int) (Q:VWP) (w:World) (h:qeg sym_0 Q w):Calls Tryz.prog 312 ⟨[.int .i64 sym_0]⟩ w (Ret Q) :=
 qqc [.tmp 2,.tmp 3,.tmp 4] qbe Tryz.func312 rfl rfl rfl rfl .lf (by kernel_rfl) h
def qkf (sym_0:Int) (Q:VWP) (w:World):Prop :=
 nw w ⟨[.int .i64 1,.int .i64 2,.int .i64 3,.int .i64 4,.int .i64 5,.int .i64 7,.int .i64 9,.int .i64 13,.int .i64 17,.int .i64 25,.int .i64 33,.int .i64 49,.int .i64 65,.int .i64 97,.int .i64 129,.int .i64 193,.int .i64 257,.int .i64 385,.int .i64 513,.int .i64 769,.int .i64 1025,.int .i64 1537,.int .i64 2049,.int .i64 3073,.int .i64 4097,.int .i64 6145,.int .i64 8193,.int .i64 12289,.int .i64 16385,.int .i64 24577]⟩ 3 fun a1 w2 =>
 nw w2 ⟨[.int .i64 0,.int .i64 0,.int .i64 0,.int .i64 0,.int .i64 1,.int .i64 1,.int .i64 2,.int .i64 2,.int .i64 3,.int .i64 3,.int .i64 4,.int .i64 4,.int .i64 5,.int .i64 5,.int .i64 6,.int .i64 6,.int .i64 7,.int .i64 7,.int .i64 8,.int .i64 8,.int .i64 9,.int .i64 9,.int .i64 10,.int .i64 10,.int .i64 11,.int .i64 11,.int .i64 12,.int .i64 12,.int .i64 13,.int .i64 13]⟩ 3 fun a3 w4 =>
 br (decide (sym_0 < 0)) (
 Q (.tuple ⟨[.int .i64 0,.int .i64 0,.bool false]⟩) w4) (
 br (decide (sym_0 > 29)) (
 Q (.tuple ⟨[.int .i64 0,.int .i64 0,.bool false]⟩) w4) (
 lt (World.drew w4) fun w5 =>
 ixS (some a1) 30 sym_0 1 fun a6 =>
 ldI .i64 w5 a6 fun x7 =>
 ixS (some a3) 30 sym_0 1 fun a8 =>
 ldI .i64 w5 a8 fun x9 =>
 Q (.tuple ⟨[.int .i64 x7,.int .i64 x9,.bool true]⟩) w5))
theorem qkf.ok (sym_0:Int) (Q:VWP) (w:World) (h:qkf sym_0 Q w):Calls Tryz.prog 313 ⟨[.int .i64 sym_0]⟩ w (Ret Q) :=
 qqc [.tmp 2,.tmp 3,.tmp 4] qbe Tryz.func313 rfl rfl rfl rfl .lf (by kernel_rfl) h
end Go.Proofs.YtejnemneenjliaaGreat
namespace Go.Proofs.YtejnemneenjliaaGreat
open Go Go.Proofs
set_option linter.unusedVariables false
set_option linter.unusedSimpArgs false
attribute [local irreducible] apK cpK mkK br
def tLenB:List Int:=[3,4,5,6,7,8,9,10,11,13,15,17,19,23,27,31,35,43,51,59,67,83,99,115,131,163,195,227,258]
def tLenX:List Int:=[0,0,0,0,0,0,0,0,1,1,1,1,2,2,2,2,3,3,3,3,4,4,4,4,5,5,5,5,0]
def tDisB:List Int:=[1,2,3,4,5,7,9,13,17,25,33,49,65,97,129,193,257,385,513,769,1025,1537,2049,3073,4097,6145,8193,12289,16385,24577]
def tDisX:List Int:=[0,0,0,0,1,1,2,2,3,3,4,4,5,5,6,6,7,7,8,8,9,9,10,10,11,11,12,12,13,13]
theorem zlen_t {v:Int} (h0:257≤v) (h1:v≤285):qlj v=(tLenB.getD (v - 257).toNat 0,tLenX.getD (v - 257).toNat 0,true):=by
 have:∀ k:Nat,k < 29→qlj (257+(k:Int))=(tLenB.getD k 0,tLenX.getD k 0,true):=by decide
 have h:=this (v - 257).toNat (by omega)
 rwa [show (257:Int)+((v - 257).toNat:Int)=v by omega] at h
theorem zdis_t {v:Int} (h0:0≤v) (h1:v≤29):qyi v=(tDisB.getD v.toNat 0,tDisX.getD v.toNat 0,true):=by
 have:∀ k:Nat,k < 30→qyi (k:Int)=(tDisB.getD k 0,tDisX.getD k 0,true):=by decide
 have h:=this v.toNat (by omega)
 rwa [show ((v.toNat:Nat):Int)=v by omega] at h
section
variable {F0:List Nat} {w0 w:World} {ps rest rest2:List As}
theorem qeg.c {v:Int} {K:Ending→World→Prop} (h:St F0 w0 w ps) (hk:∀ w',St F0 w0 w' ps→K (.returned (.tuple ⟨[.int .i64 (qlj v).1,.int .i64 (qlj v).2.1,.bool (qlj v).2.2]⟩)) w') :
 Calls Tryz.prog 312 ⟨[.int .i64 v]⟩ w K:=by
 refine qfc (qeg.ok _ _ _ ?_)
 unfold qeg
 refine h.new fun na w h=>?_
 refine h.new fun nb w h=>?_
 have h:St F0 w0 w (qzc nb (ivs .i64 tLenX) :: qzc na (ivs .i64 tLenB) :: ps):=h
 have no:¬ (257≤v∧v≤285)→K (.returned (.tuple ⟨[.int .i64 0,.int .i64 0,.bool false]⟩)) w:=fun e=>by
  have:=hk w h.drop.drop
  unfold qlj at this
  rw [if_pos (by omega)] at this
  exact this
 refine qnc (fun g=>no (by omega)) (fun g=>?_)
 refine qnc (fun g2=>no (by omega)) (fun g2=>?_)
 have h:=h.ownB (n:=29) rfl
 have h:=h.at1.ownB (n:=29) rfl
 refine h.drewK fun w h=>?_
 refine qn (qd (by omega) (by omega)) ?_
 refine h.lx (s:=⟨some ⟨na,0,none⟩,29,29⟩) (zs:=tLenB) (k:=.i64) (v - 257).toNat (by omega) (by show _ < 29; omega) ?_
 refine qn (qd (by omega) (by omega)) ?_
 refine h.lx (s:=⟨some ⟨nb,0,none⟩,29,29⟩) (zs:=tLenX) (k:=.i64) (v - 257).toNat (by omega) (by show _ < 29; omega) ?_
 have:=hk w h.drop.drop
 rw [zlen_t (by omega) (by omega)] at this
 exact this
theorem qkf.c {v:Int} {K:Ending→World→Prop} (h:St F0 w0 w ps) (hk:∀ w',St F0 w0 w' ps→K (.returned (.tuple ⟨[.int .i64 (qyi v).1,.int .i64 (qyi v).2.1,.bool (qyi v).2.2]⟩)) w') :
 Calls Tryz.prog 313 ⟨[.int .i64 v]⟩ w K:=by
 refine qfc (qkf.ok _ _ _ ?_)
 unfold qkf
 refine h.new fun na w h=>?_
 refine h.new fun nb w h=>?_
 have h:St F0 w0 w (qzc nb (ivs .i64 tDisX) :: qzc na (ivs .i64 tDisB) :: ps):=h
 have no:¬ (0≤v∧v≤29)→K (.returned (.tuple ⟨[.int .i64 0,.int .i64 0,.bool false]⟩)) w:=fun e=>by
  have:=hk w h.drop.drop
  unfold qyi at this
  rw [if_pos (by omega)] at this
  exact this
 refine qnc (fun g=>no (by omega)) (fun g=>?_)
 refine qnc (fun g2=>no (by omega)) (fun g2=>?_)
 have h:=h.ownB (n:=30) rfl
 have h:=h.at1.ownB (n:=30) rfl
 refine h.drewK fun w h=>?_
 refine h.lx (s:=⟨some ⟨na,0,none⟩,30,30⟩) (zs:=tDisB) (k:=.i64) v.toNat (by omega) (by show _ < 30; omega) ?_
 refine h.lx (s:=⟨some ⟨nb,0,none⟩,30,30⟩) (zs:=tDisX) (k:=.i64) v.toNat (by omega) (by show _ < 30; omega) ?_
 have:=hk w h.drop.drop
 rw [zdis_t (by omega) (by omega)] at this
 exact this
theorem qy.c {K:Ending→World→Prop} (h:St F0 w0 w ps)
 (hk:∀ s t w',s.len=288→t.len=32→St F0 w0 w' (qcc 1 t (ivs .i64 qve) :: qcc 1 s (ivs .i64 qzh) :: ps)→K (.returned (.tuple ⟨[.slice s.a s.len s.cap,.slice t.a t.len t.cap]⟩)) w'):Calls Tryz.prog 274 ⟨[]⟩ w K:=by
 refine qfc (qy.ok _ _ ?_)
 unfold qy
 have step:∀ (l:List Int) (n i:Nat) (v:Int),l.length=n→i < n→v=l.getD i 0→(l.take i ++ List.replicate (n - i) (0:Int)).set i v=l.take (i+1) ++ List.replicate (n - (i+1)) 0:=by
  intro l n i v hn hi hv
  rw [qfh (by omega),← hv,List.set_append_right _ _ (by rw [List.length_take]; omega),List.length_take,show i - min i l.length=0 by omega,show n - i=(n - (i+1))+1 by omega,List.replicate_succ,List.set_cons_zero,List.append_assoc]
  rfl
 refine h.makeI (n:=288) rfl rfl (by decide) fun s w hs _ h=>?_
 unfold qy.j1 qy.j6
 refine qmg (fun (i:Nat) (i':Int) w'=>i'=i∧i≤288∧St F0 w0 w' (qcc 1 s (ivs .i64 (qzh.take i ++ List.replicate (288 - i) 0)) :: ps)) (fun i=>288 - i) 0 ⟨rfl,by omega,h⟩ ?_
 clear h
 rintro i i' wL I μ ⟨rfl,hi,h⟩ hin
 unfold qy.b2
 refine qnc (fun g=>?_) (fun g=>?_)
 · have hi2:i < 288:=by omega
   have hg:=qhq hi2
   have fin:∀ v:Int,v=qzh.getD i 0→ixS s.a s.len (i:Int) 1 fun a=>Go.Proofs.YtejnemneenjliaaGreat.st wL a (.int .i64 v) fun w=>lt (IntKind.i64.wrap ((i:Int)+1)) fun x=>(s=s∧I x w∧μ x w < μ (i:Int) wL):=by
    intro v hv
    refine h.sx (s:=s) i rfl (by rw [List.length_append,List.length_take,List.length_replicate,qeh]; omega) fun w h=>?_
    rw [step qzh 288 i v qeh hi2 hv] at h
    refine qn (qd (by omega) (by omega)) ?_
    exact ⟨rfl,hin (i+1) _ _ ⟨by omega,by omega,h⟩ (by omega)⟩
   refine qnc (fun g1=>?_) (fun g1=>?_)
   · exact fin 8 (by rw [hg,if_pos (by omega)])
   rw [if_neg (by omega)] at hg
   refine qnc (fun g2=>?_) (fun g2=>?_)
   · exact fin 9 (by rw [hg,if_pos (by omega)])
   rw [if_neg (by omega)] at hg
   refine qnc (fun g3=>?_) (fun g3=>?_)
   · exact fin 7 (by rw [hg,if_pos (by omega)])
   · exact fin 8 (by rw [hg,if_neg (by omega)])
 · have:i=288:=by omega
   subst this
   rw [List.take_of_length_le (by rw [qeh]; omega),Nat.sub_self,List.replicate_zero,List.append_nil] at h
   unfold qy.j2
   clear hin
   refine h.makeI (n:=32) rfl rfl (by decide) fun t w ht _ h=>?_
   unfold qy.j3 qy.j5
   refine qmg (fun (i:Nat) (i':Int) w'=>i'=i∧i≤32∧St F0 w0 w' (qcc 1 t (ivs .i64 (qve.take i ++ List.replicate (32 - i) 0)) :: qcc 1 s (ivs .i64 qzh) :: ps)) (fun i=>32 - i) 0 ⟨rfl,by omega,h⟩ ?_
   clear h
   rintro i i' wL I μ ⟨rfl,hi,h⟩ hin
   unfold qy.b1
   refine qnc (fun g=>?_) (fun g=>?_)
   · have hi2:i < 32:=by omega
     refine h.sx (s:=t) i rfl (by rw [List.length_append,List.length_take,List.length_replicate,qth]; omega) fun w h=>?_
     rw [step qve 32 i 5 qth hi2 (qcs hi2).symm] at h
     refine qn (qd (by omega) (by omega)) ?_
     exact ⟨⟨rfl,rfl⟩,hin (i+1) _ _ ⟨by omega,by omega,h⟩ (by omega)⟩
   · have:i=32:=by omega
     subst this
     rw [List.take_of_length_le (by rw [qth]; omega),Nat.sub_self,List.replicate_zero,List.append_nil] at h
     unfold qy.j4
     exact hk s t wL hs ht h
theorem flit_ok:okL qzh:=by
 intro x hx
 unfold qzh at hx
 simp only [List.mem_append,List.mem_replicate] at hx
 omega
theorem fdist_ok:okL qve:=by
 intro x hx
 unfold qve at hx
 simp only [List.mem_replicate] at hx
 omega
theorem kr_flit:kr qzh=32768:=by kernel_rfl
theorem kr_fdist:kr qve=32768:=by kernel_rfl
end
end Go.Proofs.YtejnemneenjliaaGreat
namespace Go.Proofs.YtejnemneenjliaaGreat
open Go Go.Proofs
set_option linter.unusedVariables false
set_option linter.unusedSimpArgs false
def qcd (ls:List Int) (s:Nat):List Bool:=cbits (qbg ls s) (ls.getD s 0).toNat
theorem qej (ls:List Int) (s:Nat):(qcd ls s).length=(ls.getD s 0).toNat:=qxm _ _
section
variable {B:List Bool} {most:Int}
theorem quc {p:Nat} {l r:List Bool} (h:B.drop p=l ++ r):B.drop (p+l.length)=r:=by
 rw [← List.drop_drop,h,List.drop_left' rfl]
theorem qed {p:Nat} {l r:List Bool} (h:B.drop p=l ++ r):l.length≤B.length - p:=by
 have:=congrArg List.length h
 rw [List.length_drop,List.length_append] at this
 omega
theorem qqg {p:Nat} {l r:List Bool} {out:List Int} {n:Int} (h:B.drop p=l ++ r) (hn:n=l.length) (hl:l.length≤24) (hp:p≤B.length):qse B n (p,out,0)=((val l:Int),(p+l.length,out,0)):=by
 have:=qed h
 unfold qse
 rw [if_neg (by simp),if_pos (by simp only; omega),h,hn,Int.toNat_natCast,List.take_left' rfl]
theorem zsym_at {ls:List Int} {p s:Nat} {r:List Bool} {out:List Int} (hok:okL ls) (hkr:kr ls≤32768) (hs:s < ls.length) (h0:0 < ls.getD s 0) (h:B.drop p=qcd ls s ++ r):quj ls B (p,out,0)=((s:Int),(p+(qcd ls s).length,out,0)):=by
 have hm:ls.getD s 0=(((ls.getD s 0).toNat:Nat):Int):=by omega
 have h1:=hnext_code hok hs hm (by omega) (b:=B) (p:=p) (by rw [h]; exact List.take_left' (qej ls s)) (qit hok hkr hs hm (by omega))
 unfold quj
 rw [if_neg (by simp),h1,qej]
theorem zlit_at {p s:Nat} {r:List Bool} {out:List Int} (hs:s < 288) (h:B.drop p=qcd qzh s ++ r):quj qzh B (p,out,0)=((s:Int),(p+(qcd qzh s).length,out,0)) :=
 zsym_at flit_ok (by rw [kr_flit]; decide) (by rw [qeh]; exact hs) (by rw [qhq hs]; split; decide; split; decide; split <;> decide) h
theorem zdist_at {p s:Nat} {r:List Bool} {out:List Int} (hs:s < 32) (h:B.drop p=qcd qve s ++ r):quj qve B (p,out,0)=((s:Int),(p+(qcd qve s).length,out,0)) :=
 zsym_at fdist_ok (by rw [kr_fdist]; decide) (by rw [qth]; exact hs) (by rw [qcs hs]; decide) h
theorem zcp_full (p:Nat) (d:Int):∀ (n:Nat) (out:List Int),(out.length+n:Int)≤most→zcp most d n (p,out,0)=(p,tkCopy d n out,0):=by
 intro n
 induction n with
 | zero=>intro out _; rfl
 | succ n ih =>
   intro out h
   rw [zcp,if_neg (by simp),tkCopy]
   simp only
   unfold qqn
   rw [if_neg (by simp),if_neg (by simp only; omega)]
   simp only
   exact ih _ (by rw [List.length_append,List.length_singleton]; omega)
theorem zcp_bad (d:Int) (n:Nat) {z:Z} (h:z.2.2 ≠ 0):zcp most d n z=z:=by
 cases n with
 | zero=>rfl
 | succ n=>rw [zcp,if_pos h]
theorem zcp_short (p:Nat) (d:Int):∀ (n:Nat) (out:List Int),(out.length:Int)≤most→most < (out.length+n:Int)→(zcp most d n (p,out,0)).2.2=5:=by
 intro n
 induction n with
 | zero=>intro out h1 h2; omega
 | succ n ih =>
   intro out h1 h2
   rw [zcp,if_neg (by simp)]
   simp only
   unfold qqn
   rw [if_neg (by simp)]
   by_cases h3:most≤(out.length:Int)
   · rw [if_pos h3,zcp_bad _ _ (by simp)]
   · rw [if_neg h3]
     simp only
     exact ih _ (by rw [List.length_append,List.length_singleton]; omega) (by rw [List.length_append,List.length_singleton]; omega)
def symP (v:Int) (dist:Bool) (n e x:Int):Prop :=
 (dist=true∧0≤n∧n < 30∧∃ b,qyi n=(b,x,true)∧e=v - b∧b≤v∧v < b+2 ^ x.toNat∧0≤x) ∨
 (dist=false∧257≤n∧n≤285∧∃ b,qlj n=(b,x,true)∧e=v - b∧b≤v∧v < b+2 ^ x.toNat∧0≤x)
inductive Fx:List Bool→List Int→Prop
 | nil:Fx [] []
 | lit {bits:List Bool} {out:List Int} {b:Int} (h:Fx bits out) (h0:0≤b) (h1:b < 256):Fx (bits ++ qcd qzh b.toNat) (out ++ [b])
 | copy {bits:List Bool} {out:List Int} {n d s e x s2 e2 x2:Int} (h:Fx bits out) (h3:3≤n) (h258:n≤258) (hd:1≤d) (hdo:d≤out.length) (hs:symP n false s e x) (hs2:symP d true s2 e2 x2) :
    Fx (bits ++ (qcd qzh s.toNat ++ (qi e x.toNat ++ (qcd qve s2.toNat ++ qi e2 x2.toNat)))) (tkCopy d n.toNat out)
theorem qof {e x:Int} (h0:0≤e) (h1:e < 2 ^ x.toNat):((val (qi e x.toNat):Nat):Int)=e:=by
 rw [qxk]
 exact Int.emod_eq_of_lt h0 h1
theorem zlen_x (v:Int):(qlj v).2.1≤6:=by
 have:=(zlen_b v).2.2
 omega
theorem zdis_x (v:Int):(qyi v).2.1≤14:=by
 have:=(zdis_b v).2.2.1
 omega
theorem qxs {p:Nat} {r:List Bool} {out:List Int} {n d s e x s2 e2 x2:Int} (hn:3≤n) (hs:symP n false s e x) (hs2:symP d true s2 e2 x2) (hd:1≤d) (hp:p≤B.length)
 (h:B.drop p=qi e x.toNat ++ (qcd qve s2.toNat ++ (qi e2 x2.toNat ++ r))) :
 zbehind qve B most s (p,out,0)=zcp most d n.toNat (if (out.length:Int) < d then qkd 2 (p+((qi e x.toNat).length+((qcd qve s2.toNat).length+(qi e2 x2.toNat).length)),out,0) else (p+((qi e x.toNat).length+((qcd qve s2.toNat).length+(qi e2 x2.toNat).length)),out,0)):=by
 rcases hs with ⟨h1,_⟩ | ⟨_,hs0,hs1,b,hz,he,hb1,hb2,hx0⟩
 · cases h1
 rcases hs2 with ⟨_,hs20,hs21,b2,hz2,he2,hb3,hb4,hx20⟩ | ⟨h1,_⟩
 rotate_left
 · cases h1
 have hx:=zlen_x s
 have hx2:=zdis_x s2
 rw [hz] at hx
 rw [hz2] at hx2
 simp only at hx hx2
 have l1:=qed h
 have h':=quc h
 have l2:=qed h'
 have h'':=quc h'
 have l3:=qed h''
 unfold zbehind
 simp only [hz]
 unfold zok
 simp only [if_true]
 rw [qqg h (by rw [qk]; omega) (by rw [qk]; omega) hp]
 simp only
 rw [zdist_at (by omega) h']
 simp only
 rw [show ((s2.toNat:Nat):Int)=s2 by omega]
 simp only [hz2]
 simp only [if_true]
 rw [qqg h'' (by rw [qk]; omega) (by rw [qk]; omega) (by omega)]
 simp only
 rw [qof (by omega) (by omega),qof (by omega) (by omega),show b2+e2=d by omega,show b+e=n by omega]
 rw [show p+(qi e x.toNat).length+(qcd qve s2.toNat).length+(qi e2 x2.toNat).length=p+((qi e x.toNat).length+((qcd qve s2.toNat).length+(qi e2 x2.toNat).length)) by omega]
theorem qho {s:Nat} (hs:s < 288):1≤(qcd qzh s).length:=by
 rw [qej,qhq hs]
 split
 · decide
 · split
   · decide
   · split <;> decide
theorem qts {p:Nat} {r:List Bool} {out:List Int} {b:Int} (h0:0≤b) (h1:b < 256) (f:Nat) (h:B.drop p=qcd qzh b.toNat ++ r) :
 qie qzh qve B most (f+1) (p,out,0)=qie qzh qve B most f (qqn most b (p+(qcd qzh b.toNat).length,out,0)):=by
 rw [qie,if_neg (by simp)]
 simp only
 rw [zlit_at (by omega) h]
 simp only
 rw [if_neg (by omega),if_pos (by omega),show ((b.toNat:Nat):Int)=b by omega]
theorem qsq {p:Nat} {r:List Bool} {out:List Int} {s:Int} (h0:257≤s) (h1:s≤285) (f:Nat) (h:B.drop p=qcd qzh s.toNat ++ r) :
 qie qzh qve B most (f+1) (p,out,0)=qie qzh qve B most f (zbehind qve B most s (p+(qcd qzh s.toNat).length,out,0)):=by
 rw [qie,if_neg (by simp)]
 simp only
 rw [zlit_at (by omega) h]
 simp only
 rw [if_neg (by omega),if_neg (by omega),show ((s.toNat:Nat):Int)=s by omega]
theorem qus (f:Nat) {z:Z} (h:z.2.2 ≠ 0):qie qzh qve B most f z=z:=by
 cases f with
 | zero=>rfl
 | succ f=>rw [qie,if_pos h]
theorem qbn {n s e x:Int} (h:symP n false s e x):257≤s∧s≤285:=by
 rcases h with ⟨h1,_⟩ | ⟨_,h1,h2,_⟩
 · cases h1
 · exact ⟨h1,h2⟩
theorem Fx.dec {bits:List Bool} {out:List Int} (h:Fx bits out):∀ {p:Nat} {r:List Bool},p≤B.length→B.drop p=bits ++ r→(out.length:Int)≤most →
 ∃ k,k≤bits.length∧∀ f,qie qzh qve B most (f+k) (p,[],0)=qie qzh qve B most f (p+bits.length,out,0):=by
 induction h with
 | nil=>intro p r hp hd hm; exact ⟨0,Nat.le_refl _,fun f=>rfl⟩
 | @lit bits out b h h0 h1 ih =>
   intro p r hp hd hm
   rw [List.length_append,List.length_singleton] at hm
   rw [List.append_assoc] at hd
   obtain ⟨k,hk,ih⟩:=ih hp hd (by omega)
   have hs:=qho (s:=b.toNat) (by omega)
   refine ⟨k+1,by rw [List.length_append]; omega,fun f=>?_⟩
   rw [show f+(k+1)=(f+1)+k by omega,ih,qts h0 h1 f (quc hd)]
   unfold qqn
   rw [if_neg (by simp),if_neg (by simp only; omega),List.length_append,Nat.add_assoc]
 | @copy bits out n d s e x s2 e2 x2 h h3 h258 hdd hdo hs hs2 ih =>
   intro p r hp hd hm
   rw [qoj] at hm
   rw [List.append_assoc] at hd
   obtain ⟨k,hk,ih⟩:=ih hp hd (by omega)
   have hr:=qbn hs
   have hsp:=qho (s:=s.toNat) (by omega)
   refine ⟨k+1,by simp only [List.length_append]; omega,fun f=>?_⟩
   have l1:=qed hd
   have hd2:=quc hd
   rw [List.append_assoc] at hd2
   have l2:=qed hd2
   have hd3:=quc hd2
   simp only [List.append_assoc] at hd3
   rw [show f+(k+1)=(f+1)+k by omega,ih,qsq hr.1 hr.2 f hd2,qxs h3 hs hs2 hdd (by omega) hd3,if_neg (by omega),zcp_full _ _ _ _ (by omega)]
   simp only [List.length_append,Nat.add_assoc]
theorem Fx.short {bits:List Bool} {out:List Int} (h:Fx bits out):∀ {p:Nat} {r:List Bool},p≤B.length→B.drop p=bits ++ r→0≤most→most < (out.length:Int) →
 ∀ f,(qie qzh qve B most (f+bits.length) (p,[],0)).2.2=5:=by
 induction h with
 | nil=>intro p r hp hd h0 hm; simp at hm; omega
 | @lit bits out b h h0 h1 ih =>
   intro p r hp hd hm0 hm
   rw [List.append_assoc] at hd
   have hs:=qho (s:=b.toNat) (by omega)
   intro f
   rw [List.length_append]
   by_cases hle:(out.length:Int)≤most
   · obtain ⟨k,hk,hdec⟩:=Fx.dec (most:=most) h hp hd hle
     rw [List.length_append,List.length_singleton] at hm
     rw [show f+(bits.length+(qcd qzh b.toNat).length)=((f+(bits.length - k)+((qcd qzh b.toNat).length - 1))+1)+k by omega,hdec,qts h0 h1 _ (quc hd)]
     unfold qqn
     rw [if_neg (by simp),if_pos (by simp only; omega),qus _ (by simp)]
   · rw [show f+(bits.length+(qcd qzh b.toNat).length)=(f+(qcd qzh b.toNat).length)+bits.length by omega]
     exact ih hp hd hm0 (by omega) _
 | @copy bits out n d s e x s2 e2 x2 h h3 h258 hdd hdo hs hs2 ih =>
   intro p r hp hd hm0 hm
   rw [List.append_assoc] at hd
   have hr:=qbn hs
   have hsp:=qho (s:=s.toNat) (by omega)
   intro f
   rw [qoj] at hm
   rw [List.length_append,List.length_append]
   by_cases hle:(out.length:Int)≤most
   · obtain ⟨k,hk,hdec⟩:=Fx.dec (most:=most) h hp hd hle
     have l1:=qed hd
     have hd2:=quc hd
     rw [List.append_assoc] at hd2
     have l2:=qed hd2
     have hd3:=quc hd2
     simp only [List.append_assoc] at hd3
     generalize (qi e x.toNat ++ (qcd qve s2.toNat ++ qi e2 x2.toNat)).length=q
     rw [show f+(bits.length+((qcd qzh s.toNat).length+q))=((f+(bits.length - k)+((qcd qzh s.toNat).length - 1)+q)+1)+k by omega,hdec,qsq hr.1 hr.2 _ hd2,qxs h3 hs hs2 hdd (by omega) hd3,if_neg (by omega)]
     have h5:=zcp_short (most:=most) (p+bits.length+(qcd qzh s.toNat).length+((qi e x.toNat).length+((qcd qve s2.toNat).length+(qi e2 x2.toNat).length))) d n.toNat out hle (by omega)
     rw [qus _ (by rw [h5]; decide),h5]
   · rw [show f+(bits.length+((qcd qzh s.toNat).length+(qi e x.toNat ++ (qcd qve s2.toNat ++ qi e2 x2.toNat)).length))=(f+((qcd qzh s.toNat).length+(qi e x.toNat ++ (qcd qve s2.toNat ++ qi e2 x2.toNat)).length))+bits.length by omega]
     exact ih hp hd hm0 (by omega) _
end
end Go.Proofs.YtejnemneenjliaaGreat
namespace Go.Proofs.YtejnemneenjliaaGreat
open Go Go.ChangeShapes Go.WideShapes Go.ChangeAt Go.RowKit
set_option maxRecDepth 100000
set_option linter.unusedSimpArgs false
set_option linter.unusedVariables false
theorem strip_cut (rest : List (List Char)) : stripLifts liftWords ("cut".toList :: rest) = ([], "cut".toList :: rest) := by rfl
theorem make_of (P : Program) (rest : List (List Char)) (h : behindMainWord (wordsSigns P.initOrder.toList) = "cut".toList :: rest) : P.make = some .cut := by
 unfold Program.make
 rw [h]
 rfl
theorem lifts_of (P : Program) (rest : List (List Char)) (h : behindMainWord (wordsSigns P.initOrder.toList) = "cut".toList :: rest) : P.liftsFinal = false := by
 unfold Program.liftsFinal Program.headLifts
 rw [h,strip_cut]
 rfl
theorem enter_of (P : Program) (rest : List (List Char)) (h : behindMainWord (wordsSigns P.initOrder.toList) = "cut".toList :: rest) (h1 : P.laysLater = false) (h2 : P.bearsReflect = false) (h3 : P.doorRows = []) : P.mayEnter = true := by
 unfold Program.mayEnter
 rw [h]
 simp only [strip_cut,h1,h2]
 unfold Program.doorFits
 rw [h3]
 rfl
theorem joined_of {P:Program} {f:FuncId} {fn:Func} {s:ChangeSpec} {c:OpenClaim}
 (k1:c.wf (OpenSpec.ofChange s)=true) (k2:laidOutB P=true) (k3:mapsRowed P=true) (k4:fn.params.all (P.readableRec ·)=true) (k5:namedTie P c.named s.vars=true)
 (k6:(c.stops == [])=true) (k7:(P.stops == [])=true) (k8:(c.knobs == [])=true) (k9:(P.stopKnobs == [])=true)
 (k10:(c.inPlace == P.inPlace f)=true) (k11:(c.unfollowed == P.unfollowed f)=true) (k12:(c.recurses == P.recurses f)=true) (k13:(c.named == P.varsNamed f)=true)
 (k14:(c.maps == (fn.params.toList ++ s.plain.varTypes P).any (P.mapsRec ·))=true) (k15:(c.ifaces == (fn.params.toList ++ s.plain.varTypes P).any (P.ifacesRec ·))=true) (k16:(c.mapsOut == P.mapsAmong fn.resultTypes.toList)=true)
 (k17:(c.loops == (fn.params.toList ++ s.plain.varTypes P).any (P.loopsFrom ·))=true) (k18:(c.wideKeys == (fn.params.toList ++ s.plain.varTypes P ++ fn.resultTypes.toList).any (P.wideKeysFrom ·))=true)
 (k19:s.vars.all (P.varReadable ·)=true) (k20:fn.resultTypes.all (fun t=>P.readableRec t && decide (t < P.types.size))=true) (k21:(c.ifacesOut == fn.resultTypes.toList.any (P.ifacesRec ·))=true) (k22:(c.loopsOut == fn.resultTypes.toList.any (P.loopsFrom ·))=true)
 (k23:(c.plainKeys == P.plainKeys)=true) (k24:c.shortTexts.isNone=true) (k25:P.stopsHeard=true) (k26:P.mayEnter=true) (k27:(c.lifted == P.liftsFinal)=true) (k28:(P.make == some c.make)=true)
 (k29:(c.kinds == (if c.domain.isEmpty then [] else fn.params.toList.map fun t=>match P.underlying t with | some (.int k)=>some k | _=>none))=true) (k30:(c.pinned == c.pinnedBy)=true)
 (k31:(c.veiled == (fn.params.toList ++ s.plain.varTypes P ++ fn.resultTypes.toList).any (P.veiledRec ·))=true) (k32:c.veiledFits P fn.params.toList (fn.params.toList ++ s.plain.varTypes P ++ fn.resultTypes.toList)=true):joinedFacts P f fn s c=true:=by
 unfold joinedFacts
 rw [k1,k2,k3,k4,k5,k6,k7,k8,k9,k10,k11,k12,k13,k14,k15,k16,k17,k18,k19,k20,k21,k22,k23,k24,k25,k26,k27,k28,k30,k31,k32]
 simp only [Bool.true_and,Bool.and_true]
 exact k29
theorem head_ex {α:Type} {a:α} {l:List α} (h:l.head?=some a):∃ r,l=a :: r:=by
 cases l with
 | nil=>cases h
 | cons b r=>simp at h; subst h; exact ⟨r,rfl⟩
theorem init_eq:Tryz.prog.initOrder=String.ofList (List.map Char.ofNat [104,97,114,110,101,115,115,32,102,52,97,99,55,99,97,50,99,101,100,52,56,56,98,98,54,51,56,57,99,57,54,102,51,53,51,48,53,51,49,54,53,97,57,56,50,57,97,55,57,57,50,54,99,57,99,101,99,102,57,48,49,97,54,97,56,102,55,99,50,52,52,48,32,99,117,116,32,97,116,32,116,114,111,118,101,47,116,114,111,118,101,108,97,119,49,56,46,77,105,100,120,79,114,100,101,114,32,116,114,111,118,101,47,116,114,111,118,101,108,97,119,49,56,46,77,105,100,120,76,101,97,115,116,32,116,114,111,118,101,47,116,114,111,118,101,108,97,119,49,56,46,77,105,100,120,66,121,116,101,115,32,116,114,111,118,101,47,116,114,111,118,101,108,97,119,49,57,46,71,114,97,112,104,66,117,105,108,100,115,32,116,114,111,118,101,47,116,114,111,118,101,108,97,119,49,57,46,71,114,97,112,104,66,121,116,101,115,32,116,114,111,118,101,47,116,114,111,118,101,108,97,119,49,57,46,71,114,97,112,104,67,108,111,115,101,115,32,116,114,111,118,101,47,116,114,111,118,101,108,97,119,49,52,46,69,110,116,114,121,72,101,97,100,115,32,116,114,111,118,101,47,116,114,111,118,101,108,97,119,49,52,46,69,110,116,114,121,66,97,99,107,32,116,114,111,118,101,47,116,114,111,118,101,108,97,119,49,52,46,69,110,116,114,121,82,111,119,115,32,116,114,111,118,101,47,116,114,111,118,101,108,97,119,49,52,46,69,110,116,114,121,66,111,117,110,100,115,32,116,114,111,118,101,47,116,114,111,118,101,108,97,119,49,53,46,80,97,99,107,66,97,99,107,32,116,114,111,118,101,47,116,114,111,118,101,108,97,119,49,53,46,80,97,99,107,67,111,117,110,116,115]):=by kernel_rfl
theorem qkp : ∃ rest, behindMainWord (wordsSigns Tryz.prog.initOrder.toList) = "cut".toList :: rest := by
 rw [init_eq,String.toList_ofList]
 exact head_ex (by kernel_rfl)
theorem f_make:Tryz.prog.make=some .cut:=by
 obtain ⟨r,h⟩:=qkp
 exact make_of _ r h
theorem f_lifts:Tryz.prog.liftsFinal=false:=by
 obtain ⟨r,h⟩:=qkp
 exact lifts_of _ r h
theorem f_later:Tryz.prog.laysLater=false:=by kernel_rfl
theorem f_refl:Tryz.prog.bearsReflect=false:=by kernel_rfl
theorem f_doors:Tryz.prog.doorRows=[]:=by kernel_rfl
theorem f_enter:Tryz.prog.mayEnter=true:=by
 obtain ⟨r,h⟩:=qkp
 exact enter_of _ r h f_later f_refl f_doors
theorem f_laid:laidOutB Tryz.prog=true:=by kernel_rfl
theorem f_maps:mapsRowed Tryz.prog=true:=by kernel_rfl
theorem f_stops:(Tryz.prog.stops == [])=true:=by kernel_rfl
theorem f_knobs:(Tryz.prog.stopKnobs == [])=true:=by kernel_rfl
theorem f_heard:Tryz.prog.stopsHeard=true:=by kernel_rfl
theorem f_own:ownKnob Tryz.prog.godebug=none:=by kernel_rfl
end Go.Proofs.YtejnemneenjliaaGreat
namespace Go.Proofs.YtejnemneenjliaaGreat
open Go Go.Proofs Go.ChangeShapes Go.WideShapes Go.MapKept Go.Maps
set_option linter.unusedVariables false
set_option linter.unusedSimpArgs false
theorem keyed_deep {P:Program} (hl:laidOutB P=true) {m:Nat} (hm:m+1≤10000) {k:TypeId} (hrow:k < P.types.size) (hk:P.keyTypeAt m k=true) (hwide:(match P.underlying k with | some (.array _ _) | some (.struct _)=>true | _=>false)=true):Keyed P k :=
 Keyed.of_law (deep_law_laid hl hm hrow hk hwide)
def kvs (es:Array MapEntry):List (Value × Value):=es.toList.map fun e=>(e.key,e.val)
section
variable {P:Program} {w:World} {k e t:TypeId} {b:Nat} {es:Array MapEntry} {clock:Nat}
theorem map_look (K:Keyed P k) (ht:P.underlying t=some (.map k e)) (hb:w.heap[b]?=some (.map es clock)) (hks:∀ p ∈ kvs es,∃ l,keyOf P k p.1=some l) {z key:Value} (c:Bool) (hz:(zeroValue e).run P w=.ok z w) (hkey:∃ l,keyOf P k key=some l) :
 ((Instr.lookup t (.map (some b)) key c).run P w=.ok (if c then .tuple #[z,.bool false] else z) w∧∀ p ∈ kvs es,p.1 ≠ key) ∨
 ∃ (j:Nat) (p:Value × Value),(kvs es)[j]?=some p∧p.1=key∧(Instr.lookup t (.map (some b)) key c).run P w=.ok (if c then .tuple #[p.2,.bool true] else p.2) w:=by
 obtain ⟨l,hkey⟩:=hkey
 have hks':∀ x ∈ es.toList,∃ l,keyOf P k x.key=some l:=fun x hx=>hks (x.key,x.val) (List.mem_map.2 ⟨x,hx,rfl⟩)
 rcases K.find w hkey es.toList hks' with ⟨h1,h2⟩ | ⟨j,e0,h1,h2,h3⟩
 · refine Or.inl ⟨by simp [Instr.lookup,qv ht,MapKept.run_getObj_map hb,K.check w _ hkey,h1,hz,Result.andThen],fun p hp=>?_⟩
   obtain ⟨x,hx,rfl⟩:=List.mem_map.1 hp
   exact h2 x hx
 · refine Or.inr ⟨j,(e0.key,e0.val),?_,h3,by simp [Instr.lookup,qv ht,MapKept.run_getObj_map hb,K.check w _ hkey,h1,Result.andThen]⟩
   unfold kvs
   rw [List.getElem?_map,h2]
   rfl
theorem map_set (K:Keyed P k) (ht:P.underlying t=some (.map k e)) (hb:w.heap[b]?=some (.map es clock)) (hks:∀ p ∈ kvs es,∃ l,keyOf P k p.1=some l) {key val:Value} (hkey:∃ l,keyOf P k key=some l) :
 ∃ es' clock',(Instr.mapUpdate t (.map (some b)) key val).run P w=.ok () { w with heap:=w.heap.setIfInBounds b (.map es' clock') } ∧
  ((kvs es'=kvs es ++ [(key,val)]∧∀ p ∈ kvs es,p.1 ≠ key) ∨ ∃ (j:Nat) (p:Value × Value),(kvs es)[j]?=some p∧p.1=key∧kvs es'=(kvs es).set j (key,val)):=by
 obtain ⟨l,hkey⟩:=hkey
 have hks':∀ x ∈ es.toList,∃ l,keyOf P k x.key=some l:=fun x hx=>hks (x.key,x.val) (List.mem_map.2 ⟨x,hx,rfl⟩)
 rcases K.find w hkey es.toList hks' with ⟨h1,h2⟩ | ⟨j,e0,h1,h2,h3⟩
 · refine ⟨es.push ⟨key,val,clock⟩,clock+1,?_,Or.inl ⟨by simp [kvs],fun p hp=>?_⟩⟩
   · simp [Instr.mapUpdate,qv ht,MapKept.run_getObj_map hb,K.check w false hkey,h1,MapKept.run_setObj_map _ hb,Result.andThen]
   · obtain ⟨x,hx,rfl⟩:=List.mem_map.1 hp
     exact h2 x hx
 · have hj:es[j]?=some e0:=by simpa using h2
   refine ⟨es.modify j fun e=>{ e with key,val },clock,?_,Or.inr ⟨j,(e0.key,e0.val),?_,h3,?_⟩⟩
   · simp [Instr.mapUpdate,qv ht,MapKept.run_getObj_map hb,K.check w false hkey,h1,hj,h3,K.stays w hkey,MapKept.run_setObj_map _ hb,Result.andThen]
   · unfold kvs
     rw [List.getElem?_map,h2]
     rfl
   · unfold kvs
     apply List.ext_getElem?
     intro i
     simp only [List.getElem?_map,Array.getElem?_toList,Array.getElem?_modify,List.getElem?_set,List.length_map,Array.length_toList]
     by_cases hij:j=i
     · subst hij
       have hlt:j < es.size:=(Array.getElem?_eq_some_iff.1 hj).1
       simp [hj,hlt]
     · simp [hij]
theorem map_make (w:World) (ht:True):(Instr.makeMap t none).run P w=.ok (.map (some w.heap.size)) (w.alloc (.map #[] 0)):=by
 simp [Instr.makeMap,newObj,Sem.run,Result.andThen]
end
def mpA (b:Nat) (kv:List (Value × Value)):As where
 hd w F:=(∃ es clock,w.heap[b]?=some (.map es clock)∧kvs es=kv)∧F=[b]
 keep:=by
  rintro w w' F G ⟨⟨es,c,h,e⟩,rfl⟩ m hd
  have hl:b < w.heap.size:=(Array.getElem?_eq_some_iff.1 h).1
  exact ⟨⟨es,c,by rw [m.frame b hl (hd b (by simp))]; exact h,e⟩,rfl⟩
 lt:=by
  rintro w F ⟨⟨es,c,h,e⟩,rfl⟩ x hx
  have:x=b:=by simpa using hx
  subst this
  exact (Array.getElem?_eq_some_iff.1 h).1
section
variable {F0:List Nat} {w0 w:World} {ps rest:List As} {P:Program} {k e t:TypeId} {b:Nat} {kv:List (Value × Value)}
theorem St.mget (h:St F0 w0 w (mpA b kv :: ps)):∃ es clock,w.heap[b]?=some (.map es clock)∧kvs es=kv:=by
 obtain ⟨F,h,_⟩:=h.get
 exact h
theorem St.mlook (h:St F0 w0 w (mpA b kv :: ps)) (K:Keyed P k) (ht:P.underlying t=some (.map k e)) (hks:∀ p ∈ kv,∃ l,keyOf P k p.1=some l) {z key:Value} (c:Bool) (hz:(zeroValue e).run P w=.ok z w) (hkey:∃ l,keyOf P k key=some l) :
 (lkR P t (.map (some b)) key c w (if c then .tuple #[z,.bool false] else z)∧∀ p ∈ kv,p.1 ≠ key) ∨
 ∃ (j:Nat) (p:Value × Value),kv[j]?=some p∧p.1=key∧lkR P t (.map (some b)) key c w (if c then .tuple #[p.2,.bool true] else p.2):=by
 obtain ⟨es,clock,hb,rfl⟩:=h.mget
 exact map_look K ht hb hks c hz hkey
theorem St.mset {key val:Value} {X:World→Prop} (h:St F0 w0 w (mpA b kv :: ps)) (K:Keyed P k) (ht:P.underlying t=some (.map k e)) (hks:∀ p ∈ kv,∃ l,keyOf P k p.1=some l) (hkey:∃ l,keyOf P k key=some l)
 (hk:∀ kv' w',St F0 w0 w' (mpA b kv' :: ps)→((kv'=kv ++ [(key,val)]∧∀ p ∈ kv,p.1 ≠ key) ∨ ∃ (j:Nat) (p:Value × Value),kv[j]?=some p∧p.1=key∧kv'=kv.set j (key,val))→X w') :
 ∃ w',muR P t (.map (some b)) key val w w'∧X w':=by
 obtain ⟨f,⟨⟨es,clock,hb,rfl⟩,rfl⟩,hst⟩:=h.step
 obtain ⟨es',clock',h1,h2⟩:=map_set (val:=val) K ht hb hks hkey
 refine ⟨_,h1,hk (kvs es') _ (hst _ [b] _ ⟨rfl,rfl,rfl,by simp,fun x hx hF=>?_⟩ (Gr.refl _ _) ⟨⟨es',clock',?_,rfl⟩,rfl⟩) h2⟩
 · simp only [Array.getElem?_setIfInBounds]
   rw [if_neg (fun e=>hF (by simp [e]))]
 · have hl:b < w.heap.size:=(Array.getElem?_eq_some_iff.1 hb).1
   simp [Array.getElem?_setIfInBounds,hl]
theorem St.mmake {X:Nat→World→Prop} (h:St F0 w0 w ps) (hk:∀ mb w',St F0 w0 w' (mpA mb [] :: ps)→X mb w'):∃ n:Nat,∃ w':World,mmR P t none w n w'∧X n w':=by
 refine ⟨_,_,map_make w trivial,hk _ _ (h.add (f':=[w.heap.size]) (Mod.alloc w _) ⟨⟨#[],0,?_,rfl⟩,rfl⟩ ?_)⟩
 · show (w.heap.push _)[w.heap.size]?=_
   rw [Array.getElem?_push_size]
 · intro x hx
   have:x=w.heap.size:=by simpa using hx
   exact Or.inr (by omega)
end
end Go.Proofs.YtejnemneenjliaaGreat
namespace Go.Proofs.YtejnemneenjliaaGreat
open Go Go.Proofs
set_option linter.unusedVariables false
set_option maxRecDepth 100000
def qte (f_0:OAd) (at_1:Int) (Q:VWP) (w:World):Prop :=
 nw w (zc Tryz.prog 394) 394 fun a1 w2 =>
 nz f_0 fun a3 =>
 ldL w2 (Addr.add a3 0) fun x4 =>
 bd at_1 x4.len fun n5 =>
 lt (⟨qgf x4.a x4.cap n5 1,x4.len - n5,x4.cap - n5⟩:Sl) fun s6 =>
 3≤s6.len ∧
 nz s6.a fun a7 =>
 ldA w2 a7 3 fun c8 =>
 (c8).size=3 ∧
 stA w2 a1 c8 fun w9 =>
 ldA w9 a1 3 fun c10 =>
 Q (.agg c10) w9
theorem qte.ok (f_0:OAd) (at_1:Int) (Q:VWP) (w:World) (h:qte f_0 at_1 Q w):Calls Tryz.prog 288 ⟨[.pointer f_0,.int .i64 at_1]⟩ w (Ret Q) :=
 qqc [.cell 4 394] qbe Tryz.func288 rfl rfl rfl rfl .lf (by kernel_rfl) h
def qxc.j2 (f_0:OAd) (at_1:Int) (Q:VWP) (w:World):Prop :=
 lt (World.drew w) fun w1 =>
 nz f_0 fun a2 =>
 (ldM w1 (Addr.add a2 1) fun x3 =>
 cr_G 288 [.pointer f_0,.int .i64 at_1] w1 fun r6 w5 =>
 ∃ w7:World,muR Tryz.prog 357 (.map x3) (.agg r6) (.int .i64 at_1) w5 w7 ∧
 Q (.tuple ⟨[]⟩) w7)∧(
 cr_G 288 [.pointer f_0,.int .i64 at_1] w1 fun r10 w9 =>
 ldM w9 (Addr.add a2 1) fun x11 =>
 ∃ w12:World,muR Tryz.prog 357 (.map x11) (.agg r10) (.int .i64 at_1) w9 w12 ∧
 Q (.tuple ⟨[]⟩) w12)
def qxc.j3 (f_0:OAd) (at_1:Int) (i_4:Int) (is_5:Bool) (Q:VWP) (w:World):Prop :=
 br is_5 (
 nz f_0 fun a13 =>
 ldL w (Addr.add a13 2) fun x14 =>
 ixS x14.a x14.len at_1 1 fun a15 =>
 st w a15 (.int .i64 i_4) fun w16 =>
 qxc.j2 f_0 at_1 Q w16) (
 qxc.j2 f_0 at_1 Q w)
def qxc.j1 (f_0:OAd) (at_1:Int) (Q:VWP) (w:World):Prop :=
 lt (World.drew w) fun w17 =>
 nz f_0 fun a18 =>
 (ldM w17 (Addr.add a18 1) fun x19 =>
 cr_G 288 [.pointer f_0,.int .i64 at_1] w17 fun r22 w21 =>
 ∃ r23:Int,∃ r24:Bool,lkR Tryz.prog 357 (.map x19) (.agg r22) true w21 (.tuple ⟨[.int .i64 r23,.bool r24]⟩) ∧
 qxc.j3 f_0 at_1 r23 r24 Q w21)∧(
 cr_G 288 [.pointer f_0,.int .i64 at_1] w17 fun r27 w26 =>
 ldM w26 (Addr.add a18 1) fun x28 =>
 ∃ r29:Int,∃ r30:Bool,lkR Tryz.prog 357 (.map x28) (.agg r27) true w26 (.tuple ⟨[.int .i64 r29,.bool r30]⟩) ∧
 qxc.j3 f_0 at_1 r29 r30 Q w26)
def qxc (f_0:OAd) (at_1:Int) (Q:VWP) (w:World):Prop :=
 nz f_0 fun a31 =>
 ldL w (Addr.add a31 2) fun x32 =>
 nw w ⟨[.int .i64 (-1)]⟩ 3 fun a33 w34 =>
 rdO w34 (some a33) (1 * 1) fun c35 =>
 apK Tryz.prog 3 w34 x32.a x32.len x32.cap 1 c35 fun s36 w37 =>
 nz f_0 fun a38 =>
 st w37 (Addr.add a38 2) (sV s36) fun w39 =>
 lt (IntKind.i64.wrap (at_1+3)) fun x40 =>
 nz f_0 fun a41 =>
 ldL w39 (Addr.add a41 0) fun x42 =>
 br (decide (x40 > (x42.len:Int))) (
 Q (.tuple ⟨[]⟩) w39) (
 qxc.j1 f_0 at_1 Q w39)
theorem qxc.ok (f_0:OAd) (at_1:Int) (Q:VWP) (w:World) (h:qxc f_0 at_1 Q w):Calls Tryz.prog 251 ⟨[.pointer f_0,.int .i64 at_1]⟩ w (Ret Q) :=
 qqc [] qbe Tryz.func251 rfl rfl rfl rfl (.pr 1 [sP 0,sI 1] (fun a b w=>qxc.j1 a b Q w) (.sq [sP 0,sI 1] (fun a b w=>qxc.j2 a b Q w) (.sq [sP 0,sI 1,sI 4,sB 5] (fun a b c d w=>qxc.j3 a b c d Q w) .lf .lf) .lf)) (by kernel_rfl) h
def qtc.j2 (n_7:Int) (Q:VWP) (w:World):Prop :=
 Q (.int .i64 n_7) w
def qtc.b1 (f_0:OAd) (i_1:Int) (k_2 n_7:Int) (Q:VWP) (nx1:OAd→Int→Int→Int→WP) (w:World):Prop :=
 lt (World.drew w) fun w1 =>
 br (decide (n_7 < 258)) (
 lt (IntKind.i64.wrap (k_2+n_7)) fun x2 =>
 nz f_0 fun a3 =>
 ldL w1 (Addr.add a3 0) fun x4 =>
 br (decide (x2 < (x4.len:Int))) (
 nz f_0 fun a5 =>
 ldL w1 (Addr.add a5 0) fun x6 =>
 lt (IntKind.i64.wrap (i_1+n_7)) fun x7 =>
 ixS x6.a x6.len x7 1 fun a8 =>
 ldI .u8 w1 a8 fun x9 =>
 nz f_0 fun a10 =>
 ldL w1 (Addr.add a10 0) fun x11 =>
 lt (IntKind.i64.wrap (k_2+n_7)) fun x12 =>
 ixS x11.a x11.len x12 1 fun a13 =>
 ldI .u8 w1 a13 fun x14 =>
 br (x9 == x14) (
 lt (IntKind.i64.wrap (n_7+1)) fun x15 =>
 nx1 f_0 i_1 k_2 x15 w1) (
 qtc.j2 n_7 Q w1)) (
 qtc.j2 n_7 Q w1)) (
 qtc.j2 n_7 Q w1)
def qtc.l1 (f_0:OAd) (i_1:Int) (k_2 n_7:Int) (Q:VWP) (w:World):Prop :=
 ∃ (I:Int→WP) (μ:Int→World→Nat),I n_7 w∧∀ n_7:Int,∀ w:World,I n_7 w→qtc.b1 f_0 i_1 k_2 n_7 Q (fun f_0' i_1' k_2' n_7' w'=>(f_0'=f_0∧i_1'=i_1∧k_2'=k_2)∧I n_7' w'∧μ n_7' w' < μ n_7 w) w
def qtc.j1 (f_0:OAd) (i_1:Int) (k_2 n_7:Int) (Q:VWP) (w:World):Prop :=
 qtc.l1 f_0 i_1 k_2 n_7 Q w
def qtc (f_0:OAd) (i_1:Int) (k_2:Int) (Q:VWP) (w:World):Prop :=
 qtc.j1 f_0 i_1 k_2 0 Q w
theorem qtc.ok (f_0:OAd) (i_1:Int) (k_2:Int) (Q:VWP) (w:World) (h:qtc f_0 i_1 k_2 Q w):Calls Tryz.prog 289 ⟨[.pointer f_0,.int .i64 i_1,.int .i64 k_2]⟩ w (Ret Q) :=
 qqc [.tmp 6] qbe Tryz.func289 rfl rfl rfl rfl (.pr 1 [sP 0,sI 1,sI 2,sI 7] (fun a b c d w=>qtc.j1 a b c d Q w) (.sq [sI 7] (fun a w=>qtc.j2 a Q w) (.bk (.lo [sP 0,sI 1,sI 2] [sI 7] (fun a b c d w=>qtc.l1 a b c d Q w) (fun nx1 a b c d w=>qtc.b1 a b c d Q nx1 w) fun nx1=>.lf)) .lf)) (by kernel_rfl) h
def qdb.j3 (t6 t7:Int) (Q:VWP) (w:World):Prop :=
 Q (.tuple ⟨[.int .i64 t6,.int .i64 t7]⟩) w
def qdb.j5 (d_0:OAd) (i_1:Int) (t2 t6 t7 t8:Int) (t9:Bool) (Q:VWP) (nx1:OAd→Int→Bool→Int→Int→Int→Int→WP) (w:World):Prop :=
 lt (IntKind.i64.wrap (t2 - 1)) fun x1 =>
 nx1 d_0 i_1 t9 x1 t6 t7 t8 w
def qdb.j6 (d_0:OAd) (i_1:Int) (t2 t6 t7 t8:Int) (t9:Bool) (Q:VWP) (nx1:OAd→Int→Bool→Int→Int→Int→Int→WP) (w:World):Prop :=
 nz d_0 fun a2 =>
 ldL w (Addr.add a2 2) fun x3 =>
 ixS x3.a x3.len t8 1 fun a4 =>
 ldI .i64 w a4 fun x5 =>
 br (decide (x5 < 0)) (
 qdb.j3 t6 t7 Q w) (
 br (t6 == 258) (
 qdb.j3 t6 t7 Q w) (
 qdb.j5 d_0 i_1 t2 t6 t7 x5 t9 Q nx1 w))
def qdb.j4 (d_0:OAd) (i_1:Int) (t2 t6 t7 t8:Int) (t9:Bool) (Q:VWP) (nx1:OAd→Int→Bool→Int→Int→Int→Int→WP) (w:World):Prop :=
 qxi 289 [.pointer d_0,.int .i64 t8,.int .i64 i_1] w fun r8 w7 =>
 br (decide (r8 > t6)) (
 lt (IntKind.i64.wrap (i_1 - t8)) fun x9 =>
 qdb.j6 d_0 i_1 t2 r8 x9 t8 t9 Q nx1 w7) (
 qdb.j6 d_0 i_1 t2 t6 t7 t8 t9 Q nx1 w7)
def qdb.b1 (d_0:OAd) (i_1:Int) (t9:Bool) (t2:Int) (t6 t7 t8:Int) (Q:VWP) (nx1:OAd→Int→Bool→Int→Int→Int→Int→WP) (w:World):Prop :=
 br t9 (
 br (decide (t2 > 0)) (
 lt (IntKind.i64.wrap (i_1 - t8)) fun x10 =>
 br (decide (x10≤32768)) (
 qdb.j4 d_0 i_1 t2 t6 t7 t8 t9 Q nx1 w) (
 qdb.j3 t6 t7 Q w)) (
 qdb.j3 t6 t7 Q w)) (
 qdb.j3 t6 t7 Q w)
def qdb.l1 (d_0:OAd) (i_1:Int) (t9:Bool) (t2:Int) (t6 t7 t8:Int) (Q:VWP) (w:World):Prop :=
 ∃ (I:Int→Int→Int→Int→WP) (μ:Int→Int→Int→Int→World→Nat),I t2 t6 t7 t8 w∧∀ t2:Int,∀ t6:Int,∀ t7:Int,∀ t8:Int,∀ w:World,I t2 t6 t7 t8 w→qdb.b1 d_0 i_1 t9 t2 t6 t7 t8 Q (fun d_0' i_1' t9' t2' t6' t7' t8' w'=>(d_0'=d_0∧i_1'=i_1∧t9'=t9)∧I t2' t6' t7' t8' w'∧μ t2' t6' t7' t8' w' < μ t2 t6 t7 t8 w) w
def qdb.j2 (d_0:OAd) (i_1:Int) (t2 t6 t7 t8:Int) (t9:Bool) (Q:VWP) (w:World):Prop :=
 qdb.l1 d_0 i_1 t9 t2 t6 t7 t8 Q w
def qdb.j1 (d_0:OAd) (i_1:Int) (t2 t6 t7:Int) (Q:VWP) (w:World):Prop :=
 lt (IntKind.i64.wrap (i_1+3)) fun x11 =>
 nz d_0 fun a12 =>
 ldL w (Addr.add a12 0) fun x13 =>
 br (decide (x11 > (x13.len:Int))) (
 Q (.tuple ⟨[.int .i64 0,.int .i64 0]⟩) w) (
 lt (World.drew w) fun w14 =>
 nz d_0 fun a15 =>
 (ldM w14 (Addr.add a15 1) fun x16 =>
 cr_G 288 [.pointer d_0,.int .i64 i_1] w14 fun r19 w18 =>
 ∃ r20:Int,∃ r21:Bool,lkR Tryz.prog 357 (.map x16) (.agg r19) true w18 (.tuple ⟨[.int .i64 r20,.bool r21]⟩) ∧
 qdb.j2 d_0 i_1 t2 t6 t7 r20 r21 Q w18)∧(
 cr_G 288 [.pointer d_0,.int .i64 i_1] w14 fun r24 w23 =>
 ldM w23 (Addr.add a15 1) fun x25 =>
 ∃ r26:Int,∃ r27:Bool,lkR Tryz.prog 357 (.map x25) (.agg r24) true w23 (.tuple ⟨[.int .i64 r26,.bool r27]⟩) ∧
 qdb.j2 d_0 i_1 t2 t6 t7 r26 r27 Q w23))
def qdb (d_0:OAd) (i_1:Int) (t2:Int) (Q:VWP) (w:World):Prop :=
 qdb.j1 d_0 i_1 t2 0 0 Q w
theorem qdb.ok (d_0:OAd) (i_1:Int) (t2:Int) (Q:VWP) (w:World) (h:qdb d_0 i_1 t2 Q w):Calls Tryz.prog 250 ⟨[.pointer d_0,.int .i64 i_1,.int .i64 t2]⟩ w (Ret Q) :=
 qqc [.tmp 6,.tmp 7] qbe Tryz.func250 rfl rfl rfl rfl (.sq [sP 0,sI 1,sI 2,sI 6,sI 7] (fun a b c d e w=>qdb.j1 a b c d e Q w) .lf (.pr 1 [sP 0,sI 1,sI 2,sI 6,sI 7,sI 8,sB 9] (fun a b c d e f g w=>qdb.j2 a b c d e f g Q w) (.sq [sI 6,sI 7] (fun a b w=>qdb.j3 a b Q w) (.bk (.lo [sP 0,sI 1,sB 9] [sI 2,sI 6,sI 7,sI 8] (fun a b c d e f g w=>qdb.l1 a b c d e f g Q w) (fun nx1 a b c d e f g w=>qdb.b1 a b c d e f g Q nx1 w) fun nx1=>(.sq [sP 0,sI 1,sI 2,sI 6,sI 7,sI 8,sB 9] (fun a b c d e f g w=>qdb.j4 a b c d e f g Q nx1 w) .lf (.sq [sP 0,sI 1,sI 2,sI 6,sI 7,sI 8,sB 9] (fun a b c d e f g w=>qdb.j5 a b c d e f g Q nx1 w) (.bk (.sq [sP 0,sI 1,sI 2,sI 6,sI 7,sI 8,sB 9] (fun a b c d e f g w=>qdb.j6 a b c d e f g Q nx1 w) .lf .lf)) .lf)))) .lf))) (by kernel_rfl) h
def qyc.j4 (out_7:Sl) (Q:VWP) (w:World):Prop :=
 qij 252 [sV out_7] w fun r3 w2 =>
 Q (sV r3) w2
def qyc.b2 (b_0:Sl) (f_5:OAd) (looks_6:Int) (out_7:Sl) (t47 at_8 t48:Int) (Q:VWP) (nx1:Sl→OAd→Int→Sl→Int→WP) (nx2:Sl→OAd→Int→Sl→Int→Int→Int→WP) (w:World):Prop :=
 br (decide (t48 < t47)) (
 ct_ 251 [.pointer f_5,.int .i64 at_8] w fun w5 =>
 lt (IntKind.i64.wrap (at_8+1)) fun x6 =>
 lt (IntKind.i64.wrap (t48+1)) fun x7 =>
 nx2 b_0 f_5 looks_6 out_7 t47 x6 x7 w5) (
 nx1 b_0 f_5 looks_6 out_7 at_8 w)
def qyc.l2 (b_0:Sl) (f_5:OAd) (looks_6:Int) (out_7:Sl) (t47 at_8 t48:Int) (Q:VWP) (nx1:Sl→OAd→Int→Sl→Int→WP) (w:World):Prop :=
 ∃ (I:Int→Int→WP) (μ:Int→Int→World→Nat),I at_8 t48 w∧∀ at_8:Int,∀ t48:Int,∀ w:World,I at_8 t48 w→qyc.b2 b_0 f_5 looks_6 out_7 t47 at_8 t48 Q nx1 (fun b_0' f_5' looks_6' out_7' t47' at_8' t48' w'=>(b_0'=b_0∧f_5'=f_5∧looks_6'=looks_6∧out_7'=out_7∧t47'=t47)∧I at_8' t48' w'∧μ at_8' t48' w' < μ at_8 t48 w) w
def qyc.j9 (b_0:Sl) (f_5:OAd) (looks_6:Int) (out_7:Sl) (at_8 t47 t48:Int) (Q:VWP) (nx1:Sl→OAd→Int→Sl→Int→WP) (w:World):Prop :=
 qyc.l2 b_0 f_5 looks_6 out_7 t47 at_8 t48 Q nx1 w
def qyc.j8 (b_0:Sl) (f_5:OAd) (looks_6:Int) (out_7:Sl) (at_8 n_9:Int) (t_11:Addr) (Q:VWP) (nx1:Sl→OAd→Int→Sl→Int→WP) (w:World):Prop :=
 ldA w t_11 3 fun c8 =>
 (c8).size=3 ∧
 nw w ⟨(spl [.int .u8 0,.int .i64 0,.int .i64 0] 0 c8)⟩ 351 fun a9 w10 =>
 rdO w10 (some a9) (1 * 3) fun c11 =>
 apK Tryz.prog 351 w10 out_7.a out_7.len out_7.cap 1 c11 fun s12 w13 =>
 qyc.j9 b_0 f_5 looks_6 s12 at_8 n_9 0 Q nx1 w13
def qyc.j7 (b_0:Sl) (f_5:OAd) (looks_6:Int) (out_7:Sl) (at_8 n_9 d_10:Int) (Q:VWP) (nx1:Sl→OAd→Int→Sl→Int→WP) (w:World):Prop :=
 nw w (zc Tryz.prog 351) 351 fun a14 w15 =>
 ((⟨[.int .u8 0,.int .i64 n_9,.int .i64 d_10]⟩:Array Value)).size=3 ∧
 stA w15 a14 (⟨[.int .u8 0,.int .i64 n_9,.int .i64 d_10]⟩:Array Value) fun w16 =>
 br (decide (n_9 < 3)) (
 ixS b_0.a b_0.len at_8 1 fun a17 =>
 ldI .u8 w16 a17 fun x18 =>
 ((⟨[.int .u8 x18,.int .i64 0,.int .i64 0]⟩:Array Value)).size=3 ∧
 stA w16 a14 (⟨[.int .u8 x18,.int .i64 0,.int .i64 0]⟩:Array Value) fun w19 =>
 qyc.j8 b_0 f_5 looks_6 out_7 at_8 1 a14 Q nx1 w19) (
 qyc.j8 b_0 f_5 looks_6 out_7 at_8 n_9 a14 Q nx1 w16)
def qyc.j6 (b_0:Sl) (f_5:OAd) (looks_6:Int) (out_7:Sl) (at_8:Int) (Q:VWP) (nx1:Sl→OAd→Int→Sl→Int→WP) (w:World):Prop :=
 ct_II 250 [.pointer f_5,.int .i64 at_8,.int .i64 looks_6] w fun r22 r23 w21 =>
 qyc.j7 b_0 f_5 looks_6 out_7 at_8 r22 r23 Q nx1 w21
def qyc.b1 (b_0:Sl) (f_5:OAd) (looks_6:Int) (out_7:Sl) (at_8:Int) (Q:VWP) (nx1:Sl→OAd→Int→Sl→Int→WP) (w:World):Prop :=
 br (decide (at_8 < (b_0.len:Int))) (
 qyc.j6 b_0 f_5 looks_6 out_7 at_8 Q nx1 w) (
 qyc.j4 out_7 Q w)
def qyc.l1 (b_0:Sl) (f_5:OAd) (looks_6:Int) (out_7:Sl) (at_8:Int) (Q:VWP) (w:World):Prop :=
 ∃ (I:Sl→Int→WP) (μ:Sl→Int→World→Nat),I out_7 at_8 w∧∀ out_7:Sl,∀ at_8:Int,∀ w:World,I out_7 at_8 w→qyc.b1 b_0 f_5 looks_6 out_7 at_8 Q (fun b_0' f_5' looks_6' out_7' at_8' w'=>(b_0'=b_0∧f_5'=f_5∧looks_6'=looks_6)∧I out_7' at_8' w'∧μ out_7' at_8' w' < μ out_7 at_8 w) w
def qyc.j5 (b_0:Sl) (f_5:OAd) (looks_6:Int) (out_7:Sl) (at_8:Int) (Q:VWP) (w:World):Prop :=
 qyc.l1 b_0 f_5 looks_6 out_7 at_8 Q w
def qyc.j3 (b_0:Sl) (f_5:OAd) (looks_6:Int) (out_7:Sl) (Q:VWP) (w:World):Prop :=
 qyc.j5 b_0 f_5 looks_6 out_7 0 Q w
def qyc.j2 (b_0:Sl) (effort_1:Int) (f_5:OAd) (Q:VWP) (w:World):Prop :=
 lt (if (0:Int) > effort_1 then 0 else effort_1) fun x24 =>
 lt (if (4096:Int) < x24 then 4096 else x24) fun x25 =>
 qyc.j3 b_0 f_5 x25 ⟨none,0,0⟩ Q w
def qyc.j1 (b_0:Sl) (effort_1:Int) (Q:VWP) (w:World):Prop :=
 br (decide ((b_0.len:Int) > 262144)) (
 Q (.slice none 0 0) w) (
 ∃ n26:Nat,∃ w27:World,mmR Tryz.prog 357 none w n26 w27 ∧
 nw w27 (⟨[sV b_0,.map (some n26),.slice none 0 0]⟩:Array Value) 359 fun a28 w29 =>
 qyc.j2 b_0 effort_1 (some a28) Q w29)
def qyc (b_0:Sl) (effort_1:Int) (Q:VWP) (w:World):Prop :=
 qyc.j1 b_0 effort_1 Q w
theorem qyc.ok (b_0:Sl) (effort_1:Int) (Q:VWP) (w:World) (h:qyc b_0 effort_1 Q w):Calls Tryz.prog 225 ⟨[sV b_0,.int .i64 effort_1]⟩ w (Ret Q) :=
 qqc [.tmp 4] qbe Tryz.func225 rfl rfl rfl rfl (.sq [sL 0,sI 1] (fun a b w=>qyc.j1 a b Q w) .lf (.pr 1 [sL 0,sI 1,sP 5] (fun a b c w=>qyc.j2 a b c Q w) (.pr 1 [sL 0,sP 5,sI 6,sL 7] (fun a b c d w=>qyc.j3 a b c d Q w) (.sq [sL 7] (fun a w=>qyc.j4 a Q w) (.sq [sL 0,sP 5,sI 6,sL 7,sI 8] (fun a b c d e w=>qyc.j5 a b c d e Q w) .lf (.bk (.lo [sL 0,sP 5,sI 6] [sL 7,sI 8] (fun a b c d e w=>qyc.l1 a b c d e Q w) (fun nx1 a b c d e w=>qyc.b1 a b c d e Q nx1 w) fun nx1=>(.sq [sL 0,sP 5,sI 6,sL 7,sI 8] (fun a b c d e w=>qyc.j6 a b c d e Q nx1 w) .lf (.bk (.sq [sL 0,sP 5,sI 6,sL 7,sI 8,sI 9,sI 10] (fun a b c d e f g w=>qyc.j7 a b c d e f g Q nx1 w) .lf (.pr 1 [sL 0,sP 5,sI 6,sL 7,sI 8,sI 9,sA 11] (fun a b c d e f g w=>qyc.j8 a b c d e f g Q nx1 w) (.pr 1 [sL 0,sP 5,sI 6,sL 7,sI 8,sI 47,sI 48] (fun a b c d e f g w=>qyc.j9 a b c d e f g Q nx1 w) (.bk (.lo [sL 0,sP 5,sI 6,sL 7,sI 47] [sI 8,sI 48] (fun a b c d e f g w=>qyc.l2 a b c d e f g Q nx1 w) (fun nx2 a b c d e f g w=>qyc.b2 a b c d e f g Q nx1 nx2 w) fun nx2=>.lf)))))))))) .lf)))) (by kernel_rfl) h
def qpg (s_0:Sl) (Q:VWP) (w:World):Prop :=
 bd (s_0.len:Int) s_0.cap fun n1 =>
 bd (s_0.len:Int) n1 fun n2 =>
 lt (⟨qgf s_0.a n1 0 3,n2 - 0,n1 - 0⟩:Sl) fun s3 =>
 Q (sV s3) w
theorem qpg.ok (s_0:Sl) (Q:VWP) (w:World) (h:qpg s_0 Q w):Calls Tryz.prog 252 ⟨[sV s_0]⟩ w (Ret Q) :=
 qqc [.tmp 2] qbe Tryz.func252 rfl rfl rfl rfl .lf (by kernel_rfl) h
end Go.Proofs.YtejnemneenjliaaGreat
namespace Go.Proofs.YtejnemneenjliaaGreat
open Go Go.Proofs
set_option linter.unusedVariables false
set_option linter.unusedSimpArgs false
attribute [local irreducible] apK cpK mkK br
abbrev tks (L:List Tk):List Value:=tri .u8 .i64 .i64 L
def tkC (t:Tk):List Value:=[.int .u8 t.1,.int .i64 t.2.1,.int .i64 t.2.2]
theorem zc_tok:zc Tryz.prog 351=⟨[.int .u8 0,.int .i64 0,.int .i64 0]⟩:=by kernel_rfl
theorem tks_snoc (L:List Tk) (t:Tk):tks (L ++ [t])=tks L ++ tkC t:=by simp [tri,tkC]
theorem qgm (t:Tk):∀ v ∈ (⟨tkC t⟩:Array Value),storable v:=by
 intro v hv
 have hv:v ∈ tkC t:=by simpa using hv
 simp [tkC] at hv
 rcases hv with rfl | rfl | rfl <;> trivial
section
variable {F0:List Nat} {w0 w:World} {ps rest:List As} {L:List Tk}
theorem Rd.ixT {s:Sl} {i:Int} {K:Addr→Prop} (h:Rd w 3 s (tks L)) (j:Nat) (hi:i=j) (hj:j < L.length)
 (hk:∀ a,w.cell? (a.add 0)=some (.int .u8 L[j].1)→w.cell? (a.add 1)=some (.int .i64 L[j].2.1)→w.cell? (a.add 2)=some (.int .i64 L[j].2.2)→K a):ixS s.a s.len i 3 K:=by
 subst hi
 have hl:=h.1
 rw [qmi] at hl
 refine h.ix (by decide) (by omega) (by omega) fun a ha=>?_
 rw [show ((j:Int)).toNat * 3=j * 3 by omega]
 obtain ⟨g1,g2,g3⟩:=tri_get .u8 .i64 .i64 L j hj
 refine hk _ ?_ ?_ ?_
 · rw [qzm,h.cell ha (by rw [qmi]; omega)]; exact g1
 · rw [qzm,h.cell ha (by rw [qmi]; omega)]; exact g2
 · rw [qzm,h.cell ha (by rw [qmi]; omega)]; exact g3
theorem ldA_tok {a:Addr} {t:Tk} {K:Array Value→Prop} (h0:w.cell? (a.add 0)=some (.int .u8 t.1)) (h1:w.cell? (a.add 1)=some (.int .i64 t.2.1)) (h2:w.cell? (a.add 2)=some (.int .i64 t.2.2)) (hk:K ⟨tkC t⟩):ldA w a 3 K :=
 ⟨⟨tkC t⟩,rfl,fun i hi=>by
   have:i=0 ∨ i=1 ∨ i=2:=by omega
   rcases this with rfl | rfl | rfl
   · rw [h0]; rfl
   · rw [h1]; rfl
   · rw [h2]; rfl,hk⟩
theorem St.ltok {s:Sl} {i:Int} {K:Array Value→Prop} (h:St F0 w0 w ps) [Rdb F0 w0 s ps 3 (tks L)] (j:Nat) (hi:i=j) (hj:j < L.length) (hk:K ⟨tkC L[j]⟩):ixS s.a s.len i 3 fun a=>ldA w a 3 K :=
 (h.rdb s).ixT j hi hj fun a h0 h1 h2=>ldA_tok h0 h1 h2 hk
theorem St.lt0 {s:Sl} {i:Int} {K:Int→Prop} (h:St F0 w0 w ps) [Rdb F0 w0 s ps 3 (tks L)] (j:Nat) (hi:i=j) (hj:j < L.length) (hk:K L[j].1):ixS s.a s.len i 3 fun a=>ldI .u8 w (Addr.add a 0) K :=
 (h.rdb s).ixT j hi hj fun a h0 h1 h2=>ldI_c h0 hk
theorem St.lt2 {s:Sl} {i:Int} {K:Int→Prop} (h:St F0 w0 w ps) [Rdb F0 w0 s ps 3 (tks L)] (j:Nat) (hi:i=j) (hj:j < L.length) (hk:K L[j].2.2):ixS s.a s.len i 3 fun a=>ldI .i64 w (Addr.add a 2) K :=
 (h.rdb s).ixT j hi hj fun a h0 h1 h2=>ldI_c h2 hk
theorem St.tokN {t:Tk} {K:Addr→World→Prop} (h:St F0 w0 w ps) (hk:∀ nb w',St F0 w0 w' (qzc nb (tkC t) :: ps)→K ⟨nb,0,none⟩ w') :
 lt (⟨World.heapSize w,0,none⟩:Addr) fun a=>lt (World.alloc w (.cells (zc Tryz.prog 351) 351)) fun w1=>(⟨tkC t⟩:Array Value).size=3∧Go.Proofs.YtejnemneenjliaaGreat.stA w1 a ⟨tkC t⟩ fun w2=>K a w2:=by
 rw [zc_tok]
 refine h.new fun nb w h=>⟨rfl,?_⟩
 exact h.sA (l:=[.int .u8 0,.int .i64 0,.int .i64 0]) rfl rfl (qgm t) fun w h=>hk nb w h
end
end Go.Proofs.YtejnemneenjliaaGreat
namespace Go.Proofs.YtejnemneenjliaaGreat
set_option linter.unusedVariables false
set_option linter.unusedSimpArgs false
def qbm (b:List Int) (i:Nat):Int × Int × Int:=(b.getD i 0,b.getD (i+1) 0,b.getD (i+2) 0)
def lastK (b:List Int) (k:Int × Int × Int):Nat→Option Nat
 | 0=>none
 | n+1=>if qbm b n=k then some n else lastK b k n
theorem qgn {b:List Int} {k:Int × Int × Int}:∀ {n i:Nat},lastK b k n=some i→i < n∧qbm b i=k∧∀ j,i < j→j < n→qbm b j ≠ k:=by
 intro n
 induction n with
 | zero=>intro i h; cases h
 | succ n ih =>
   intro i h
   rw [lastK] at h
   split at h
   · rename_i hk
     injection h with h
     subst h
     exact ⟨by omega,hk,fun j h1 h2=>by omega⟩
   · rename_i hk
     obtain ⟨h1,h2,h3⟩:=ih h
     refine ⟨by omega,h2,fun j h4 h5=>?_⟩
     by_cases e:j=n
     · subst e; exact hk
     · exact h3 j h4 (by omega)
def sameN (b:List Int) (i k:Nat):Nat→Nat→Nat
 | 0,n=>n
 | f+1,n=>if k+n < b.length∧b.getD (i+n) 0=b.getD (k+n) 0 then sameN b i k f (n+1) else n
def same (b:List Int) (i k:Nat):Nat:=sameN b i k 258 0
theorem qat (b:List Int) (i k:Nat):∀ f n,(∀ j,j < n→k+j < b.length∧b.getD (i+j) 0=b.getD (k+j) 0) →
 n≤sameN b i k f n∧sameN b i k f n≤n+f∧(∀ j,j < sameN b i k f n→k+j < b.length∧b.getD (i+j) 0=b.getD (k+j) 0) ∧
 (sameN b i k f n < n+f→¬ (k+sameN b i k f n < b.length∧b.getD (i+sameN b i k f n) 0=b.getD (k+sameN b i k f n) 0)):=by
 intro f
 induction f with
 | zero=>intro n h; exact ⟨Nat.le_refl _,Nat.le_refl _,h,fun h1=>by simp [sameN] at h1⟩
 | succ f ih =>
   intro n h
   rw [sameN]
   split
   · rename_i hc
     obtain ⟨h1,h2,h3,h4⟩:=ih (n+1) (fun j hj=>by
      by_cases e:j=n
      · subst e; exact hc
      · exact h j (by omega))
     exact ⟨by omega,by omega,h3,fun hlt=>h4 (by omega)⟩
   · rename_i hc
     exact ⟨Nat.le_refl _,by omega,h,fun _=>hc⟩
theorem same_le (b:List Int) (i k:Nat):same b i k≤258:=by have:=(qat b i k 258 0 (fun j hj=>by omega)).2.1; unfold same; omega
theorem same_eq {b:List Int} {i k j:Nat} (h:j < same b i k):k+j < b.length∧b.getD (i+j) 0=b.getD (k+j) 0:=(qat b i k 258 0 (fun j hj=>by omega)).2.2.1 j h
def walkL (b:List Int) (at':Nat):Nat→Nat→Nat→Nat→Nat × Nat
 | 0,_,n,d=>(n,d)
 | f+1,i,n,d =>
   if 32768 < at' - i then (n,d)
   else
    let n':=if n < same b i at' then same b i at' else n
    let d':=if n < same b i at' then at' - i else d
    match lastK b (qbm b i) i with
    | none=>(n',d')
    | some j=>if n'=258 then (n',d') else walkL b at' f j n' d'
def bestL (b:List Int) (at' looks:Nat):Nat × Nat :=
 if b.length < at'+3 then (0,0) else match lastK b (qbm b at') at' with
  | none=>(0,0)
  | some i=>walkL b at' looks i 0 0
def goodC (b:List Int) (at':Nat) (x:Nat × Nat):Prop:=x.1=0 ∨ (x.1≤258∧1≤x.2∧x.2≤at'∧x.2≤32768∧at'+x.1≤b.length∧∀ j,j < x.1→b.getD (at' - x.2+j) 0=b.getD (at'+j) 0)
theorem goodC_same {b:List Int} {at' i:Nat} (hi:i < at') (hf:¬ 32768 < at' - i):goodC b at' (same b i at',at' - i):=by
 rcases Nat.eq_zero_or_pos (same b i at') with h0 | h0
 · exact Or.inl h0
 · right
   refine ⟨same_le _ _ _,by show 1≤at' - i; omega,by show at' - i≤at'; omega,by show at' - i≤32768; omega,?_,fun j hj=>?_⟩
   · have:=(same_eq (b:=b) (i:=i) (k:=at') (j:=same b i at' - 1) (by omega)).1
     show at'+same b i at'≤b.length
     omega
   · show b.getD (at' - (at' - i)+j) 0=_
     rw [show at' - (at' - i)=i by omega]
     exact (same_eq hj).2
theorem walkL_good (b:List Int) (at':Nat):∀ f i n d,i < at'→goodC b at' (n,d)→goodC b at' (walkL b at' f i n d):=by
 intro f
 induction f with
 | zero=>intro i n d _ h; exact h
 | succ f ih =>
   intro i n d hi h
   rw [walkL]
   split
   · exact h
   · rename_i hf
     have hg:goodC b at' (if n < same b i at' then same b i at' else n,if n < same b i at' then at' - i else d):=by
      by_cases hl:n < same b i at'
      · rw [if_pos hl,if_pos hl]; exact goodC_same hi hf
      · rw [if_neg hl,if_neg hl]; exact h
     simp only
     generalize (if n < same b i at' then same b i at' else n)=n2 at hg ⊢
     generalize (if n < same b i at' then at' - i else d)=d2 at hg ⊢
     split
     · exact hg
     · rename_i j hj
       have:=(qgn hj).1
       split
       · exact hg
       · exact ih _ _ _ (by omega) hg
theorem qrt (b:List Int) (at' looks:Nat):goodC b at' (bestL b at' looks):=by
 unfold bestL
 split
 · exact Or.inl rfl
 · split
   · exact Or.inl rfl
   · rename_i i hi
     exact walkL_good _ _ _ _ _ _ (qgn hi).1 (Or.inl rfl)
def stepL (b:List Int) (looks at':Nat):(Int × Int × Int) × Nat :=
 let x:=bestL b at' looks
 if x.1 < 3 then ((b.getD at' 0,0,0),1) else ((0,(x.1:Int),(x.2:Int)),x.1)
def findL (b:List Int) (looks:Nat):Nat→Nat→List (Int × Int × Int)
 | 0,_=>[]
 | f+1,at'=>if at' < b.length then (stepL b looks at').1 :: findL b looks f (at'+(stepL b looks at').2) else []
theorem qfo (b:List Int) (looks at':Nat):0 < (stepL b looks at').2:=by
 unfold stepL
 simp only
 split
 · exact Nat.zero_lt_one
 · simp only; omega
theorem stepL_le (b:List Int) (looks at':Nat) (h:at' < b.length):at'+(stepL b looks at').2≤b.length:=by
 unfold stepL
 simp only
 split
 · simp only; omega
 · rename_i h3
   simp only
   rcases qrt b at' looks with h1 | h1
   · omega
   · exact h1.2.2.2.2.1
theorem findL_fuel (b:List Int) (looks:Nat):∀ f g at',b.length - at'≤f→b.length - at'≤g→findL b looks f at'=findL b looks g at':=by
 intro f
 induction f with
 | zero =>
   intro g at' h1 h2
   cases g with
   | zero=>rfl
   | succ g=>rw [findL,findL,if_neg (by omega)]
 | succ f ih =>
   intro g at' h1 h2
   cases g with
   | zero=>rw [findL,findL,if_neg (by omega)]
   | succ g =>
     rw [findL,findL]
     split
     · have:=qfo b looks at'
       congr 1
       exact ih g _ (by omega) (by omega)
     · rfl
end Go.Proofs.YtejnemneenjliaaGreat
namespace Go.Proofs.YtejnemneenjliaaGreat
open Go Go.Proofs Go.ChangeShapes Go.WideShapes Go.MapKept Go.Maps
set_option linter.unusedVariables false
set_option linter.unusedSimpArgs false
attribute [local irreducible] apK cpK mkK br
abbrev kyL (k:Int × Int × Int):List Value:=[.int .u8 k.1,.int .u8 k.2.1,.int .u8 k.2.2]
def kyV (k:Int × Int × Int):Value:=.agg ⟨kyL k⟩
theorem kyV_inj {a b:Int × Int × Int} (h:kyV a=kyV b):a=b:=by
 obtain ⟨a1,a2,a3⟩:=a
 obtain ⟨b1,b2,b3⟩:=b
 simpa [kyV] using h
def kyB (k:Int × Int × Int):Prop:=(0≤k.1∧k.1 < 256)∧(0≤k.2.1∧k.2.1 < 256)∧(0≤k.2.2∧k.2.2 < 256)
theorem key_lit {P:Program} {t e:TypeId} {m:Nat} (h1:P.underlying t=some (.array 3 e)) (h2:P.underlying e=some (.int .u8)) (h3:P.cellsOf t=3) (h4:P.cellsOf e=1) (h5:P.keyType t=true) (h6:P.types.size+1=m+2) {k:Int × Int × Int} (hk:kyB k):∃ l,keyOf P t (kyV k)=some l:=by
 obtain ⟨⟨a1,a2⟩,⟨b1,b2⟩,⟨c1,c2⟩⟩:=hk
 have wf:∀ n:Int,0≤n→n < 256→(Lit.int .u8 n).wf=true:=by
  intro n h0 h1
  simp [Lit.wf,show IntKind.u8.min=0 from rfl,show IntKind.u8.max=255 from rfl]
  omega
 have e1:∀ n:Int,0≤n→n < 256→P.keyLits (m+1) e [.int .u8 n]=some [.int .u8 n]:=by
  intro n h0 h1
  unfold Program.keyLits
  rw [h2]
  simp [wf n h0 h1]
 have e2:∃ ls,P.keyLits (m+2) t (kyL k)=some ls:=by
  unfold Program.keyLits
  rw [h1]
  simp only [h3,h4]
  rw [if_pos (show (kyL k).length=3 from rfl),show List.range 3=[0,1,2] from rfl]
  simp [e1 _ a1 a2,e1 _ b1 b2,e1 _ c1 c2]
 obtain ⟨ls,e2⟩:=e2
 unfold keyOf
 rw [h1]
 have e3:(kyV k).formed P t=true:=by simp [kyV,Value.formed,h1,h3]
 have e4:(kyV k).cells.toList=kyL k:=rfl
 simp only [h5,e3,e4,h6,e2]
 exact ⟨_,rfl⟩
theorem ky_keyed:Keyed Tryz.prog 394:=keyed_deep f_laid (m:=2) (by omega) (of_decide_eq_true (by kernel_rfl)) (by kernel_rfl) (by kernel_rfl)
theorem ky_lit {k:Int × Int × Int} (hk:kyB k):∃ l,keyOf Tryz.prog 394 (kyV k)=some l :=
 key_lit (e:=5) (m:=Tryz.prog.types.size - 1) (by kernel_rfl) (by kernel_rfl) (by kernel_rfl) (by kernel_rfl) (by kernel_rfl) (by kernel_rfl) hk
theorem ky_map:Tryz.prog.underlying 357=some (.map 394 3):=by kernel_rfl
abbrev kvl (E:List ((Int × Int × Int) × Int)):List (Value × Value):=E.map fun e=>(kyV e.1,.int .i64 e.2)
section
variable {F0:List Nat} {w0 w:World} {ps rest:List As} {b:Nat} {E:List ((Int × Int × Int) × Int)} {k:Int × Int × Int}
theorem kvl_lit (hE:∀ e ∈ E,kyB e.1):∀ p ∈ kvl E,∃ l,keyOf Tryz.prog 394 p.1=some l:=by
 intro p hp
 obtain ⟨e,he,rfl⟩:=List.mem_map.1 hp
 exact ky_lit (hE e he)
theorem St.klook {K:Int→Bool→Prop} (h:St F0 w0 w ps) [PkF mpA b ps (kvl E) rest] (hE:∀ e ∈ E,kyB e.1) (hk:kyB k) (h1:(∀ e ∈ E,e.1 ≠ k)→K 0 false) (h2:∀ e ∈ E,e.1=k→K e.2 true) :
 ∃ r20:Int,∃ r21:Bool,lkR Tryz.prog 357 (.map (some b)) (.agg ⟨kyL k⟩) true w (.tuple ⟨[.int .i64 r20,.bool r21]⟩)∧K r20 r21:=by
 have hz:(zeroValue (3:TypeId)).run Tryz.prog w=.ok (.int .i64 0) w:=by kernel_rfl
 rcases (h.toF mpA b).mlook ky_keyed ky_map (kvl_lit hE) true hz (ky_lit hk) with ⟨h3,h4⟩ | ⟨j,p,h3,h4,h5⟩
 · refine ⟨0,false,h3,h1 fun e he hne=>?_⟩
   exact h4 (kyV e.1,.int .i64 e.2) (List.mem_map.2 ⟨e,he,rfl⟩) (by rw [hne])
 · rw [List.getElem?_map] at h3
   cases he:E[j]? with
   | none=>rw [he] at h3; cases h3
   | some e =>
     rw [he] at h3
     injection h3 with h3
     subst h3
     have hm:e ∈ E:=List.mem_of_getElem? he
     exact ⟨e.2,true,h5,h2 e hm (kyV_inj h4)⟩
theorem St.kset {v:Int} {K:World→Prop} (h:St F0 w0 w ps) [PkF mpA b ps (kvl E) rest] (hE:∀ e ∈ E,kyB e.1) (hk:kyB k)
 (hK:∀ E' w',St F0 w0 w' (mpA b (kvl E') :: rest)→((E'=E ++ [(k,v)]∧∀ e ∈ E,e.1 ≠ k) ∨ ∃ j,∃ e:(Int × Int × Int) × Int,E[j]?=some e∧e.1=k∧E'=E.set j (k,v))→K w') :
 ∃ w',muR Tryz.prog 357 (.map (some b)) (.agg ⟨kyL k⟩) (.int .i64 v) w w'∧K w':=by
 refine (h.toF mpA b).mset ky_keyed ky_map (kvl_lit hE) (ky_lit hk) fun kv' w' h he=>?_
 rcases he with ⟨rfl,h1⟩ | ⟨j,p,h1,h2,rfl⟩
 · refine hK (E ++ [(k,v)]) w' (by rw [show kvl (E ++ [(k,v)])=kvl E ++ [(.agg ⟨kyL k⟩,.int .i64 v)] by simp [kyV]]; exact h) (Or.inl ⟨rfl,fun e he hne=>?_⟩)
   exact h1 (kyV e.1,.int .i64 e.2) (List.mem_map.2 ⟨e,he,rfl⟩) (by rw [hne]; rfl)
 · rw [List.getElem?_map] at h1
   cases he:E[j]? with
   | none=>rw [he] at h1; cases h1
   | some e =>
     rw [he] at h1
     injection h1 with h1
     subst h1
     refine hK (E.set j (k,v)) w' (by rw [show kvl (E.set j (k,v))=(kvl E).set j (.agg ⟨kyL k⟩,.int .i64 v) by rw [kvl,List.map_set]; rfl]; exact h) (Or.inr ⟨j,e,he,kyV_inj h2,rfl⟩)
end
structure KM (b:List Int) (E:List ((Int × Int × Int) × Int)) (n:Nat):Prop where
 val:∀ (j:Nat) (e:(Int × Int × Int) × Int),E[j]?=some e→∃ i:Nat,e.2=(i:Int)∧lastK b e.1 n=some i
 all:∀ k i,lastK b k n=some i→∃ (j:Nat) (e:(Int × Int × Int) × Int),E[j]?=some e∧e.1=k
 one:∀ (i j:Nat) (e e':(Int × Int × Int) × Int),E[i]?=some e→E[j]?=some e'→e.1=e'.1→i=j
theorem KM.nil (b:List Int):KM b [] 0:=⟨fun j e h=>(by simp at h),fun k i h=>(by cases h),fun i j e e' h=>(by simp at h)⟩
theorem KM.next {b:List Int} {E E':List ((Int × Int × Int) × Int)} {n:Nat} (h:KM b E n)
 (he:(E'=E ++ [(qbm b n,(n:Int))]∧∀ e ∈ E,e.1 ≠ qbm b n) ∨ ∃ j,∃ e:(Int × Int × Int) × Int,E[j]?=some e∧e.1=qbm b n∧E'=E.set j (qbm b n,(n:Int))):KM b E' (n+1):=by
 rcases he with ⟨rfl,hn⟩ | ⟨j0,e0,hj0,he0,rfl⟩
 · have sn:∀ j e,(E ++ [(qbm b n,(n:Int))])[j]?=some e→E[j]?=some e ∨ (j=E.length∧e=(qbm b n,(n:Int))):=by
    intro j e hj
    rcases Nat.lt_or_ge j E.length with h1 | h1
    · rw [List.getElem?_append_left h1] at hj; exact Or.inl hj
    · rw [List.getElem?_append_right h1] at hj
      have:j=E.length:=by
       rcases Nat.eq_or_lt_of_le h1 with h2 | h2
       · exact h2.symm
       · rw [List.getElem?_eq_none (by simp; omega)] at hj; cases hj
      subst this
      simp at hj
      exact Or.inr ⟨rfl,hj.symm⟩
   refine ⟨fun j e hj=>?_,fun k i hi=>?_,fun i j e e' hi hj hk=>?_⟩
   · rcases sn j e hj with h1 | ⟨_,rfl⟩
     · obtain ⟨i,h2,h3⟩:=h.val j e h1
       refine ⟨i,h2,?_⟩
       rw [lastK,if_neg (fun e2=>hn e (List.mem_of_getElem? h1) e2.symm)]
       exact h3
     · refine ⟨n,rfl,?_⟩
       rw [lastK,if_pos rfl]
   · rw [lastK] at hi
     split at hi
     · rename_i hk
       exact ⟨E.length,(qbm b n,(n:Int)),by simp,hk⟩
     · obtain ⟨j,e,h1,h2⟩:=h.all k i hi
       refine ⟨j,e,?_,h2⟩
       rw [List.getElem?_append_left (List.getElem?_eq_some_iff.1 h1).1]
       exact h1
   · rcases sn i e hi with h1 | ⟨rfl,rfl⟩
     · rcases sn j e' hj with h2 | ⟨rfl,rfl⟩
       · exact h.one i j e e' h1 h2 hk
       · exact absurd hk (hn e (List.mem_of_getElem? h1))
     · rcases sn j e' hj with h2 | ⟨rfl,rfl⟩
       · exact absurd hk.symm (hn e' (List.mem_of_getElem? h2))
       · rfl
 · have hlt:j0 < E.length:=(List.getElem?_eq_some_iff.1 hj0).1
   have sn:∀ j e,(E.set j0 (qbm b n,(n:Int)))[j]?=some e→(j=j0∧e=(qbm b n,(n:Int))) ∨ (j ≠ j0∧E[j]?=some e):=by
    intro j e hj
    rw [List.getElem?_set] at hj
    by_cases h1:j0=j
    · subst h1
      rw [if_pos rfl,if_pos hlt] at hj
      injection hj with hj
      exact Or.inl ⟨rfl,hj.symm⟩
    · rw [if_neg h1] at hj
      exact Or.inr ⟨fun e=>h1 e.symm,hj⟩
   refine ⟨fun j e hj=>?_,fun k i hi=>?_,fun i j e e' hi hj hk=>?_⟩
   · rcases sn j e hj with ⟨rfl,rfl⟩ | ⟨hne,h1⟩
     · refine ⟨n,rfl,?_⟩
       rw [lastK,if_pos rfl]
     · obtain ⟨i,h2,h3⟩:=h.val j e h1
       refine ⟨i,h2,?_⟩
       rw [lastK,if_neg (fun e2=>hne (h.one j j0 e e0 h1 hj0 (e2.symm.trans he0.symm)))]
       exact h3
   · rw [lastK] at hi
     split at hi
     · rename_i hk
       refine ⟨j0,(qbm b n,(n:Int)),?_,hk⟩
       rw [List.getElem?_set,if_pos rfl,if_pos hlt]
     · rename_i hk
       obtain ⟨j,e,h1,h2⟩:=h.all k i hi
       refine ⟨j,e,?_,h2⟩
       rw [List.getElem?_set,if_neg,h1]
       intro hjj
       subst hjj
       rw [hj0] at h1
       injection h1 with h1
       subst h1
       exact hk (he0.symm.trans h2)
   · rcases sn i e hi with ⟨rfl,rfl⟩ | ⟨hne,h1⟩
     · rcases sn j e' hj with ⟨rfl,rfl⟩ | ⟨hne2,h2⟩
       · rfl
       · exact absurd (h.one j i e' e0 h2 hj0 (hk.symm.trans he0.symm)) hne2
     · rcases sn j e' hj with ⟨rfl,rfl⟩ | ⟨hne2,h2⟩
       · exact absurd (h.one i j e e0 h1 hj0 (hk.trans he0.symm)) hne
       · exact h.one i j e e' h1 h2 hk
def prI (b:List Int) (j:Nat):Int:=match lastK b (qbm b j) j with
 | none=>-1
 | some i=>(i:Int)
structure FOK (b:List Int) (E:List ((Int × Int × Int) × Int)) (P:List Int) (n:Nat):Prop where
 len:P.length=n
 keys:∀ e ∈ E,kyB e.1
 map:n+2≤b.length→KM b E n
 row:∀ j,j < n→j+3≤b.length→P.getD j 0=prI b j
theorem key_b {b:List Int} (hb:∀ x ∈ b,0≤x∧x < 256) (i:Nat):kyB (qbm b i):=by
 have:∀ j,0≤b.getD j 0∧b.getD j 0 < 256:=by
  intro j
  rcases Nat.lt_or_ge j b.length with h | h
  · rw [List.getD,List.getElem?_eq_getElem h]
    exact hb _ (List.getElem_mem h)
  · rw [List.getD,List.getElem?_eq_none h]
    decide
 exact ⟨this _,this _,this _⟩
end Go.Proofs.YtejnemneenjliaaGreat
namespace Go.Proofs.YtejnemneenjliaaGreat
open Go Go.Proofs
set_option linter.unusedVariables false
set_option linter.unusedSimpArgs false
attribute [local irreducible] apK cpK mkK br
def finA (fb mb:Nat) (s p:Sl) (E:List ((Int × Int × Int) × Int)) (P:List Int):As :=
 andA (qzc fb [.slice s.a s.len s.cap,.map (some mb),.slice p.a p.len p.cap]) (andA (mpA mb (kvl E)) (qcc 1 p (ivs .i64 P)))
section
variable {F0:List Nat} {w0 w:World} {ps rest:List As} {xs:List Int} {fb mb:Nat} {s p:Sl} {E:List ((Int × Int × Int) × Int)} {P:List Int}
theorem fin_o (h:St F0 w0 w (finA fb mb s p E P :: ps)):St F0 w0 w (qzc fb [.slice s.a s.len s.cap,.map (some mb),.slice p.a p.len p.cap] :: mpA mb (kvl E) :: qcc 1 p (ivs .i64 P) :: ps):=by
 unfold finA at h
 exact h.split.tail fun _ _ _ h=>h.split
theorem fin_c (h:St F0 w0 w (qzc fb [.slice s.a s.len s.cap,.map (some mb),.slice p.a p.len p.cap] :: mpA mb (kvl E) :: qcc 1 p (ivs .i64 P) :: ps)):St F0 w0 w (finA fb mb s p E P :: ps):=by
 unfold finA
 exact St.join (h.tail fun _ _ _ h=>h.join)
theorem nz_ldA {a:Option Addr} {k:Nat} {K:Array Value→Prop} (h:rdO w a k K) (hk:k ≠ 0):nz a fun a=>ldA w a k K:=by
 cases a with
 | none=>exact absurd h.1 hk
 | some a=>exact h
theorem take3 {i:Nat} (h:i+3≤xs.length):(xs.drop i).take (i+3 - i)=[(qbm xs i).1,(qbm xs i).2.1,(qbm xs i).2.2]:=by
 rw [show i+3 - i=3 by omega]
 rw [List.drop_eq_getElem_cons (by omega),List.drop_eq_getElem_cons (by omega),List.drop_eq_getElem_cons (by omega)]
 show [xs[i],xs[i+1],xs[i+2]]=_
 simp [qbm,List.getD,show i < xs.length by omega,show i+1 < xs.length by omega,show i+2 < xs.length by omega]
theorem qte.c {i:Nat} {K:Ending→World→Prop} (h:St F0 w0 w ps) [PkB fb ps [.slice s.a s.len s.cap,.map (some mb),.slice p.a p.len p.cap] rest] [Rdb F0 w0 s ps 1 (u8s xs)] (hc:s.len≤s.cap) (hi:i+3≤xs.length)
 (hk:∀ w',St F0 w0 w' ps→K (.returned (.agg ⟨kyL (qbm xs i)⟩)) w'):Calls Tryz.prog 288 ⟨[.pointer (some ⟨fb,0,none⟩),.int .i64 (i:Int)]⟩ w K:=by
 have hl:=(h.rdb s).1
 rw [ql] at hl
 refine qfc (qte.ok _ _ _ _ ?_)
 unfold qte
 rw [show zc Tryz.prog 394=⟨[.int .u8 0,.int .u8 0,.int .u8 0]⟩ by kernel_rfl]
 refine h.new fun nb w h=>?_
 have h:St F0 w0 w (qzc nb [.int .u8 0,.int .u8 0,.int .u8 0] :: ps):=h
 refine qtd (h.fL ?_)
 refine qvk rfl (by show i≤s.len; omega) ?_
 refine que ?_
 refine ⟨by show 3≤s.len - i; omega,?_⟩
 have hr:=(h.cutR s i (i+3) 0 (by omega) (by omega) hc (take3 hi)).rd h
 refine nz_ldA (hr.rdO (k:=3) rfl ⟨rfl,?_⟩) (by decide)
 refine h.sA (l:=[.int .u8 0,.int .u8 0,.int .u8 0]) (l':=kyL (qbm xs i)) rfl rfl (qtf (l:=[(qbm xs i).1,(qbm xs i).2.1,(qbm xs i).2.2])) fun w h=>?_
 refine h.lA rfl ?_
 exact hk w h.drop
theorem qtc.c {i k:Nat} {K:Ending→World→Prop} (h:St F0 w0 w ps) [PkB fb ps [.slice s.a s.len s.cap,.map (some mb),.slice p.a p.len p.cap] rest] [Rdb F0 w0 s ps 1 (u8s xs)] (hik:i < k) (hkl:k≤xs.length) (hlen:xs.length≤1000000)
 (hk:∀ w',St F0 w0 w' ps→K (.returned (.int .i64 (same xs i k:Int))) w'):Calls Tryz.prog 289 ⟨[.pointer (some ⟨fb,0,none⟩),.int .i64 (i:Int),.int .i64 (k:Int)]⟩ w K:=by
 have hl:=(h.rdb s).1
 rw [ql] at hl
 refine qfc (qtc.ok _ _ _ _ _ ?_)
 unfold qtc qtc.j1
 refine qmg (fun (m:Nat) (n':Int) w'=>n'=m∧m≤258∧sameN xs i k (258 - m) m=same xs i k∧St F0 w0 w' ps) (fun m=>258 - m) 0 ⟨rfl,by omega,rfl,h⟩ ?_
 clear h
 rintro m n' wL I μ ⟨rfl,hm,hs,h⟩ hin
 unfold qtc.b1
 refine h.drewK fun w h=>?_
 have done:sameN xs i k (258 - m) m=m→K (.returned (.int .i64 (m:Int))) w:=fun e=>by
  rw [e] at hs
  rw [← hs] at hk
  exact hk w h
 refine qnc (fun g=>?_) (fun g=>?_)
 · obtain ⟨f,hf⟩:∃ f,258 - m=f+1:=⟨258 - m - 1,by omega⟩
   rw [hf,sameN] at hs
   rw [hf,sameN] at done
   refine qn (qd (by omega) (by omega)) ?_
   refine qtd (h.fL ?_)
   refine qnc (fun g1=>?_) (fun g1=>?_)
   · have g1:(k:Int)+m < (s.len:Int):=g1
     refine qtd (h.fL ?_)
     refine qn (qd (by omega) (by omega)) ?_
     refine h.lx (s:=s) (i+m) (by omega) (by omega) ?_
     refine qtd (h.fL ?_)
     refine qn (qd (by omega) (by omega)) ?_
     refine h.lx (s:=s) (k+m) (by omega) (by omega) ?_
     refine qne (fun g2=>?_) (fun g2=>?_)
     · have g2:xs.getD (i+m) 0=xs.getD (k+m) 0:=by simpa using g2
       rw [if_pos ⟨by omega,g2⟩] at hs
       refine qn (qd (by omega) (by omega)) ?_
       exact ⟨⟨rfl,rfl,rfl⟩,hin (m+1) _ _ ⟨by omega,by omega,by rw [show 258 - (m+1)=f by omega]; exact hs,h⟩ (by omega)⟩
     · have g2:¬ xs.getD (i+m) 0=xs.getD (k+m) 0:=by simpa using g2
       exact done (if_neg fun e=>g2 e.2)
   · have g1:¬ (k:Int)+m < (s.len:Int):=g1
     exact done (if_neg fun e=>by omega)
 · rw [show 258 - m=0 by omega] at done
   exact done rfl
theorem qdb.c {a L:Nat} {K:Ending→World→Prop} (h:St F0 w0 w (finA fb mb s p E P :: ps)) [Rdb F0 w0 s ps 1 (u8s xs)] (hb:∀ x ∈ xs,0≤x∧x < 256) (hc:s.len≤s.cap) (hlen:xs.length≤1000000) (hF:FOK xs E P a) (ha:a≤xs.length) (hL:L≤4096)
 (hk:∀ w',St F0 w0 w' (finA fb mb s p E P :: ps)→K (.returned (.tuple ⟨[.int .i64 ((bestL xs a L).1:Int),.int .i64 ((bestL xs a L).2:Int)]⟩)) w') :
 Calls Tryz.prog 250 ⟨[.pointer (some ⟨fb,0,none⟩),.int .i64 (a:Int),.int .i64 (L:Int)]⟩ w K:=by
 have hl:=(h.drop.rdb s).1
 rw [ql] at hl
 have h:=fin_o h
 refine qfc (qdb.ok _ _ _ _ _ ?_)
 unfold qdb qdb.j1
 refine qn (qd (by omega) (by omega)) ?_
 refine qtd (h.fL ?_)
 have ex:∀ (n d:Nat) (w:World),bestL xs a L=(n,d)→St F0 w0 w (qzc fb [.slice s.a s.len s.cap,.map (some mb),.slice p.a p.len p.cap] :: mpA mb (kvl E) :: qcc 1 p (ivs .i64 P) :: ps)→K (.returned (.tuple ⟨[.int .i64 (n:Int),.int .i64 (d:Int)]⟩)) w:=by
  intro n d w e h
  rw [e] at hk
  exact hk w (fin_c h)
 clear hk
 refine qnc (fun g=>?_) (fun g=>?_)
 · have g:(a:Int)+3 > (s.len:Int):=g
   exact ex 0 0 w (by unfold bestL; rw [if_pos (by omega)]) h
 have g:¬ (a:Int)+3 > (s.len:Int):=g
 have hM:=hF.map (by omega)
 refine h.drewK fun w h=>?_
 have j2:∀ (w:World) (r20:Int) (r21:Bool),((r21=false∧lastK xs (qbm xs a) a=none) ∨ ∃ i:Nat,r20=(i:Int)∧r21=true∧lastK xs (qbm xs a) a=some i) →
  St F0 w0 w (qzc fb [.slice s.a s.len s.cap,.map (some mb),.slice p.a p.len p.cap] :: mpA mb (kvl E) :: qcc 1 p (ivs .i64 P) :: ps)→qdb.j2 (some ⟨fb,0,none⟩) (a:Int) (L:Int) 0 0 r20 r21 (fun v w'=>K (.returned v) w') w:=by
  intro w r20 r21 hr h
  unfold qdb.j2
  rcases hr with ⟨rfl,e⟩ | ⟨i0,rfl,rfl,e⟩
  · refine loop4 (fun (u:Nat) (t2 t6 t7 t8:Int) w'=>t6=0∧t7=0∧St F0 w0 w' (qzc fb [.slice s.a s.len s.cap,.map (some mb),.slice p.a p.len p.cap] :: mpA mb (kvl E) :: qcc 1 p (ivs .i64 P) :: ps)) (fun _=>0) 0 ⟨rfl,rfl,h⟩ ?_
    rintro u t2 t6 t7 t8 w I μ ⟨rfl,rfl,h⟩ hin
    unfold qdb.b1
    refine qsj ?_
    exact ex 0 0 w (by unfold bestL; rw [if_neg (by omega),e]) h
  · have eb:bestL xs a L=walkL xs a L i0 0 0:=by unfold bestL; rw [if_neg (by omega),e]
    have hi0:=(qgn e).1
    refine loop4 (fun (u:Nat × Nat × Nat × Nat) (t2 t6 t7 t8:Int) w'=>t2=u.1∧t6=u.2.1∧t7=u.2.2.1∧t8=u.2.2.2∧u.1≤4096∧u.2.2.2 < a∧u.2.1≤258∧walkL xs a u.1 u.2.2.2 u.2.1 u.2.2.1=walkL xs a L i0 0 0∧St F0 w0 w' (qzc fb [.slice s.a s.len s.cap,.map (some mb),.slice p.a p.len p.cap] :: mpA mb (kvl E) :: qcc 1 p (ivs .i64 P) :: ps)) (fun u=>u.1) (L,0,0,i0) ⟨rfl,rfl,rfl,rfl,hL,hi0,by simp,rfl,h⟩ ?_
    clear h
    rintro ⟨f,n,d,i⟩ t2 t6 t7 t8 wL I μ ⟨rfl,rfl,rfl,rfl,hf,hia,hn,hw,h⟩ hin
    simp only at hf hia hn hw h hin ⊢
    unfold qdb.b1
    refine qym ?_
    refine qnc (fun g1=>?_) (fun g1=>?_)
    · obtain ⟨f',rfl⟩:∃ f',f=f'+1:=⟨f - 1,by omega⟩
      rw [walkL] at hw
      refine qn (qd (by omega) (by omega)) ?_
      refine qnc (fun g2=>?_) (fun g2=>?_)
      · rw [if_neg (by omega)] at hw
        simp only at hw
        unfold qdb.j4
        refine qtc.c (xs:=xs) (i:=i) (k:=a) h hia ha hlen fun w h=>⟨_,rfl,?_⟩
        have hsl:=same_le xs i a
        have j6:∀ (n2 d2:Nat),n2=(if n < same xs i a then same xs i a else n)→d2=(if n < same xs i a then a - i else d)→qdb.j6 (some ⟨fb,0,none⟩) (a:Int) ((f'+1:Nat):Int) (n2:Int) (d2:Int) (i:Int) true (fun v w'=>K (.returned v) w') (fun d_0' i_1' t9' t2' t6' t7' t8' w'=>(d_0'=some ⟨fb,0,none⟩∧i_1'=(a:Int)∧t9'=true)∧I t2' t6' t7' t8' w'∧μ t2' t6' t7' t8' w' < μ ((f'+1:Nat):Int) (n:Int) (d:Int) (i:Int) wL) w:=by
         intro n2 d2 e1 e2
         rw [← e1,← e2] at hw
         have hn2:n2≤258:=by rw [e1]; split <;> omega
         unfold qdb.j6
         refine qtd (h.fL ?_)
         refine h.lx (s:=p) i rfl (by rw [hF.len]; exact hia) ?_
         have hrow:=hF.row i hia (by omega)
         unfold prI at hrow
         rw [hrow]
         cases hj:lastK xs (qbm xs i) i with
         | none =>
           rw [hj] at hw
           simp only at hw ⊢
           exact qnc (fun _=>ex n2 d2 w (eb.trans hw.symm) h) (fun g3=>absurd (by omega) g3)
         | some j =>
           rw [hj] at hw
           simp only at hw ⊢
           have hji:=(qgn hj).1
           refine qnc (fun g3=>by omega) (fun g3=>?_)
           refine qne (fun g4=>?_) (fun g4=>?_)
           · have g4:(n2:Int)=258:=by simpa using g4
             rw [if_pos (by omega)] at hw
             exact ex n2 d2 w (eb.trans hw.symm) h
           · have g4:¬ (n2:Int)=258:=by simpa using g4
             rw [if_neg (by omega)] at hw
             unfold qdb.j5
             refine qn (qd (by omega) (by omega)) ?_
             exact ⟨⟨rfl,rfl,rfl⟩,hin (f',n2,d2,j) _ _ _ _ _ ⟨by simp only; omega,rfl,rfl,rfl,by simp only; omega,by simp only; omega,hn2,hw,h⟩ (by simp only; omega)⟩
        refine qnc (fun g3=>?_) (fun g3=>?_)
        · refine qn (show IntKind.i64.wrap ((a:Int) - i)=((a - i:Nat):Int) by rw [qd (by omega) (by omega)]; omega) ?_
          exact j6 _ _ (by rw [if_pos (by omega)]) (by rw [if_pos (by omega)])
        · exact j6 _ _ (by rw [if_neg (by omega)]) (by rw [if_neg (by omega)])
      · rw [if_pos (by omega)] at hw
        exact ex n d wL (eb.trans hw.symm) h
    · have:f=0:=by omega
      subst this
      exact ex n d wL (eb.trans hw.symm) h
 have lk:∀ (w:World),St F0 w0 w (qzc fb [.slice s.a s.len s.cap,.map (some mb),.slice p.a p.len p.cap] :: mpA mb (kvl E) :: qcc 1 p (ivs .i64 P) :: ps) →
  ∃ r20:Int,∃ r21:Bool,lkR Tryz.prog 357 (.map (some mb)) (.agg ⟨kyL (qbm xs a)⟩) true w (.tuple ⟨[.int .i64 r20,.bool r21]⟩)∧qdb.j2 (some ⟨fb,0,none⟩) (a:Int) (L:Int) 0 0 r20 r21 (fun v w'=>K (.returned v) w') w:=by
  intro w h
  refine h.klook hF.keys (key_b hb a) (fun hn=>j2 w 0 false (Or.inl ⟨rfl,?_⟩) h) (fun e he hek=>?_)
  · cases hj:lastK xs (qbm xs a) a with
    | none=>rfl
    | some i =>
      obtain ⟨j,e,h1,h2⟩:=hM.all _ _ hj
      exact absurd h2 (hn e (List.mem_of_getElem? h1))
  · obtain ⟨j,hj⟩:=List.mem_iff_getElem?.1 he
    obtain ⟨i,h1,h2⟩:=hM.val j e hj
    rw [hek] at h2
    exact j2 w _ true (Or.inr ⟨i,h1,rfl,h2⟩) h
 refine qtd ⟨?_,?_⟩
 · refine h.fM ?_
   exact qte.c (xs:=xs) (i:=a) h hc (by omega) fun w h=>⟨_,rfl,lk w h⟩
 · refine qte.c (xs:=xs) (i:=a) h hc (by omega) fun w h=>⟨_,rfl,?_⟩
   exact h.fM (lk w h)
theorem qxc.c {a:Nat} {K:Ending→World→Prop} (h:St F0 w0 w (finA fb mb s p E P :: ps)) [Rdb F0 w0 s ps 1 (u8s xs)] (hb:∀ x ∈ xs,0≤x∧x < 256) (hc:s.len≤s.cap) (hlen:xs.length≤1000000) (hF:FOK xs E P a) (ha:a < xs.length)
 (hk:∀ p' E' P' w',St F0 w0 w' (finA fb mb s p' E' P' :: ps)→FOK xs E' P' (a+1)→K (.returned (.tuple ⟨[]⟩)) w') :
 Calls Tryz.prog 251 ⟨[.pointer (some ⟨fb,0,none⟩),.int .i64 (a:Int)]⟩ w K:=by
 have hl:=(h.drop.rdb s).1
 rw [ql] at hl
 have hPl:=hF.len
 have h:=fin_o h
 refine qfc (qxc.ok _ _ _ _ ?_)
 unfold qxc
 refine qtd (h.fL ?_)
 refine h.pushI (s:=p) (k:=.i64) (zs:=P) (by omega) fun p2 w h=>?_
 refine qtd (h.fst trivial fun w h=>?_)
 have h:St F0 w0 w (qzc fb [.slice s.a s.len s.cap,.map (some mb),.slice p2.a p2.len p2.cap] :: mpA mb (kvl E) :: qcc 1 p2 (ivs .i64 (P ++ [-1])) :: ps):=h.sub
 refine qn (qd (by omega) (by omega)) ?_
 refine qtd (h.fL ?_)
 have old:∀ j,j < a→(P ++ [-1]).getD j 0=P.getD j 0:=by
  intro j hj
  rw [List.getD,List.getElem?_append_left (by omega)]
  rfl
 refine qnc (fun g=>?_) (fun g=>?_)
 · have g:(a:Int)+3 > (s.len:Int):=g
   refine hk p2 E (P ++ [-1]) w (fin_c h) ⟨by simp [hPl],hF.keys,fun hle=>by omega,fun j hj hj3=>?_⟩
   rw [old j (by omega)]
   exact hF.row j (by omega) hj3
 have g:¬ (a:Int)+3 > (s.len:Int):=g
 have hM:=hF.map (by omega)
 unfold qxc.j1
 refine h.drewK fun w h=>?_
 have set:∀ (P2:List Int) (w:World),P2.length=a+1→(∀ j,j < a+1→j+3≤xs.length→P2.getD j 0=prI xs j)→St F0 w0 w (qzc fb [.slice s.a s.len s.cap,.map (some mb),.slice p2.a p2.len p2.cap] :: mpA mb (kvl E) :: qcc 1 p2 (ivs .i64 P2) :: ps) →
  ∃ w7:World,muR Tryz.prog 357 (.map (some mb)) (.agg ⟨kyL (qbm xs a)⟩) (.int .i64 (a:Int)) w w7∧K (.returned (.tuple ⟨[]⟩)) w7:=by
  intro P2 w h1 h2 h
  refine h.kset hF.keys (key_b hb a) fun E' w h he=>?_
  refine hk p2 E' P2 w (fin_c h.sub) ⟨h1,?_,fun hle=>hM.next he,h2⟩
  rcases he with ⟨rfl,_⟩ | ⟨j,e,_,_,rfl⟩
  · intro e he
    rcases List.mem_append.1 he with he | he
    · exact hF.keys e he
    · have:e=(qbm xs a,(a:Int)):=by simpa using he
      subst this
      exact key_b hb a
  · intro e2 he
    rcases List.mem_or_eq_of_mem_set he with he | rfl
    · exact hF.keys e2 he
    · exact key_b hb a
 have j2:∀ (P2:List Int) (w:World),P2.length=a+1→(∀ j,j < a+1→j+3≤xs.length→P2.getD j 0=prI xs j)→St F0 w0 w (qzc fb [.slice s.a s.len s.cap,.map (some mb),.slice p2.a p2.len p2.cap] :: mpA mb (kvl E) :: qcc 1 p2 (ivs .i64 P2) :: ps) →
  qxc.j2 (some ⟨fb,0,none⟩) (a:Int) (fun v w'=>K (.returned v) w') w:=by
  intro P2 w h1 h2 h
  unfold qxc.j2
  refine h.drewK fun w h=>?_
  refine qtd ⟨?_,?_⟩
  · refine h.fM ?_
    exact qte.c (xs:=xs) (i:=a) h hc (by omega) fun w h=>⟨_,rfl,set P2 w h1 h2 h⟩
  · refine qte.c (xs:=xs) (i:=a) h hc (by omega) fun w h=>⟨_,rfl,?_⟩
    exact h.fM (set P2 w h1 h2 h)
 have j3:∀ (w:World) (r20:Int) (r21:Bool),((r21=false∧lastK xs (qbm xs a) a=none) ∨ ∃ i:Nat,r20=(i:Int)∧r21=true∧lastK xs (qbm xs a) a=some i) →
  St F0 w0 w (qzc fb [.slice s.a s.len s.cap,.map (some mb),.slice p2.a p2.len p2.cap] :: mpA mb (kvl E) :: qcc 1 p2 (ivs .i64 (P ++ [-1])) :: ps)→qxc.j3 (some ⟨fb,0,none⟩) (a:Int) r20 r21 (fun v w'=>K (.returned v) w') w:=by
  intro w r20 r21 hr h
  unfold qxc.j3
  rcases hr with ⟨rfl,e⟩ | ⟨i,rfl,rfl,e⟩
  · refine qsj (j2 _ w (by simp [hPl]) (fun j hj hj3=>?_) h)
    rcases Nat.lt_or_ge j a with h1 | h1
    · rw [old j h1]; exact hF.row j h1 hj3
    · have:j=a:=by omega
      subst this
      unfold prI
      rw [e,List.getD,List.getElem?_append_right (by omega),hPl]
      simp
  · refine qym (qtd (h.fL ?_))
    refine h.sx (s:=p2) a rfl (by simp [hPl]) fun w h=>?_
    refine j2 ((P ++ [-1]).set a (i:Int)) w (by simp [hPl]) (fun j hj hj3=>?_) h.sub
    rcases Nat.lt_or_ge j a with h1 | h1
    · rw [List.getD,List.getElem?_set,if_neg (by omega)]
      have:=old j h1
      rw [List.getD] at this
      rw [this]; exact hF.row j h1 hj3
    · have:j=a:=by omega
      subst this
      unfold prI
      rw [e,List.getD,List.getElem?_set,if_pos rfl,if_pos (by simp [hPl])]
      rfl
 have lk:∀ (w:World),St F0 w0 w (qzc fb [.slice s.a s.len s.cap,.map (some mb),.slice p2.a p2.len p2.cap] :: mpA mb (kvl E) :: qcc 1 p2 (ivs .i64 (P ++ [-1])) :: ps) →
  ∃ r20:Int,∃ r21:Bool,lkR Tryz.prog 357 (.map (some mb)) (.agg ⟨kyL (qbm xs a)⟩) true w (.tuple ⟨[.int .i64 r20,.bool r21]⟩)∧qxc.j3 (some ⟨fb,0,none⟩) (a:Int) r20 r21 (fun v w'=>K (.returned v) w') w:=by
  intro w h
  refine h.klook hF.keys (key_b hb a) (fun hn=>j3 w 0 false (Or.inl ⟨rfl,?_⟩) h) (fun e he hek=>?_)
  · cases hj:lastK xs (qbm xs a) a with
    | none=>rfl
    | some i =>
      obtain ⟨j,e,h1,h2⟩:=hM.all _ _ hj
      exact absurd h2 (hn e (List.mem_of_getElem? h1))
  · obtain ⟨j,hj⟩:=List.mem_iff_getElem?.1 he
    obtain ⟨i,h1,h2⟩:=hM.val j e hj
    rw [hek] at h2
    exact j3 w _ true (Or.inr ⟨i,h1,rfl,h2⟩) h
 refine qtd ⟨?_,?_⟩
 · refine h.fM ?_
   exact qte.c (xs:=xs) (i:=a) h hc (by omega) fun w h=>⟨_,rfl,lk w h⟩
 · refine qte.c (xs:=xs) (i:=a) h hc (by omega) fun w h=>⟨_,rfl,?_⟩
   exact h.fM (lk w h)
end
end Go.Proofs.YtejnemneenjliaaGreat
namespace Go.Proofs.YtejnemneenjliaaGreat
open Go Go.Proofs
set_option linter.unusedVariables false
set_option linter.unusedSimpArgs false
attribute [local irreducible] apK cpK mkK br
class ElT (P:Program) (e:TypeId):Prop where
 info:∃ i,P.info? e=some i∧i.size=3∧i.bytes ≠ 0∧i.bytes≤48
 zc:(Go.Proofs.YtejnemneenjliaaGreat.zc P e).size=3
instance elt_tok:ElT Tryz.prog 351:=⟨⟨Tryz.t351,by kernel_rfl,rfl,by decide,by decide⟩,by kernel_rfl⟩
theorem spl_tok (t:Tk):spl [.int .u8 0,.int .i64 0,.int .i64 0] 0 ⟨tkC t⟩=tkC t:=by kernel_rfl
section
variable {F0:List Nat} {w0 w:World} {ps rest:List As} {P:Program} {e:TypeId} {s:Sl} {L:List Tk} {xs:List Int}
theorem St.pushT {t:Tk} {K:Sl→World→Prop} [he:ElT P e] (h:St F0 w0 w ps) [PkO s ps 3 (tks L) rest] (hlen:L.length≤1000000000)
 (hk:∀ s' w',s'.len=s.len+1→St F0 w0 w' (qcc 3 s' (tks (L ++ [t])) :: rest)→K s' w') :
 lt (⟨World.heapSize w,0,none⟩:Addr) fun a=>lt (World.alloc w (.cells ⟨spl [.int .u8 0,.int .i64 0,.int .i64 0] 0 ⟨tkC t⟩⟩ e)) fun w1=>rdO w1 (some a) (1 * 3) fun c=>apK P e w1 s.a s.len s.cap 1 c K:=by
 rw [spl_tok]
 refine (h.toO s).new fun nb w h=>?_
 have h:St F0 w0 w (qzc nb (tkC t) :: qcc 3 s (tks L) :: rest):=h
 refine h.rdB rfl ?_
 have h:=h.drop
 have hl:=h.len
 rw [qmi] at hl
 obtain ⟨i,h1,h2,h3,h4⟩:=he.info
 refine St.append (i:=i) (sz:=3) (m:=1) h1 h2 (by decide) he.zc h3 ?_ h rfl (qgm t) fun s' w' h hl'=>hk s' w' hl' (by rw [tks_snoc]; exact h)
 refine Nat.le_trans (Nat.mul_le_mul_left _ h4) ?_
 omega
theorem qer.c {cs:List Value} {K:Ending→World→Prop} (h:St F0 w0 w (rdA 3 s cs :: ps)) (hc:s.len≤s.cap)
 (hk:∀ s':Sl,s'.len=s.len→s'.cap=s.len→St F0 w0 w (rdA 3 s' cs :: ps)→K (.returned (.slice s'.a s'.len s'.cap)) w):Calls Tryz.prog 252 ⟨[.slice s.a s.len s.cap]⟩ w K:=by
 refine qfc (qpg.ok _ _ _ ?_)
 unfold qpg
 refine ⟨⟨by omega,by omega⟩,⟨by omega,by omega⟩,que ?_⟩
 refine hk ⟨_,_,_⟩ (by simp) (by simp) (h.recap ?_ (by simp))
 show qgf s.a _ 0 3=s.a
 unfold qgf
 split
 · rfl
 · cases s.a with
   | none=>rfl
   | some a=>simp [Addr.add]
theorem findL_step {b:List Int} {looks at':Nat} (h:at' < b.length):findL b looks (b.length - at') at'=(stepL b looks at').1 :: findL b looks (b.length - (at'+(stepL b looks at').2)) (at'+(stepL b looks at').2):=by
 obtain ⟨f,hf⟩:∃ f,b.length - at'=f+1:=⟨b.length - at' - 1,by omega⟩
 rw [hf,findL,if_pos h]
 congr 1
 have:=qfo b looks at'
 exact findL_fuel _ _ _ _ _ (by omega) (by omega)
theorem findL_makes (b:List Int) (looks:Nat):∀ f at',b.length - at'≤f→at'≤b.length→qng b at' (findL b looks f at') b.length:=by
 intro f
 induction f with
 | zero =>
   intro at' h1 h2
   have:at'=b.length:=by omega
   subst this; exact qng.nil _
 | succ f ih =>
   intro at' h1 h2
   rw [findL]
   split
   · rename_i hlt
     have hp:=qfo b looks at'
     have hle:=stepL_le b looks at' hlt
     have hr:=ih (at'+(stepL b looks at').2) (by omega) hle
     revert hr
     unfold stepL
     simp only
     split
     · intro hr; exact qng.lit hlt hr
     · rename_i h3
       intro hr
       rcases qrt b at' looks with h4 | ⟨h4,h5,h6,h7,h8,h9⟩
       · omega
       · exact qng.copy (by omega) h4 h5 h6 h7 h8 h9 hr
   · have:at'=b.length:=by omega
     subst this; exact qng.nil _
def looksOf (e:Int):Nat:=(if 4096 < e then 4096 else e).toNat
theorem looksOf_le (e:Int):looksOf e≤4096:=by unfold looksOf; split <;> omega
theorem looks_eq (e:Int):(if (4096:Int) < (if (0:Int) > e then 0 else e) then 4096 else (if (0:Int) > e then 0 else e))=(looksOf e:Int):=by
 unfold looksOf
 by_cases h1:(0:Int) > e
 · rw [if_pos h1,if_neg (by decide),if_neg (by omega)]; omega
 · rw [if_neg h1]
   by_cases h2:4096 < e
   · rw [if_pos h2]; rfl
   · rw [if_neg h2]; omega
theorem qyc.c {e:Int} {K:Ending→World→Prop} (h:St F0 w0 w ps) [Rdb F0 w0 s ps 1 (u8s xs)] (hb:∀ x ∈ xs,0≤x∧x < 256) (hc:s.len≤s.cap) (hlen:xs.length≤262144)
 (hk:∀ s' w',s'.len=(findL xs (looksOf e) xs.length 0).length→s'.cap=s'.len→St F0 w0 w' (rdA 3 s' (tks (findL xs (looksOf e) xs.length 0)) :: ps)→K (.returned (.slice s'.a s'.len s'.cap)) w') :
 Calls Tryz.prog 225 ⟨[.slice s.a s.len s.cap,.int .i64 e]⟩ w K:=by
 have hl:=(h.rdb s).1
 rw [ql] at hl
 refine qfc (qyc.ok _ _ _ _ ?_)
 unfold qyc qyc.j1
 refine qnc (fun g=>by omega) (fun _=>?_)
 refine h.mmake fun mb w h=>?_
 refine h.new fun fb w h=>?_
 have h:=(h.nil 1).at2.at2
 have h:St F0 w0 w (finA fb mb s ⟨none,0,0⟩ [] [] :: ps):=fin_c h
 unfold qyc.j2
 refine que (qn (looks_eq e) ?_)
 have hlk:=looksOf_le e
 generalize looksOf e=looks at hk hlk ⊢
 unfold qyc.j3 qyc.j5
 refine qkg (fun (u:Nat × List Tk × Sl × List ((Int × Int × Int) × Int) × List Int) (o:Sl) (at':Int) w'=>at'=u.1∧u.1≤xs.length∧u.2.1.length≤u.1∧u.2.1 ++ findL xs looks (xs.length - u.1) u.1=findL xs looks xs.length 0∧FOK xs u.2.2.2.1 u.2.2.2.2 u.1∧St F0 w0 w' (qcc 3 o (tks u.2.1) :: finA fb mb s u.2.2.1 u.2.2.2.1 u.2.2.2.2 :: ps)) (fun u=>xs.length - u.1) (0,[],⟨none,0,0⟩,[],[])
  ⟨rfl,by simp,by simp,by simp,⟨rfl,by simp,fun _=>KM.nil xs,fun j hj _=>absurd hj (Nat.not_lt_zero j)⟩,h.nil 3⟩ ?_
 clear h
 rintro ⟨a,L,p,E,P⟩ o at' wL I μ ⟨rfl,ha,hLa,hf,hF,h⟩ hin
 simp only at ha hLa hf hF h hin ⊢
 unfold qyc.b1
 refine qnc (fun g=>?_) (fun g=>?_)
 · have hlt:a < xs.length:=by omega
   rw [findL_step hlt] at hf
   unfold qyc.j6
   have hle:=stepL_le xs looks a hlt
   have hp:=qfo xs looks a
   refine qdb.c (xs:=xs) h.at1 hb hc (by omega) hF ha hlk fun w h=>⟨_,_,rfl,?_⟩
   unfold qyc.j7
   refine h.tokN (t:=(0,((bestL xs a looks).1:Int),((bestL xs a looks).2:Int))) fun nb w h=>?_
   have fin:∀ (t:Tk) (n:Nat) (w:World),(t,n)=stepL xs looks a→St F0 w0 w (qzc nb (tkC t) :: finA fb mb s p E P :: qcc 3 o (tks L) :: ps)→qyc.j8 s (some ⟨fb,0,none⟩) (looks:Int) o (a:Int) (n:Int) ⟨nb,0,none⟩ (fun v w'=>K (.returned v) w') (fun b' f' l' o' at'' w'=>(b'=s∧f'=some ⟨fb,0,none⟩∧l'=(looks:Int))∧I o' at'' w'∧μ o' at'' w' < μ o (a:Int) wL) w:=by
    intro t n w e h
    rw [← e] at hf hle hp
    simp only at hf hle hp
    unfold qyc.j8
    refine h.lA rfl ⟨rfl,?_⟩
    refine h.pushT (s:=o) (L:=L) (t:=t) (by omega) fun o2 w hol h=>?_
    have h:St F0 w0 w (qcc 3 o2 (tks (L ++ [t])) :: finA fb mb s p E P :: ps):=h.sub
    unfold qyc.j9
    refine qkg (fun (v:Nat × Sl × List ((Int × Int × Int) × Int) × List Int) (at' c':Int) w'=>c'=v.1∧at'=((a+v.1:Nat):Int)∧v.1≤n∧FOK xs v.2.2.1 v.2.2.2 (a+v.1)∧St F0 w0 w' (qcc 3 o2 (tks (L ++ [t])) :: finA fb mb s v.2.1 v.2.2.1 v.2.2.2 :: ps)) (fun v=>n - v.1) (0,p,E,P) ⟨rfl,rfl,by simp,hF,h⟩ ?_
    clear h
    rintro ⟨c,p2,E2,P2⟩ at2 c' w2 I2 μ2 ⟨rfl,rfl,hcn,hF2,h⟩ hin2
    simp only at hcn hF2 h hin2 ⊢
    unfold qyc.b2
    refine qnc (fun g2=>?_) (fun g2=>?_)
    · refine qxc.c (xs:=xs) h.at1 hb hc (by omega) hF2 (by omega) fun p3 E3 P3 w h hF3=>⟨rfl,?_⟩
      refine qn (qd (by omega) (by omega)) ?_
      refine qn (qd (by omega) (by omega)) ?_
      exact ⟨⟨rfl,rfl,rfl,rfl,rfl⟩,hin2 (c+1,p3,E3,P3) _ _ _ ⟨by simp,by simp only; omega,by simp only; omega,hF3,h.at1⟩ (by simp only; omega)⟩
    · have:c=n:=by omega
      subst this
      exact ⟨⟨rfl,rfl,rfl⟩,hin (a+c,L ++ [t],p2,E2,P2) _ _ _ ⟨rfl,hle,by simp; omega,by simpa using hf,hF2,h⟩ (by simp only; omega)⟩
   refine qnc (fun g2=>?_) (fun g2=>?_)
   · refine h.lx (s:=s) a rfl hlt ?_
     refine ⟨rfl,?_⟩
     refine h.sA (l:=tkC (0,((bestL xs a looks).1:Int),((bestL xs a looks).2:Int))) (l':=tkC (xs.getD a 0,0,0)) rfl rfl (qgm _) fun w h=>?_
     exact fin (xs.getD a 0,0,0) 1 w (by unfold stepL; simp only; rw [if_pos (by omega)]) h
   · exact fin _ _ w (by unfold stepL; simp only; rw [if_neg (by omega)]) h
 · have:a=xs.length:=by omega
   subst this
   rw [Nat.sub_self,show findL xs looks 0 xs.length=[] from rfl,List.append_nil] at hf
   unfold qyc.j4
   have hol:=h.len
   rw [qmi] at hol
   refine qer.c h.ro (h.cap (by decide)) fun s2 h1 h2 h=>⟨s2,rfl,?_⟩
   rw [← hf] at hk
   exact hk s2 wL (by omega) (by omega) (h.tail fun _ _ _ h=>h.drop)
theorem tkCopy_b (d:Int):∀ k (out:List Int),(∀ x ∈ out,0≤x∧x < 256)→∀ x ∈ tkCopy d k out,0≤x∧x < 256:=by
 intro k
 induction k with
 | zero=>intro out h; exact h
 | succ k ih =>
   intro out h
   rw [tkCopy]
   refine ih _ fun x hx=>?_
   rcases List.mem_append.1 hx with hx | hx
   · exact h x hx
   · have:x=out.getD (out.length - d.toNat) 0:=by simpa using hx
     subst this
     rcases Nat.lt_or_ge (out.length - d.toNat) out.length with h1 | h1
     · rw [List.getD,List.getElem?_eq_getElem h1]
       exact h _ (List.getElem_mem h1)
     · rw [List.getD,List.getElem?_eq_none h1]
       decide
end
end Go.Proofs.YtejnemneenjliaaGreat
namespace Go.Proofs.YtejnemneenjliaaGreat
open Go Go.Proofs
set_option linter.unusedVariables false
set_option linter.unusedSimpArgs false
attribute [local irreducible] apK cpK mkK
theorem Rd.ldA {sz n i:Nat} {w:World} {s:Sl} {cs:List Value} {a:Addr} {c:Array Value} {K:Array Value→Prop} (h:Rd w sz s cs) (ha:s.a=some a) (hi:i+n≤cs.length) (hs:c.size=n) (hv:∀ j,j < n→cs[i+j]?=c[j]?) (hk:K c):ldA w (a.add i) n K :=
 ⟨c,hs,fun j hj=>by rw [qzm,h.cell ha (by omega)]; exact hv j hj,hk⟩
section
variable {F0:List Nat} {w0 w:World} {ps:List As}
end
end Go.Proofs.YtejnemneenjliaaGreat
namespace Go.Proofs.YtejnemneenjliaaGreat
open Go Go.Proofs
set_option linter.unusedVariables false
set_option linter.unusedSimpArgs false
attribute [local irreducible] apK cpK mkK br
section
variable {F0:List Nat} {w0 w:World} {ps rest rest2:List As}
theorem qvq {x:Int} (h0:0≤x) (h1:x < 18446744073709551616):IntKind.u64.wrap x=x:=by
 have e:IntKind.u64.wrap x=x % 18446744073709551616:=by simp [IntKind.wrap,IntKind.bits,IntKind.signed]
 rw [e]; omega
theorem qql {e x:Int} (h0:0≤x) (h1:x≤24):pb e x=qi e x.toNat:=by
 unfold pb
 rw [if_pos ⟨h0,h1⟩]
theorem symP_x {v:Int} {dist:Bool} {n e x:Int} (h:symP v dist n e x):0≤x∧x≤14:=by
 rcases h with ⟨_,_,_,b,hz,_,_,_,h0⟩ | ⟨_,_,_,b,hz,_,_,_,h0⟩
 · have:=zdis_x n
   rw [hz] at this
   exact ⟨h0,this⟩
 · have:=zlen_x n
   rw [hz] at this
   exact ⟨h0,by simp only at this; omega⟩
end
end Go.Proofs.YtejnemneenjliaaGreat
namespace Go.Proofs.YtejnemneenjliaaGreat
open Go Go.Proofs
set_option linter.unusedVariables false
set_option maxRecDepth 100000
def qxh  (Q:VWP) (w:World):Prop :=
 nw w (zc Tryz.prog 430) 430 fun a1 w2 =>
 ((⟨[.int .i64 16,.int .i64 17,.int .i64 18,.int .i64 0,.int .i64 8,.int .i64 7,.int .i64 9,.int .i64 6,.int .i64 10,.int .i64 5,.int .i64 11,.int .i64 4,.int .i64 12,.int .i64 3,.int .i64 13,.int .i64 2,.int .i64 14,.int .i64 1,.int .i64 15]⟩:Array Value)).size=19 ∧
 stA w2 a1 (⟨[.int .i64 16,.int .i64 17,.int .i64 18,.int .i64 0,.int .i64 8,.int .i64 7,.int .i64 9,.int .i64 6,.int .i64 10,.int .i64 5,.int .i64 11,.int .i64 4,.int .i64 12,.int .i64 3,.int .i64 13,.int .i64 2,.int .i64 14,.int .i64 1,.int .i64 15]⟩:Array Value) fun w3 =>
 ldA w3 a1 19 fun c4 =>
 Q (.agg c4) w3
theorem qxh.ok  (Q:VWP) (w:World) (h:qxh  Q w):Calls Tryz.prog 328 ⟨[]⟩ w (Ret Q) :=
 qqc [.cell 0 430] qbe Tryz.func328 rfl rfl rfl rfl .lf (by kernel_rfl) h
def qef (s_0:OAd) (sym_1:Int) (l_2:Sl) (Q:VWP) (w:World):Prop :=
 br (sym_1 == 16) (
 br ((l_2.len:Int) == 0) (
 ct_ 306 [.pointer s_0,.int .i64 2] w fun w2 =>
 Q (.tuple ⟨[.int .i64 0,.int .i64 0]⟩) w2) (
 lt (World.drew w) fun w3 =>
 lt (IntKind.i64.wrap ((l_2.len:Int) - 1)) fun x4 =>
 ixS l_2.a l_2.len x4 1 fun a5 =>
 (ldI .i64 w3 a5 fun x6 =>
 qxi 302 [.pointer s_0,.int .i64 2] w3 fun r9 w8 =>
 lt (IntKind.i64.wrap (3+r9)) fun x10 =>
 Q (.tuple ⟨[.int .i64 x6,.int .i64 x10]⟩) w8)∧(
 qxi 302 [.pointer s_0,.int .i64 2] w3 fun r13 w12 =>
 lt (IntKind.i64.wrap (3+r13)) fun x14 =>
 ldI .i64 w12 a5 fun x15 =>
 Q (.tuple ⟨[.int .i64 x15,.int .i64 x14]⟩) w12))) (
 br (sym_1 == 17) (
 qxi 302 [.pointer s_0,.int .i64 3] w fun r18 w17 =>
 lt (IntKind.i64.wrap (3+r18)) fun x19 =>
 Q (.tuple ⟨[.int .i64 0,.int .i64 x19]⟩) w17) (
 br (sym_1 == 18) (
 qxi 302 [.pointer s_0,.int .i64 7] w fun r22 w21 =>
 lt (IntKind.i64.wrap (11+r22)) fun x23 =>
 Q (.tuple ⟨[.int .i64 0,.int .i64 x23]⟩) w21) (
 Q (.tuple ⟨[.int .i64 sym_1,.int .i64 1]⟩) w)))
theorem qef.ok (s_0:OAd) (sym_1:Int) (l_2:Sl) (Q:VWP) (w:World) (h:qef s_0 sym_1 l_2 Q w):Calls Tryz.prog 329 ⟨[.pointer s_0,.int .i64 sym_1,sV l_2]⟩ w (Ret Q) :=
 qqc [.tmp 6,.tmp 7] qbe Tryz.func329 rfl rfl rfl rfl .lf (by kernel_rfl) h
def qlb.j4 (newslice_7:Sl) (Q:VWP) (w:World):Prop :=
 Q (sV newslice_7) w
def qlb.b1 (newslice_7:Sl) (n_8:Int) (Q:VWP) (nx1:Sl→Int→WP) (w:World):Prop :=
 br (decide (n_8 < (newslice_7.len:Int))) (
 lt (World.drew w) fun w1 =>
 bd n_8 newslice_7.len fun n2 =>
 lt (⟨qgf newslice_7.a newslice_7.cap n2 1,newslice_7.len - n2,newslice_7.cap - n2⟩:Sl) fun s3 =>
 bd n_8 newslice_7.cap fun n4 =>
 lt (⟨qgf newslice_7.a newslice_7.cap 0 1,n4 - 0,newslice_7.cap - 0⟩:Sl) fun s5 =>
 rdO w1 s5.a ((Nat.min s5.len s3.len) * 1) fun c6 =>
 cpK w1 s3.a c6 fun w7 =>
 lt (IntKind.i64.wrap (n_8+((Nat.min s5.len s3.len:Nat):Int))) fun x8 =>
 nx1 newslice_7 x8 w7) (
 qlb.j4 newslice_7 Q w)
def qlb.l1 (newslice_7:Sl) (n_8:Int) (Q:VWP) (w:World):Prop :=
 ∃ (I:Int→WP) (μ:Int→World→Nat),I n_8 w∧∀ n_8:Int,∀ w:World,I n_8 w→qlb.b1 newslice_7 n_8 Q (fun newslice_7' n_8' w'=>(newslice_7'=newslice_7)∧I n_8' w'∧μ n_8' w' < μ n_8 w) w
def qlb.j3 (newslice_7:Sl) (n_8:Int) (Q:VWP) (w:World):Prop :=
 qlb.l1 newslice_7 n_8 Q w
def qlb.j2 (x_0:Sl) (lo_6:Int) (Q:VWP) (w:World):Prop :=
 lt (IntKind.i64.wrap lo_6) fun x9 =>
 mkK Tryz.prog 3 w x9 x9 fun s10 w11 =>
 rdO w11 x_0.a ((Nat.min x_0.len s10.len) * 1) fun c12 =>
 cpK w11 s10.a c12 fun w13 =>
 qlb.j3 s10 ((Nat.min x_0.len s10.len:Nat):Int) Q w13
def qlb.j1 (x_0:Sl) (count_1:Int) (Q:VWP) (w:World):Prop :=
 lt (IntKind.u64.wrap (x_0.len:Int)) fun x14 =>
 lt (IntKind.u64.wrap count_1) fun x15 =>
 Calls Tryz.prog 340 ⟨[.int .u64 x14,.int .u64 x15]⟩ w fun e16 w17 =>
 ∃ r18:Int,∃ r19:Int,e16=.returned (.tuple ⟨[.int .u64 r18,.int .u64 r19]⟩) ∧
 br (decide (r18 > 0)) (
 False) (
 br (decide (r19 > 9223372036854775807)) (
 False) (
 qlb.j2 x_0 r19 Q w17))
def qlb (x_0:Sl) (count_1:Int) (Q:VWP) (w:World):Prop :=
 br (decide (count_1 < 0)) (
 False) (
 qlb.j1 x_0 count_1 Q w)
theorem qlb.ok (x_0:Sl) (count_1:Int) (Q:VWP) (w:World) (h:qlb x_0 count_1 Q w):Calls Tryz.prog 330 ⟨[sV x_0,.int .i64 count_1]⟩ w (Ret Q) :=
 qqc [.tmp 4] qbe Tryz.func330 rfl rfl rfl rfl (.pr 1 [sL 0,sI 1] (fun a b w=>qlb.j1 a b Q w) (.pr 1 [sL 0,(6,.I .u64)] (fun a b w=>qlb.j2 a b Q w) (.pr 1 [sL 7,sI 8] (fun a b w=>qlb.j3 a b Q w) (.sq [sL 7] (fun a w=>qlb.j4 a Q w) (.bk (.lo [sL 7] [sI 8] (fun a b w=>qlb.l1 a b Q w) (fun nx1 a b w=>qlb.b1 a b Q nx1 w) fun nx1=>.lf)) .lf)))) (by kernel_rfl) h
def qg.j7 (d_0:OAd) (t4:Int) (t11:Sl) (Q:VWP) (w:World):Prop :=
 nz d_0 fun a1 =>
 ldI .i64 w (Addr.add a1 3) fun x2 =>
 br (x2 != 0) (
 Q (.tuple ⟨[.slice none 0 0,.slice none 0 0]⟩) w) (
 lt (World.drew w) fun w3 =>
 bd t4 t11.cap fun n4 =>
 lt (⟨qgf t11.a t11.cap 0 1,n4 - 0,t11.cap - 0⟩:Sl) fun s5 =>
 bd t4 t11.len fun n6 =>
 lt (⟨qgf t11.a t11.cap n6 1,t11.len - n6,t11.cap - n6⟩:Sl) fun s7 =>
 Q (.tuple ⟨[sV s5,sV s7]⟩) w3)
def qg.j9 (d_0:OAd) (t4:Int) (t5:Int) (t10:OAd) (t11:Sl) (t12:Int) (t13:Int) (Q:VWP) (nx1:OAd→Int→Int→OAd→Sl→WP) (w:World):Prop :=
 nz d_0 fun a8 =>
 ldI .i64 w (Addr.add a8 3) fun x9 =>
 br (x9 == 0) (
 nw w ⟨[.int .i64 t12]⟩ 3 fun a10 w11 =>
 qij 330 [.slice (some a10) 1 1,.int .i64 t13] w11 fun r14 w13 =>
 rdO w13 r14.a (r14.len * 1) fun c15 =>
 apK Tryz.prog 3 w13 t11.a t11.len t11.cap r14.len c15 fun s16 w17 =>
 nx1 d_0 t4 t5 t10 s16 w17) (
 nx1 d_0 t4 t5 t10 t11 w)
def qg.j8 (d_0:OAd) (t4:Int) (t5:Int) (t10:OAd) (t11:Sl) (Q:VWP) (nx1:OAd→Int→Int→OAd→Sl→WP) (w:World):Prop :=
 qxi 325 [.pointer d_0,.func (.func 326) ⟨[.pointer t10]⟩ ⟨[]⟩] w fun r20 w19 =>
 ct_II 329 [.pointer d_0,.int .i64 r20,sV t11] w19 fun r23 r24 w22 =>
 lt (IntKind.i64.wrap (t4+t5)) fun x25 =>
 lt (IntKind.i64.wrap (x25 - (t11.len:Int))) fun x26 =>
 br (decide (r24 > x26)) (
 ct_ 306 [.pointer d_0,.int .i64 2] w22 fun w28 =>
 qg.j9 d_0 t4 t5 t10 t11 r23 r24 Q nx1 w28) (
 qg.j9 d_0 t4 t5 t10 t11 r23 r24 Q nx1 w22)
def qg.b1 (d_0:OAd) (t4:Int) (t5:Int) (t10:OAd) (t11:Sl) (Q:VWP) (nx1:OAd→Int→Int→OAd→Sl→WP) (w:World):Prop :=
 nz d_0 fun a29 =>
 ldI .i64 w (Addr.add a29 3) fun x30 =>
 br (x30 == 0) (
 lt (IntKind.i64.wrap (t4+t5)) fun x31 =>
 br (decide ((t11.len:Int) < x31)) (
 qg.j8 d_0 t4 t5 t10 t11 Q nx1 w) (
 qg.j7 d_0 t4 t11 Q w)) (
 qg.j7 d_0 t4 t11 Q w)
def qg.l1 (d_0:OAd) (t4:Int) (t5:Int) (t10:OAd) (t11:Sl) (Q:VWP) (w:World):Prop :=
 ∃ (I:Sl→WP) (μ:Sl→World→Nat),I t11 w∧∀ t11:Sl,∀ w:World,I t11 w→qg.b1 d_0 t4 t5 t10 t11 Q (fun d_0' t4' t5' t10' t11' w'=>(d_0'=d_0∧t4'=t4∧t5'=t5∧t10'=t10)∧I t11' w'∧μ t11' w' < μ t11 w) w
def qg.j6 (d_0:OAd) (t4:Int) (t5:Int) (t10:OAd) (t11:Sl) (Q:VWP) (w:World):Prop :=
 qg.l1 d_0 t4 t5 t10 t11 Q w
def qg.j5 (d_0:OAd) (t4:Int) (t5:Int) (t6:Addr) (Q:VWP) (w:World):Prop :=
 lt (⟨cutP t6 19 0 1,19 - 0,19 - 0⟩:Sl) fun s32 =>
 cr_P 324 [.pointer d_0,sV s32,.bool false] w fun r35 w34 =>
 qg.j6 d_0 t4 t5 r35 ⟨none,0,0⟩ Q w34
def qg.b2 (d_0:OAd) (t4:Int) (t5:Int) (t6:Addr) (t32:Sl) (t33:Int) (t34:Int) (Q:VWP) (nx2:OAd→Int→Int→Addr→Sl→Int→Int→WP) (w:World):Prop :=
 br (decide (t34 < t33)) (
 ixS t32.a t32.len t34 1 fun a36 =>
 ldI .i64 w a36 fun x37 =>
 qxi 302 [.pointer d_0,.int .i64 3] w fun r40 w39 =>
 ixA t6 19 x37 1 fun a41 =>
 st w39 a41 (.int .i64 r40) fun w42 =>
 lt (IntKind.i64.wrap (t34+1)) fun x43 =>
 nx2 d_0 t4 t5 t6 t32 t33 x43 w42) (
 qg.j5 d_0 t4 t5 t6 Q w)
def qg.l2 (d_0:OAd) (t4:Int) (t5:Int) (t6:Addr) (t32:Sl) (t33:Int) (t34:Int) (Q:VWP) (w:World):Prop :=
 ∃ (I:Int→WP) (μ:Int→World→Nat),I t34 w∧∀ t34:Int,∀ w:World,I t34 w→qg.b2 d_0 t4 t5 t6 t32 t33 t34 Q (fun d_0' t4' t5' t6' t32' t33' t34' w'=>(d_0'=d_0∧t4'=t4∧t5'=t5∧t6'=t6∧t32'=t32∧t33'=t33)∧I t34' w'∧μ t34' w' < μ t34 w) w
def qg.j10 (d_0:OAd) (t4:Int) (t5:Int) (t6:Addr) (t32:Sl) (t33:Int) (t34:Int) (Q:VWP) (w:World):Prop :=
 qg.l2 d_0 t4 t5 t6 t32 t33 t34 Q w
def qg.j4 (d_0:OAd) (t4:Int) (t5:Int) (t6:Addr) (t7:Addr) (Q:VWP) (w:World):Prop :=
 qxi 302 [.pointer d_0,.int .i64 4] w fun r46 w45 =>
 lt (IntKind.i64.wrap (r46+4)) fun x47 =>
 bd x47 19 fun n48 =>
 lt (⟨cutP t7 19 0 1,n48 - 0,19 - 0⟩:Sl) fun s49 =>
 qg.j10 d_0 t4 t5 t6 s49 (s49.len:Int) 0 Q w45
def qg.j3 (d_0:OAd) (t4:Int) (t5:Int) (Q:VWP) (w:World):Prop :=
 nw w (zc Tryz.prog 430) 430 fun a50 w51 =>
 cr_G 328 [] w51 fun r54 w53 =>
 nw w53 (zc Tryz.prog 430) 430 fun a55 w56 =>
 (r54).size=19 ∧
 stA w56 a55 r54 fun w57 =>
 qg.j4 d_0 t4 t5 a50 a55 Q w57
def qg.j2 (d_0:OAd) (t4:Int) (Q:VWP) (w:World):Prop :=
 qxi 302 [.pointer d_0,.int .i64 5] w fun r60 w59 =>
 lt (IntKind.i64.wrap (r60+1)) fun x61 =>
 br (decide (x61 > 30)) (
 ct_ 306 [.pointer d_0,.int .i64 2] w59 fun w63 =>
 qg.j3 d_0 t4 x61 Q w63) (
 qg.j3 d_0 t4 x61 Q w59)
def qg.j1 (d_0:OAd) (Q:VWP) (w:World):Prop :=
 qxi 302 [.pointer d_0,.int .i64 5] w fun r66 w65 =>
 lt (IntKind.i64.wrap (r66+257)) fun x67 =>
 br (decide (x67 > 286)) (
 ct_ 306 [.pointer d_0,.int .i64 2] w65 fun w69 =>
 qg.j2 d_0 x67 Q w69) (
 qg.j2 d_0 x67 Q w65)
def qg (d_0:OAd) (Q:VWP) (w:World):Prop :=
 qg.j1 d_0 Q w
theorem qg.ok (d_0:OAd) (Q:VWP) (w:World) (h:qg d_0 Q w):Calls Tryz.prog 305 ⟨[.pointer d_0]⟩ w (Ret Q) :=
 qqc [.tmp 2,.tmp 3] qbe Tryz.func305 rfl rfl rfl rfl (.sq [sP 0] (fun a w=>qg.j1 a Q w) .lf (.pr 1 [sP 0,sI 4] (fun a b w=>qg.j2 a b Q w) (.pr 1 [sP 0,sI 4,sI 5] (fun a b c w=>qg.j3 a b c Q w) (.pr 1 [sP 0,sI 4,sI 5,sA 6,sA 7] (fun a b c d e w=>qg.j4 a b c d e Q w) (.sq [sP 0,sI 4,sI 5,sA 6] (fun a b c d w=>qg.j5 a b c d Q w) (.sq [sP 0,sI 4,sI 5,sA 6,sL 32,sI 33,sI 34] (fun a b c d e f g w=>qg.j10 a b c d e f g Q w) .lf (.bk (.lo [sP 0,sI 4,sI 5,sA 6,sL 32,sI 33] [sI 34] (fun a b c d e f g w=>qg.l2 a b c d e f g Q w) (fun nx2 a b c d e f g w=>qg.b2 a b c d e f g Q nx2 w) fun nx2=>.lf))) (.pr 1 [sP 0,sI 4,sI 5,sP 10,sL 11] (fun a b c d e w=>qg.j6 a b c d e Q w) (.sq [sP 0,sI 4,sL 11] (fun a b c w=>qg.j7 a b c Q w) (.bk (.lo [sP 0,sI 4,sI 5,sP 10] [sL 11] (fun a b c d e w=>qg.l1 a b c d e Q w) (fun nx1 a b c d e w=>qg.b1 a b c d e Q nx1 w) fun nx1=>(.sq [sP 0,sI 4,sI 5,sP 10,sL 11] (fun a b c d e w=>qg.j8 a b c d e Q nx1 w) .lf (.bk (.pr 1 [sP 0,sI 4,sI 5,sP 10,sL 11,sI 12,sI 13] (fun a b c d e f g w=>qg.j9 a b c d e f g Q nx1 w) .lf))))) .lf))))))) (by kernel_rfl) h
end Go.Proofs.YtejnemneenjliaaGreat
namespace Go.Proofs.YtejnemneenjliaaGreat
open Go Go.Proofs
set_option linter.unusedVariables false
set_option maxRecDepth 100000
def qmn (x_0 y_1:Int) (Q:VWP) (w:World):Prop :=
 Calls Tryz.prog 343 ⟨[.int .u64 x_0,.int .u64 y_1]⟩ w fun e1 w2 =>
 ∃ r3:Int,∃ r4:Int,e1=.returned (.tuple ⟨[.int .u64 r3,.int .u64 r4]⟩) ∧
 Q (.tuple ⟨[.int .u64 r3,.int .u64 r4]⟩) w2
theorem qmn.ok (x_0:Int) (y_1:Int) (Q:VWP) (w:World) (h:qmn x_0 y_1 Q w):Calls Tryz.prog 340 ⟨[.int .u64 x_0,.int .u64 y_1]⟩ w (Ret Q) :=
 qqc [.tmp 4,.tmp 5] qbe Tryz.func340 rfl rfl rfl rfl .lf (by kernel_rfl) h
def qln (x_0 y_1:Int) (Q:VWP) (w:World):Prop :=
 lt (qli .u64 x_0 4294967295) fun x1 =>
 (0:Int)≤32 ∧
 lt (qbj .u64 x_0 32) fun x2 =>
 lt (qli .u64 y_1 4294967295) fun x3 =>
 (0:Int)≤32 ∧
 lt (qbj .u64 y_1 32) fun x4 =>
 lt (IntKind.u64.wrap (x1 * x3)) fun x5 =>
 lt (IntKind.u64.wrap (x2 * x3)) fun x6 =>
 (0:Int)≤32 ∧
 lt (qbj .u64 x5 32) fun x7 =>
 lt (IntKind.u64.wrap (x6+x7)) fun x8 =>
 lt (qli .u64 x8 4294967295) fun x9 =>
 (0:Int)≤32 ∧
 lt (qbj .u64 x8 32) fun x10 =>
 lt (IntKind.u64.wrap (x1 * x4)) fun x11 =>
 lt (IntKind.u64.wrap (x9+x11)) fun x12 =>
 lt (IntKind.u64.wrap (x2 * x4)) fun x13 =>
 lt (IntKind.u64.wrap (x13+x10)) fun x14 =>
 (0:Int)≤32 ∧
 lt (qbj .u64 x12 32) fun x15 =>
 lt (IntKind.u64.wrap (x14+x15)) fun x16 =>
 lt (IntKind.u64.wrap (x_0 * y_1)) fun x17 =>
 Q (.tuple ⟨[.int .u64 x16,.int .u64 x17]⟩) w
theorem qln.ok (x_0:Int) (y_1:Int) (Q:VWP) (w:World) (h:qln x_0 y_1 Q w):Calls Tryz.prog 343 ⟨[.int .u64 x_0,.int .u64 y_1]⟩ w (Ret Q) :=
 qqc [.tmp 4,.tmp 5] qbe Tryz.func343 rfl rfl rfl rfl .lf (by kernel_rfl) h
end Go.Proofs.YtejnemneenjliaaGreat
namespace Go.Proofs.YtejnemneenjliaaGreat
open Go Go.Proofs
set_option linter.unusedVariables false
set_option linter.unusedSimpArgs false
attribute [local irreducible] apK cpK mkK br
def qmh:List Int:=[16,17,18,0,8,7,9,6,10,5,11,4,12,3,13,2,14,1,15]
def qmj (B:List Bool) (z:Z):Nat→List Int × Z
 | 0=>(List.replicate 19 0,z)
 | k+1=>((qmj B z k).1.set (qmh.getD k 0).toNat (qse B 3 (qmj B z k).2).1,(qse B 3 (qmj B z k).2).2)
def qjf (B:List Bool) (sym:Int) (l:List Int) (z:Z):(Int × Int) × Z :=
 if sym=16 then (if l.length=0 then ((0,0),qkd 2 z) else ((l.getD (l.length - 1) 0,3+(qse B 2 z).1),(qse B 2 z).2))
 else if sym=17 then ((0,3+(qse B 3 z).1),(qse B 3 z).2)
 else if sym=18 then ((0,11+(qse B 7 z).1),(qse B 7 z).2)
 else ((sym,1),z)
def zllS (cl:List Int) (B:List Bool) (N:Nat) (l:List Int) (z:Z):List Int × Z :=
 let s:=quj cl B z
 let a:=qjf B s.1 l s.2
 let z3:=if (N:Int) - l.length < a.1.2 then qkd 2 a.2 else a.2
 (if z3.2.2=0 then l ++ List.replicate a.1.2.toNat a.1.1 else l,z3)
def zll (cl:List Int) (B:List Bool) (N:Nat):Nat→List Int→Z→List Int × Z
 | 0,l,z=>(l,z)
 | f+1,l,z=>if z.2.2 ≠ 0 ∨ N≤l.length then (l,z) else zll cl B N f (zllS cl B N l z).1 (zllS cl B N l z).2
def zcodeH (ls:List Int) (half:Bool) (z:Z):Z:=if z.2.2=0∧qcj ls half ≠ 0 then qkd 2 z else z
def qii (B:List Bool) (z:Z):(List Int × List Int) × Z :=
 let g1:=qse B 5 z
 let nl:=g1.1+257
 let g2:=qse B 5 (if 286 < nl then qkd 2 g1.2 else g1.2)
 let nd:=g2.1+1
 let g3:=qse B 4 (if 30 < nd then qkd 2 g2.2 else g2.2)
 let c:=qmj B g3.2 (g3.1+4).toNat
 let r:=zll c.1 B (nl+nd).toNat ((nl+nd).toNat+1) [] (zcodeH c.1 false c.2)
 if r.2.2.2 ≠ 0 then (([],[]),r.2) else ((r.1.take nl.toNat,r.1.drop nl.toNat),r.2)
def qsd (B:List Bool) (most:Int) (z:Z):Bool × Z :=
 let a:=qse B 1 z
 let k:=qse B 2 a.2
 if k.2.2.2 ≠ 0 then (false,k.2) else if k.1=0 then (a.1 == 1,zstored B most k.2) else if k.1=1 then (a.1 == 1,zblk qzh qve B most k.2)
 else if k.1=2 then (a.1 == 1,let q:=qii B k.2; if q.2.2.2 ≠ 0 then q.2 else zblk q.1.1 q.1.2 B most q.2) else (a.1 == 1,qkd 2 k.2)
inductive ZAll (B:List Bool) (most:Int):Nat→Z→Z→Prop
 | bad {z:Z} (he:(qsd B most z).2.2.2 ≠ 0):ZAll B most 0 z (qsd B most z).2
 | last {z:Z} (he:(qsd B most z).2.2.2=0) (hl:(qsd B most z).1=true):ZAll B most 0 z (qsd B most z).2
 | next {n:Nat} {z z':Z} (he:(qsd B most z).2.2.2=0) (hl:(qsd B most z).1=false) (hr:ZAll B most n (qsd B most z).2 z'):ZAll B most (n+1) z z'
section
variable {B:List Bool} {most:Int} {z:Z}
theorem qxl (n:Int) (h:z.1≤B.length):z.1≤(qse B n z).2.1∧(qse B n z).2.1≤B.length:=qbo n h
theorem qaq {n:Int} (h:z.2.2 ≠ 0):qse B n z=(0,z):=by unfold qse; rw [if_pos h]
theorem zclr_len (k:Nat):(qmj B z k).1.length=19:=by
 induction k with
 | zero=>rfl
 | succ k ih=>rw [qmj,List.length_set,ih]
theorem zclr_p (h:z.1≤B.length) (k:Nat):z.1≤(qmj B z k).2.1∧(qmj B z k).2.1≤B.length:=by
 induction k with
 | zero=>exact ⟨Nat.le_refl _,h⟩
 | succ k ih =>
   have:=qxl (B:=B) (z:=(qmj B z k).2) 3 ih.2
   rw [qmj]
   exact ⟨by simp only; omega,this.2⟩
theorem zagain_p (sym:Int) (l:List Int) (h:z.1≤B.length):z.1≤(qjf B sym l z).2.1∧(qjf B sym l z).2.1≤B.length:=by
 unfold qjf
 split
 · split
   · exact ⟨Nat.le_refl _,h⟩
   · exact qxl 2 h
 · split
   · exact qxl 3 h
   · split
     · exact qxl 7 h
     · exact ⟨Nat.le_refl _,h⟩
theorem qcf (n:Int) (hn:n≤16):0≤(qse B n z).1∧(qse B n z).1 < 65536:=by
 have h1:=qkj (B:=B) (z:=z) n
 have h2:(2:Int) ^ n.toNat≤(65536:Int):=by
  have:=qlr (a:=n.toNat) (b:=16) (c:=65536) (by omega) (by decide)
  exact this
 omega
theorem zagain_n (sym:Int) (l:List Int):0≤(qjf B sym l z).1.2∧(qjf B sym l z).1.2≤70000∧((qjf B sym l z).2.2.2=0→1≤(qjf B sym l z).1.2):=by
 unfold qjf
 split
 · split
   · exact ⟨Int.le_refl _,(show (0:Int)≤70000 by decide),fun h=>absurd h (qwg (by decide))⟩
   · have:=qcf (B:=B) (z:=z) 2 (by decide)
     simp only; omega
 · split
   · have:=qcf (B:=B) (z:=z) 3 (by decide)
     simp only; omega
   · split
     · have:=qcf (B:=B) (z:=z) 7 (by decide)
       simp only; omega
     · simp only; omega
theorem zllS_p {cl:List Int} {N:Nat} (l:List Int) (h:z.1≤B.length):z.1≤(zllS cl B N l z).2.1∧(zllS cl B N l z).2.1≤B.length:=by
 unfold zllS
 simp only
 have h1:=zsym_fwd (B:=B) cl (z:=z) h
 have h2:=zagain_p (B:=B) (quj cl B z).1 l (z:=(quj cl B z).2) h1.2
 have h3:=h1.1
 split
 · rw [qrq]; omega
 · omega
theorem zll_p {cl:List Int} {N:Nat}:∀ (f:Nat) (l:List Int) (z:Z),z.1≤B.length→z.1≤(zll cl B N f l z).2.1∧(zll cl B N f l z).2.1≤B.length:=by
 intro f
 induction f with
 | zero=>intro l z h; exact ⟨Nat.le_refl _,h⟩
 | succ f ih =>
   intro l z h
   rw [zll]
   split
   · exact ⟨Nat.le_refl _,h⟩
   · have h1:=zllS_p (cl:=cl) (N:=N) l h
     have:=ih (zllS cl B N l z).1 (zllS cl B N l z).2 h1.2
     omega
theorem zcodeH_p (ls:List Int) (half:Bool):(zcodeH ls half z).1=z.1:=by unfold zcodeH; split <;> rfl
theorem zlens_p (h:z.1≤B.length):z.1≤(qii B z).2.1∧(qii B z).2.1≤B.length:=by
 unfold qii
 simp only
 have h1:=qxl (B:=B) (z:=z) 5 h
 generalize qse B 5 z=g1 at h1 ⊢
 have e1:(if 286 < g1.1+257 then qkd 2 g1.2 else g1.2).1=g1.2.1:=by split <;> rfl
 generalize (if 286 < g1.1+257 then qkd 2 g1.2 else g1.2)=y1 at e1 ⊢
 have h2:=qxl (B:=B) (z:=y1) 5 (by omega)
 generalize qse B 5 y1=g2 at h2 ⊢
 have e2:(if 30 < g2.1+1 then qkd 2 g2.2 else g2.2).1=g2.2.1:=by split <;> rfl
 generalize (if 30 < g2.1+1 then qkd 2 g2.2 else g2.2)=y2 at e2 ⊢
 have h3:=qxl (B:=B) (z:=y2) 4 (by omega)
 generalize qse B 4 y2=g3 at h3 ⊢
 have h4:=zclr_p (B:=B) (z:=g3.2) h3.2 (g3.1+4).toNat
 generalize qmj B g3.2 (g3.1+4).toNat=c at h4 ⊢
 have e5:=zcodeH_p (z:=c.2) c.1 false
 have h5:=zll_p (cl:=c.1) (N:=(g1.1+257+(g2.1+1)).toNat) (B:=B) ((g1.1+257+(g2.1+1)).toNat+1) [] (zcodeH c.1 false c.2) (by omega)
 split
 · simp only; omega
 · simp only; omega
theorem zllS_out {cl:List Int} {N:Nat} (l:List Int):(zllS cl B N l z).2.2.1=z.2.1:=by
 have ha:∀ (sym:Int) (l:List Int) (z:Z),(qjf B sym l z).2.2.1=z.2.1:=by
  intro sym l z
  unfold qjf
  split
  · split
    · rfl
    · exact qmd _
  · split
    · exact qmd _
    · split
      · exact qmd _
      · rfl
 unfold zllS
 simp only
 split
 · show (qjf _ _ _ _).2.2.1=_
   rw [ha,quh]
 · rw [ha,quh]
theorem qao:(qii B z).2.2.1=z.2.1:=by
 have hcl:∀ k (z:Z),(qmj B z k).2.2.1=z.2.1:=by
  intro k z
  induction k with
  | zero=>rfl
  | succ k ih=>rw [qmj]; simp only; rw [qmd,ih]
 have hll:∀ cl N f l (z:Z),(zll cl B N f l z).2.2.1=z.2.1:=by
  intro cl N f
  induction f with
  | zero=>intro l z; rfl
  | succ f ih =>
    intro l z
    rw [zll]
    split
    · rfl
    · rw [ih,zllS_out]
 have hc:∀ ls half (z:Z),(zcodeH ls half z).2.1=z.2.1:=by intro ls half z; unfold zcodeH; split <;> rfl
 unfold qii
 simp only
 have h1:=qmd (B:=B) (z:=z) 5
 generalize qse B 5 z=g1 at h1 ⊢
 have e1:(if 286 < g1.1+257 then qkd 2 g1.2 else g1.2).2.1=g1.2.2.1:=by split <;> rfl
 generalize (if 286 < g1.1+257 then qkd 2 g1.2 else g1.2)=y1 at e1 ⊢
 have h2:=qmd (B:=B) (z:=y1) 5
 generalize qse B 5 y1=g2 at h2 ⊢
 have e2:(if 30 < g2.1+1 then qkd 2 g2.2 else g2.2).2.1=g2.2.2.1:=by split <;> rfl
 generalize (if 30 < g2.1+1 then qkd 2 g2.2 else g2.2)=y2 at e2 ⊢
 have h3:=qmd (B:=B) (z:=y2) 4
 generalize qse B 4 y2=g3 at h3 ⊢
 have h4:=hcl (g3.1+4).toNat g3.2
 generalize qmj B g3.2 (g3.1+4).toNat=c at h4 ⊢
 have h5:=hll c.1 (g1.1+257+(g2.1+1)).toNat ((g1.1+257+(g2.1+1)).toNat+1) [] (zcodeH c.1 false c.2)
 rw [hc] at h5
 split
 · simp only; rw [h5,h4,h3,e2,h2,e1,h1]
 · simp only; rw [h5,h4,h3,e2,h2,e1,h1]
theorem qqq {cl:List Int} {N:Nat}:∀ (f:Nat) (l:List Int) (z:Z),l.length≤N→N < f+l.length→(zll cl B N f l z).2.2.2=0→(zll cl B N f l z).1.length=N:=by
 intro f
 induction f with
 | zero=>intro l z h1 h2 _; omega
 | succ f ih =>
   intro l z h1 h2 h3
   rw [zll] at h3 ⊢
   split at h3
   · rename_i hc
     rw [if_pos hc]
     rcases hc with hc | hc
     · exact absurd h3 hc
     · simp only; omega
   · rename_i hc
     rw [if_neg hc]
     have hstep:(zllS cl B N l z).1.length≤N∧((zllS cl B N l z).2.2.2=0→l.length < (zllS cl B N l z).1.length):=by
      have hn:=zagain_n (B:=B) (z:=(quj cl B z).2) (quj cl B z).1 l
      unfold zllS
      simp only
      split
      · rw [if_neg (qwg (by decide))]
        exact ⟨h1,fun h=>absurd h (qwg (by decide))⟩
      · rename_i hle
        split
        · rename_i h0
          have:=hn.2.2 h0
          rw [List.length_append,List.length_replicate]
          exact ⟨by omega,fun _=>by omega⟩
        · rename_i h0
          exact ⟨h1,fun h=>absurd h h0⟩
     by_cases h0:(zllS cl B N l z).2.2.2=0
     · exact ih _ _ hstep.1 (by have:=hstep.2 h0; omega) h3
     · exfalso
       have:∀ f l (z:Z),z.2.2 ≠ 0→zll cl B N f l z=(l,z):=by
        intro f l z hz
        cases f with
        | zero=>rfl
        | succ f=>rw [zll,if_pos (Or.inl hz)]
       rw [this _ _ _ h0] at h3
       exact h0 h3
theorem zlens_len (h:(qii B z).2.2.2=0):257≤(qii B z).1.1.length:=by
 unfold qii at h ⊢
 simp only at h ⊢
 have hg1:=qcf (B:=B) (z:=z) 5 (by decide)
 generalize qse B 5 z=g1 at h hg1 ⊢
 generalize (if 286 < g1.1+257 then qkd 2 g1.2 else g1.2)=y1 at h ⊢
 have hg2:=qcf (B:=B) (z:=y1) 5 (by decide)
 generalize qse B 5 y1=g2 at h hg2 ⊢
 generalize qmj B (qse B 4 (if 30 < g2.1+1 then qkd 2 g2.2 else g2.2)).2 ((qse B 4 (if 30 < g2.1+1 then qkd 2 g2.2 else g2.2)).1+4).toNat=c at h ⊢
 have hl:=qqq (cl:=c.1) (B:=B) (N:=(g1.1+257+(g2.1+1)).toNat) ((g1.1+257+(g2.1+1)).toNat+1) [] (zcodeH c.1 false c.2) (by simp) (by simp)
 generalize zll c.1 B (g1.1+257+(g2.1+1)).toNat ((g1.1+257+(g2.1+1)).toNat+1) [] (zcodeH c.1 false c.2)=r at h hl ⊢
 split at h
 · rename_i h0
   exact absurd h h0
 · rename_i h0
   rw [if_neg h0]
   have:=hl (Classical.byContradiction h0)
   simp only [List.length_take]
   omega
theorem zblk_len2 {ll dl:List Int} (hm:most≤1000000) (h:z.2.1.length≤1000000):(zblk ll dl B most z).2.1.length≤1000000:=by
 unfold zblk
 simp only
 have e1:(qxg dl (qxg ll (if z.2.2=0∧ll.getD 256 0=0 then qkd 2 z else z))).2.1.length≤1000000:=by
  rw [qdo,qdo]
  split <;> exact h
 generalize qxg dl (qxg ll (if z.2.2=0∧ll.getD 256 0=0 then qkd 2 z else z))=z3 at e1 ⊢
 split
 · exact e1
 · exact zcoded_len hm _ _ e1
end
section
variable {F0:List Nat} {w0 w:World} {ps rest:List As} {s:Sl}
theorem St.cp {k:IntKind} {zs ys:List Int} {K:World→Prop} (h:St F0 w0 w (qcc 1 s (ivs k zs) :: ps)) (o:Nat) (ho:o+ys.length≤zs.length) (hk:∀ w',St F0 w0 w' (qcc 1 s (ivs k (zs.take o ++ ys ++ zs.drop (o+ys.length))) :: ps)→K w'):cpK w (qgf s.a s.cap o 1) ⟨ivs k ys⟩ K:=by
 unfold cpK
 have hl:=h.len
 rw [ql] at hl
 obtain ⟨f,hown,hst⟩:=h.step
 rcases hown with ⟨rfl,hnil,rfl⟩ | ⟨ob,rs,h1,hb,h2,h3,rfl⟩
 · have hz:zs=[]:=by simpa using hnil
   subst hz
   have hy:ys=[]:=List.length_eq_zero_iff.1 (by simp only [List.length_nil] at ho; omega)
   subst hy
   have e:qgf (none:Option Addr) 0 o 1=none:=by unfold qgf; split <;> rfl
   simp only [e]
   have:=hk w (by simpa using h)
   exact this
 · rw [List.length_append] at h3
   rw [ql] at h2 h3
   have e:qgf s.a s.cap o 1=some ⟨ob,if s.cap=o then 0 else o,none⟩:=by
    unfold qgf
    rw [h1]
    split
    · rfl
    · rw [Option.map_some,qvf,Nat.zero_add,Nat.mul_one]
   rw [e]
   simp only
   by_cases hc:s.cap=o
   · have hy:ys=[]:=List.length_eq_zero_iff.1 (by omega)
     subst hy
     rw [if_pos hc]
     refine qdr hb (by simp) (by simp) fun w' hm hb'=>?_
     refine hk w' (hst w' [ob] _ hm (Gr.refl _ _) (Or.inr ⟨ob,rs,h1,?_,?_,?_,rfl⟩))
     · simpa using hb'
     · simp only [List.append_nil,List.length_nil,Nat.add_zero,List.take_append_drop]; rw [ql]; omega
     · simp only [List.append_nil,List.length_nil,Nat.add_zero,List.take_append_drop]; rw [List.length_append,ql]; omega
   · rw [if_neg hc]
     refine qdr hb (by show o+(ivs k ys).length≤_; rw [ql,List.length_append,ql]; omega) qtf fun w' hm hb'=>?_
     have e2:(ivs k zs ++ rs).take o ++ (ivs k ys) ++ (ivs k zs ++ rs).drop (o+(ivs k ys).length)=ivs k (zs.take o ++ ys ++ zs.drop (o+ys.length)) ++ rs:=by
      rw [ql,List.take_append,List.drop_append,ql,show o - zs.length=0 by omega,show o+ys.length - zs.length=0 by omega,List.take_zero,List.append_nil,List.drop_zero,qno,ivs_drop,qor]
      rw [← List.append_assoc,qor]
     have hb'':Blk w' ob (ivs k (zs.take o ++ ys ++ zs.drop (o+ys.length)) ++ rs):=by rw [← e2]; exact hb'
     refine hk w' (hst w' [ob] _ hm (Gr.refl _ _) (Or.inr ⟨ob,rs,h1,hb'',?_,?_,rfl⟩))
     · rw [ql]; simp only [List.length_append,List.length_take,List.length_drop]; omega
     · rw [List.length_append,ql]; simp only [List.length_append,List.length_take,List.length_drop]; omega
theorem St.cut0 {sz c:Nat} {cs:List Value} (h:St F0 w0 w (qcc sz s cs :: ps)):qgf s.a c 0 sz=s.a:=by
 obtain ⟨F,hown⟩:=h.own
 unfold qgf
 split
 · rfl
 · rcases hown with ⟨rfl,_,_⟩ | ⟨ob,rs,h1,_⟩
   · rfl
   · rw [h1,Option.map_some,qvf,Nat.zero_mul]
theorem Rd.rdOp {w:World} {s:Sl} {cs:List Value} {k:Nat} {K:Array Value→Prop} (h:Rd w 1 s cs) (hk:k≤cs.length) (hK:K ⟨cs.take k⟩):Go.Proofs.YtejnemneenjliaaGreat.rdO w s.a k K:=by
 refine Rd.rdO (s:=⟨s.a,k,0⟩) (sz:=1) (cs:=cs.take k) ⟨by rw [List.length_take,Nat.mul_one]; exact Nat.min_eq_left hk,fun i hi=>?_⟩ (by rw [List.length_take]; omega) hK
 rw [List.length_take] at hi
 obtain ⟨a,ha,hc⟩:=h.2 i (by omega)
 exact ⟨a,ha,by rw [hc,List.getElem?_take,if_pos (by omega)]⟩
theorem qmn.c {n:Nat} {K:Ending→World→Prop} (hn:n < 4294967296) (hk:K (.returned (.tuple ⟨[.int .u64 0,.int .u64 n]⟩)) w):Calls Tryz.prog 340 ⟨[.int .u64 1,.int .u64 n]⟩ w K:=by
 refine qfc (qmn.ok _ _ _ _ ?_)
 unfold qmn
 refine qfc (qln.ok _ _ _ _ ?_)
 unfold qln
 have a1:qli .u64 (n:Int) 4294967295=n:=by
  have:=qtj .u64 (n:Int) (t:=32) (by decide)
  rw [show ((2:Int) ^ 32 - 1)=4294967295 by decide] at this
  rw [this]
  omega
 have s1:∀ x:Int,0≤x→x < 4294967296→qbj .u64 x 32=0:=by
  intro x h0 h1
  have:=qti .u64 x (t:=32) (by decide)
  rw [show ((32:Nat):Int)=32 from rfl] at this
  rw [this]
  show x / 4294967296=0
  omega
 have w0':IntKind.u64.wrap 0=0:=by decide
 refine qn (show _=(1:Int) by decide) ⟨by decide,?_⟩
 refine qn (s1 1 (by decide) (by decide)) ?_
 refine qn a1 ⟨by decide,?_⟩
 refine qn (s1 _ (by omega) (by omega)) ?_
 refine qn (show IntKind.u64.wrap (1 * (n:Int))=n by rw [Int.one_mul]; exact qvq (by omega) (by omega)) ?_
 refine qn (show IntKind.u64.wrap (0 * (n:Int))=0 by rw [Int.zero_mul]; exact w0') ⟨by decide,?_⟩
 refine qn (s1 _ (by omega) (by omega)) ?_
 refine qn (show _=(0:Int) by decide) (qn (show _=(0:Int) by decide) ⟨by decide,?_⟩)
 refine qn (s1 0 (by decide) (by decide)) ?_
 refine qn (show _=(0:Int) by decide) (qn (show _=(0:Int) by decide) (qn (show _=(0:Int) by decide) (qn (show _=(0:Int) by decide) ⟨by decide,?_⟩)))
 refine qn (s1 0 (by decide) (by decide)) ?_
 refine qn (show _=(0:Int) by decide) ?_
 refine qn (show IntKind.u64.wrap (1 * (n:Int))=n by rw [Int.one_mul]; exact qvq (by omega) (by omega)) ⟨_,_,rfl,hk⟩
theorem qlb.c {x:Int} {n:Nat} {K:Ending→World→Prop} (h:St F0 w0 w ps) [Rdb F0 w0 s ps 1 (ivs .i64 [x])] (hn:n≤1000000)
 (hk:∀ t w',t.len=n→St F0 w0 w' (qcc 1 t (ivs .i64 (List.replicate n x)) :: ps)→K (.returned (.slice t.a t.len t.cap)) w'):Calls Tryz.prog 330 ⟨[.slice s.a s.len s.cap,.int .i64 n]⟩ w K:=by
 have hl:=(h.rdb s).1
 have hl:s.len=1:=by
  have h2:(ivs .i64 [x]).length=s.len * 1:=hl
  simp at h2
  omega
 refine qfc (qlb.ok _ _ _ _ ?_)
 unfold qlb
 refine qnc (fun g=>by omega) (fun _=>?_)
 unfold qlb.j1
 rw [hl]
 refine qn (show _=(1:Int) by decide) ?_
 refine qn (qvq (by omega) (by omega)) ?_
 refine qmn.c (by omega) ⟨_,_,rfl,?_⟩
 refine qnc (fun g=>by omega) (fun _=>?_)
 refine qnc (fun g=>by omega) (fun _=>?_)
 unfold qlb.j2
 refine qn (qd (by omega) (by omega)) ?_
 refine h.makeI (n:=n) rfl rfl (by omega) fun t w ht htc h=>?_
 rw [hl]
 have hmin:Nat.min 1 t.len=min 1 n:=by rw [ht]
 rw [hmin,Nat.mul_one]
 refine (h.drop.rdb s).rdOp (by rw [ql]; exact Nat.min_le_left _ _) ?_
 rw [qno]
 have e1:[x].take (min 1 n)=List.replicate (min 1 n) x:=by
  rcases Nat.lt_or_ge n 1 with h0 | h0
  · have:n=0:=by omega
    subst this; rfl
  · rw [Nat.min_eq_left h0]; rfl
 rw [e1]
 rw [← h.cut0 (c:=t.cap)]
 refine h.cp 0 (by simp only [List.length_replicate]; omega) fun w h=>?_
 rw [List.take_zero,List.nil_append,Nat.zero_add,List.length_replicate,List.drop_replicate] at h
 unfold qlb.j3
 refine qmg (fun (k:Nat) (k':Int) w'=>k'=k∧k≤n∧(1≤n→1≤k)∧St F0 w0 w' (qcc 1 t (ivs .i64 (List.replicate k x ++ List.replicate (n - k) 0)) :: ps)) (fun k=>n - k) (min 1 n) ⟨by omega,by omega,fun h=>by omega,h⟩ ?_
 clear h
 rintro k k' wL I μ ⟨rfl,hk1,hk2,h⟩ hin
 unfold qlb.b1
 refine qnc (fun g=>?_) (fun g=>?_)
 · refine h.drewK fun w h=>?_
   refine qvk (n:=k) rfl (by omega) (que (qvk (n:=k) rfl (by omega) (que ?_)))
   dsimp only
   have hm:Nat.min (k - 0) (t.len - k)=min k (n - k):=by rw [ht,Nat.sub_zero]
   rw [hm,Nat.mul_one,h.cut0]
   refine h.ord.rdOp (by rw [ql]; simp only [List.length_append,List.length_replicate]; omega) ?_
   rw [qno]
   have e2:(List.replicate k x ++ List.replicate (n - k) 0).take (min k (n - k))=List.replicate (min k (n - k)) x:=by
    rw [List.take_append_of_le_length (by rw [List.length_replicate]; omega),List.take_replicate]
    congr 1
    omega
   rw [e2]
   refine h.cp k (by simp only [List.length_append,List.length_replicate]; omega) fun w h=>?_
   refine qn (qd (by omega) (by omega)) ?_
   have hk3:=hk2 (by omega)
   refine ⟨rfl,hin (k+min k (n - k)) _ _ ⟨by omega,by omega,fun _=>by omega,?_⟩ (by omega)⟩
   have e3:(List.replicate k x ++ List.replicate (n - k) 0).take k ++ List.replicate (min k (n - k)) x ++ (List.replicate k x ++ List.replicate (n - k) 0).drop (k+(List.replicate (min k (n - k)) x).length)=List.replicate (k+min k (n - k)) x ++ List.replicate (n - (k+min k (n - k))) 0:=by
    rw [List.take_left' (by rw [List.length_replicate]),List.length_replicate,← List.drop_drop,List.drop_left' (by rw [List.length_replicate]),List.drop_replicate,List.replicate_append_replicate]
    congr 2
    omega
   rw [e3] at h
   exact h
 · have:k=n:=by omega
   subst this
   unfold qlb.j4
   rw [Nat.sub_self,List.replicate_zero,List.append_nil] at h
   exact hk t wL ht h
end
end Go.Proofs.YtejnemneenjliaaGreat
namespace Go.Proofs.YtejnemneenjliaaGreat
open Go Go.Proofs
set_option linter.unusedVariables false
set_option linter.unusedSimpArgs false
attribute [local irreducible] apK cpK mkK br
section
variable {F0:List Nat} {w0 w:World} {ps rest rest2:List As} {sb rb V N:Nat} {most:Int} {z:Z}
theorem zc_19:zc Tryz.prog 430=⟨ivs .i64 (List.replicate 19 0)⟩:=by kernel_rfl
theorem qxh.c {K:Ending→World→Prop} (h:St F0 w0 w ps) (hk:∀ w',St F0 w0 w' ps→K (.returned (.agg ⟨ivs .i64 qmh⟩)) w'):Calls Tryz.prog 328 ⟨[]⟩ w K:=by
 refine qfc (qxh.ok _ _ ?_)
 unfold qxh
 refine h.new fun nb w h=>⟨rfl,?_⟩
 rw [zc_19] at h
 have h:St F0 w0 w (qzc nb (ivs .i64 (List.replicate 19 0)) :: ps):=h
 refine St.sA (n:=19) (l':=ivs .i64 qmh) h (by rfl) (by rfl) qtf fun w h=>?_
 refine h.lA (b:=nb) rfl ?_
 exact hk w h.drop
theorem qef.c {s:Sl} {sym:Int} {l:List Int} {K:Ending→World→Prop} (h:St F0 w0 w (ztA sb rb V N most z :: ps)) [Rdb F0 w0 s ps 1 (ivs .i64 l)] (hN:N≤137438953472) (hp:z.1≤8 * N) (hl:l.length≤1000000)
 (hk:∀ w',(qjf (qi V (8 * N)) sym l z).2.1≤8 * N→St F0 w0 w' (ztA sb rb V N most (qjf (qi V (8 * N)) sym l z).2 :: ps)→K (.returned (.tuple ⟨[.int .i64 (qjf (qi V (8 * N)) sym l z).1.1,.int .i64 (qjf (qi V (8 * N)) sym l z).1.2]⟩)) w') :
 Calls Tryz.prog 329 ⟨[.pointer (some ⟨sb,0,none⟩),.int .i64 sym,.slice s.a s.len s.cap]⟩ w K:=by
 have hls:=(h.rdb s).1
 rw [ql] at hls
 have hp':=(zagain_p (B:=qi V (8 * N)) (z:=z) sym l (by rw [qk]; exact hp)).2
 rw [qk] at hp'
 have hk:=fun w'=>hk w' hp'
 clear hp'
 refine qfc (qef.ok _ _ _ _ _ ?_)
 unfold qef
 unfold qjf at hk
 have b2:=qcf (B:=qi V (8 * N)) (z:=z) 2 (by decide)
 have b3:=qcf (B:=qi V (8 * N)) (z:=z) 3 (by decide)
 have b7:=qcf (B:=qi V (8 * N)) (z:=z) 7 (by decide)
 refine qne (fun g=>?_) (fun g=>?_)
 · have g:sym=16:=by simpa using g
   rw [if_pos g] at hk
   refine qne (fun g2=>?_) (fun g2=>?_)
   · have g2:(s.len:Int)=0:=by simpa using g2
     rw [if_pos (by omega)] at hk
     exact qgc.c h fun w h=>⟨rfl,hk w h⟩
   · have g2:(s.len:Int) ≠ 0:=by simpa using g2
     rw [if_neg (by omega)] at hk
     refine h.drewK fun w h=>?_
     refine qn (qd (by omega) (by omega)) ?_
     have hr:=h.rdb s
     refine hr.ix (by decide) (by omega) (by omega) fun a ha=>?_
     have ei:((s.len:Int) - 1).toNat * 1=l.length - 1:=by omega
     rw [ei]
     refine ⟨?_,?_⟩
     · refine hr.ldI ha (qxn (by omega)) ?_
       refine qoc.c h hN hp fun w _ h=>⟨_,rfl,?_⟩
       exact qn (qd (by omega) (by omega)) (hk w h)
     · refine qoc.c h hN hp fun w _ h=>⟨_,rfl,?_⟩
       refine qn (qd (by omega) (by omega)) ?_
       exact (h.rdb s).ldI ha (qxn (by omega)) (hk w h)
 have g:sym ≠ 16:=by simpa using g
 rw [if_neg g] at hk
 refine qne (fun g=>?_) (fun g=>?_)
 · have g:sym=17:=by simpa using g
   rw [if_pos g] at hk
   refine qoc.c h hN hp fun w _ h=>⟨_,rfl,?_⟩
   exact qn (qd (by omega) (by omega)) (hk w h)
 have g:sym ≠ 17:=by simpa using g
 rw [if_neg g] at hk
 refine qne (fun g=>?_) (fun g=>?_)
 · have g:sym=18:=by simpa using g
   rw [if_pos g] at hk
   refine qoc.c h hN hp fun w _ h=>⟨_,rfl,?_⟩
   exact qn (qd (by omega) (by omega)) (hk w h)
 have g:sym ≠ 18:=by simpa using g
 rw [if_neg g] at hk
 exact hk w h
theorem qg.loop {cb:Option Addr} {cl:List Int} {nl nd:Nat} {K:Ending→World→Prop} (h:St F0 w0 w (ztA sb rb V N most z :: ps)) (hc:z.2.2=0→∃ b,cb=some ⟨b,0,none⟩∧∃ rest,PkF hcA b ps cl rest) (hN:N≤137438953472) (hp:z.1≤8 * N) (hn:nl+nd≤200000)
 (hk0:∀ (t11:Sl) w',(zll cl (qi V (8 * N)) (nl+nd) (nl+nd+1) [] z).2.2.2=0→t11.len=nl+nd→t11.len≤t11.cap→St F0 w0 w' (ztA sb rb V N most (zll cl (qi V (8 * N)) (nl+nd) (nl+nd+1) [] z).2 :: rdA 1 t11 (ivs .i64 (zll cl (qi V (8 * N)) (nl+nd) (nl+nd+1) [] z).1) :: ps)→K (.returned (.tuple ⟨[.slice (qgf t11.a t11.cap 0 1) (nl - 0) (t11.cap - 0),.slice (qgf t11.a t11.cap nl 1) (t11.len - nl) (t11.cap - nl)]⟩)) w')
 (hk1:∀ w',(zll cl (qi V (8 * N)) (nl+nd) (nl+nd+1) [] z).2.2.2 ≠ 0→St F0 w0 w' (ztA sb rb V N most (zll cl (qi V (8 * N)) (nl+nd) (nl+nd+1) [] z).2 :: ps)→K (.returned (.tuple ⟨[.slice none 0 0,.slice none 0 0]⟩)) w') :
 qg.j6 (some ⟨sb,0,none⟩) (nl:Int) (nd:Int) cb ⟨none,0,0⟩ (fun v w'=>K (.returned v) w') w:=by
 have hBl:(qi (V:Int) (8 * N)).length=8 * N:=qk _ _
 generalize hR:zll cl (qi V (8 * N)) (nl+nd) (nl+nd+1) [] z=R at hk0 hk1
 have hRl:=qqq (cl:=cl) (B:=qi V (8 * N)) (N:=nl+nd) (nl+nd+1) [] z (by simp) (by simp)
 rw [hR] at hRl
 unfold qg.j6
 refine qmg (fun (a:Nat × List Int × Z) (t11:Sl) w'=>zll cl (qi V (8 * N)) (nl+nd) a.1 a.2.1 a.2.2=R∧a.2.2.1≤8 * N∧a.2.1.length≤nl+nd∧(a.2.2.2.2=0→z.2.2=0∧nl+nd < a.1+a.2.1.length)∧St F0 w0 w' (ztA sb rb V N most a.2.2 :: qcc 1 t11 (ivs .i64 a.2.1) :: ps)) (fun a=>a.1) (nl+nd+1,[],z) ⟨hR,hp,by simp,fun e=>⟨e,by simp⟩,(h.nil 1).at1⟩ ?_
 clear h hp hR
 rintro ⟨f,l,y⟩ t11 wL I μ ⟨hR,hp,hl,hf,h⟩ hin
 simp only at hR hp hl hf h hin ⊢
 have hol:=h.drop.len
 rw [ql] at hol
 have h0:=h
 unfold qg.b1
 obtain ⟨o,h⟩:=qss h
 refine qtd (h.fI ?_)
 have stop:(y.2.2 ≠ 0 ∨ nl+nd≤l.length)→qg.j7 (some ⟨sb,0,none⟩) (nl:Int) t11 (fun v w'=>K (.returned v) w') wL:=by
  intro hc
  have e:R=(l,y):=by
   rw [← hR]
   cases f with
   | zero=>rfl
   | succ f=>rw [zll,if_pos hc]
  rw [e] at hk0 hk1 hRl
  simp only at hk0 hk1 hRl
  unfold qg.j7
  refine qtd (h.fI ?_)
  refine qne (fun g=>?_) (fun g=>?_)
  · have g:y.2.2 ≠ 0:=by simpa using g
    exact hk1 wL g (h0.tail fun _ _ _ h=>h.drop)
  · have g:y.2.2=0:=by simpa using g
    have hll:=hRl g
    have hcap:=h0.drop.cap (by decide)
    refine h0.drewK fun w h0=>?_
    refine qvk (n:=nl) rfl (by omega) (que ?_)
    refine qvk (n:=nl) rfl (by omega) (que ?_)
    exact hk0 t11 w g (by omega) hcap (h0.tail fun _ _ _ h=>h.ro)
 refine qne (fun g=>?_) (fun g=>stop (Or.inl (by simpa using g)))
 have g:y.2.2=0:=by simpa using g
 refine qn (qd (by omega) (by omega)) ?_
 refine qnc (fun g1=>?_) (fun g1=>stop (Or.inr (by omega)))
 obtain ⟨hz0,hfl⟩:=hf g
 obtain ⟨b,rfl,rest,ipk⟩:=hc hz0
 obtain ⟨f,rfl⟩:∃ f',f=f'+1:=⟨f - 1,by omega⟩
 rw [zll,if_neg (fun e=>by rcases e with e | e; exact e g; omega)] at hR
 unfold zllS at hR
 simp only at hR
 unfold qg.j8
 refine qpe.c (cb:=b) (ls:=cl) h0 hN hp fun w hle h=>⟨_,rfl,?_⟩
 generalize quj cl (qi V (8 * N)) y=s at h hR hle ⊢
 refine qef.c (s:=t11) (l:=l) h hN hle (by omega) fun w hle2 h=>⟨_,_,rfl,?_⟩
 have hna:=zagain_n (B:=qi V (8 * N)) (z:=s.2) s.1 l
 generalize qjf (qi V (8 * N)) s.1 l s.2=a at h hR hle2 hna ⊢
 refine qn (qd (by omega) (by omega)) ?_
 refine qn (qd (by omega) (by omega)) ?_
 have main:∀ (z3:Z) w,z3=(if ((nl+nd:Nat):Int) - l.length < a.1.2 then qkd 2 a.2 else a.2)→z3.1≤8 * N→St F0 w0 w (ztA sb rb V N most z3 :: qcc 1 t11 (ivs .i64 l) :: ps) →
  qg.j9 (some ⟨sb,0,none⟩) (nl:Int) (nd:Int) (some ⟨b,0,none⟩) t11 a.1.1 a.1.2 (fun v w'=>K (.returned v) w') (fun d_0' t4' t5' t10' t11' w'=>(d_0'=some ⟨sb,0,none⟩∧t4'=(nl:Int)∧t5'=(nd:Int)∧t10'=some ⟨b,0,none⟩)∧I t11' w'∧μ t11' w' < μ t11 wL) w:=by
  intro z3 w e hz3 h
  rw [← e] at hR
  have h0:=h
  unfold qg.j9
  obtain ⟨o,h⟩:=qss h
  refine qtd (h.fI ?_)
  refine qne (fun g2=>?_) (fun g2=>?_)
  · have g2:z3.2.2=0:=by simpa using g2
    have hle3:a.1.2≤((nl+nd:Nat):Int) - l.length∧a.2.2.2=0:=by
     by_cases hc:((nl+nd:Nat):Int) - l.length < a.1.2
     · rw [if_pos hc] at e
       rw [e] at g2
       exact absurd g2 (qwg (by decide))
     · rw [if_neg hc] at e
       exact ⟨by omega,by rw [← e]; exact g2⟩
    have hn1:=hna.2.2 hle3.2
    rw [if_pos g2] at hR
    have h:=h0
    refine h.new fun nb w h=>?_
    have h:St F0 w0 w (qzc nb (ivs .i64 [a.1.1]) :: ztA sb rb V N most z3 :: qcc 1 t11 (ivs .i64 l) :: ps):=h
    have h:=h.ownB (n:=1) rfl
    have en:a.1.2=((a.1.2.toNat:Nat):Int):=by omega
    rw [en]
    refine qlb.c (s:=⟨some ⟨nb,0,none⟩,1,1⟩) (x:=a.1.1) h (by omega) fun t w ht h=>⟨t,rfl,?_⟩
    refine h.appI (s:=t11) (s2:=t) (by rw [List.length_replicate]; omega) fun t2 w h=>?_
    refine ⟨⟨rfl,rfl,rfl,rfl⟩,hin (f,l ++ List.replicate a.1.2.toNat a.1.1,z3) _ _ ⟨hR,hz3,by simp only [List.length_append,List.length_replicate]; omega,fun _=>⟨hz0,by simp only [List.length_append,List.length_replicate]; omega⟩,?_⟩ (by simp only; omega)⟩
    exact h.sub
  · have g2:z3.2.2 ≠ 0:=by simpa using g2
    rw [if_neg g2] at hR
    exact ⟨⟨rfl,rfl,rfl,rfl⟩,hin (f,l,z3) _ _ ⟨hR,hz3,by simp only; omega,fun e=>absurd e g2,h0⟩ (by simp only; omega)⟩
 refine qnc (fun g2=>?_) (fun g2=>?_)
 · refine qgc.c h fun w h=>⟨rfl,?_⟩
   exact main (qkd 2 a.2) w (by rw [if_pos (by omega)]) hle2 h
 · exact main a.2 w (by rw [if_neg (by omega)]) hle2 h
theorem zord_lt:∀ k,k < 19→0≤qmh.getD k 0∧qmh.getD k 0 < 19:=by decide
theorem cutP_zero (b c:Nat) (hc:c ≠ 0):cutP ⟨b,0,none⟩ c 0 1=some ⟨b,0,none⟩:=by
 unfold cutP
 rw [if_neg hc,qvf]
theorem blk_rdbp {nb n c:Nat} {k:IntKind} {l:List Int} [PkB nb ps (ivs k l) rest] (hn:n≤l.length):Rdb F0 w0 ⟨some ⟨nb,0,none⟩,n,c⟩ ps 1 (ivs k (l.take n)):=⟨fun h=>by
 have hb:=(h.toB nb).blk
 refine ⟨by rw [ql,List.length_take,Nat.mul_one]; exact Nat.min_eq_left hn,fun i hi=>⟨_,rfl,?_⟩⟩
 rw [ql,List.length_take] at hi
 rw [qvf,Nat.zero_add,hb.cell,← qno,List.getElem?_take,if_pos (by omega)]⟩
theorem qan {l:List Int} {n k:Nat} (h:k < n):(l.take n).getD k 0=l.getD k 0:=by simp [List.getD,List.getElem?_take,h]
theorem qg.c {K:Ending→World→Prop} (h:St F0 w0 w (ztA sb rb V N most z :: ps)) (hN:N≤137438953472) (hp:z.1≤8 * N)
 (hk0:∀ (t11:Sl) (l:List Int) (nl:Nat) w',(qii (qi V (8 * N)) z).2.2.2=0→t11.len=l.length→nl≤t11.len→t11.len≤t11.cap→(qii (qi V (8 * N)) z).1=(l.take nl,l.drop nl)→St F0 w0 w' (ztA sb rb V N most (qii (qi V (8 * N)) z).2 :: rdA 1 t11 (ivs .i64 l) :: ps)→K (.returned (.tuple ⟨[.slice (qgf t11.a t11.cap 0 1) (nl - 0) (t11.cap - 0),.slice (qgf t11.a t11.cap nl 1) (t11.len - nl) (t11.cap - nl)]⟩)) w')
 (hk1:∀ w',(qii (qi V (8 * N)) z).2.2.2 ≠ 0→St F0 w0 w' (ztA sb rb V N most (qii (qi V (8 * N)) z).2 :: ps)→K (.returned (.tuple ⟨[.slice none 0 0,.slice none 0 0]⟩)) w') :
 Calls Tryz.prog 305 ⟨[.pointer (some ⟨sb,0,none⟩)]⟩ w K:=by
 have hBl:(qi (V:Int) (8 * N)).length=8 * N:=qk _ _
 refine qfc (qg.ok _ _ _ ?_)
 unfold qg qg.j1
 generalize hZ:qii (qi V (8 * N)) z=Zr at hk0 hk1
 unfold qii at hZ
 simp only at hZ
 refine qoc.c h hN hp fun w hp1 h=>⟨_,rfl,?_⟩
 have hg1:=qcf (B:=qi V (8 * N)) (z:=z) 5 (by decide)
 generalize qse (qi V (8 * N)) 5 z=g1 at h hZ hp1 hg1 ⊢
 refine qn (qd (by omega) (by omega)) ?_
 have j2:∀ (y1:Z) w,y1=(if 286 < g1.1+257 then qkd 2 g1.2 else g1.2)→y1.1≤8 * N→St F0 w0 w (ztA sb rb V N most y1 :: ps)→qg.j2 (some ⟨sb,0,none⟩) (g1.1+257) (fun v w'=>K (.returned v) w') w:=by
  intro y1 w e hp1 h
  rw [← e] at hZ
  unfold qg.j2
  refine qoc.c h hN hp1 fun w hp2 h=>⟨_,rfl,?_⟩
  have hg2:=qcf (B:=qi V (8 * N)) (z:=y1) 5 (by decide)
  generalize qse (qi V (8 * N)) 5 y1=g2 at h hZ hp2 hg2 ⊢
  refine qn (qd (by omega) (by omega)) ?_
  have j3:∀ (y2:Z) w,y2=(if 30 < g2.1+1 then qkd 2 g2.2 else g2.2)→y2.1≤8 * N→St F0 w0 w (ztA sb rb V N most y2 :: ps)→qg.j3 (some ⟨sb,0,none⟩) (g1.1+257) (g2.1+1) (fun v w'=>K (.returned v) w') w:=by
   intro y2 w e hp2 h
   rw [← e] at hZ
   unfold qg.j3
   refine h.new fun cb w h=>?_
   rw [zc_19] at h
   refine qxh.c h fun w h=>⟨_,rfl,?_⟩
   refine h.new fun ob w h=>⟨rfl,?_⟩
   rw [zc_19] at h
   have h:St F0 w0 w (qzc ob (ivs .i64 (List.replicate 19 0)) :: qzc cb (ivs .i64 (List.replicate 19 0)) :: ztA sb rb V N most y2 :: ps):=h
   refine St.sA (n:=19) (l':=ivs .i64 qmh) h (by rfl) (by rfl) qtf fun w h=>?_
   have h:St F0 w0 w (ztA sb rb V N most y2 :: qzc cb (ivs .i64 (List.replicate 19 0)) :: qzc ob (ivs .i64 qmh) :: ps):=h.sub
   unfold qg.j4
   refine qoc.c h hN hp2 fun w hp3 h=>⟨_,rfl,?_⟩
   have hg3:=qkj (B:=qi V (8 * N)) (z:=y2) 4
   rw [show ((2:Int) ^ (4:Int).toNat)=16 by decide] at hg3
   generalize qse (qi V (8 * N)) 4 y2=g3 at h hZ hp3 hg3 ⊢
   refine qn (qd (by omega) (by omega)) ?_
   refine qvk (n:=(g3.1+4).toNat) (by omega) (by omega) (que ?_)
   rw [cutP_zero _ _ (by decide)]
   unfold qg.j10
   refine qmg (fun (k:Nat) (k':Int) w'=>k'=k∧k≤(g3.1+4).toNat∧(qmj (qi V (8 * N)) g3.2 k).2.1≤8 * N∧St F0 w0 w' (ztA sb rb V N most (qmj (qi V (8 * N)) g3.2 k).2 :: qzc cb (ivs .i64 (qmj (qi V (8 * N)) g3.2 k).1) :: qzc ob (ivs .i64 qmh) :: ps)) (fun k=>(g3.1+4).toNat - k) 0 ⟨rfl,by omega,hp3,h⟩ ?_
   clear h
   rintro k k' wL I μ ⟨rfl,hkn,hpk,h⟩ hin
   unfold qg.b2
   refine qnc (fun g=>?_) (fun g=>?_)
   · have g:(k:Int) < (((g3.1+4).toNat - 0:Nat):Int):=g
     have hk19:k < 19:=by omega
     have hz:=zord_lt k hk19
     have hcl:=zclr_len (B:=qi V (8 * N)) (z:=g3.2) k
     haveI:Rdb F0 w0 ⟨some ⟨ob,0,none⟩,(g3.1+4).toNat - 0,19 - 0⟩ (ztA sb rb V N most (qmj (qi V (8 * N)) g3.2 k).2 :: qzc cb (ivs .i64 (qmj (qi V (8 * N)) g3.2 k).1) :: qzc ob (ivs .i64 qmh) :: ps) 1 (ivs .i64 (qmh.take ((g3.1+4).toNat - 0))):=blk_rdbp (show _≤19 by omega)
     refine h.lx (s:=⟨some ⟨ob,0,none⟩,(g3.1+4).toNat - 0,19 - 0⟩) k rfl (by rw [List.length_take]; show k < min _ 19; omega) ?_
     rw [qan (by omega)]
     refine qoc.c h hN hpk fun w hpk2 h=>⟨_,rfl,?_⟩
     refine St.sa (b:=cb) (zs:=(qmj (qi V (8 * N)) g3.2 k).1) h (qmh.getD k 0).toNat (by omega) hcl (by omega) fun w h=>?_
     refine qn (qd (by omega) (by omega)) ?_
     refine ⟨⟨rfl,rfl,rfl,rfl,rfl,rfl⟩,hin (k+1) _ _ ⟨by omega,by omega,?_,?_⟩ (by omega)⟩
     · rw [qmj]; exact hpk2
     · rw [qmj]
       exact h.sub
   · have:k=(g3.1+4).toNat:=by
      have g:¬ (k:Int) < (((g3.1+4).toNat - 0:Nat):Int):=g
      omega
     subst this
     clear hin
     have hcl:=zclr_len (B:=qi V (8 * N)) (z:=g3.2) (g3.1+4).toNat
     generalize qmj (qi V (8 * N)) g3.2 (g3.1+4).toNat=c at h hZ hpk hcl ⊢
     unfold qg.j5
     rw [cutP_zero _ _ (by decide)]
     refine que ?_
     haveI:Rdb F0 w0 ⟨some ⟨cb,0,none⟩,19 - 0,19 - 0⟩ (qzc cb (ivs .i64 c.1) :: qzc ob (ivs .i64 qmh) :: ps) 1 (ivs .i64 c.1):=by
      have:=blk_rdbp (F0:=F0) (w0:=w0) (nb:=cb) (n:=19 - 0) (c:=19 - 0) (k:=.i64) (l:=c.1) (ps:=qzc cb (ivs .i64 c.1) :: qzc ob (ivs .i64 qmh) :: ps) (by omega)
      rwa [List.take_of_length_le (by omega)] at this
     obtain ⟨n1,hn1⟩:∃ n1:Nat,g1.1+257=n1:=⟨(g1.1+257).toNat,by omega⟩
     obtain ⟨n2,hn2⟩:∃ n2:Nat,g2.1+1=n2:=⟨(g2.1+1).toNat,by omega⟩
     rw [hn1,hn2] at hZ
     rw [hn1,hn2]
     have e12:((n1:Int)+(n2:Int)).toNat=n1+n2:=by omega
     rw [e12,Int.toNat_natCast] at hZ
     have fin:∀ (y4:Z) (cbo:Option Addr) (qs:List As) w,y4=zcodeH c.1 false c.2→y4.1≤8 * N→(y4.2.2=0→∃ b,cbo=some ⟨b,0,none⟩∧∃ rest,PkF hcA b qs c.1 rest)→(∀ (F0:List Nat) (w0 w:World),St F0 w0 w qs→St F0 w0 w ps)→St F0 w0 w (ztA sb rb V N most y4 :: qs)→qg.j6 (some ⟨sb,0,none⟩) (n1:Int) (n2:Int) cbo ⟨none,0,0⟩ (fun v w'=>K (.returned v) w') w:=by
      intro y4 cbo qs w e hp4 hcb hq h
      rw [← e] at hZ
      refine qg.loop (nl:=n1) (nd:=n2) (cl:=c.1) h hcb hN hp4 (by omega) (fun t11 w g ht hc h=>?_) (fun w g h=>?_)
      · rw [if_neg (fun e=>e g)] at hZ
        have hzl:=qqq (cl:=c.1) (B:=qi V (8 * N)) (N:=n1+n2) (n1+n2+1) [] y4 (by simp) (by simp) g
        subst hZ
        refine hk0 t11 _ n1 w g (by omega) (by omega) hc rfl (h.tail fun _ _ _ h=>h.tail fun _ _ _ h=>hq _ _ _ h)
      · rw [if_pos g] at hZ
        subst hZ
        exact hk1 w g (h.tail fun _ _ _ h=>hq _ _ _ h)
     refine qjd.c (s:=⟨some ⟨cb,0,none⟩,19 - 0,19 - 0⟩) (half:=false) h (fun hb w g0 gn h=>⟨_,rfl,?_⟩) (fun w g0 gn h=>⟨_,rfl,?_⟩) (fun g=>⟨_,rfl,?_⟩)
     · refine fin c.2 _ (hcA hb c.1 :: qzc cb (ivs .i64 c.1) :: qzc ob (ivs .i64 qmh) :: ps) w (by unfold zcodeH; rw [if_neg (fun e=>e.2 gn)]) hpk (fun _=>⟨hb,rfl,_,PkF.hd⟩) (fun _ _ _ h=>h.drop.drop.drop) h
     · refine fin (qkd 2 c.2) _ (qzc cb (ivs .i64 c.1) :: qzc ob (ivs .i64 qmh) :: ps) w (by unfold zcodeH; rw [if_pos ⟨g0,gn⟩]) hpk (fun e=>absurd e (qwg (by decide))) (fun _ _ _ h=>h.drop.drop) h
     · refine fin c.2 _ (qzc cb (ivs .i64 c.1) :: qzc ob (ivs .i64 qmh) :: ps) _ (by unfold zcodeH; rw [if_neg (fun e=>g e.1)]) hpk (fun e=>absurd e g) (fun _ _ _ h=>h.drop.drop) h
  refine qnc (fun g=>?_) (fun g=>?_)
  · refine qgc.c h fun w h=>⟨rfl,?_⟩
    exact j3 (qkd 2 g2.2) w (by rw [if_pos (by omega)]) hp2 h
  · exact j3 g2.2 w (by rw [if_neg (by omega)]) hp2 h
 refine qnc (fun g=>?_) (fun g=>?_)
 · refine qgc.c h fun w h=>⟨rfl,?_⟩
   exact j2 (qkd 2 g1.2) w (by rw [if_pos (by omega)]) hp1 h
 · exact j2 g1.2 w (by rw [if_neg (by omega)]) hp1 h
end
end Go.Proofs.YtejnemneenjliaaGreat
namespace Go.Proofs.YtejnemneenjliaaGreat
open Go Go.Proofs
set_option linter.unusedVariables false
set_option linter.unusedSimpArgs false
attribute [local irreducible] apK cpK mkK br
section
variable {B:List Bool} {most:Int} {z:Z}
theorem zst_p:∀ (n:Nat) (z:Z),z.1≤B.length→z.1≤(zst B most n z).1∧(zst B most n z).1≤B.length:=by
 intro n
 induction n with
 | zero=>intro z h; exact ⟨Nat.le_refl _,h⟩
 | succ n ih =>
   intro z h
   have h1:=qxl (B:=B) (z:=z) 8 h
   have:=ih (qqn most (qse B 8 z).1 (qse B 8 z).2) (by rw [qdm]; exact h1.2)
   rw [qdm] at this
   rw [zst]
   omega
theorem zstored_p {N:Nat} (hB:B.length=8 * N) (h:z.1≤B.length):z.1≤(zstored B most z).1∧(zstored B most z).1≤B.length:=by
 unfold zstored
 simp only
 have h1:=qxl (B:=B) (z:=(8 * ((z.1+7) / 8),z.2.1,z.2.2)) 16 (by simp only; omega)
 generalize qse B 16 (8 * ((z.1+7) / 8),z.2.1,z.2.2)=g at h1 ⊢
 simp only at h1
 have h2:=qxl (B:=B) (z:=g.2) 16 h1.2
 generalize qse B 16 g.2=g2 at h2 ⊢
 split
 · omega
 · split
   · rw [qrq]; omega
   · split
     · rw [qrq]; omega
     · have:=zst_p (B:=B) (most:=most) g.1.toNat g2.2 h2.2
       omega
theorem zcoded_p {ll dl:List Int}:∀ (f:Nat) (z:Z),z.1≤B.length→z.1≤(qie ll dl B most f z).1∧(qie ll dl B most f z).1≤B.length:=by
 intro f
 induction f with
 | zero=>intro z h; exact ⟨Nat.le_refl _,h⟩
 | succ f ih =>
   intro z h
   rw [qie]
   split
   · exact ⟨Nat.le_refl _,h⟩
   · simp only
     have h1:=zsym_fwd (B:=B) ll (z:=z) h
     generalize quj ll B z=s at h1 ⊢
     unfold zfwd at h1
     split
     · exact h1
     · split
       · have:=ih (qqn most s.1 s.2) (by rw [qdm]; exact h1.2)
         rw [qdm] at this
         omega
       · have h2:=qun (B:=B) (most:=most) dl s.1 (z:=s.2) h1.2
         unfold zfwd at h2
         have:=ih (zbehind dl B most s.1 s.2) h2.2
         omega
theorem zblk_p3 {ll dl:List Int} (h:z.1≤B.length):z.1≤(zblk ll dl B most z).1∧(zblk ll dl B most z).1≤B.length:=by
 unfold zblk
 simp only
 have e1:(qxg dl (qxg ll (if z.2.2=0∧ll.getD 256 0=0 then qkd 2 z else z))).1=z.1:=by
  rw [zcode_p,zcode_p]
  split <;> rfl
 generalize qxg dl (qxg ll (if z.2.2=0∧ll.getD 256 0=0 then qkd 2 z else z))=z3 at e1 ⊢
 split
 · omega
 · have:=zcoded_p (B:=B) (most:=most) (ll:=ll) (dl:=dl) (B.length+1) z3 (by omega)
   omega
theorem zget_on {n:Int} (h:(qse B n z).2.2.2=0):(qse B n z).2.1=z.1+n.toNat∧z.2.2=0:=by
 have h0:=zget_err h
 refine ⟨?_,h0⟩
 unfold qse at h ⊢
 rw [if_neg (fun e=>e h0)] at h ⊢
 split at h
 · rename_i hc
   rw [if_pos hc]
 · simp at h
theorem qem {N:Nat} (hB:B.length=8 * N) (h:z.1≤B.length):z.1≤(qsd B most z).2.1∧(qsd B most z).2.1≤B.length∧((qsd B most z).2.2.2=0→z.1 < (qsd B most z).2.1):=by
 unfold qsd
 simp only
 have h1:=qxl (B:=B) (z:=z) 1 h
 generalize qse B 1 z=a at h1 ⊢
 have h2:=qxl (B:=B) (z:=a.2) 2 h1.2
 have h3:=zget_on (B:=B) (z:=a.2) (n:=2)
 generalize qse B 2 a.2=k at h2 h3 ⊢
 split
 · rename_i hk
   exact ⟨by simp only; omega,by simp only; omega,fun e=>absurd e hk⟩
 · rename_i hk
   have h3:=(h3 (Classical.byContradiction hk)).1
   have e2:(2:Int).toNat=2:=rfl
   rw [e2] at h3
   split
   · have:=zstored_p (B:=B) (most:=most) (z:=k.2) hB h2.2
     simp only; omega
   · split
     · have:=zblk_p3 (B:=B) (most:=most) (ll:=qzh) (dl:=qve) (z:=k.2) h2.2
       simp only; omega
     · split
       · have h4:=zlens_p (B:=B) (z:=k.2) h2.2
         generalize qii B k.2=q at h4 ⊢
         split
         · simp only; omega
         · have:=zblk_p3 (B:=B) (most:=most) (ll:=q.1.1) (dl:=q.1.2) (z:=q.2) h4.2
           simp only; omega
       · rw [qrq]
         simp only; omega
theorem qbk (hm:most≤1000000) (h:z.2.1.length≤1000000):(qsd B most z).2.2.1.length≤1000000:=by
 have hst:∀ n (z:Z),z.2.1.length≤1000000→(zst B most n z).2.1.length≤1000000:=fun n z=>zst_len hm n z
 unfold qsd
 simp only
 have h1:(qse B 1 z).2.2.1.length≤1000000:=by rw [qmd]; exact h
 generalize qse B 1 z=a at h1 ⊢
 have h2:(qse B 2 a.2).2.2.1.length≤1000000:=by rw [qmd]; exact h1
 generalize qse B 2 a.2=k at h2 ⊢
 split
 · exact h2
 · split
   · unfold zstored
     simp only
     have h3:(qse B 16 (8 * ((k.2.1+7) / 8),k.2.2.1,k.2.2.2)).2.2.1.length≤1000000:=by rw [qmd]; exact h2
     generalize qse B 16 (8 * ((k.2.1+7) / 8),k.2.2.1,k.2.2.2)=g at h3 ⊢
     have h4:(qse B 16 g.2).2.2.1.length≤1000000:=by rw [qmd]; exact h3
     generalize qse B 16 g.2=g2 at h4 ⊢
     split
     · exact h4
     · split
       · exact h4
       · split
         · exact h4
         · exact hst _ _ h4
   · split
     · exact zblk_len2 hm h2
     · split
       · have h5:(qii B k.2).2.2.1.length≤1000000:=by rw [qao]; exact h2
         generalize qii B k.2=q at h5 ⊢
         split
         · exact h5
         · exact zblk_len2 hm h5
       · exact h2
theorem ZAll.out {n:Nat} {z z':Z} (h:ZAll B most n z z') (hm:most≤1000000) (hL:z.2.1.length≤1000000):z'.2.1.length≤1000000:=by
 induction h with
 | bad he=>exact qbk hm hL
 | last he hl=>exact qbk hm hL
 | next he hl hr ih=>exact ih (qbk hm hL)
end
section
variable {F0:List Nat} {w0 w:World} {ps rest rest2:List As} {sb rb V N:Nat} {most:Int} {z:Z}
theorem qp.bad {K:Ending→World→Prop} (h:St F0 w0 w (ztA sb rb V N most z :: ps)) (hz:z.2.2 ≠ 0)
 (hk:∀ w',St F0 w0 w' (ztA sb rb V N most z :: ps)→K (.returned (.tuple ⟨[]⟩)) w') :
 Calls Tryz.prog 304 ⟨[.pointer (some ⟨sb,0,none⟩),.slice none 0 0,.slice none 0 0]⟩ w K:=by
 refine qfc (qp.ok _ ⟨none,0,0⟩ ⟨none,0,0⟩ _ _ ?_)
 unfold qp
 have h0:=h
 obtain ⟨o,h⟩:=qss h
 refine qtd (h.fI ?_)
 refine qle (by simpa using hz) ?_
 unfold qp.j1
 haveI:Rdb F0 w0 ⟨none,0,0⟩ ps 1 (ivs .i64 []):=Rdb.nil 0
 refine qjd.c (s:=⟨none,0,0⟩) (ls:=[]) (half:=true) h0 (fun cb w e1 e3 h=>absurd e1 hz) (fun w e1 e3 h=>absurd e1 hz) (fun _=>⟨_,rfl,?_⟩)
 refine qjd.c (s:=⟨none,0,0⟩) (ls:=[]) (half:=true) h0 (fun cb w e1 e3 h=>absurd e1 hz) (fun w e1 e3 h=>absurd e1 hz) (fun _=>⟨_,rfl,?_⟩)
 refine qtd (h.fI ?_)
 exact qde (by simpa using hz) (hk w h0)
theorem qdf.a {K:Ending→World→Prop} (h:St F0 w0 w (ztA sb rb V N most z :: ps)) (hN:N≤137438953472) (hp:z.1≤8 * N) (hm:most≤1000000) (hm0:0≤most) (hL:z.2.1.length≤1000000)
 (hk:∀ w',St F0 w0 w' (ztA sb rb V N most (qsd (qi V (8 * N)) most z).2 :: ps)→K (.returned (.bool (qsd (qi V (8 * N)) most z).1)) w') :
 Calls Tryz.prog 268 ⟨[.pointer (some ⟨sb,0,none⟩)]⟩ w K:=by
 have hBl:(qi (V:Int) (8 * N)).length=8 * N:=qk _ _
 refine qfc (qdf.ok _ _ _ ?_)
 unfold qdf
 unfold qsd at hk
 simp only at hk
 refine qoc.c h hN hp fun w hg h=>⟨_,rfl,?_⟩
 have go:=qmd (B:=qi V (8 * N)) (z:=z) 1
 generalize qse (qi V (8 * N)) 1 z=a at h hk hg go ⊢
 refine qoc.c h hN hg fun w hg2 h=>⟨_,rfl,?_⟩
 have go2:=qmd (B:=qi V (8 * N)) (z:=a.2) 2
 generalize qse (qi V (8 * N)) 2 a.2=k at h hk hg2 go2 ⊢
 have hkL:k.2.2.1.length≤1000000:=by rw [go2,go]; exact hL
 have h0:=h
 obtain ⟨o,h⟩:=qss h
 refine qtd (h.fI ?_)
 refine qne (fun g=>?_) (fun g=>?_)
 · have g:k.2.2.2 ≠ 0:=by simpa using g
   rw [if_pos g] at hk
   exact hk w h0
 have g:k.2.2.2=0:=by simpa using g
 rw [if_neg (by simpa using g)] at hk
 refine qne (fun g1=>?_) (fun g1=>?_)
 · have g1:k.1=0:=by simpa using g1
   rw [if_pos g1] at hk
   exact qtb.c h0 hN hg2 hm hm0 hkL fun w hle h=>⟨rfl,hk w h⟩
 have g1:¬ k.1=0:=by simpa using g1
 rw [if_neg g1] at hk
 refine qne (fun g3=>?_) (fun g3=>?_)
 · have g3:k.1=1:=by simpa using g3
   rw [if_pos g3] at hk
   refine qu.c h0 fun s t w hs ht h=>⟨s,t,rfl,?_⟩
   have h:St F0 w0 w (ztA sb rb V N most k.2 :: rdA 1 s (ivs .i64 qzh) :: rdA 1 t (ivs .i64 qve) :: ps):=h.at2
   refine qp.c (s:=s) (t:=t) (ll:=qzh) (dl:=qve) h (by rw [qeh]; decide) hN hg2 hm hkL fun w h=>⟨rfl,?_⟩
   exact hk w (h.tail fun _ _ _ h=>h.drop.drop)
 have g3:¬ k.1=1:=by simpa using g3
 rw [if_neg g3] at hk
 refine qne (fun g4=>?_) (fun g4=>?_)
 · have g4:k.1=2:=by simpa using g4
   rw [if_pos g4] at hk
   have hlp:=zlens_p (B:=qi V (8 * N)) (z:=k.2) (by rw [hBl]; exact hg2)
   have hlo:=qao (B:=qi V (8 * N)) (z:=k.2)
   have hll:=zlens_len (B:=qi V (8 * N)) (z:=k.2)
   rw [hBl] at hlp
   refine qg.c h0 hN hg2 (fun t11 l nl w e0 ht hnl hcap el h=>⟨⟨qgf t11.a t11.cap 0 1,nl - 0,t11.cap - 0⟩,⟨qgf t11.a t11.cap nl 1,t11.len - nl,t11.cap - nl⟩,rfl,?_⟩) (fun w e0 h=>⟨⟨none,0,0⟩,⟨none,0,0⟩,rfl,?_⟩)
   · have hll:=hll e0
     rw [if_neg (fun e=>e e0)] at hk
     rw [el] at hk hll
     simp only at hk hll
     haveI:=h.drop.cutR t11 0 nl (t11.cap - 0) (ys:=l.take nl) hnl (by omega) hcap (by rw [List.drop_zero,Nat.sub_zero])
     haveI:=h.drop.cutR t11 nl t11.len (t11.cap - nl) (ys:=l.drop nl) (by omega) hnl hcap (by rw [List.take_of_length_le (by rw [List.length_drop]; omega)])
     refine qp.c (s:=⟨qgf t11.a t11.cap 0 1,nl - 0,t11.cap - 0⟩) (t:=⟨qgf t11.a t11.cap nl 1,t11.len - nl,t11.cap - nl⟩) (ll:=l.take nl) (dl:=l.drop nl) h (by omega) hN hlp.2 hm (by rw [hlo]; exact hkL) fun w h=>⟨rfl,?_⟩
     exact hk w (h.tail fun _ _ _ h=>h.drop)
   · rw [if_pos e0] at hk
     refine qp.bad h e0 fun w h=>⟨rfl,?_⟩
     exact hk w h
 have g4:¬ k.1=2:=by simpa using g4
 rw [if_neg g4] at hk
 exact qgc.c h0 fun w h=>⟨rfl,hk w h⟩
def zinf (V N:Nat) (most:Int) (z':Z):Prop:=∃ n,ZAll (qi V (8 * N)) most n (0,[],0) z'
theorem qrb.a {s:Sl} {K:Ending→World→Prop} {z':Z} (h:St F0 w0 w ps) [Rdb F0 w0 s ps 1 (u8s (byt V N))] (hN:N≤137438953472) (hm:most≤262144) (hm0:0≤most) (hr:zinf V N most z')
 (hk:∀ t w',z'.2.2=0→t.len=z'.2.1.length→St F0 w0 w' (rdA 1 t (u8s z'.2.1) :: ps)→K (.returned (.tuple ⟨[.slice t.a t.len t.cap,.int .i64 (((z'.1+7) / 8:Nat):Int),.int .i64 0]⟩)) w')
 (hk2:∀ w',z'.2.2 ≠ 0→St F0 w0 w' ps→K (.returned (.tuple ⟨[.slice none 0 0,.int .i64 0,.int .i64 z'.2.2]⟩)) w') :
 Calls Tryz.prog 232 ⟨[.slice s.a s.len s.cap,.int .i64 most]⟩ w K:=by
 have hBl:(qi (V:Int) (8 * N)).length=8 * N:=qk _ _
 obtain ⟨n,hr⟩:=hr
 refine qfc (qrb.ok _ _ _ _ ?_)
 unfold qrb qrb.j1
 refine qnc (fun g=>by omega) fun _=>?_
 refine qnc (fun g=>by omega) fun _=>?_
 refine qjh.c (V:=V) (N:=N) (s:=s) h (h.rdb s) hN fun rb w h=>⟨_,rfl,?_⟩
 refine h.new fun sb w h=>?_
 have h:=(h.nil 1).at2.at2
 have h:St F0 w0 w (ztA sb rb V N most (0,[],0) :: ps):=zt_c (o:=⟨none,0,0⟩) (p:=0) (out:=[]) (err:=0) h
 unfold qrb.j2 qrb.j4
 refine qmg (fun (a:Nat × Z × Bool) (b:Bool) w'=>b=a.2.2∧a.2.1.1≤8 * N∧a.2.1.2.1.length≤1000000∧a.2.1.2.2=0∧(a.2.2=false→∃ n,n < a.1∧ZAll (qi V (8 * N)) most n a.2.1 z')∧(a.2.2=true→a.2.1=z')∧St F0 w0 w' (ztA sb rb V N most a.2.1 :: ps)) (fun a=>a.1) (n+1,(0,[],0),false) ⟨rfl,Nat.zero_le _,by simp,rfl,fun _=>⟨n,by simp,hr⟩,fun e=>by simp at e,h⟩ ?_
 clear h hr
 rintro ⟨m,z,b⟩ b' wL I μ ⟨rfl,hp,hL,he0,hr,hd,h⟩ hin
 simp only at hp hL he0 hr hd h hin ⊢
 unfold qrb.b1
 cases b' with
 | false =>
   refine qym ?_
   obtain ⟨n,hn,hr⟩:=hr rfl
   refine qdf.a h hN hp (by omega) hm0 hL fun w h=>⟨_,rfl,?_⟩
   have hL2:=qbk (B:=qi V (8 * N)) (most:=most) (by omega) hL
   have hle:=(qem (most:=most) hBl (by rw [hBl]; exact hp)).2.1
   rw [hBl] at hle
   have h0:=h
   obtain ⟨o,h⟩:=qss h
   refine qtd (h.fI ?_)
   refine qne (fun g=>?_) (fun g=>?_)
   · have g:(qsd (qi V (8 * N)) most z).2.2.2 ≠ 0:=by simpa using g
     refine h.drewK fun w h=>?_
     refine qtd (h.fI ?_)
     cases hr with
     | bad he=>exact hk2 w g h.drop.drop.drop
     | last he _=>exact absurd he g
     | next he _ _=>exact absurd he g
   · have g:(qsd (qi V (8 * N)) most z).2.2.2=0:=by simpa using g
     cases hr with
     | bad he=>exact absurd g he
     | last he hl =>
       refine ⟨rfl,hin (0,(qsd (qi V (8 * N)) most z).2,true) _ _ ⟨hl,hle,hL2,g,fun e=>by simp at e,fun _=>rfl,h0⟩ (by simp only; omega)⟩
     | next he hl hr =>
       rename_i n2
       refine ⟨rfl,hin (n2+1,(qsd (qi V (8 * N)) most z).2,false) _ _ ⟨hl,hle,hL2,g,fun _=>⟨n2,by simp,hr⟩,fun e=>by simp at e,h0⟩ (by simp only; omega)⟩
 | true =>
   refine qsj ?_
   have hd:=hd rfl
   subst hd
   unfold qrb.j3
   refine h.drewK fun w h=>?_
   obtain ⟨o,h⟩:=qss h
   have hcap:=h.at2.cap (by decide)
   have hol:=h.at2.len
   rw [ql] at hol
   refine qtd (h.fL (qtd ⟨?_,?_⟩))
   · refine qfd.c h.at2.ro hcap fun t h1 h2 h=>⟨t,rfl,?_⟩
     refine h.at1.fP ?_
     refine qxe.c (rb:=rb) (V:=V) (N:=N) (at':=z.1) h.at2 (by omega) fun h=>⟨_,rfl,?_⟩
     have h1:t.len=o.len:=h1
     exact hk t w he0 (by omega) (h.at1.tail fun _ _ _ h=>h.drop.drop)
   · refine h.fP ?_
     refine qfd.c h.at2.ro hcap fun t h1 h2 h=>⟨t,rfl,?_⟩
     refine qxe.c (rb:=rb) (V:=V) (N:=N) (at':=z.1) h.at2 (by omega) fun h=>⟨_,rfl,?_⟩
     have h1:t.len=o.len:=h1
     exact hk t w he0 (by omega) (h.at1.tail fun _ _ _ h=>h.drop.drop)
end
end Go.Proofs.YtejnemneenjliaaGreat
