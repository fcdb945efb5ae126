/- Own texts as one, only what is reached (shake2.py). -/
import Derived.Test.YtdccpphmkfaioaaGreatPba
import Derived.Below
import Derived.Test.YtdccpphmkfaioaaGreatProg
set_option linter.unusedSectionVars false
set_option linter.unusedVariables false
set_option linter.unusedSimpArgs false
namespace Go.Proofs.YtdccpphmkfaioaaGreat
open Go Go.Proofs
open Int (le_of_lt pow_pos tdiv tmod toNat toNat_natCast)
open Go.IntKind (i64 signed u32 u64)
open List (append_nil drop_eq_nil_of_le ext_getElem getD getElem?_append_left getElem?_eq_getElem getElem_mem length_append length_cons length_drop length_set length_take map_congr_left map_cons map_map mem_append mem_map range replicate set_append_right take_of_length_le)
open Nat (add_mul le_refl le_trans lt_or_ge mod_lt mul_assoc mul_comm mul_le_mul_right mul_one pow_add pow_le_pow_right pow_succ sub_self zero_add)
open Option (map_some)
open Go.Program (bytesOf)
open Go.Proofs.Tryz (prog)
open Go.Value (int)
open Go.World (cell?)
section
set_option maxRecDepth 100000
def qhb.j3(Q:VWP)(w:World):Prop:=Q (.tuple ⟨[.int .i64 0,.int .i64 0,.int .i64 0,.int .i64 5]⟩) w
def qhb.j6(b_0:Sl)(k_6:Int)(v_7 i_8:Int)(Q:VWP)(nx1:Sl->Int->Int->Int->WP)(w:World):Prop:=lt (i64.wrap (i_8+1)) λx1=>nx1 b_0 k_6 v_7 x1 w
def qhb.j7(b_0:Sl)(k_6:Int)(v_7 i_8:Int)(Q:VWP)(nx1:Sl->Int->Int->Int->WP)(w:World):Prop:=ixS b_0.a b_0.len i_8 1 λa2=>ldI .u8 w a2 λx3=>br (decide (x3<128)) (lt (i64.wrap (i_8+1)) λx4=>Q (.tuple ⟨[.int .i64 k_6,.int .i64 v_7,.int .i64 x4,.int .i64 0]⟩) w) (qhb.j6 b_0 k_6 v_7 i_8 Q nx1 w)
def qhb.j5(b_0:Sl)(k_6:Int)(v_7 i_8:Int)(Q:VWP)(nx1:Sl->Int->Int->Int->WP)(w:World):Prop:=br (i_8==(b_0.len:Int)) (Q (.tuple ⟨[.int .i64 0,.int .i64 0,.int .i64 0,.int .i64 3]⟩) w) (br (i_8==0) (ixS b_0.a b_0.len 0 1 λa5=>ldI .u8 w a5 λx6=>(0:Int)<=4/\lt (qal .u8 x6 4) λx7=>lt (qdj .u8 x7 7) λx8=>lt (i64.wrap x8) λx9=>ixS b_0.a b_0.len 0 1 λa10=>ldI .u8 w a10 λx11=>lt (qdj .u8 x11 15) λx12=>lt (i64.wrap x12) λx13=>qhb.j7 b_0 x9 x13 i_8 Q nx1 w) (ixS b_0.a b_0.len i_8 1 λa14=>ldI .u8 w a14 λx15=>lt (qdj .u8 x15 127) λx16=>lt (i64.wrap x16) λx17=>lt (i64.wrap (i_8-1)) λx18=>lt (u64.wrap x18) λx19=>lt (u64.wrap (7*x19)) λx20=>lt (u64.wrap (4+x20)) λx21=>(0:Int)<=x21/\lt (qzi .i64 x17 x21) λx22=>lt (orV .i64 v_7 x22) λx23=>qhb.j7 b_0 k_6 x23 i_8 Q nx1 w))
def qhb.b1(b_0:Sl)(k_6:Int)(v_7 i_8:Int)(Q:VWP)(nx1:Sl->Int->Int->Int->WP)(w:World):Prop:=br (decide (i_8<8)) (qhb.j5 b_0 k_6 v_7 i_8 Q nx1 w) (qhb.j3 Q w)
def qhb.l1(b_0:Sl)(k_6:Int)(v_7 i_8:Int)(Q:VWP)(w:World):Prop:=∃(I:Int->Int->Int->WP) (μ:Int->Int->Int->World->Nat),I k_6 v_7 i_8 w/\∀k_6:Int,∀v_7:Int,∀i_8:Int,∀w:World,I k_6 v_7 i_8 w->qhb.b1 b_0 k_6 v_7 i_8 Q (λb_0' k_6' v_7' i_8' w'=>(b_0'=b_0)/\I k_6' v_7' i_8' w'/\μ k_6' v_7' i_8' w'<μ k_6 v_7 i_8 w) w
def qhb.j4(b_0:Sl)(k_6:Int)(v_7 i_8:Int)(Q:VWP)(w:World):Prop:=qhb.l1 b_0 k_6 v_7 i_8 Q w
def qhb.j2(b_0:Sl)(k_6:Int)(v_7:Int)(Q:VWP)(w:World):Prop:=qhb.j4 b_0 k_6 v_7 0 Q w
def qhb.j1(b_0:Sl)(Q:VWP)(w:World):Prop:=qhb.j2 b_0 0 0 Q w
def qhb(b_0:Sl)(Q:VWP)(w:World):Prop:=qhb.j1 b_0 Q w
theorem qhb.ok(b_0:Sl)(Q:VWP)(w:World)(h:qhb b_0 Q w):Calls prog 49 ⟨[sV b_0]⟩ w (Ret Q):=
 qhc [.tmp 2,.tmp 3,.tmp 4,.tmp 5] qde Tryz.func49 rfl rfl rfl rfl (.sq [sL 0] (λa w=>qhb.j1 a Q w) .lf (.pr 1 [sL 0,sI 6,sI 7] (λa b c w=>qhb.j2 a b c Q w) (.sq [] (λ w=>qhb.j3 Q w) (.sq [sL 0,sI 6,sI 7,sI 8] (λa b c d w=>qhb.j4 a b c d Q w) .lf (.bk (.lo [sL 0] [sI 6,sI 7,sI 8] (λa b c d w=>qhb.l1 a b c d Q w) (λnx1 a b c d w=>qhb.b1 a b c d Q nx1 w) λnx1=>(.sq [sL 0,sI 6,sI 7,sI 8] (λa b c d w=>qhb.j5 a b c d Q nx1 w) .lf (.sq [sL 0,sI 6,sI 7,sI 8] (λa b c d w=>qhb.j6 a b c d Q nx1 w) (.bk (.pr 1 [sL 0,sI 6,sI 7,sI 8] (λa b c d w=>qhb.j7 a b c d Q nx1 w) .lf)) .lf))))) .lf))) (by kernel_rfl) h
def qt.j6(b_0:Sl)(at_1:Int)(t4 x_6:Addr)(size_8:Int)(p_11:Int)(Q:VWP)(w:World):Prop:=br (decide (size_8>16384)) (((⟨[.int .i64 0,.int .i64 0,.int .i64 0,.int .u8 0,.int .u8 0,.int .u8 0,.int .u8 0,.int .u8 0,.int .u8 0,.int .u8 0,.int .u8 0,.int .u8 0,.int .u8 0,.int .u8 0,.int .u8 0,.int .u8 0,.int .u8 0,.int .u8 0,.int .u8 0,.int .u8 0,.int .u8 0,.int .u8 0,.int .u8 0,.slice none 0 0,.int .i64 0,.int .i64 0,.int .u32 0]⟩:Array Value)).size=27/\stA w t4 (⟨[.int .i64 0,.int .i64 0,.int .i64 0,.int .u8 0,.int .u8 0,.int .u8 0,.int .u8 0,.int .u8 0,.int .u8 0,.int .u8 0,.int .u8 0,.int .u8 0,.int .u8 0,.int .u8 0,.int .u8 0,.int .u8 0,.int .u8 0,.int .u8 0,.int .u8 0,.int .u8 0,.int .u8 0,.int .u8 0,.int .u8 0,.slice none 0 0,.int .i64 0,.int .i64 0,.int .u32 0]⟩:Array Value) λw1=>ldA w1 t4 27 λc2=>Q (.tuple ⟨[.agg c2,.int .i64 5]⟩) w1) (bd p_11 b_0.len λn3=>lt (⟨qnf b_0.a b_0.cap n3 1,b_0.len-n3,b_0.cap-n3⟩:Sl) λs4=>qqab 51 [sV s4,.int .i64 size_8] w λr7 r8 r9 w6=>br (r9 !=0) (((⟨[.int .i64 0,.int .i64 0,.int .i64 0,.int .u8 0,.int .u8 0,.int .u8 0,.int .u8 0,.int .u8 0,.int .u8 0,.int .u8 0,.int .u8 0,.int .u8 0,.int .u8 0,.int .u8 0,.int .u8 0,.int .u8 0,.int .u8 0,.int .u8 0,.int .u8 0,.int .u8 0,.int .u8 0,.int .u8 0,.int .u8 0,.slice none 0 0,.int .i64 0,.int .i64 0,.int .u32 0]⟩:Array Value)).size=27/\stA w6 t4 (⟨[.int .i64 0,.int .i64 0,.int .i64 0,.int .u8 0,.int .u8 0,.int .u8 0,.int .u8 0,.int .u8 0,.int .u8 0,.int .u8 0,.int .u8 0,.int .u8 0,.int .u8 0,.int .u8 0,.int .u8 0,.int .u8 0,.int .u8 0,.int .u8 0,.int .u8 0,.int .u8 0,.int .u8 0,.int .u8 0,.int .u8 0,.slice none 0 0,.int .i64 0,.int .i64 0,.int .u32 0]⟩:Array Value) λw10=>ldA w10 t4 27 λc11=>Q (.tuple ⟨[.agg c11,.int .i64 r9]⟩) w10) (br ((r7.len:Int) !=size_8) (((⟨[.int .i64 0,.int .i64 0,.int .i64 0,.int .u8 0,.int .u8 0,.int .u8 0,.int .u8 0,.int .u8 0,.int .u8 0,.int .u8 0,.int .u8 0,.int .u8 0,.int .u8 0,.int .u8 0,.int .u8 0,.int .u8 0,.int .u8 0,.int .u8 0,.int .u8 0,.int .u8 0,.int .u8 0,.int .u8 0,.int .u8 0,.slice none 0 0,.int .i64 0,.int .i64 0,.int .u32 0]⟩:Array Value)).size=27/\stA w6 t4 (⟨[.int .i64 0,.int .i64 0,.int .i64 0,.int .u8 0,.int .u8 0,.int .u8 0,.int .u8 0,.int .u8 0,.int .u8 0,.int .u8 0,.int .u8 0,.int .u8 0,.int .u8 0,.int .u8 0,.int .u8 0,.int .u8 0,.int .u8 0,.int .u8 0,.int .u8 0,.int .u8 0,.int .u8 0,.int .u8 0,.int .u8 0,.slice none 0 0,.int .i64 0,.int .i64 0,.int .u32 0]⟩:Array Value) λw12=>ldA w12 t4 27 λc13=>Q (.tuple ⟨[.agg c13,.int .i64 2]⟩) w12) (st w6 (Addr.add x_6 23) (sV r7) λw14=>st w14 (Addr.add x_6 24) (.int .i64 at_1) λw15=>lt (i64.wrap (p_11+r8)) λx16=>lt (i64.wrap (x16-at_1)) λx17=>st w15 (Addr.add x_6 25) (.int .i64 x17) λw18=>lt (i64.wrap (p_11+r8)) λx19=>bd x19 b_0.cap λn20=>bd at_1 n20 λn21=>lt (⟨qnf b_0.a b_0.cap n21 1,n20-n21,b_0.cap-n21⟩:Sl) λs22=>qlj 52 [sV s22] w18 λr25 w24=>st w24 (Addr.add x_6 26) (.int .u32 r25) λw26=>ldA w26 x_6 27 λc27=>(c27).size=27/\stA w26 t4 c27 λw28=>ldA w28 t4 27 λc29=>Q (.tuple ⟨[.agg c29,.int .i64 0]⟩) w28)))
def qt.j9(b_0:Sl)(at_1:Int)(t4 x_6:Addr)(size_8:Int)(p_11:Int)(Q:VWP)(w:World):Prop:=lt (i64.wrap (p_11+20)) λx30=>qt.j6 b_0 at_1 t4 x_6 size_8 x30 Q w
def qt.b1(b_0:Sl)(at_1:Int)(t4 x_6:Addr)(size_8:Int)(p_11 i_15:Int)(Q:VWP)(nx1:Sl->Int->Addr->Addr->Int->Int->Int->WP)(w:World):Prop:=br (decide (i_15<20)) (lt (i64.wrap (p_11+i_15)) λx31=>ixS b_0.a b_0.len x31 1 λa32=>ldI .u8 w a32 λx33=>ixA (Addr.add x_6 3) 20 i_15 1 λa34=>st w a34 (.int .u8 x33) λw35=>lt (i64.wrap (i_15+1)) λx36=>nx1 b_0 at_1 t4 x_6 size_8 p_11 x36 w35) (qt.j9 b_0 at_1 t4 x_6 size_8 p_11 Q w)
def qt.l1(b_0:Sl)(at_1:Int)(t4 x_6:Addr)(size_8:Int)(p_11 i_15:Int)(Q:VWP)(w:World):Prop:=∃(I:Int->WP) (μ:Int->World->Nat),I i_15 w/\∀i_15:Int,∀w:World,I i_15 w->qt.b1 b_0 at_1 t4 x_6 size_8 p_11 i_15 Q (λb_0' at_1' t4' x_6' size_8' p_11' i_15' w'=>(b_0'=b_0/\at_1'=at_1/\t4'=t4/\x_6'=x_6/\size_8'=size_8/\p_11'=p_11)/\I i_15' w'/\μ i_15' w'<μ i_15 w) w
def qt.j10(b_0:Sl)(at_1:Int)(t4 x_6:Addr)(size_8:Int)(p_11 i_15:Int)(Q:VWP)(w:World):Prop:=qt.l1 b_0 at_1 t4 x_6 size_8 p_11 i_15 Q w
def qt.j8(b_0:Sl)(at_1:Int)(t4 x_6:Addr)(size_8:Int)(p_11:Int)(Q:VWP)(w:World):Prop:=qt.j10 b_0 at_1 t4 x_6 size_8 p_11 0 Q w
def qt.j7(b_0:Sl)(at_1:Int)(t4 x_6:Addr)(size_8:Int)(p_11:Int)(t83:Bool)(Q:VWP)(w:World):Prop:=br t83 (lt (i64.wrap ((b_0.len:Int)-p_11)) λx37=>br (decide (x37<20)) (((⟨[.int .i64 0,.int .i64 0,.int .i64 0,.int .u8 0,.int .u8 0,.int .u8 0,.int .u8 0,.int .u8 0,.int .u8 0,.int .u8 0,.int .u8 0,.int .u8 0,.int .u8 0,.int .u8 0,.int .u8 0,.int .u8 0,.int .u8 0,.int .u8 0,.int .u8 0,.int .u8 0,.int .u8 0,.int .u8 0,.int .u8 0,.slice none 0 0,.int .i64 0,.int .i64 0,.int .u32 0]⟩:Array Value)).size=27/\stA w t4 (⟨[.int .i64 0,.int .i64 0,.int .i64 0,.int .u8 0,.int .u8 0,.int .u8 0,.int .u8 0,.int .u8 0,.int .u8 0,.int .u8 0,.int .u8 0,.int .u8 0,.int .u8 0,.int .u8 0,.int .u8 0,.int .u8 0,.int .u8 0,.int .u8 0,.int .u8 0,.int .u8 0,.int .u8 0,.int .u8 0,.int .u8 0,.slice none 0 0,.int .i64 0,.int .i64 0,.int .u32 0]⟩:Array Value) λw38=>ldA w38 t4 27 λc39=>Q (.tuple ⟨[.agg c39,.int .i64 3]⟩) w38) (qt.j8 b_0 at_1 t4 x_6 size_8 p_11 Q w)) (qt.j6 b_0 at_1 t4 x_6 size_8 p_11 Q w)
def qt.j5(b_0:Sl)(at_1:Int)(t4 x_6:Addr)(k_7:Int)(size_8 p_11:Int)(Q:VWP)(w:World):Prop:=qt.j7 b_0 at_1 t4 x_6 size_8 p_11 (k_7==7) Q w
def qt.j4(b_0:Sl)(at_1:Int)(t4 x_6:Addr)(k_7:Int)(size_8 n_9:Int)(Q:VWP)(w:World):Prop:=lt (i64.wrap (at_1+n_9)) λx40=>br (k_7==6) (bd x40 b_0.len λn41=>lt (⟨qnf b_0.a b_0.cap n41 1,b_0.len-n41,b_0.cap-n41⟩:Sl) λs42=>qgqb 50 [sV s42] w λr45 r46 r47 w44=>br (r47 !=0) (((⟨[.int .i64 0,.int .i64 0,.int .i64 0,.int .u8 0,.int .u8 0,.int .u8 0,.int .u8 0,.int .u8 0,.int .u8 0,.int .u8 0,.int .u8 0,.int .u8 0,.int .u8 0,.int .u8 0,.int .u8 0,.int .u8 0,.int .u8 0,.int .u8 0,.int .u8 0,.int .u8 0,.int .u8 0,.int .u8 0,.int .u8 0,.slice none 0 0,.int .i64 0,.int .i64 0,.int .u32 0]⟩:Array Value)).size=27/\stA w44 t4 (⟨[.int .i64 0,.int .i64 0,.int .i64 0,.int .u8 0,.int .u8 0,.int .u8 0,.int .u8 0,.int .u8 0,.int .u8 0,.int .u8 0,.int .u8 0,.int .u8 0,.int .u8 0,.int .u8 0,.int .u8 0,.int .u8 0,.int .u8 0,.int .u8 0,.int .u8 0,.int .u8 0,.int .u8 0,.int .u8 0,.int .u8 0,.slice none 0 0,.int .i64 0,.int .i64 0,.int .u32 0]⟩:Array Value) λw48=>ldA w48 t4 27 λc49=>Q (.tuple ⟨[.agg c49,.int .i64 r47]⟩) w48) (br (decide (r45<1)) (((⟨[.int .i64 0,.int .i64 0,.int .i64 0,.int .u8 0,.int .u8 0,.int .u8 0,.int .u8 0,.int .u8 0,.int .u8 0,.int .u8 0,.int .u8 0,.int .u8 0,.int .u8 0,.int .u8 0,.int .u8 0,.int .u8 0,.int .u8 0,.int .u8 0,.int .u8 0,.int .u8 0,.int .u8 0,.int .u8 0,.int .u8 0,.slice none 0 0,.int .i64 0,.int .i64 0,.int .u32 0]⟩:Array Value)).size=27/\stA w44 t4 (⟨[.int .i64 0,.int .i64 0,.int .i64 0,.int .u8 0,.int .u8 0,.int .u8 0,.int .u8 0,.int .u8 0,.int .u8 0,.int .u8 0,.int .u8 0,.int .u8 0,.int .u8 0,.int .u8 0,.int .u8 0,.int .u8 0,.int .u8 0,.int .u8 0,.int .u8 0,.int .u8 0,.int .u8 0,.int .u8 0,.int .u8 0,.slice none 0 0,.int .i64 0,.int .i64 0,.int .u32 0]⟩:Array Value) λw50=>ldA w50 t4 27 λc51=>Q (.tuple ⟨[.agg c51,.int .i64 2]⟩) w50) (br (decide (r45>at_1)) (((⟨[.int .i64 0,.int .i64 0,.int .i64 0,.int .u8 0,.int .u8 0,.int .u8 0,.int .u8 0,.int .u8 0,.int .u8 0,.int .u8 0,.int .u8 0,.int .u8 0,.int .u8 0,.int .u8 0,.int .u8 0,.int .u8 0,.int .u8 0,.int .u8 0,.int .u8 0,.int .u8 0,.int .u8 0,.int .u8 0,.int .u8 0,.slice none 0 0,.int .i64 0,.int .i64 0,.int .u32 0]⟩:Array Value)).size=27/\stA w44 t4 (⟨[.int .i64 0,.int .i64 0,.int .i64 0,.int .u8 0,.int .u8 0,.int .u8 0,.int .u8 0,.int .u8 0,.int .u8 0,.int .u8 0,.int .u8 0,.int .u8 0,.int .u8 0,.int .u8 0,.int .u8 0,.int .u8 0,.int .u8 0,.int .u8 0,.int .u8 0,.int .u8 0,.int .u8 0,.int .u8 0,.int .u8 0,.slice none 0 0,.int .i64 0,.int .i64 0,.int .u32 0]⟩:Array Value) λw52=>ldA w52 t4 27 λc53=>Q (.tuple ⟨[.agg c53,.int .i64 2]⟩) w52) (st w44 (Addr.add x_6 2) (.int .i64 r45) λw54=>lt (i64.wrap (x40+r46)) λx55=>qt.j5 b_0 at_1 t4 x_6 k_7 size_8 x55 Q w54)))) (qt.j5 b_0 at_1 t4 x_6 k_7 size_8 x40 Q w)
def qt.j3(b_0:Sl)(at_1:Int)(t4 x_6:Addr)(k_7:Int)(size_8 n_9:Int)(Q:VWP)(w:World):Prop:=st w (Addr.add x_6 0) (.int .i64 k_7) λw56=>st w56 (Addr.add x_6 1) (.int .i64 size_8) λw57=>qt.j4 b_0 at_1 t4 x_6 k_7 size_8 n_9 Q w57
def qt.j2(b_0:Sl)(at_1:Int)(t4 x_6:Addr)(k_7:Int)(size_8 n_9 e_10:Int)(Q:VWP)(w:World):Prop:=br (e_10 !=0) (ldA w x_6 27 λc58=>(c58).size=27/\stA w t4 c58 λw59=>ldA w59 t4 27 λc60=>Q (.tuple ⟨[.agg c60,.int .i64 e_10]⟩) w59) (br (k_7==0) (ldA w x_6 27 λc61=>(c61).size=27/\stA w t4 c61 λw62=>ldA w62 t4 27 λc63=>Q (.tuple ⟨[.agg c63,.int .i64 2]⟩) w62) (br (k_7==5) (ldA w x_6 27 λc64=>(c64).size=27/\stA w t4 c64 λw65=>ldA w65 t4 27 λc66=>Q (.tuple ⟨[.agg c66,.int .i64 2]⟩) w65) (qt.j3 b_0 at_1 t4 x_6 k_7 size_8 n_9 Q w)))
def qt.j1(b_0:Sl)(at_1:Int)(t4 x_6:Addr)(Q:VWP)(w:World):Prop:=br (decide (at_1<0)) (ldA w x_6 27 λc67=>(c67).size=27/\stA w t4 c67 λw68=>ldA w68 t4 27 λc69=>Q (.tuple ⟨[.agg c69,.int .i64 1]⟩) w68) (br (decide (at_1>(b_0.len:Int))) (ldA w x_6 27 λc70=>(c70).size=27/\stA w t4 c70 λw71=>ldA w71 t4 27 λc72=>Q (.tuple ⟨[.agg c72,.int .i64 1]⟩) w71) (bd at_1 b_0.len λn73=>lt (⟨qnf b_0.a b_0.cap n73 1,b_0.len-n73,b_0.cap-n73⟩:Sl) λs74=>qglb 49 [sV s74] w λr77 r78 r79 r80 w76=>qt.j2 b_0 at_1 t4 x_6 r77 r78 r79 r80 Q w76))
def qt(b_0:Sl)(at_1:Int)(Q:VWP)(w:World):Prop:=nw w (zc prog 42) 42 λa81 w82=>nw w82 (zc prog 42) 42 λa83 w84=>qt.j1 b_0 at_1 a81 a83 Q w84
theorem qt.ok(b_0:Sl)(at_1:Int)(Q:VWP)(w:World)(h:qt b_0 at_1 Q w):Calls prog 27 ⟨[sV b_0,.int .i64 at_1]⟩ w (Ret Q):=
 qhc [.cell 4 42,.tmp 5] qde Tryz.func27 rfl rfl rfl rfl (.pr 1 [sL 0,sI 1,sA 4,sA 6] (λa b c d w=>qt.j1 a b c d Q w) (.pr 1 [sL 0,sI 1,sA 4,sA 6,sI 7,sI 8,sI 9,sI 10] (λa b c d e f g h w=>qt.j2 a b c d e f g h Q w) (.pr 1 [sL 0,sI 1,sA 4,sA 6,sI 7,sI 8,sI 9] (λa b c d e f g w=>qt.j3 a b c d e f g Q w) (.pr 1 [sL 0,sI 1,sA 4,sA 6,sI 7,sI 8,sI 9] (λa b c d e f g w=>qt.j4 a b c d e f g Q w) (.pr 1 [sL 0,sI 1,sA 4,sA 6,sI 7,sI 8,sI 11] (λa b c d e f g w=>qt.j5 a b c d e f g Q w) (.sq [sL 0,sI 1,sA 4,sA 6,sI 8,sI 11] (λa b c d e f w=>qt.j6 a b c d e f Q w) (.sq [sL 0,sI 1,sA 4,sA 6,sI 8,sI 11,sB 83] (λa b c d e f g w=>qt.j7 a b c d e f g Q w) .lf (.cd (.sq [sL 0,sI 1,sA 4,sA 6,sI 8,sI 11] (λa b c d e f w=>qt.j8 a b c d e f Q w) .lf (.sq [sL 0,sI 1,sA 4,sA 6,sI 8,sI 11] (λa b c d e f w=>qt.j9 a b c d e f Q w) (.sq [sL 0,sI 1,sA 4,sA 6,sI 8,sI 11,sI 15] (λa b c d e f g w=>qt.j10 a b c d e f g Q w) .lf (.bk (.lo [sL 0,sI 1,sA 4,sA 6,sI 8,sI 11] [sI 15] (λa b c d e f g w=>qt.l1 a b c d e f g Q w) (λnx1 a b c d e f g w=>qt.b1 a b c d e f g Q nx1 w) λnx1=> .lf))) .lf)) .lf)) .lf)))))) (by kernel_rfl) h
end
section
def Blk(w:World)(b:Nat)(l:List Value):Prop:=∃t,w.heap[b]?=some (.cells ⟨l⟩ t (0,0))
structure Mod(F:List Nat)(w w':World):Prop where
 os:w'.os=w.os
 tape:w'.tape=w.tape
 output:w'.output=w.output
 size:w.heap.size<=w'.heap.size
 frame:∀b,b<w.heap.size->b∉F->w'.heap[b]?=w.heap[b]?
theorem Mod.refl(F:List Nat)(w:World):Mod F w w:=⟨rfl,rfl,rfl,le_refl _,λ_ _ _=>rfl⟩
theorem Mod.trans{F G:List Nat}{a b c:World}(h:Mod F a b)(k:Mod G b c)(hG:∀x∈G,x∈F\/a.heap.size<=x):Mod F a c:=
 ⟨k.os.trans h.os,k.tape.trans h.tape,k.output.trans h.output,le_trans h.size k.size,λx hx hF=>by
   rw[k.frame x (Nat.lt_of_lt_of_le hx h.size) (λhg=>by rcases hG x hg with h1|h1;exact hF h1;omega),h.frame x hx hF]⟩
theorem Mod.mono{F G:List Nat}{a b:World}(h:Mod F a b)(hG:∀x∈F,x∈G\/a.heap.size<=x):Mod G a b:=
 ⟨h.os,h.tape,h.output,h.size,λx hx hF=>h.frame x hx λhf=>by rcases hG x hf with h1|h1;exact hF h1;omega⟩
theorem Mod.below{F:List Nat}{n:Nat}{w w':World}(h:Mod F w w')(hn:n<=w.heap.size)(hF:∀x∈F,n<=x):Go.RowKit.Below n w w':=
 ⟨h.os,h.tape,h.output,h.size,λk hk=>h.frame k (by omega) λhm=>by have:=hF k hm;omega⟩
theorem Blk.lt{w:World}{b:Nat}{l:List Value}(h:Blk w b l):b<w.heap.size:=by
 obtain⟨t,h⟩:=h;exact(Array.getElem?_eq_some_iff.1 h).1
theorem Blk.keep{F:List Nat}{w w':World}{b:Nat}{l:List Value}(h:Blk w b l)(m:Mod F w w')(hb:b∉F):Blk w' b l:=by
 have hl:=h.lt;obtain⟨t,h⟩:=h;exact⟨t,by rw[m.frame b hl hb];exact h⟩
theorem Blk.cell{w:World}{b:Nat}{l:List Value}(h:Blk w b l)(o:Nat):w.cell? ⟨b,o,none⟩=l[o]?:=by
 obtain⟨t,h⟩:=h;simp[cell?,h]
theorem Blk.free{w:World}{b:Nat}{l:List Value}(h:Blk w b l)(o:Nat):w.frozen? ⟨b,o,none⟩=false:=by
 obtain⟨t,h⟩:=h;simp[World.frozen?,h]
theorem Blk.set{w:World}{b:Nat}{l:List Value}(h:Blk w b l)(o:Nat)(v:Value):Blk (w.setCell ⟨b,o,none⟩ v) b (l.set o v):=by
 obtain⟨t,h⟩:=h;refine⟨t,?_⟩;simp only[World.setCell,Array.getElem?_modify,if_true,h,map_some];simp
theorem Blk.shape{w:World}{b:Nat}{l:List Value}(h:Blk w b l):∃t,w.shape? b=some (t,l.length):=by
 obtain⟨t,h⟩:=h;exact⟨t,by simp[World.shape?,h]⟩
theorem Mod.setCell(w:World)(b o:Nat)(v:Value):Mod [b] w (w.setCell ⟨b,o,none⟩ v):=
 ⟨rfl,rfl,rfl,by simp,λx hx hF=>by
   simp only[World.setCell,Array.getElem?_modify];rw[if_neg];intro h;exact hF (by simp[h])⟩
theorem Mod.drew(w:World):Mod [] w w.drew:=⟨rfl,rfl,rfl,le_refl _,λ_ _ _=>rfl⟩
theorem Mod.alloc(w:World)(o:Obj):Mod [] w (w.alloc o):=⟨rfl,rfl,rfl,by simp,λx hx _=>qhn w o x hx⟩
theorem Blk.new(w:World)(l:List Value)(t:TypeId):Blk (w.alloc (.cells ⟨l⟩ t)) w.heap.size l:=⟨t,by
 show(w.heap.push _)[w.heap.size]?=_;rw[Array.getElem?_push_size]⟩
def over(l:List Value)(o:Nat):List Value->List Value
 |[]=>l
 |v::r=>over (l.set o v) (o+1) r
theorem qjsb(vs:List Value):∀(l:List Value) (o:Nat),o+vs.length<=l.length->over l o vs=l.take o++vs++l.drop (o+vs.length):=by
 induction vs with
 |nil=>intro l o _;simp[over]
 |cons v r ih=>
  intro l o h;simp only[length_cons]at h;rw[over,ih _ _ (by simp;omega)];apply List.ext_getElem?;intro i;simp only[List.getElem?_append,length_append,length_take,length_set,length_cons];by_cases h1:i<o
  ·have:i<min (o+1) l.length:=by omega
   have h2:i<min o l.length:=by omega
   have h3:i<min (o+1) l.length+r.length:=by omega
   have h4:i<min o l.length+(r.length+1):=by omega
   simp[h1,this,h2,h3,h4,List.getElem?_take,List.getElem?_set,show ¬o=i by omega,show i<o+1 by omega]
  ·by_cases h2:i=o
   ·subst h2;have a1:i<min (i+1) l.length:=by omega
    have a2:¬i<min i l.length:=by omega
    have a3:i<min (i+1) l.length+r.length:=by omega
    have a4:i<min i l.length+(r.length+1):=by omega
    have a5:i-min i l.length=0:=by omega
    simp[a1,a2,a3,a4,a5,List.getElem?_take,show i<l.length by omega]
   ·have b1:¬i<min (o+1) l.length:=by omega
    have b2:¬i<min o l.length:=by omega
    have e1:min (o+1) l.length=o+1:=by omega
    have e2:min o l.length=o:=by omega
    rw[e1,e2];by_cases h3:i<o+(r.length+1)
    ·have c1:i<o+1+r.length:=by omega
     have c2:¬i<o+1:=by omega
     rw[if_pos c1,if_neg c2,if_pos h3,if_neg h1];rw[show i-o=(i-(o+1))+1 by omega];simp
    ·have c1:¬i<o+1+r.length:=by omega
     rw[if_neg c1,if_neg h3];simp only[List.getElem?_drop];rw[List.getElem?_set,if_neg (by omega)];congr 1;omega
theorem Blk.putAll{b:Nat}:∀(vs:List Value) {w:World} {l:List Value} (o i:Nat),Blk w b l->Blk (putAll w ⟨b,o,none⟩ vs i) b (over l (o+i) vs)/\Mod [b] w (putAll w ⟨b,o,none⟩ vs i)
 |[],w,l,o,i,h=>⟨h,Mod.refl _ _⟩
 |v::r,w,l,o,i,h=>by
  have ha:(⟨b,o,none⟩:Addr).add i=⟨b,o+i,none⟩:=by unfold Addr.add;split<;>simp_all
  unfold Go.Proofs.YtdccpphmkfaioaaGreat.putAll over;rw[ha];obtain⟨h1,h2⟩:=Blk.putAll r o (i+1) (h.set (o+i) v);rw[show o+(i+1)=o+i+1 by omega]at h1;exact⟨h1,(Mod.setCell w b (o+i) v).trans h2 (λx hx=>Or.inl hx)⟩
theorem qyf(b o n:Nat):(⟨b,o,none⟩:Addr).add n=⟨b,o+n,none⟩:=by unfold Addr.add;split<;>simp_all
section
variable {w0 w:World}{m:List (Nat×List Value)}{b o:Nat}{l:List Value}
theorem qkd{a:Addr}{K:Addr->Prop}(h:K a):nz (some a) K:=h
theorem qbe{α:Type}{e:α}{K:α->Prop}(h:K e):lt e K:=h
theorem qm{α:Type}{e e':α}{K:α->Prop}(he:e=e')(h:K e'):lt e K:=by subst he;exact h
theorem quc{p:Prop}[Decidable p]{A B:Prop}(ht:p->A)(hf:¬p->B):br (decide p) A B:=by
 by_cases h:p
 ·simp only[h,decide_true];exact ht h
 ·simp only[h,decide_false];exact hf h
theorem qye{b:Bool}{A B:Prop}(ht:b=true->A)(hf:b=false->B):br b A B:=by
 cases b
 ·exact hf rfl
 ·exact ht rfl
theorem Blk.ldI{k:IntKind}{n:Int}{K:Int->Prop}(h:Blk w b l)(hv:l[o]?=some (.int k n))(hk:K n):ldI k w ⟨b,o,none⟩ K:=⟨n,by rw[h.cell];exact hv,hk⟩
theorem Blk.ldP{n:Option Addr}{K:Option Addr->Prop}(h:Blk w b l)(hv:l[o]?=some (.pointer n))(hk:K n):ldP w ⟨b,o,none⟩ K:=⟨n,by rw[h.cell];exact hv,hk⟩
theorem Blk.ldL{n:Sl}{K:Sl->Prop}(h:Blk w b l)(hv:l[o]?=some (.slice n.a n.len n.cap))(hk:K n):ldL w ⟨b,o,none⟩ K:=⟨n,by rw[h.cell];exact hv,hk⟩
theorem Blk.ldM{n:Option Nat}{K:Option Nat->Prop}(h:Blk w b l)(hv:l[o]?=some (.map n))(hk:K n):ldM w ⟨b,o,none⟩ K:=⟨n,by rw[h.cell];exact hv,hk⟩
theorem Blk.ldA{n:Nat}{cs:Array Value}{K:Array Value->Prop}(h:Blk w b l)(hs:cs.size=n)(hv:∀i,i<n->l[o+i]?=cs[i]?)(hk:K cs):ldA w ⟨b,o,none⟩ n K:=
 ⟨cs,hs,λi hi=>by rw[qyf,h.cell];exact hv i hi,hk⟩
theorem Blk.st{v:Value}{K:World->Prop}(h:Blk w b l)(ho:o<l.length)(hs:qfe v)(hk:∀w',Mod [b] w w'->Blk w' b (l.set o v)->K w'):st w ⟨b,o,none⟩ v K:=
 ⟨hs,⟨l[o],by rw[h.cell,getElem?_eq_getElem ho]⟩,h.free o,hk _ (Mod.setCell w b o v) (h.set o v)⟩
theorem qut{cs:Array Value}{K:World->Prop}(h:Blk w b l)(ho:o+cs.size<=l.length)(hs:∀v∈cs,qfe v)(hk:∀w',Mod [b] w w'->Blk w' b (l.take o++cs.toList++l.drop (o+cs.size))->K w'):stA w ⟨b,o,none⟩ cs K:=by
 refine⟨λi hi=>?_,hs,?_⟩
 ·rw[qyf,h.cell,getElem?_eq_getElem (by omega)];exact⟨⟨_,rfl⟩,h.free _⟩
 ·obtain⟨h1,h2⟩:=Blk.putAll cs.toList o 0 h;rw[Nat.add_zero,qjsb _ _ _ (by simpa using ho)]at h1;exact hk _ h2 (by simpa using h1)
end
def Own(sz:Nat)(w:World)(s:Sl)(cs:List Value)(F:List Nat):Prop:=(s=⟨none,0,0⟩/\cs=[]/\F=[])\/∃ob rest,s.a=some ⟨ob,0,none⟩/\Blk w ob (cs++rest)/\cs.length=s.len*sz/\(cs++rest).length=s.cap*sz/\F=[ob]
def Gr(n:Nat)(F F':List Nat):Prop:=∀x∈F',x∈F\/n<=x
theorem Gr.refl(n:Nat)(F:List Nat):Gr n F F:=λ_ h=>Or.inl h
theorem Own.lt{sz:Nat}{w:World}{s:Sl}{cs:List Value}{F:List Nat}(h:Own sz w s cs F):∀x∈F,x<w.heap.size:=by
 rcases h with⟨_,_,rfl⟩|⟨ob,rest,_,hb,_,_,rfl⟩
 ·intro x hx;cases hx
 ·intro x hx;have:x=ob:=by simpa using hx
  subst this;exact hb.lt
theorem Own.keep{sz:Nat}{w w':World}{s:Sl}{cs:List Value}{F G:List Nat}(h:Own sz w s cs F)(m:Mod G w w')(hd:∀x∈F,x∉G):Own sz w' s cs F:=by
 rcases h with h|⟨ob,rest,h1,hb,h2,h3,rfl⟩
 ·exact Or.inl h
 ·exact Or.inr ⟨ob,rest,h1,hb.keep m (hd ob (by simp)),h2,h3,rfl⟩
theorem Own.len{sz:Nat}{w:World}{s:Sl}{cs:List Value}{F:List Nat}(h:Own sz w s cs F):cs.length=s.len*sz:=by
 rcases h with⟨rfl,rfl,_⟩|⟨ob,rest,_,_,h2,_,_⟩
 ·simp
 ·exact h2
theorem Own.cell{sz:Nat}{w:World}{s:Sl}{cs:List Value}{F:List Nat}(h:Own sz w s cs F){i:Nat}(hi:i<cs.length):∃ob,s.a=some ⟨ob,0,none⟩/\w.cell? ⟨ob,i,none⟩=cs[i]?:=by
 rcases h with⟨rfl,rfl,_⟩|⟨ob,rest,h1,hb,_,_,_⟩
 ·simp at hi
 ·exact⟨ob,h1,by rw[hb.cell,getElem?_append_left hi]⟩
theorem qicb(n c:Nat)(h:c<n)(hc:c<=n):Builtin.nextslicecap n c<=2*n+1024:=by
 unfold Builtin.nextslicecap;split
 ·omega
 ·split
  ·omega
  ·have grow:∀(r c:Nat),c<=n->Builtin.growBy n r c<=2*n+1024:=by
    intro r;induction r with
    |zero=>intro c hc;simp[Builtin.growBy];omega
    |succ r ih=>
     intro c hc;unfold Builtin.growBy;split
     ·omega
     ·by_cases h2:c+(c+768)/4<=n
      ·exact ih _ h2
      ·have:∀(r c:Nat),n<c->Builtin.growBy n r c=c:=by
        intro r c hc;cases r with
        |zero=>rfl
        |succ r=>unfold Builtin.growBy;rw[if_pos (by omega)]
       rw[this _ _ (by omega)];omega
   exact grow 4 c (by omega)
theorem Own.append{P:Program}{elem:TypeId}{i:TypeInfo}{sz m:Nat}{w:World}{s:Sl}{cs:List Value}{F:List Nat}{new:Array Value}{K:Sl->World->Prop}
 (hi:P.info? elem=some i) (hsz:i.size=sz) (hsz0:0<sz) (hz:(zc P elem).size=sz) (hb0:i.bytes≠0) (hb:(2*(s.len+m)+1024)*i.bytes<=2^48)
 (h:Own sz w s cs F) (hn:new.size=m*sz) (hst:∀v∈new,qfe v)
 (hk:∀s' w' F',Own sz w' s' (cs++new.toList) F'->Mod F w w'->Gr w.heap.size F F'->s'.len=s.len+m->K s' w'):
 apK P elem w s.a s.len s.cap m new K:=by
 have hbo:P.bytesOf elem=i.bytes:=by simp[bytesOf,hi]
 unfold apK qmh
 simp only[hi,hsz]
 have hgrow:∀(old:List Value),old.length=s.len*sz->cs=old->s.len+m>s.cap->s.cap<=s.len+m->∀c,s.len+m<=c->
  K ⟨newAt w,s.len+m,c⟩ (w.drew.alloc (.cells ((⟨old⟩:Array Value)++new++⟨qqm (c-(s.len+m)) (zc P elem).toList⟩) elem)):=by
  intro old hold hcs _ _ c hc
  subst hcs
  have hbl:=Blk.new w.drew (cs++new.toList++qqm (c-(s.len+m)) (zc P elem).toList) elem
  have e:((⟨cs⟩:Array Value)++new++⟨qqm (c-(s.len+m)) (zc P elem).toList⟩)=⟨cs++new.toList++qqm (c-(s.len+m)) (zc P elem).toList⟩:=by
   apply Array.ext';simp
  rw[e]
  refine hk _ _ [w.heap.size] (Or.inr ⟨w.heap.size,_,rfl,hbl,?_,?_,rfl⟩) ?_ ?_ rfl
  ·simp[hold,hn,add_mul]
  ·rw[length_append,length_append,qqi,hold]
   have:(zc P elem).toList.length=sz:=by simpa using hz
   rw[this]
   simp only[Array.length_toList,hn]
   rw[<-add_mul,<-add_mul]
   congr 1
   omega
  ·exact((Mod.drew w).trans (Mod.alloc w.drew _) (λ_ hx=>by cases hx)).mono (λ_ hx=>by cases hx)
  ·intro x hx
   have:x=w.heap.size:=by simpa using hx
   exact Or.inr (by omega)
 rcases h with⟨rfl,rfl,rfl⟩|⟨ob,rest,h1,hbk,h2,h3,rfl⟩
 ·split
  ·rename_i hle
   have hm0:m=0:=by simpa using hle
   subst hm0
   have:new=#[]:=by
    apply Array.eq_empty_of_size_eq_zero;simpa using hn
   subst this
   exact hk ⟨none,0,0⟩ w [] (Or.inl ⟨rfl,rfl,rfl⟩) (Mod.refl _ _) (Gr.refl _ _) rfl
  ·rename_i hle
   refine⟨⟨?_,by rw[hbo];exact hb0⟩,⟨by simp,?_⟩⟩
   ·rw[hbo]
    have:=qicb (0+m) 0 (by simp at hle|-;omega) (by omega)
    exact le_trans (mul_le_mul_right _ this) hb
   ·exact hgrow [] (by simp) rfl (by simp at hle|-;omega) (by simp)
 ·have hcap:s.len<=s.cap:=by
   have:=@length_append _ cs rest;have h4:s.len*sz<=s.cap*sz:=by omega
   exact Nat.le_of_mul_le_mul_right h4 hsz0
  split
  ·rename_i hle
   rw[h1]
   have ha:(⟨ob,0,none⟩:Addr).add (s.len*sz)=⟨ob,s.len*sz,none⟩:=by rw[qyf,zero_add]
   show stA w ((⟨ob,0,none⟩:Addr).add (s.len*sz)) new _
   rw[ha]
   have hle2:s.len*sz+m*sz<=s.cap*sz:=by rw[<-add_mul];exact mul_le_mul_right _ hle
   refine qut hbk (by rw[hn];omega) hst λw' hm hb'=>?_
   rw[<-h2,List.take_left' rfl,hn,List.drop_append,List.drop_of_length_le (by omega),List.nil_append,show cs.length+m*sz-cs.length=m*sz by omega]at hb'
   refine hk ⟨some ⟨ob,0,none⟩,s.len+m,s.cap⟩ w' [ob] (Or.inr ⟨ob,rest.drop (m*sz),rfl,hb',?_,?_,rfl⟩) hm (Gr.refl _ _) rfl
   ·simp[h2,hn,add_mul]
   ·simp only[length_append,length_drop,Array.length_toList,hn]
    rw[length_append]at h3
    omega
  ·rename_i hle
   refine⟨⟨?_,by rw[hbo];exact hb0⟩,?_⟩
   ·rw[hbo]
    have:=qicb (s.len+m) s.cap (by omega) (by omega)
    exact le_trans (mul_le_mul_right _ this) hb
   ·rw[h1]
    refine⟨⟨cs⟩,by simpa using h2,λj hj=>?_,hgrow cs h2 rfl (by omega) (by omega)⟩
    rw[qyf,hbk.cell,zero_add,getElem?_append_left (by omega)]
    simp
end
theorem qgh(x:Int):u64.wrap x=x%18446744073709551616:=by simp[IntKind.wrap,IntKind.bits,signed]
theorem qtg(x:Int):u32.wrap x=x%4294967296:=by simp[IntKind.wrap,IntKind.bits,signed]
theorem qmk(x:Int):IntKind.u8.wrap x=x%256:=by simp[IntKind.wrap,IntKind.bits,signed]
theorem qd{x:Int}(h0: -9223372036854775808<=x)(h1:x<9223372036854775808):i64.wrap x=x:=by
 simp only[IntKind.wrap,IntKind.bits,signed,Bool.true_and];split<;>rename_i h<;>simp at h<;>omega
theorem qyy(k:IntKind):8<=k.bits:=by cases k<;>decide
theorem qyw(k:IntKind){x:Int}(h0:0<=x)(h1:x<2^(k.bits-1)):k.wrap x=x:=by
 have hb:=qyy k;have h2:(2:Int)^k.bits=2*2^(k.bits-1):=by
  rw[show k.bits=(k.bits-1)+1 by omega,Int.pow_succ];simp only[Nat.add_sub_cancel];omega
 have h3:x%2^k.bits=x:=Int.emod_eq_of_lt h0 (by omega);simp only[IntKind.wrap,h3];rw[if_neg];simp only[Bool.and_eq_true,decide_eq_true_eq,not_and,ge_iff_le,Int.not_le];exact λ_=>h1
theorem qis(k:IntKind){n:Nat}(h1:n<2^(k.bits-1)):k.wrap (n:Int)=n:=
 qyw k (by omega) (by exact_mod_cast h1)
theorem qnq(w:Nat)(x:Int):((BitVec.ofInt w x).toNat:Int)=x%2^w:=by
 rw[BitVec.toNat_ofInt];have:(0:Int)<=x%2^w:=Int.emod_nonneg _ (by
  have:(0:Int)<2^w:=pow_pos (by decide);omega)
 have e:((2^w:Nat):Int)=2^w:=by simp
 rw[e];omega
theorem qwj(w n:Nat)(h:n<2^w):(BitVec.ofInt w (n:Int)).toNat=n:=by
 have h1:=qnq w n;have:((n:Int))%2^w=n:=Int.emod_eq_of_lt (by omega) (by exact_mod_cast h);omega
theorem qeeb(k:IntKind):(2:Nat)^k.bits=2*2^(k.bits-1):=by
 have hb:=qyy k;rw[show k.bits=(k.bits-1)+1 by omega,pow_succ];simp only[Nat.add_sub_cancel];omega
theorem qsk(k:IntKind)(x:Int){t:Nat}(ht:t<k.bits):qdj k x (2^t-1)=x%2^t:=by
 have hp:=qeeb k;have h2:(2:Nat)^t<=2^(k.bits-1):=pow_le_pow_right (by decide) (by omega);have qgn:0<(2:Nat)^t:=Nat.pow_pos (by decide);have e1:((2:Int)^t-1)=((2^t-1:Nat):Int):=by
  rw[Int.ofNat_sub qgn];simp
 unfold qdj;rw[e1,BitVec.toNat_and,qwj _ _ (by omega),Nat.and_two_pow_sub_one_eq_mod];have h3:=qnq k.bits x;have hlt:(BitVec.ofInt k.bits x).toNat%2^t<2^t:=mod_lt _ qgn;rw[qis k (by omega),Int.natCast_emod,h3];have e2:((2^t:Nat):Int)=2^t:=by simp
 rw[e2];exact Int.emod_emod_of_dvd _ ⟨2^(k.bits-t),by rw[<-Int.pow_add];congr 1;omega⟩
theorem qlsb(k:IntKind){a b:Nat}(ha:a<2^(k.bits-1))(hb:b<2^(k.bits-1)):orV k (a:Int) (b:Int)=((a|||b:Nat):Int):=by
 have hp:=qeeb k;unfold orV;rw[BitVec.toNat_or,qwj _ _ (by omega),qwj _ _ (by omega)];exact qis k (Nat.or_lt_two_pow ha hb)
theorem qvr(k:IntKind){a b:Nat}{t:Nat}(ha:a<2^t)(hs:a+b*2^t<2^(k.bits-1)):orV k (a:Int) ((b:Int)*2^t)=(a:Int)+(b:Int)*2^t:=by
 have e:(b:Int)*2^t=((b*2^t:Nat):Int):=by simp
 rw[e,qlsb k (by omega) (by omega),Nat.or_comm];have:=Nat.two_pow_add_eq_or_of_lt ha b;rw[mul_comm b,<-this];simp;omega
theorem qmj(k:IntKind){x:Int}{t:Nat}(ht:t<=k.bits)(h0:0<=x)(hs:x*2^t<2^(k.bits-1)):qzi k x (t:Int)=x*2^t:=by
 unfold qzi;rw[toNat_natCast,Nat.min_eq_left ht];exact qyw k (Int.mul_nonneg h0 (le_of_lt (pow_pos (by decide)))) hs
theorem qmi(k:IntKind)(x:Int){t:Nat}(ht:t<=k.bits):qal k x (t:Int)=x/2^t:=by
 unfold qal;rw[toNat_natCast,Nat.min_eq_left ht];exact Int.fdiv_eq_ediv_of_nonneg _ (le_of_lt (pow_pos (by decide)))
theorem qaeb(k:IntKind){x y:Int}{t:Nat}(hy:y=t)(ht:t<=k.bits)(h0:0<=x)(hs:x*2^t<2^(k.bits-1)):qzi k x y=x*2^t:=by
 subst hy;exact qmj k ht h0 hs
theorem qno{a b:Int}(ha:0<=a):a.tdiv b=a/b:=by
 exact Int.tdiv_eq_ediv_of_nonneg ha
theorem qzk{a b:Int}(ha:0<=a):a.tmod b=a%b:=by
 exact Int.tmod_eq_emod_of_nonneg ha
section
structure As where
 hd:World->List Nat->Prop
 keep:∀{w w':World} {F G:List Nat},hd w F->Mod G w w'->(∀x∈F,x∉G)->hd w' F
 lt:∀{w:World} {F:List Nat},hd w F->∀x∈F,x<w.heap.size
def qqb(b:Nat)(l:List Value):As where
 hd w F:=Blk w b l/\F=[b]
 keep:=by
  rintro w w' F G ⟨h,rfl⟩ m hd
  exact⟨h.keep m (hd b (by simp)),rfl⟩
 lt:=by
  rintro w F ⟨h,rfl⟩ x hx
  have:x=b:=by simpa using hx
  subst this;exact h.lt
def qcc(sz:Nat)(s:Sl)(cs:List Value):As where
 hd w F:=Own sz w s cs F
 keep:=λh m hd=>h.keep m hd
 lt:=λh=>h.lt
def andA(p q:As):As where
 hd w F:=∃f g,p.hd w f/\q.hd w g/\F=f++g/\∀x∈f,x∉g
 keep:=by
  rintro w w' F G ⟨f,g,hp,hq,rfl,hd⟩ m hG
  exact⟨f,g,p.keep hp m (λx hx=>hG x (by simp[hx])),q.keep hq m (λx hx=>hG x (by simp[hx])),rfl,hd⟩
 lt:=by
  rintro w F ⟨f,g,hp,hq,rfl,hd⟩ x hx
  rcases mem_append.1 hx with hx|hx
  ·exact p.lt hp x hx
  ·exact q.lt hq x hx
def noA:As where
 hd w F:=F=[]
 keep:=λh _ _=>h
 lt:=by rintro w F rfl x hx;cases hx
def exA{α:Type}(p:α->As):As where
 hd w F:=∃a,(p a).hd w F
 keep:=λ⟨a,h⟩ m hd=>⟨a,(p a).keep h m hd⟩
 lt:=λ⟨a,h⟩=>(p a).lt h
def ifA(c:Prop)(p:As):As where
 hd w F:=c/\p.hd w F
 keep:=λ⟨c,h⟩ m hd=>⟨c,p.keep h m hd⟩
 lt:=λ⟨_,h⟩=>p.lt h
def allA:List As->As
 |[]=>noA
 |p::ps=>andA p (allA ps)
def St(F0:List Nat)(w0 w:World)(ps:List As):Prop:=Mod F0 w0 w/\∃F,(allA ps).hd w F/\Gr w0.heap.size F0 F
section
variable {F0:List Nat}{w0 w:World}{p q r p':As}{ps:List As}
theorem St.start{F:List Nat}(h:(allA ps).hd w F):St F w w ps:=⟨Mod.refl _ _,F,h,Gr.refl _ _⟩
theorem St.start0:St [] w w []:=⟨Mod.refl _ _,[],rfl,Gr.refl _ _⟩
theorem St.step(h:St F0 w0 w (p::ps)):∃f,p.hd w f/\∀w' f' p',Mod f w w'->Gr w.heap.size f f'->p'.hd w' f'->St F0 w0 w' (p'::ps):=by
 obtain⟨m,F,⟨f,g,hp,hg,rfl,hd⟩,hr⟩:=h;refine⟨f,hp,λw' f' p' hm hgr hp'=>⟨m.trans hm λx hx=>hr x (by simp[hx]),f'++g,⟨f',g,hp',(allA ps).keep hg hm (λx hx h1=>hd x h1 hx),rfl,?_⟩,?_⟩⟩
 ·intro x hx h1;rcases hgr x hx with h2|h2
  ·exact hd x h2 h1
  ·have:=(allA ps).lt hg x h1;omega
 ·intro x hx;rcases mem_append.1 hx with hx|hx
  ·rcases hgr x hx with h2|h2
   ·exact hr x (by simp[h2])
   ·have:=m.size;exact Or.inr (by omega)
  ·exact hr x (by simp[hx])
theorem St.mp(h:St F0 w0 w (p::ps))(hp:∀F,p.hd w F->p'.hd w F):St F0 w0 w (p'::ps):=by
 obtain⟨m,F,⟨f,g,h1,h2⟩,hr⟩:=h;exact⟨m,F,⟨f,g,hp f h1,h2⟩,hr⟩
theorem St.skip{w':World}(h:St F0 w0 w ps)(hm:Mod [] w w'):St F0 w0 w' ps:=by
 obtain⟨m,F,hp,hr⟩:=h;exact⟨m.trans hm (by simp),F,(allA ps).keep hp hm (by simp),hr⟩
theorem St.add{w':World}{f':List Nat}(h:St F0 w0 w ps)(hm:Mod [] w w')(hp:p'.hd w' f')(hn:Gr w.heap.size [] f'):St F0 w0 w' (p'::ps):=by
 obtain⟨m,F,hF,hr⟩:=h;refine⟨m.trans hm (by simp),f'++F,⟨f',F,hp,(allA ps).keep hF hm (by simp),rfl,?_⟩,?_⟩
 ·intro x hx h1;rcases hn x hx with h2|h2
  ·cases h2
  ·have:=(allA ps).lt hF x h1;omega
 ·intro x hx;rcases mem_append.1 hx with hx|hx
  ·rcases hn x hx with h2|h2
   ·cases h2
   ·have:=m.size;exact Or.inr (by omega)
  ·exact hr x hx
theorem St.drop(h:St F0 w0 w (p::ps)):St F0 w0 w ps:=by
 obtain⟨m,F,⟨f,g,h1,h2,rfl,h3⟩,hr⟩:=h;exact⟨m,g,h2,λx hx=>hr x (by simp[hx])⟩
theorem Gr.perm{n:Nat}{F0 F F':List Nat}(h:Gr n F0 F)(hp:∀x∈F',x∈F):Gr n F0 F':=λx hx=>h x (hp x hx)
theorem St.at1(h:St F0 w0 w (p::q::ps)):St F0 w0 w (q::p::ps):=by
 obtain⟨m,F,⟨f,g,h1,⟨f',g',h2,h3,rfl,h4⟩,rfl,h5⟩,hr⟩:=h;refine⟨m,f'++(f++g'),⟨f',f++g',h2,⟨f,g',h1,h3,rfl,λx hx h=>h5 x hx (by simp[h])⟩,rfl,?_⟩,hr.perm (by intro x hx;simp at hx|-;rcases hx with h|h|h<;>simp[h])⟩;intro x hx h6;rcases mem_append.1 h6 with h7|h7
 ·exact h5 x h7 (by simp[hx])
 ·exact h4 x hx h7
theorem St.tail(h:St F0 w0 w (p::ps)){qs:List As}(hq:∀F0 w0 w,St F0 w0 w ps->St F0 w0 w qs):St F0 w0 w (p::qs):=by
 obtain⟨m,F,⟨f,g,h1,h2,rfl,h3⟩,hr⟩:=h;obtain⟨_,g',h4,h5⟩:=hq g w w (St.start h2);have hg:∀x∈g',x∈g:=λx hx=>(h5 x hx).resolve_right (by have:=(allA qs).lt h4 x hx;omega);exact⟨m,f++g',⟨f,g',h1,h4,rfl,λx hx h=>h3 x hx (hg x h)⟩,hr.perm (by
  intro x hx;rcases mem_append.1 hx with h|h
  ·exact List.mem_append_left _ h
  ·exact List.mem_append_right _ (hg x h))⟩
theorem St.at2(h:St F0 w0 w (p::q::r::ps)):St F0 w0 w (r::p::q::ps):=(h.tail (λ_ _ _ k=>k.at1)).at1
theorem St.at3{s:As}(h:St F0 w0 w (p::q::r::s::ps)):St F0 w0 w (s::p::q::r::ps):=(h.tail (λ_ _ _ k=>k.at2)).at1
theorem St.split(h:St F0 w0 w (andA p q::ps)):St F0 w0 w (p::q::ps):=by
 obtain⟨m,F,⟨f,g,⟨f1,f2,h1,h2,rfl,h3⟩,h4,rfl,h5⟩,hr⟩:=h;refine⟨m,f1++(f2++g),⟨f1,f2++g,h1,⟨f2,g,h2,h4,rfl,λx hx=>h5 x (by simp[hx])⟩,rfl,?_⟩,by simpa using hr⟩;intro x hx h;rcases mem_append.1 h with h|h
 ·exact h3 x hx h
 ·exact h5 x (by simp[hx]) h
theorem St.join(h:St F0 w0 w (p::q::ps)):St F0 w0 w (andA p q::ps):=by
 obtain⟨m,F,⟨f,g,h1,⟨f',g',h2,h3,rfl,h4⟩,rfl,h5⟩,hr⟩:=h;refine⟨m,f++f'++g',⟨f++f',g',⟨f,f',h1,h2,rfl,λx hx h=>h5 x hx (by simp[h])⟩,h3,rfl,?_⟩,by simpa using hr⟩;intro x hx h;rcases mem_append.1 hx with hx|hx
 ·exact h5 x hx (by simp[h])
 ·exact h4 x hx h
theorem St.exI{α:Type}{p:α->As}(a:α)(h:St F0 w0 w (p a::ps)):St F0 w0 w (exA p::ps):=h.mp λ_ h=>⟨a,h⟩
theorem St.exE{α:Type}{p:α->As}(h:St F0 w0 w (exA p::ps)):∃a,St F0 w0 w (p a::ps):=by
 obtain⟨m,F,⟨f,g,⟨a,h1⟩,h2⟩,hr⟩:=h;exact⟨a,m,F,⟨f,g,h1,h2⟩,hr⟩
theorem St.ifI{c:Prop}(hc:c)(h:St F0 w0 w (p::ps)):St F0 w0 w (ifA c p::ps):=h.mp λ_ h=>⟨hc,h⟩
theorem St.ifE{c:Prop}(h:St F0 w0 w (ifA c p::ps)):c/\St F0 w0 w (p::ps):=by
 obtain⟨m,F,⟨f,g,⟨hc,h1⟩,h2⟩,hr⟩:=h;exact⟨hc,m,F,⟨f,g,h1,h2⟩,hr⟩
theorem St.get(h:St F0 w0 w (p::ps)):∃F,p.hd w F:=by
 obtain⟨f,hp,_⟩:=h.step;exact⟨f,hp⟩
theorem St.mod(h:St F0 w0 w ps):Mod F0 w0 w:=h.1
variable {b o:Nat}{l:List Value}
theorem St.blk(h:St F0 w0 w (qqb b l::ps)):Blk w b l:=by
 obtain⟨F,hb,_⟩:=h.get;exact hb
theorem St.blk1(h:St F0 w0 w (p::qqb b l::ps)):Blk w b l:=h.drop.blk
theorem St.drew(h:St F0 w0 w ps):St F0 w0 w.drew ps:=h.skip (Mod.drew w)
theorem St.drewK{K:World->Prop}(h:St F0 w0 w ps)(hk:∀w',St F0 w0 w' ps->K w'):lt w.drew K:=hk _ h.drew
theorem St.st{v:Value}{K:World->Prop}(h:St F0 w0 w (qqb b l::ps))(ho:o<l.length)(hs:qfe v)(hk:∀w',St F0 w0 w' (qqb b (l.set o v)::ps)->K w'):st w ⟨b,o,none⟩ v K:=by
 obtain⟨f,⟨hb,rfl⟩,hst⟩:=h.step;exact hb.st ho hs λw' hm hb'=>hk w' (hst w' [b] _ hm (Gr.refl _ _) ⟨hb',rfl⟩)
theorem St.stA{cs:Array Value}{K:World->Prop}(h:St F0 w0 w (qqb b l::ps))(ho:o+cs.size<=l.length)(hs:∀v∈cs,qfe v)(hk:∀w',St F0 w0 w' (qqb b (l.take o++cs.toList++l.drop (o+cs.size))::ps)->K w'):stA w ⟨b,o,none⟩ cs K:=by
 obtain⟨f,⟨hb,rfl⟩,hst⟩:=h.step;exact qut hb ho hs λw' hm hb'=>hk w' (hst w' [b] _ hm (Gr.refl _ _) ⟨hb',rfl⟩)
theorem St.new{t:TypeId}{cs:Array Value}{K:Addr->World->Prop}(h:St F0 w0 w ps)(hk:∀nb w',St F0 w0 w' (qqb nb cs.toList::ps)->K ⟨nb,0,none⟩ w'):
 lt (⟨World.heapSize w,0,none⟩:Addr) λa=>lt (World.alloc w (.cells cs t)) λw'=>K a w':=by
 refine hk w.heap.size _ ?_
 exact h.add (Mod.alloc _ _) ⟨Blk.new w cs.toList t,rfl⟩ (λx hx=>Or.inr (by have:x=w.heap.size:=(by simpa using hx);omega))
theorem St.newM{t:TypeId}{cs:Array Value}{K:Addr->World->Prop}(h:St F0 w0 w ps)(hk:∀nb w',Mod [] w w'->St F0 w0 w' (qqb nb cs.toList::ps)->K ⟨nb,0,none⟩ w'):
 lt (⟨World.heapSize w,0,none⟩:Addr) λa=>lt (World.alloc w (.cells cs t)) λw'=>K a w':=by
 refine hk w.heap.size _ (Mod.alloc _ _) ?_
 exact h.add (Mod.alloc _ _) ⟨Blk.new w cs.toList t,rfl⟩ (λx hx=>Or.inr (by have:x=w.heap.size:=(by simpa using hx);omega))
theorem St.own{sz:Nat}{s:Sl}{cs:List Value}(h:St F0 w0 w (qcc sz s cs::ps)):∃F,Own sz w s cs F:=h.get
theorem St.len{sz:Nat}{s:Sl}{cs:List Value}(h:St F0 w0 w (qcc sz s cs::ps)):cs.length=s.len*sz:=by
 obtain⟨F,ho⟩:=h.own;exact ho.len
theorem St.append{P:Program}{elem:TypeId}{i:TypeInfo}{sz m:Nat}{s:Sl}{cs:List Value}{new:Array Value}{K:Sl->World->Prop}
 (hi:P.info? elem=some i) (hsz:i.size=sz) (hsz0:0<sz) (hz:(zc P elem).size=sz) (hb0:i.bytes≠0) (hb:(2*(s.len+m)+1024)*i.bytes<=281474976710656)
 (h:St F0 w0 w (qcc sz s cs::ps)) (hn:new.size=m*sz) (hst:∀v∈new,qfe v)
 (hk:∀s' w',St F0 w0 w' (qcc sz s' (cs++new.toList)::ps)->s'.len=s.len+m->K s' w'):
 apK P elem w s.a s.len s.cap m new K:=by
 obtain⟨f,ho,hstep⟩:=h.step
 exact Own.append hi hsz hsz0 hz hb0 (by rw[show(2:Nat)^48=281474976710656 from rfl];exact hb) ho hn hst λs' w' F' ho' hm hg hl=>hk s' w' (hstep w' F' _ hm hg ho') hl
end
theorem qleb{p:Nat->Prop}(h:∃n,p n):∃n,p n/\∀k,p k->n<=k:=by
 obtain⟨n,hn⟩:=h;induction n using Nat.strongRecOn with
 |ind n ih=>
  by_cases hk:∃k,k<n/\p k
  ·obtain⟨k,h1,h2⟩:=hk;exact ih k h1 h2
  ·exact⟨n,hn,λk hp=>by
    rcases lt_or_ge k n with h1|h1
    ·exact absurd ⟨k,h1,hp⟩ hk
    ·exact h1⟩
open Classical in
noncomputable def least(p:Nat->Prop):Nat:=if h:∃n,p n then(qleb h).choose else 0
theorem qaw{p:Nat->Prop}(h:∃n,p n):p (least p)/\∀k,p k->least p<=k:=by
 unfold least;rw[dif_pos h];exact(qleb h).choose_spec
theorem qdn{σ α:Type}{C:(σ->Prop)->(σ->Nat)->σ->Prop}{s:σ}(Inv:α->σ->Prop)(m:α->Nat)(a:α)(h:Inv a s)
 (hb:∀a s I μ,Inv a s->(∀a' s',Inv a' s'->m a'<m a->I s'/\μ s'<μ s)->C I μ s):∃I μ,I s/\∀s,I s->C I μ s:=by
 refine⟨λs=>∃a,Inv a s,λs=>least λn=>∃a,Inv a s/\m a=n,⟨a,h⟩,?_⟩
 rintro s ⟨a,ha⟩
 have hex:∃n,∃a,Inv a s/\m a=n:=⟨_,a,ha,rfl⟩
 obtain⟨⟨a1,h1,h2⟩,_⟩:=qaw hex
 refine hb a1 s _ _ h1 λa' s' h' hlt=>⟨⟨a',h'⟩,?_⟩
 have hex':∃n,∃a,Inv a s'/\m a=n:=⟨_,a',h',rfl⟩
 have:=(qaw hex').2 _ ⟨a',h',rfl⟩
 omega
theorem loop0{α:Type}{C:(World->Prop)->(World->Nat)->World->Prop}{w:World}(Inv:α->World->Prop)(m:α->Nat)(a:α)(h:Inv a w)
 (hb:∀a w I μ,Inv a w->(∀a' w',Inv a' w'->m a'<m a->I w'/\μ w'<μ w)->C I μ w):∃I μ,I w/\∀w,I w->C I μ w:=
 qdn Inv m a h hb
theorem qjf{α A:Type}{C:(A->World->Prop)->(A->World->Nat)->A->World->Prop}{x:A}{w:World}(Inv:α->A->World->Prop)(m:α->Nat)(a:α)(h:Inv a x w)
 (hb:∀a x w I μ,Inv a x w->(∀a' x' w',Inv a' x' w'->m a'<m a->I x' w'/\μ x' w'<μ x w)->C I μ x w):∃I μ,I x w/\∀x w,I x w->C I μ x w:=by
 obtain⟨I,μ,h1,h2⟩:=qdn (σ:=A×World) (C:=λI μ s=>C (λx w=>I (x,w)) (λx w=>μ (x,w)) s.1 s.2) (s:=(x,w)) (λa s=>Inv a s.1 s.2) m a h
  (λa s I μ hi hn=>hb a s.1 s.2 _ _ hi λa' x' w'=>hn a' (x',w'))
 exact⟨λx w=>I (x,w),λx w=>μ (x,w),h1,λx w hI=>h2 (x,w) hI⟩
theorem qug{α A B:Type}{C:(A->B->World->Prop)->(A->B->World->Nat)->A->B->World->Prop}{x:A}{y:B}{w:World}(Inv:α->A->B->World->Prop)(m:α->Nat)(a:α)(h:Inv a x y w)
 (hb:∀a x y w I μ,Inv a x y w->(∀a' x' y' w',Inv a' x' y' w'->m a'<m a->I x' y' w'/\μ x' y' w'<μ x y w)->C I μ x y w):∃I μ,I x y w/\∀x y w,I x y w->C I μ x y w:=by
 obtain⟨I,μ,h1,h2⟩:=qdn (σ:=A×B×World) (C:=λI μ s=>C (λx y w=>I (x,y,w)) (λx y w=>μ (x,y,w)) s.1 s.2.1 s.2.2) (s:=(x,y,w)) (λa s=>Inv a s.1 s.2.1 s.2.2) m a h
  (λa s I μ hi hn=>hb a s.1 s.2.1 s.2.2 _ _ hi λa' x' y' w'=>hn a' (x',y',w'))
 exact⟨λx y w=>I (x,y,w),λx y w=>μ (x,y,w),h1,λx y w hI=>h2 (x,y,w) hI⟩
theorem loop3{α A B D:Type}{C:(A->B->D->World->Prop)->(A->B->D->World->Nat)->A->B->D->World->Prop}{x:A}{y:B}{z:D}{w:World}(Inv:α->A->B->D->World->Prop)(m:α->Nat)(a:α)(h:Inv a x y z w)
 (hb:∀a x y z w I μ,Inv a x y z w->(∀a' x' y' z' w',Inv a' x' y' z' w'->m a'<m a->I x' y' z' w'/\μ x' y' z' w'<μ x y z w)->C I μ x y z w):∃I μ,I x y z w/\∀x y z w,I x y z w->C I μ x y z w:=by
 obtain⟨I,μ,h1,h2⟩:=qdn (σ:=A×B×D×World) (C:=λI μ s=>C (λx y z w=>I (x,y,z,w)) (λx y z w=>μ (x,y,z,w)) s.1 s.2.1 s.2.2.1 s.2.2.2) (s:=(x,y,z,w)) (λa s=>Inv a s.1 s.2.1 s.2.2.1 s.2.2.2) m a h
  (λa s I μ hi hn=>hb a s.1 s.2.1 s.2.2.1 s.2.2.2 _ _ hi λa' x' y' z' w'=>hn a' (x',y',z',w'))
 exact⟨λx y z w=>I (x,y,z,w),λx y z w=>μ (x,y,z,w),h1,λx y z w hI=>h2 (x,y,z,w) hI⟩
theorem loop4{α A B D E:Type}{C:(A->B->D->E->World->Prop)->(A->B->D->E->World->Nat)->A->B->D->E->World->Prop}{x:A}{y:B}{z:D}{u:E}{w:World}(Inv:α->A->B->D->E->World->Prop)(m:α->Nat)(a:α)(h:Inv a x y z u w)
 (hb:∀a x y z u w I μ,Inv a x y z u w->(∀a' x' y' z' u' w',Inv a' x' y' z' u' w'->m a'<m a->I x' y' z' u' w'/\μ x' y' z' u' w'<μ x y z u w)->C I μ x y z u w):∃I μ,I x y z u w/\∀x y z u w,I x y z u w->C I μ x y z u w:=by
 obtain⟨I,μ,h1,h2⟩:=qdn (σ:=A×B×D×E×World) (C:=λI μ s=>C (λx y z u w=>I (x,y,z,u,w)) (λx y z u w=>μ (x,y,z,u,w)) s.1 s.2.1 s.2.2.1 s.2.2.2.1 s.2.2.2.2) (s:=(x,y,z,u,w)) (λa s=>Inv a s.1 s.2.1 s.2.2.1 s.2.2.2.1 s.2.2.2.2) m a h
  (λa s I μ hi hn=>hb a s.1 s.2.1 s.2.2.1 s.2.2.2.1 s.2.2.2.2 _ _ hi λa' x' y' z' u' w'=>hn a' (x',y',z',u',w'))
 exact⟨λx y z u w=>I (x,y,z,u,w),λx y z u w=>μ (x,y,z,u,w),h1,λx y z u w hI=>h2 (x,y,z,u,w) hI⟩
theorem qdc{P:Program}{k:Nat}{args:Array Value}{w:World}{K:Ending->World->Prop}(h:Calls P k args w (Ret λv w'=>K (.returned v) w')):Calls P k args w K:=
 h.mono λe w' ⟨v,he,hq⟩=>he▸hq
end
section
set_option maxRecDepth 100000
def qig(Q:VWP)(w:World):Prop:=nw w (⟨[.slice none 0 0,.int .u64 0,.int .i64 0]⟩:Array Value) 187 λa1 w2=>Q (.pointer (some a1)) w2
theorem qig.ok(Q:VWP)(w:World)(h:qig Q w):Calls prog 94 ⟨[]⟩ w (Ret Q):=
 qhc [.tmp 0] qde Tryz.func94 rfl rfl rfl rfl .lf (by kernel_rfl) h
def qnb.b1(w_0:OAd)(Q:VWP)(nx1:OAd->WP)(w:World):Prop:=nz w_0 λa1=>ldI .i64 w (Addr.add a1 2) λx2=>br (decide (x2>=8)) (lt (World.drew w) λw3=>nz w_0 λa4=>ldL w3 (Addr.add a4 0) λx5=>nz w_0 λa6=>ldI .u64 w3 (Addr.add a6 1) λx7=>lt (IntKind.u8.wrap x7) λx8=>nw w3 ⟨[.int .u8 x8]⟩ 5 λa9 w10=>rdO w10 (some a9) (1*1) λc11=>apK prog 5 w10 x5.a x5.len x5.cap 1 c11 λs12 w13=>nz w_0 λa14=>st w13 (Addr.add a14 0) (sV s12) λw15=>nz w_0 λa16=>ldI .u64 w15 (Addr.add a16 1) λx17=>(0:Int)<=8/\lt (qal .u64 x17 8) λx18=>nz w_0 λa19=>st w15 (Addr.add a19 1) (.int .u64 x18) λw20=>nz w_0 λa21=>ldI .i64 w20 (Addr.add a21 2) λx22=>lt (i64.wrap (x22-8)) λx23=>nz w_0 λa24=>st w20 (Addr.add a24 2) (.int .i64 x23) λw25=>nx1 w_0 w25) (Q (.tuple ⟨[]⟩) w)
def qnb.l1(w_0:OAd)(Q:VWP)(w:World):Prop:=∃(I:WP) (μ:World->Nat),I w/\∀w:World,I w->qnb.b1 w_0 Q (λw_0' w'=>(w_0'=w_0)/\I w'/\μ w'<μ w) w
def qnb.j2(w_0:OAd)(Q:VWP)(w:World):Prop:=qnb.l1 w_0 Q w
def qnb.j1(w_0:OAd)(v_1:Int)(n_2:Int)(Q:VWP)(w:World):Prop:=lt (World.drew w) λw26=>nz w_0 λa27=>ldI .u64 w26 (Addr.add a27 1) λx28=>lt (u64.wrap v_1) λx29=>(0:Int)<=n_2/\lt (qzi .u64 1 n_2) λx30=>lt (u64.wrap (x30-1)) λx31=>lt (qdj .u64 x29 x31) λx32=>nz w_0 λa33=>ldI .i64 w26 (Addr.add a33 2) λx34=>(0:Int)<=x34/\lt (qzi .u64 x32 x34) λx35=>lt (orV .u64 x28 x35) λx36=>nz w_0 λa37=>st w26 (Addr.add a37 1) (.int .u64 x36) λw38=>nz w_0 λa39=>ldI .i64 w38 (Addr.add a39 2) λx40=>lt (i64.wrap (x40+n_2)) λx41=>nz w_0 λa42=>st w38 (Addr.add a42 2) (.int .i64 x41) λw43=>qnb.j2 w_0 Q w43
def qnb(w_0:OAd)(v_1:Int)(n_2:Int)(Q:VWP)(w:World):Prop:=br (decide (n_2<0)) (Q (.tuple ⟨[]⟩) w) (br (decide (n_2>24)) (Q (.tuple ⟨[]⟩) w) (qnb.j1 w_0 v_1 n_2 Q w))
theorem qnb.ok(w_0:OAd)(v_1:Int)(n_2:Int)(Q:VWP)(w:World)(h:qnb w_0 v_1 n_2 Q w):Calls prog 95 ⟨[.pointer w_0,.int .i64 v_1,.int .i64 n_2]⟩ w (Ret Q):=
 qhc [] qde Tryz.func95 rfl rfl rfl rfl (.sq [sP 0,sI 1,sI 2] (λa b c w=>qnb.j1 a b c Q w) .lf (.pr 1 [sP 0] (λa w=>qnb.j2 a Q w) (.bk (.lo [sP 0] [] (λa w=>qnb.l1 a Q w) (λnx1 a w=>qnb.b1 a Q nx1 w) λnx1=> .lf)))) (by kernel_rfl) h
def qch(w_0:OAd)(v_1:Int)(n_2:Int)(Q:VWP)(w:World):Prop:=qbk 151 [.int .i64 v_1,.int .i64 n_2] w λr3 w2=>ct_ 95 [.pointer w_0,.int .i64 r3,.int .i64 n_2] w2 λw5=>Q (.tuple ⟨[]⟩) w5
theorem qch.ok(w_0:OAd)(v_1:Int)(n_2:Int)(Q:VWP)(w:World)(h:qch w_0 v_1 n_2 Q w):Calls prog 134 ⟨[.pointer w_0,.int .i64 v_1,.int .i64 n_2]⟩ w (Ret Q):=
 qhc [] qde Tryz.func134 rfl rfl rfl rfl .lf (by kernel_rfl) h
def qii(b_0:Sl)(Q:VWP)(w:World):Prop:=qak 61 [sV b_0] w λr3 w2=>nw w2 (⟨[sV r3,.int .i64 0]⟩:Array Value) 227 λa4 w5=>Q (.pointer (some a4)) w5
theorem qii.ok(b_0:Sl)(Q:VWP)(w:World)(h:qii b_0 Q w):Calls prog 142 ⟨[sV b_0]⟩ w (Ret Q):=
 qhc [.tmp 2] qde Tryz.func142 rfl rfl rfl rfl .lf (by kernel_rfl) h
def qgf(w_0:OAd)(Q:VWP)(w:World):Prop:=nz w_0 λa1=>ldL w (Addr.add a1 0) λx2=>qak 61 [sV x2] w λr5 w4=>nz w_0 λa6=>ldI .i64 w4 (Addr.add a6 2) λx7=>br (decide (x7>0)) (nz w_0 λa8=>ldI .u64 w4 (Addr.add a8 1) λx9=>lt (IntKind.u8.wrap x9) λx10=>nw w4 ⟨[.int .u8 x10]⟩ 5 λa11 w12=>rdO w12 (some a11) (1*1) λc13=>apK prog 5 w12 r5.a r5.len r5.cap 1 c13 λs14 w15=>qak 20 [sV s14] w15 λr18 w17=>Q (sV r18) w17) (qak 20 [sV r5] w4 λr21 w20=>Q (sV r21) w20)
theorem qgf.ok(w_0:OAd)(Q:VWP)(w:World)(h:qgf w_0 Q w):Calls prog 98 ⟨[.pointer w_0]⟩ w (Ret Q):=
 qhc [.tmp 2] qde Tryz.func98 rfl rfl rfl rfl .lf (by kernel_rfl) h
def qwb.j3(v_6:Int)(Q:VWP)(w:World):Prop:=Q (.tuple ⟨[.int .i64 v_6,.bool true]⟩) w
def qwb.b1(r_0:OAd)(n_1:Int)(v_6 i_7:Int)(Q:VWP)(nx1:OAd->Int->Int->Int->WP)(w:World):Prop:=
 br (decide (i_7<n_1)) (
 nz r_0 λa1=>
 ldI .i64 w (Addr.add a1 1) λx2=>
 (8:Int)≠0/\
 lt (tmod x2 8) λx3=>
 lt (i64.wrap (8-x3)) λx4=>
 lt (i64.wrap (n_1-i_7)) λx5=>
 lt (if(x5:Int)<x4 then x5 else x4) λx6=>
 lt (World.drew w) λw7=>
 nz r_0 λa8=>
 ldL w7 (Addr.add a8 0) λx9=>
 nz r_0 λa10=>
 ldI .i64 w7 (Addr.add a10 1) λx11=>
 (8:Int)≠0/\
 lt (i64.wrap (tdiv x11 8)) λx12=>
 ixS x9.a x9.len x12 1 λa13=>
 ldI .u8 w7 a13 λx14=>
 lt (i64.wrap x14) λx15=>
 nz r_0 λa16=>
 ldI .i64 w7 (Addr.add a16 1) λx17=>
 (8:Int)≠0/\
 lt (tmod x17 8) λx18=>
 (0:Int)<=x18/\
 lt (qal .i64 x15 x18) λx19=>
 (0:Int)<=x6/\
 lt (qzi .i64 1 x6) λx20=>
 lt (i64.wrap (x20-1)) λx21=>
 lt (qdj .i64 x19 x21) λx22=>
 (0:Int)<=i_7/\
 lt (qzi .i64 x22 i_7) λx23=>
 lt (orV .i64 v_6 x23) λx24=>
 lt (i64.wrap (i_7+x6)) λx25=>
 nz r_0 λa26=>
 ldI .i64 w7 (Addr.add a26 1) λx27=>
 lt (i64.wrap (x27+x6)) λx28=>
 nz r_0 λa29=>
 st w7 (Addr.add a29 1) (.int .i64 x28) λw30=>
 nx1 r_0 n_1 x24 x25 w30) (
 qwb.j3 v_6 Q w)
def qwb.l1(r_0:OAd)(n_1:Int)(v_6 i_7:Int)(Q:VWP)(w:World):Prop:=∃(I:Int->Int->WP) (μ:Int->Int->World->Nat),I v_6 i_7 w/\∀v_6:Int,∀i_7:Int,∀w:World,I v_6 i_7 w->qwb.b1 r_0 n_1 v_6 i_7 Q (λr_0' n_1' v_6' i_7' w'=>(r_0'=r_0/\n_1'=n_1)/\I v_6' i_7' w'/\μ v_6' i_7' w'<μ v_6 i_7 w) w
def qwb.j4(r_0:OAd)(n_1:Int)(v_6 i_7:Int)(Q:VWP)(w:World):Prop:=qwb.l1 r_0 n_1 v_6 i_7 Q w
def qwb.j2(r_0:OAd)(n_1:Int)(v_6:Int)(Q:VWP)(w:World):Prop:=qwb.j4 r_0 n_1 v_6 0 Q w
def qwb.j1(r_0:OAd)(n_1:Int)(Q:VWP)(w:World):Prop:=br (decide (n_1<0)) (Q (.tuple ⟨[.int .i64 0,.bool false]⟩) w) (br (decide (n_1>24)) (Q (.tuple ⟨[.int .i64 0,.bool false]⟩) w) (qbk 175 [.pointer r_0] w λr33 w32=>br (decide (n_1>r33)) (Q (.tuple ⟨[.int .i64 0,.bool false]⟩) w32) (qwb.j2 r_0 n_1 0 Q w32)))
def qwb(r_0:OAd)(n_1:Int)(Q:VWP)(w:World):Prop:=qwb.j1 r_0 n_1 Q w
theorem qwb.ok(r_0:OAd)(n_1:Int)(Q:VWP)(w:World)(h:qwb r_0 n_1 Q w):Calls prog 164 ⟨[.pointer r_0,.int .i64 n_1]⟩ w (Ret Q):=
 qhc [.tmp 4,.tmp 5] qde Tryz.func164 rfl rfl rfl rfl (.sq [sP 0,sI 1] (λa b w=>qwb.j1 a b Q w) .lf (.pr 1 [sP 0,sI 1,sI 6] (λa b c w=>qwb.j2 a b c Q w) (.sq [sI 6] (λa w=>qwb.j3 a Q w) (.sq [sP 0,sI 1,sI 6,sI 7] (λa b c d w=>qwb.j4 a b c d Q w) .lf (.bk (.lo [sP 0,sI 1] [sI 6,sI 7] (λa b c d w=>qwb.l1 a b c d Q w) (λnx1 a b c d w=>qwb.b1 a b c d Q nx1 w) λnx1=> .lf))) .lf))) (by kernel_rfl) h
def qud.j3(out_5:Int)(Q:VWP)(w:World):Prop:=Q (.int .i64 out_5) w
def qud.b1(t12 v_0 out_5 t13:Int)(Q:VWP)(nx1:Int->Int->Int->Int->WP)(w:World):Prop:=br (decide (t13<t12)) ((0:Int)<=1/\lt (qzi .i64 out_5 1) λx1=>lt (qdj .i64 v_0 1) λx2=>lt (orV .i64 x1 x2) λx3=>(0:Int)<=1/\lt (qal .i64 v_0 1) λx4=>lt (i64.wrap (t13+1)) λx5=>nx1 t12 x4 x3 x5 w) (qud.j3 out_5 Q w)
def qud.l1(t12 v_0 out_5 t13:Int)(Q:VWP)(w:World):Prop:=∃(I:Int->Int->Int->WP) (μ:Int->Int->Int->World->Nat),I v_0 out_5 t13 w/\∀v_0:Int,∀out_5:Int,∀t13:Int,∀w:World,I v_0 out_5 t13 w->qud.b1 t12 v_0 out_5 t13 Q (λt12' v_0' out_5' t13' w'=>(t12'=t12)/\I v_0' out_5' t13' w'/\μ v_0' out_5' t13' w'<μ v_0 out_5 t13 w) w
def qud.j4(v_0 out_5 t12 t13:Int)(Q:VWP)(w:World):Prop:=qud.l1 t12 v_0 out_5 t13 Q w
def qud.j2(v_0 n_1 out_5:Int)(Q:VWP)(w:World):Prop:=qud.j4 v_0 out_5 n_1 0 Q w
def qud.j1(v_0 n_1:Int)(Q:VWP)(w:World):Prop:=br (decide (n_1<0)) (Q (.int .i64 0) w) (br (decide (n_1>24)) (Q (.int .i64 0) w) (qud.j2 v_0 n_1 0 Q w))
def qud(v_0 n_1:Int)(Q:VWP)(w:World):Prop:=qud.j1 v_0 n_1 Q w
theorem qud.ok(v_0:Int)(n_1:Int)(Q:VWP)(w:World)(h:qud v_0 n_1 Q w):Calls prog 151 ⟨[.int .i64 v_0,.int .i64 n_1]⟩ w (Ret Q):=
 qhc [.tmp 4] qde Tryz.func151 rfl rfl rfl rfl (.sq [sI 0,sI 1] (λa b w=>qud.j1 a b Q w) .lf (.pr 1 [sI 0,sI 1,sI 5] (λa b c w=>qud.j2 a b c Q w) (.sq [sI 5] (λa w=>qud.j3 a Q w) (.sq [sI 0,sI 5,sI 12,sI 13] (λa b c d w=>qud.j4 a b c d Q w) .lf (.bk (.lo [sI 12] [sI 0,sI 5,sI 13] (λa b c d w=>qud.l1 a b c d Q w) (λnx1 a b c d w=>qud.b1 a b c d Q nx1 w) λnx1=> .lf))) .lf))) (by kernel_rfl) h
def qeh(r_0:OAd)(Q:VWP)(w:World):Prop:=lt (World.drew w) λw1=>nz r_0 λa2=>ldL w1 (Addr.add a2 0) λx3=>lt (i64.wrap (8*(x3.len:Int))) λx4=>nz r_0 λa5=>ldI .i64 w1 (Addr.add a5 1) λx6=>lt (i64.wrap (x4-x6)) λx7=>Q (.int .i64 x7) w1
theorem qeh.ok(r_0:OAd)(Q:VWP)(w:World)(h:qeh r_0 Q w):Calls prog 175 ⟨[.pointer r_0]⟩ w (Ret Q):=
 qhc [.tmp 2] qde Tryz.func175 rfl rfl rfl rfl .lf (by kernel_rfl) h
def qdh(w_0:OAd)(b_1:Int)(Q:VWP)(w:World):Prop:=ct_ 96 [.pointer w_0] w λw2=>nz w_0 λa3=>ldL w2 (Addr.add a3 0) λx4=>nw w2 ⟨[.int .u8 b_1]⟩ 5 λa5 w6=>rdO w6 (some a5) (1*1) λc7=>apK prog 5 w6 x4.a x4.len x4.cap 1 c7 λs8 w9=>nz w_0 λa10=>st w9 (Addr.add a10 0) (sV s8) λw11=>Q (.tuple ⟨[]⟩) w11
theorem qdh.ok(w_0:OAd)(b_1:Int)(Q:VWP)(w:World)(h:qdh w_0 b_1 Q w):Calls prog 97 ⟨[.pointer w_0,.int .u8 b_1]⟩ w (Ret Q):=
 qhc [] qde Tryz.func97 rfl rfl rfl rfl .lf (by kernel_rfl) h
def qrf(w_0:OAd)(Q:VWP)(w:World):Prop:=nz w_0 λa1=>ldI .i64 w (Addr.add a1 2) λx2=>br (decide (x2>0)) (nz w_0 λa3=>ldI .i64 w (Addr.add a3 2) λx4=>lt (i64.wrap (8-x4)) λx5=>ct_ 95 [.pointer w_0,.int .i64 0,.int .i64 x5] w λw7=>Q (.tuple ⟨[]⟩) w7) (Q (.tuple ⟨[]⟩) w)
theorem qrf.ok(w_0:OAd)(Q:VWP)(w:World)(h:qrf w_0 Q w):Calls prog 96 ⟨[.pointer w_0]⟩ w (Ret Q):=
 qhc [] qde Tryz.func96 rfl rfl rfl rfl .lf (by kernel_rfl) h
def qlg(r_0:OAd)(Q:VWP)(w:World):Prop:=qbk 144 [.pointer r_0] w λr3 w2=>lt (i64.wrap (8*r3)) λx4=>nz r_0 λa5=>st w2 (Addr.add a5 1) (.int .i64 x4) λw6=>Q (.tuple ⟨[]⟩) w6
theorem qlg.ok(r_0:OAd)(Q:VWP)(w:World)(h:qlg r_0 Q w):Calls prog 165 ⟨[.pointer r_0]⟩ w (Ret Q):=
 qhc [] qde Tryz.func165 rfl rfl rfl rfl .lf (by kernel_rfl) h
def qhf(r_0:OAd)(Q:VWP)(w:World):Prop:=nz r_0 λa1=>ldI .i64 w (Addr.add a1 1) λx2=>lt (i64.wrap (x2+7)) λx3=>(8:Int)≠0/\lt (i64.wrap (tdiv x3 8)) λx4=>Q (.int .i64 x4) w
theorem qhf.ok(r_0:OAd)(Q:VWP)(w:World)(h:qhf r_0 Q w):Calls prog 144 ⟨[.pointer r_0]⟩ w (Ret Q):=
 qhc [.tmp 2] qde Tryz.func144 rfl rfl rfl rfl .lf (by kernel_rfl) h
end
section
set_option maxRecDepth 100000
def qhd(s_0:Sl)(Q:VWP)(w:World):Prop:=br (Option.isNone s_0.a) (Q (.slice none 0 0) w) (nw w ⟨[]⟩ 5 λa1 w2=>rdO w2 s_0.a (s_0.len*1) λc3=>apK prog 5 w2 (some a1) 0 0 s_0.len c3 λs4 w5=>Q (sV s4) w5)
theorem qhd.ok(s_0:Sl)(Q:VWP)(w:World)(h:qhd s_0 Q w):Calls prog 61 ⟨[sV s_0]⟩ w (Ret Q):=
 qhc [.tmp 2] qde Tryz.func61 rfl rfl rfl rfl .lf (by kernel_rfl) h
def qad(s_0:Sl)(Q:VWP)(w:World):Prop:=bd (s_0.len:Int) s_0.cap λn1=>bd (s_0.len:Int) n1 λn2=>lt (⟨qnf s_0.a n1 0 1,n2-0,n1-0⟩:Sl) λs3=>Q (sV s3) w
theorem qad.ok(s_0:Sl)(Q:VWP)(w:World)(h:qad s_0 Q w):Calls prog 20 ⟨[sV s_0]⟩ w (Ret Q):=
 qhc [.tmp 2] qde Tryz.func20 rfl rfl rfl rfl .lf (by kernel_rfl) h
def qsf(s_0:Sl)(Q:VWP)(w:World):Prop:=bd (s_0.len:Int) s_0.cap λn1=>bd (s_0.len:Int) n1 λn2=>lt (⟨qnf s_0.a n1 0 1,n2-0,n1-0⟩:Sl) λs3=>Q (sV s3) w
theorem qsf.ok(s_0:Sl)(Q:VWP)(w:World)(h:qsf s_0 Q w):Calls prog 21 ⟨[sV s_0]⟩ w (Ret Q):=
 qhc [.tmp 2] qde Tryz.func21 rfl rfl rfl rfl .lf (by kernel_rfl) h
def qvc.b1(s_0:Sl)(i_2:Int)(j_3:Int)(Q:VWP)(nx1:Sl->Int->Int->WP)(w:World):Prop:=br (decide (i_2<j_3)) (lt (World.drew w) λw1=>ixS s_0.a s_0.len j_3 1 λa2=>ldI .u8 w1 a2 λx3=>ixS s_0.a s_0.len i_2 1 λa4=>ldI .u8 w1 a4 λx5=>ixS s_0.a s_0.len i_2 1 λa6=>st w1 a6 (.int .u8 x3) λw7=>ixS s_0.a s_0.len j_3 1 λa8=>st w7 a8 (.int .u8 x5) λw9=>lt (i64.wrap (i_2+1)) λx10=>lt (i64.wrap (j_3-1)) λx11=>nx1 s_0 x10 x11 w9) (Q (.tuple ⟨[]⟩) w)
def qvc.l1(s_0:Sl)(i_2:Int)(j_3:Int)(Q:VWP)(w:World):Prop:=∃(I:Int->Int->WP) (μ:Int->Int->World->Nat),I i_2 j_3 w/\∀i_2:Int,∀j_3:Int,∀w:World,I i_2 j_3 w->qvc.b1 s_0 i_2 j_3 Q (λs_0' i_2' j_3' w'=>(s_0'=s_0)/\I i_2' j_3' w'/\μ i_2' j_3' w'<μ i_2 j_3 w) w
def qvc.j1(s_0:Sl)(i_2:Int)(j_3:Int)(Q:VWP)(w:World):Prop:=qvc.l1 s_0 i_2 j_3 Q w
def qvc(s_0:Sl)(Q:VWP)(w:World):Prop:=lt (i64.wrap ((s_0.len:Int)-1)) λx12=>qvc.j1 s_0 0 x12 Q w
theorem qvc.ok(s_0:Sl)(Q:VWP)(w:World)(h:qvc s_0 Q w):Calls prog 62 ⟨[sV s_0]⟩ w (Ret Q):=
 qhc [] qde Tryz.func62 rfl rfl rfl rfl (.sq [sL 0,sI 2,sI 3] (λa b c w=>qvc.j1 a b c Q w) .lf (.bk (.lo [sL 0] [sI 2,sI 3] (λa b c w=>qvc.l1 a b c Q w) (λnx1 a b c w=>qvc.b1 a b c Q nx1 w) λnx1=> .lf))) (by kernel_rfl) h
end
section
attribute [local irreducible] apK cpK mkK
def byt(V k:Nat):List Int:=(range k).map λi=>((V/2^(8*i)%256:Nat):Int)
theorem qsh(V k:Nat):(byt V k).length=k:=by simp[byt]
theorem qft(V k:Nat):byt V (k+1)=byt V k++[((V/2^(8*k)%256:Nat):Int)]:=by simp[byt,List.range_succ]
theorem qxab(V W k L:Nat)(h:8*k<=L):byt (V+2^L*W) k=byt V k:=by
 unfold byt;apply map_congr_left;intro i hi;have hi:=List.mem_range.1 hi;congr 1;have e:2^L*W=2^(8*i)*(256*(2^(L-8*i-8)*W)):=by
  rw[<-mul_assoc,<-mul_assoc];congr 1;rw[show(256:Nat)=2^8 from rfl,<-pow_add,<-pow_add];congr 1;omega
 rw[e,Nat.add_mul_div_left _ _ (Nat.pow_pos (by decide)),Nat.add_mul_mod_self_left]
abbrev u8s(l:List Int):List Value:=l.map (int .u8)
theorem qvfb(a b:List Int):u8s (a++b)=u8s a++u8s b:=by simp[u8s]
theorem qjd(a:List Int):(u8s a).length=a.length:=by simp[u8s]
theorem qwjb:prog.info? 5=some Tryz.t5:=by kernel_rfl
theorem qzqb:zc prog 5=#[.int .u8 0]:=by kernel_rfl
section
variable {F0:List Nat}{w0 w:World}{ps:List As}
theorem St.rdB{b k:Nat}{l:List Value}{K:Array Value->Prop}(h:St F0 w0 w (qqb b l::ps))(hk:k=l.length)(hK:K ⟨l⟩):rdO w (some ⟨b,0,none⟩) k K:=by
 subst hk;refine⟨⟨l⟩,rfl,λi hi=>?_,hK⟩;rw[qyf,h.blk.cell,zero_add];simp
theorem St.append_u8{s:Sl}{xs:List Int}{c:Array Value}{x:Int}{K:Sl->World->Prop}(h:St F0 w0 w (qcc 1 s (u8s xs)::ps))(hlen:xs.length<=35184372088832)(hc:c=⟨[.int .u8 x]⟩)
 (hk:∀s' w',St F0 w0 w' (qcc 1 s' (u8s (xs++[x]))::ps)->K s' w'):apK prog 5 w s.a s.len s.cap 1 c K:=by
 subst hc
 have hl:=h.len
 rw[qjd]at hl
 have h1:(Tryz.t5).size=1:=rfl
 have h2:(Tryz.t5).bytes=1:=rfl
 have h4:(zc prog 5).size=1:=by rw[qzqb];rfl
 have h5:(Tryz.t5).bytes≠0:=by rw[h2];decide
 have h6:(⟨[.int .u8 x]⟩:Array Value).size=1*1:=rfl
 have h7:∀v∈(⟨[.int .u8 x]⟩:Array Value),qfe v:=by simp[qfe]
 refine St.append (i:=Tryz.t5) (sz:=1) (m:=1) qwjb h1 (by decide) h4 h5 (by rw[h2];omega) h h6 h7 ?_
 intro s' w' ho _
 refine hk s' w' ?_
 rw[qvfb]
 exact ho
end
def wrK(wb L V k:Nat):As:=exA λs:Sl=>ifA (8*k<=L/\V<2^L)<|andA
 (qqb wb [.slice s.a s.len s.cap,.int .u64 ((V/2^(8*k):Nat):Int),.int .i64 ((L-8*k:Nat):Int)]) (qcc 1 s (u8s (byt V k)))
def wrA(wb L V:Nat):As:=wrK wb L V (L/8)
def putL(L:Nat)(n:Int):Nat:=if 0<=n/\n<=24 then L+n.toNat else L
def putV(L V:Nat)(v n:Int):Nat:=if 0<=n/\n<=24 then V+2^L*(v%2^n.toNat).toNat else V
theorem low_lt(v:Int)(t:Nat):(v%2^t).toNat<2^t:=by
 have h1:(0:Int)<2^t:=pow_pos (by decide);have h2:=Int.emod_lt_of_pos v h1;have h3:=Int.emod_nonneg v (show(2:Int)^t≠0 by omega);have h4:((2^t:Nat):Int)=2^t:=by simp
 omega
theorem put_lt{L V W t:Nat}(hV:V<2^L)(hW:W<2^t):V+2^L*W<2^(L+t):=by
 rw[pow_add];have:2^L*(W+1)<=2^L*2^t:=Nat.mul_le_mul_left _ hW;rw[Nat.mul_add,mul_one]at this
 omega
theorem qahb{V L k:Nat}(hV:V<2^L)(hk:8*k<=L):V/2^(8*k)<2^(L-8*k):=by
 rw[Nat.div_lt_iff_lt_mul (Nat.pow_pos (by decide)),<-pow_add];rw[show L-8*k+8*k=L by omega];exact hV
theorem qwkb{V W L k:Nat}(h:8*k<=L):(V+2^L*W)/2^(8*k)=V/2^(8*k)+W*2^(L-8*k):=by
 have e:2^L*W=2^(8*k)*(W*2^(L-8*k)):=by
  rw[mul_comm W,<-mul_assoc,<-pow_add];congr 2;omega
 rw[e,Nat.add_mul_div_left _ _ (Nat.pow_pos (by decide))]
section
variable {F0:List Nat}{w0 w:World}{ps:List As}
theorem qnb.loop{wb L V k:Nat}{Q:VWP}(h:St F0 w0 w (wrK wb L V k::ps))(hL:L<=1099511627776)(hs:L-8*k<64)
 (hq:∀w',St F0 w0 w' (wrA wb L V::ps)->Q (.tuple ⟨[]⟩) w'):qnb.l1 (some ⟨wb,0,none⟩) Q w:=by
 refine loop0 (λk w=>St F0 w0 w (wrK wb L V k::ps)/\L-8*k<64) (λk=>L-8*k) k ⟨h,hs⟩ ?_
 clear h hs
 rintro k w I μ ⟨h,hs⟩ hin
 obtain⟨s,h⟩:=h.exE
 obtain⟨⟨hk,hV⟩,h⟩:=h.ifE
 have h:=h.split
 unfold qnb.b1
 refine qkd (h.blk.ldI (o:=2) rfl ?_)
 refine quc (λh8=>?_) (λh8=>?_)
 ·have hk8:8*(k+1)<=L:=by omega
  refine h.drewK λw h=>?_
  refine qkd (h.blk.ldL (o:=0) rfl ?_)
  refine qkd (h.blk.ldI (o:=1) rfl ?_)
  refine qm (qmk _) ?_
  refine h.new λnb w h=>?_
  refine h.rdB rfl ?_
  have h:=h.at2
  refine h.append_u8 (by rw[qsh];omega) rfl λs3 w h=>?_
  have h:=h.at2
  refine qkd (h.st (o:=0) (by simp) trivial λw h=>?_)
  refine qkd (h.blk.ldI (o:=1) rfl ?_)
  refine⟨by omega,?_⟩
  refine qm (qmi .u64 _ (t:=8) (by decide)) ?_
  refine qkd (h.st (o:=1) (by simp) trivial λw h=>?_)
  refine qkd (h.blk.ldI (o:=2) rfl ?_)
  refine qm (qd (by omega) (by omega)) ?_
  refine qkd (h.st (o:=2) (by simp) trivial λw h=>?_)
  refine⟨rfl,hin (k+1) w ⟨?_,by omega⟩ (by omega)⟩
  have e1:((V/2^(8*k):Nat):Int)/2^8=((V/2^(8*(k+1)):Nat):Int):=by
   rw[show 8*(k+1)=8*k+8 by omega,pow_add,<-Nat.div_div_eq_div_mul];simp
  have e2:((L-8*k:Nat):Int)-8=((L-8*(k+1):Nat):Int):=by omega
  have e3:((V/2^(8*k):Nat):Int)%256=((V/2^(8*k)%256:Nat):Int):=by omega
  rw[e1,e2,e3,<-qft]at h
  have h:=h.join
  have h:=h.ifI (c:=8*(k+1)<=L/\V<2^L) ⟨hk8,hV⟩
  exact(h.exI (p:=λs:Sl=>ifA (8*(k+1)<=L/\V<2^L)<|andA (qqb wb [.slice s.a s.len s.cap,.int .u64 ((V/2^(8*(k+1)):Nat):Int),.int .i64 ((L-8*(k+1):Nat):Int)]) (qcc 1 s (u8s (byt V (k+1))))) s3).tail (λ_ _ _ h=>h.drop)
 ·have hkk:k=L/8:=by omega
  subst hkk
  exact hq w ((h.join.ifI ⟨hk,hV⟩).exI s)
theorem qnb.c{wb L V:Nat}{v n:Int}{K:Ending->World->Prop}(h:St F0 w0 w (wrA wb L V::ps))(hL:L<=549755813888)
 (hk:∀w',St F0 w0 w' (wrA wb (putL L n) (putV L V v n)::ps)->K (.returned (.tuple ⟨[]⟩)) w'):Calls prog 95 ⟨[.pointer (some ⟨wb,0,none⟩),.int .i64 v,.int .i64 n]⟩ w K:=by
 refine qdc (qnb.ok _ _ _ _ _ ?_)
 unfold qnb
 refine quc (λh1=>?_) (λh1=>?_)
 ·rw[putL,putV,if_neg (by omega),if_neg (by omega)]at hk
  exact hk w h
 refine quc (λh2=>?_) (λh2=>?_)
 ·rw[putL,putV,if_neg (by omega),if_neg (by omega)]at hk
  exact hk w h
 rw[putL,putV,if_pos (by omega),if_pos (by omega)]at hk
 obtain⟨t,rfl⟩:∃t:Nat,n=t:=⟨n.toNat,by omega⟩
 have ht:t<=24:=by omega
 rw[toNat_natCast]at hk
 obtain⟨s,h⟩:=h.exE
 obtain⟨⟨hk8,hV⟩,h⟩:=h.ifE
 have h:=h.split
 unfold qnb.j1
 refine h.drewK λw h=>?_
 refine qkd (h.blk.ldI (o:=1) rfl ?_)
 refine qm (qgh _) ?_
 refine⟨by omega,?_⟩
 have hp:(1:Int)*2^t<2^(u64.bits-1):=by
  rw[Int.one_mul];exact_mod_cast Nat.pow_lt_pow_right (by decide) (show t<u64.bits-1 from Nat.lt_of_le_of_lt ht (by decide))
 have hp0:(0:Int)<2^t:=pow_pos (by decide)
 refine qm (qmj .u64 (show t<=64 by omega) (by omega) hp) ?_
 rw[Int.one_mul]at hp|-
 refine qm (qyw .u64 (by omega) (by omega)) ?_
 refine qm (qsk .u64 _ (show t<64 by omega)) ?_
 have e0:v%18446744073709551616%2^t=v%2^t:=Int.emod_emod_of_dvd _ ⟨2^(64-t),by rw[<-Int.pow_add,show t+(64-t)=64 by omega];rfl⟩
 rw[e0]
 have hW:=low_lt v t
 have e1:v%2^t=(((v%2^t).toNat:Nat):Int):=by
  have:=Int.emod_nonneg v (show(2:Int)^t≠0 by omega);omega
 rw[e1]
 generalize (v%2^t).toNat=W at hW hk
 refine qkd (h.blk.ldI (o:=2) rfl ?_)
 refine⟨by omega,?_⟩
 have hr:L-8*(L/8)<8:=by omega
 have hbig:W*2^(L-8*(L/8))<2^32:=by
  have a1:2^(L-8*(L/8))<=2^7:=pow_le_pow_right (by decide) (by omega);have a2:(2:Nat)^t<=2^24:=pow_le_pow_right (by decide) ht;have:=Nat.mul_le_mul (show W<=2^24 by omega) a1;omega
 refine qm (qmj .u64 (show L-8*(L/8)<=64 by omega) (by omega) (by
  have:((W*2^(L-8*(L/8)):Nat):Int)=(W:Int)*2^(L-8*(L/8)):=by simp
  rw[<-this];exact_mod_cast Nat.lt_of_lt_of_le hbig (by decide))) ?_
 have hword:=qahb hV hk8
 have hword2:2^(L-8*(L/8))<=2^7:=pow_le_pow_right (by decide) (by omega)
 refine qm (qvr .u64 hword (show _<(2:Nat)^(64-1)by omega)) ?_
 have e2:((V/2^(8*(L/8)):Nat):Int)+(W:Int)*2^(L-8*(L/8))=(((V+2^L*W)/2^(8*(L/8)):Nat):Int):=by
  rw[qwkb hk8];simp
 rw[e2]
 refine qkd (h.st (o:=1) (by simp) trivial λw h=>?_)
 refine qkd (h.blk.ldI (o:=2) rfl ?_)
 refine qm (qd (by omega) (by omega)) ?_
 refine qkd (h.st (o:=2) (by simp) trivial λw h=>?_)
 have e3:((L-8*(L/8):Nat):Int)+(t:Int)=((L+t-8*(L/8):Nat):Int):=by omega
 rw[e3]at h
 rw[<-qxab V W (L/8) L hk8]at h
 refine qnb.loop (k:=L/8) ((h.join.ifI (c:=8*(L/8)<=L+t/\V+2^L*W<2^(L+t)) ⟨by omega,put_lt hV hW⟩).exI (p:=λs:Sl=>ifA (8*(L/8)<=L+t/\V+2^L*W<2^(L+t))<|andA
  (qqb wb [.slice s.a s.len s.cap,.int .u64 (((V+2^L*W)/2^(8*(L/8)):Nat):Int),.int .i64 ((L+t-8*(L/8):Nat):Int)]) (qcc 1 s (u8s (byt (V+2^L*W) (L/8))))) s) (by omega) (by omega) hk
end
end
section
attribute [local irreducible] apK cpK mkK
def Rd(w:World)(sz:Nat)(s:Sl)(cs:List Value):Prop:=cs.length=s.len*sz/\∀i,i<cs.length->∃a,s.a=some a/\w.cell? (a.add i)=cs[i]?
theorem Own.rd{sz:Nat}{w:World}{s:Sl}{cs:List Value}{F:List Nat}(h:Own sz w s cs F):Rd w sz s cs:=by
 refine⟨h.len,λi hi=>?_⟩;obtain⟨ob,h1,h2⟩:=h.cell hi;exact⟨⟨ob,0,none⟩,h1,by rw[qyf,zero_add];exact h2⟩
theorem Rd.rdO{sz k:Nat}{w:World}{s:Sl}{cs:List Value}{K:Array Value->Prop}(h:Rd w sz s cs)(hk:k=cs.length)(hK:K ⟨cs⟩):rdO w s.a k K:=by
 subst hk;obtain⟨h1,h2⟩:=h;cases e:s.a with
 |none=>
  cases cs with
  |nil=>exact⟨rfl,hK⟩
  |cons c cs=>
   obtain⟨a,ha,_⟩:=h2 0 (by simp);rw[e]at ha;cases ha
 |some a=>
  refine⟨⟨cs⟩,rfl,λi hi=>?_,hK⟩;obtain⟨a',ha,hc⟩:=h2 i hi;rw[e]at ha;cases ha;rw[hc];simp
theorem Rd.ix{sz:Nat}{w:World}{s:Sl}{cs:List Value}{i:Int}{K:Addr->Prop}(h:Rd w sz s cs)(hsz:0<sz)(h0:0<=i)(h1:i<s.len)(hk:∀a,s.a=some a->K (a.add (i.toNat*sz))):ixS s.a s.len i sz K:=by
 have hl:=h.1;have:i.toNat*sz<cs.length:=by
  rw[hl];exact Nat.mul_lt_mul_of_pos_right (by omega) hsz
 obtain⟨a,ha,_⟩:=h.2 _ this
 unfold ixS;rw[ha];exact⟨⟨h0,h1⟩,hk a ha⟩
theorem Rd.cell{sz:Nat}{w:World}{s:Sl}{cs:List Value}(h:Rd w sz s cs){a:Addr}(ha:s.a=some a){i:Nat}(hi:i<cs.length):w.cell? (a.add i)=cs[i]?:=by
 obtain⟨a',ha',hc⟩:=h.2 i hi;rw[ha]at ha';cases ha';exact hc
theorem qgs(a:Addr)(i j:Nat):(a.add i).add j=a.add (i+j):=by
 obtain⟨b,o,p⟩:=a;cases p with
 |none=>rw[qyf,qyf,qyf,Nat.add_assoc]
 |some p=>
  unfold Addr.add;by_cases hi:i=0
  ·by_cases hj:j=0
   ·simp[hi,hj]
   ·simp[hi,hj]
  ·by_cases hj:j=0
   ·simp[hi,hj]
   ·simp[hi,hj,Nat.add_assoc]
theorem ldI_c{k:IntKind}{w:World}{a:Addr}{n:Int}{K:Int->Prop}(hc:w.cell? a=some (.int k n))(hk:K n):ldI k w a K:=⟨n,hc,hk⟩
theorem ldL_c{w:World}{a:Addr}{n:Sl}{K:Sl->Prop}(hc:w.cell? a=some (.slice n.a n.len n.cap))(hk:K n):ldL w a K:=⟨n,hc,hk⟩
theorem Rd.ldI{k:IntKind}{sz:Nat}{w:World}{s:Sl}{cs:List Value}{a:Addr}{i:Nat}{n:Int}{K:Int->Prop}(h:Rd w sz s cs)(ha:s.a=some a)(hv:cs[i]?=some (.int k n))(hk:K n):ldI k w (a.add i) K:=by
 refine⟨n,?_,hk⟩;have hi:i<cs.length:=by
  rcases lt_or_ge i cs.length with h1|h1
  ·exact h1
  ·rw[List.getElem?_eq_none h1]at hv;cases hv
 rw[h.cell ha hi];exact hv
theorem qaub{w:World}{a:Addr}{v:Value}(h:w.cell? a=some v):a.block<w.heap.size:=by
 unfold cell? at h;rcases lt_or_ge a.block w.heap.size with h1|h1
 ·exact h1
 ·have:w.heap[a.block]?=none:=Array.getElem?_eq_none h1;simp[this]at h
theorem qfbb(a:Addr)(i:Nat):(a.add i).block=a.block:=by unfold Addr.add;split<;>rfl
theorem qfhb{w w':World}{a:Addr}(h:w'.heap[a.block]?=w.heap[a.block]?):w'.cell? a=w.cell? a:=by
 unfold cell?;rw[h]
theorem Rd.keep{sz:Nat}{w w':World}{s:Sl}{cs:List Value}{G:List Nat}(h:Rd w sz s cs)(m:Mod G w w')(hG:∀a,s.a=some a->a.block∉G):Rd w' sz s cs:=by
 refine⟨h.1,λi hi=>?_⟩;obtain⟨a,ha,hc⟩:=h.2 i hi;refine⟨a,ha,?_⟩;rw[<-hc];rw[getElem?_eq_getElem hi]at hc;have hlt:=qaub hc;rw[qfbb]at hlt;apply qfhb;rw[qfbb];exact m.frame _ hlt (hG a ha)
def RBlk(w:World)(b:Nat)(l:List Value):Prop:=∃t f,w.heap[b]?=some (.cells ⟨l⟩ t f)
theorem Blk.rb{w:World}{b:Nat}{l:List Value}(h:Blk w b l):RBlk w b l:=by
 obtain⟨t,h⟩:=h;exact⟨t,_,h⟩
theorem RBlk.lt{w:World}{b:Nat}{l:List Value}(h:RBlk w b l):b<w.heap.size:=by
 obtain⟨t,f,h⟩:=h;exact(Array.getElem?_eq_some_iff.1 h).1
theorem RBlk.keep{F:List Nat}{w w':World}{b:Nat}{l:List Value}(h:RBlk w b l)(m:Mod F w w')(hb:b∉F):RBlk w' b l:=by
 have hl:=h.lt;obtain⟨t,f,h⟩:=h;exact⟨t,f,by rw[m.frame b hl hb];exact h⟩
theorem RBlk.cell{w:World}{b:Nat}{l:List Value}(h:RBlk w b l)(o:Nat):w.cell? ⟨b,o,none⟩=l[o]?:=by
 obtain⟨t,f,h⟩:=h;simp[cell?,h]
def rdA(sz:Nat)(s:Sl)(cs:List Value):As where
 hd w F:=cs.length=s.len*sz/\((cs=[]/\F=[])\/∃b o l,s.a=some ⟨b,o,none⟩/\RBlk w b l/\F=[b]/\∀i,i<cs.length->l[o+i]?=cs[i]?)
 keep:=by
  rintro w w' F G ⟨hl,h⟩ m hd
  refine⟨hl,?_⟩
  rcases h with h|⟨b,o,l,h1,h2,rfl,h3⟩
  ·exact Or.inl h
  ·exact Or.inr ⟨b,o,l,h1,h2.keep m (hd b (by simp)),rfl,h3⟩
 lt:=by
  rintro w F ⟨hl,⟨_,rfl⟩|⟨b,o,l,h1,h2,rfl,h3⟩⟩ x hx
  ·cases hx
  ·have:x=b:=by simpa using hx
   subst this;exact h2.lt
section
variable {F0:List Nat}{w0 w:World}{p:As}{ps:List As}{sz:Nat}{s:Sl}{cs:List Value}
theorem St.rd(h:St F0 w0 w (rdA sz s cs::ps)):Rd w sz s cs:=by
 obtain⟨F,hl,⟨rfl,rfl⟩|⟨b,o,l,h1,h2,rfl,h3⟩⟩:=h.get
 ·exact⟨hl,λi hi=>by simp at hi⟩
 ·refine⟨hl,λi hi=>⟨_,h1,?_⟩⟩;rw[qyf,h2.cell];exact h3 i hi
theorem St.ord(h:St F0 w0 w (qcc sz s cs::ps)):Rd w sz s cs:=by
 obtain⟨F,h⟩:=h.own;exact h.rd
theorem St.ro(h:St F0 w0 w (qcc sz s cs::ps)):St F0 w0 w (rdA sz s cs::ps):=by
 refine h.mp λF h=>?_;refine⟨Own.len h,?_⟩;rcases h with⟨_,h1,h2⟩|⟨ob,rest,h1,hb,_,_,rfl⟩
 ·exact Or.inl ⟨h1,h2⟩
 ·exact Or.inr ⟨ob,0,cs++rest,h1,hb.rb,rfl,λi hi=>by rw[zero_add,getElem?_append_left hi]⟩
theorem St.recap{s':Sl}(h:St F0 w0 w (rdA sz s cs::ps))(ha:s'.a=s.a)(hl:s'.len=s.len):St F0 w0 w (rdA sz s' cs::ps):=by
 refine h.mp λF h=>?_;unfold rdA at h|-
 simp only at h|-
 rw[ha,hl];exact h
end
theorem qqsb{F0:List Nat}{w0 w:World}{ps:List As}{b n:Nat}{l:List Value}{K:World->Prop}(h:St F0 w0 w (qqb b l::ps))(hn:l.length=n)(hk:∀w',St F0 w0 w' (rdA 1 ⟨some ⟨b,0,none⟩,n,n⟩ l::ps)->K w'):mkStr w (some ⟨b,0,none⟩) K:=by
 obtain⟨f,⟨hb,rfl⟩,hstep⟩:=h.step;obtain⟨t,hs⟩:=hb.shape;have e:w.freeze ⟨b,l.length,none⟩ 1={w with heap:=w.heap.modify b λ
  | .cells c elem (lo,hi)=> .cells c elem (if(lo==hi)=true then(l.length,l.length+1)else(min lo l.length,max hi (l.length+1)))
  |o=>o}:=rfl
 refine⟨t,l.length,hs,hk _ (hstep _ [b] _ ?_ (Gr.refl _ _) ⟨by simp[hn],Or.inr ⟨b,0,l,rfl,?_,rfl,λi hi=>by rw[zero_add]⟩⟩)⟩
 ·rw[e];refine⟨rfl,rfl,rfl,by simp,λx hx hF=>?_⟩;simp only[Array.getElem?_modify];rw[if_neg];intro h;exact hF (by simp[h])
 ·obtain⟨t,hb⟩:=hb;refine⟨t,(l.length,l.length+1),?_⟩;rw[e];simp only[Array.getElem?_modify,if_true,hb,map_some];rfl
def val:List Bool->Nat
 |[]=>0
 |b::l=>b.toNat+2*val l
theorem qlz(l:List Bool):val l<2^l.length:=by
 induction l with
 |nil=>simp[val]
 |cons b l ih=>
  rw[val,length_cons,pow_succ];have:b.toNat<=1:=by cases b<;>simp
  omega
theorem qmr(a b:List Bool):val (a++b)=val a+2^a.length*val b:=by
 induction a with
 |nil=>simp[val]
 |cons x a ih=>
  rw[List.cons_append,val,val,ih,length_cons,pow_succ,Nat.mul_add,<-mul_assoc,mul_comm 2 (2^a.length)];omega
def bt(v:Int)(i:Nat):Bool:=v/2^i%2==1
def ql(v:Int)(n:Nat):List Bool:=(range n).map (bt v)
theorem qq(v:Int)(n:Nat):(ql v n).length=n:=by simp[ql]
theorem qhdb(v:Int)(n:Nat):ql v (n+1)=ql v n++[bt v n]:=by simp[ql,List.range_succ]
theorem qgt(v:Int)(i:Nat):(((bt v i).toNat:Nat):Int)=v/2^i%2:=by
 unfold bt;have h1:0<=v/2^i%2:=by omega
 have h2:v/2^i%2<2:=by omega
 generalize v/2^i%2=x at h1 h2;by_cases h:x=1
 ·subst h;rfl
 ·have:x=0:=by omega
  subst this;rfl
theorem qbab(v:Int)(n:Nat):v%2^(n+1)=v%2^n+2^n*(v/2^n%2):=by
 have hp:(0:Int)<2^n:=pow_pos (by decide);have h1:=Int.mul_ediv_add_emod v (2^n);have h2:=Int.mul_ediv_add_emod (v/2^n) 2;have h3:=Int.mul_ediv_add_emod v (2^(n+1));have h4:v/2^(n+1)=v/2^n/2:=by
  rw[Int.pow_succ,Int.ediv_ediv_of_nonneg (by omega)]
 rw[h4]at h3;have e:(2:Int)^(n+1)*(v/2^n/2)=2^n*(2*(v/2^n/2)):=by
  rw[Int.pow_succ,Int.mul_assoc]
 rw[e]at h3;have e2:(2:Int)^n*(2*(v/2^n/2))=2^n*(v/2^n)-2^n*(v/2^n%2):=by
  rw[<-Int.mul_sub];congr 1;omega
 omega
theorem qvm(v:Int)(n:Nat):((val (ql v n):Nat):Int)=v%2^n:=by
 induction n with
 |zero=>simp[ql,val,Int.emod_one]
 |succ n ih=>
  rw[qhdb,qmr,qq,qbab,<-ih];have:val [bt v n]=(bt v n).toNat:=by simp[val]
  rw[this,Int.natCast_add,Int.natCast_mul,qgt];simp
theorem qpt(v:Int)(n:Nat):val (ql v n)=(v%2^n).toNat:=by
 have:=qvm v n;omega
theorem qyab(V i:Nat):bt (V:Int) i=V.testBit i:=by
 unfold bt Nat.testBit;have e:((V:Int)/2^i%2)=((V/2^i%2:Nat):Int):=by simp
 rw[e];rw[Nat.shiftRight_eq_div_pow];have h:V/2^i%2<2:=mod_lt _ (by decide);generalize V/2^i=x at h;rw[Nat.and_comm,Nat.and_one_is_mod];generalize x%2=y at h;have:y=0\/y=1:=by omega
 rcases this with rfl|rfl<;>rfl
theorem qzp(l:List Bool):ql (val l) l.length=l:=by
 induction l with
 |nil=>rfl
 |cons b l ih=>
  rw[length_cons];unfold ql at ih|-
  rw[List.range_succ_eq_map,map_cons,map_map];congr 1
  ·unfold bt;rw[val];cases b<;>simp<;>omega
  ·conv=>rhs;rw[<-ih]
   apply map_congr_left;intro i _;unfold bt;simp only[Function.comp];rw[val];congr 2;have:((b.toNat+2*val l:Nat):Int)/2^(i+1)=((val l:Nat):Int)/2^i:=by
    rw[Int.pow_succ,Int.mul_comm,<-Int.ediv_ediv_of_nonneg (by decide)];congr 1;have:b.toNat<=1:=by cases b<;>simp
    omega
   exact this
theorem qhrb{a b:List Bool}(hl:a.length=b.length)(h:val a=val b):a=b:=by
 rw[<-qzp a,<-qzp b,h,hl]
def turnN:Nat->Int->Nat->Nat
 |0,_,out=>out
 |t+1,v,out=>turnN t (v/2) (2*out+(v%2).toNat)
theorem qcib(t:Nat):∀(v:Int) (l:List Bool),turnN t v (val l)=val ((ql v t).reverse++l):=by
 induction t with
 |zero=>intro v l;rfl
 |succ t ih=>
  intro v l;have e:2*val l+(v%2).toNat=val (bt v 0::l):=by
   rw[val];have:=qgt v 0;rw[Int.pow_zero,Int.ediv_one]at this
   omega
  rw[turnN,e,ih];congr 1;have:ql v (t+1)=bt v 0::ql (v/2) t:=by
   unfold ql;rw[List.range_succ_eq_map,map_cons,map_map];congr 1;apply map_congr_left;intro i _;simp only[Function.comp,bt];congr 2;rw[Int.pow_succ,Int.mul_comm,<-Int.ediv_ediv_of_nonneg (by decide)]
  rw[this,List.reverse_cons,List.append_assoc];rfl
theorem qvmb(t:Nat)(v:Int):turnN t v 0=val (ql v t).reverse:=by
 have:=qcib t v [];simpa [val]using this
theorem qgdb(t:Nat)(v:Int):ql (turnN t v 0:Nat) t=(ql v t).reverse:=by
 rw[qvmb];have:=qzp (ql v t).reverse;rwa[List.length_reverse,qq]at this
def turn(v n:Int):Int:=if 0<=n/\n<=24 then(turnN n.toNat v 0:Nat)else 0
def pb(v n:Int):List Bool:=if 0<=n/\n<=24 then ql v n.toNat else[]
theorem qisb(v n:Int):pb (turn v n) n=(pb v n).reverse:=by
 unfold pb turn;split
 ·rw[qgdb]
 ·rfl
theorem qcsb(l:List Bool)(v n:Int):putL l.length n=(l++pb v n).length:=by
 unfold putL pb;split
 ·rw[length_append,qq]
 ·simp
theorem qbsb(l:List Bool)(v n:Int):putV l.length (val l) v n=val (l++pb v n):=by
 unfold putV pb;split
 ·rw[qmr,qpt]
 ·simp
end
section
attribute [local irreducible] apK cpK mkK
theorem qwx(k:IntKind)(a b:Int):orV k a b=orV k b a:=by unfold orV;rw[BitVec.or_comm]
theorem qbr(k:IntKind){a b:Nat}{t:Nat}(ha:a<2^t)(hs:a+b*2^t<2^(k.bits-1)):orV k ((b:Int)*2^t) (a:Int)=(a:Int)+(b:Int)*2^t:=by
 rw[qwx,qvr k ha hs]
theorem qaz(k:IntKind)(x:Int):qdj k x 1=x%2:=by
 have h:=qsk k x (t:=1) (Nat.lt_of_lt_of_le (by decide) (qyy k));simpa using h
section
variable {F0:List Nat}{w0 w:World}{ps:List As}
theorem St.nil(sz:Nat)(h:St F0 w0 w ps):St F0 w0 w (qcc sz ⟨none,0,0⟩ []::ps):=
 h.add (f':=[]) (Mod.refl _ _) (Or.inl ⟨rfl,rfl,rfl⟩) (Gr.refl _ _)
def wrL(wb:Nat)(l:List Bool):As:=wrA wb l.length (val l)
theorem qerb{wb:Nat}{l:List Bool}(h:St F0 w0 w (wrL wb l::ps)):∃s:Sl,St F0 w0 w (qqb wb [.slice s.a s.len s.cap,.int .u64 ((val l/2^(8*(l.length/8)):Nat):Int),.int .i64 ((l.length-8*(l.length/8):Nat):Int)]::qcc 1 s (u8s (byt (val l) (l.length/8)))::ps):=by
 obtain⟨s,h⟩:=h.exE;obtain⟨_,h⟩:=h.ifE;exact⟨s,h.split⟩
theorem qsfb{wb:Nat}{l:List Bool}{s:Sl}(h:St F0 w0 w (qqb wb [.slice s.a s.len s.cap,.int .u64 ((val l/2^(8*(l.length/8)):Nat):Int),.int .i64 ((l.length-8*(l.length/8):Nat):Int)]::qcc 1 s (u8s (byt (val l) (l.length/8)))::ps)):St F0 w0 w (wrL wb l::ps):=
 (h.join.ifI (c:=8*(l.length/8)<=l.length/\val l<2^l.length) ⟨by omega,qlz l⟩).exI (p:=λs:Sl=>ifA (8*(l.length/8)<=l.length/\val l<2^l.length)<|andA
 (qqb wb [.slice s.a s.len s.cap,.int .u64 ((val l/2^(8*(l.length/8)):Nat):Int),.int .i64 ((l.length-8*(l.length/8):Nat):Int)]) (qcc 1 s (u8s (byt (val l) (l.length/8))))) s
theorem qig.c{K:Ending->World->Prop}(h:St F0 w0 w ps)
 (hk:∀wb w',St F0 w0 w' (wrL wb []::ps)->K (.returned (.pointer (some ⟨wb,0,none⟩))) w'):Calls prog 94 ⟨[]⟩ w K:=by
 refine qdc (qig.ok _ _ ?_)
 unfold qig
 refine(h.nil 1).new λnb w h=>?_
 refine hk nb w ?_
 exact qsfb (s:=⟨none,0,0⟩) (l:=[]) h
theorem qnb.cl{wb:Nat}{l:List Bool}{v n:Int}{K:Ending->World->Prop}(h:St F0 w0 w (wrL wb l::ps))(hL:l.length<=549755813888)
 (hk:∀w',St F0 w0 w' (wrL wb (l++pb v n)::ps)->K (.returned (.tuple ⟨[]⟩)) w'):Calls prog 95 ⟨[.pointer (some ⟨wb,0,none⟩),.int .i64 v,.int .i64 n]⟩ w K:=by
 refine qnb.c h hL λw h=>hk w ?_
 rw[qcsb l v n,qbsb]at h
 exact h
theorem qbib{out:Nat}{v:Int}{i:Nat}(ho:out<2^i)(hi:i<24):orV .i64 (qzi .i64 (out:Int) 1) (qdj .i64 v 1)=((2*out+(v%2).toNat:Nat):Int):=by
 have hb:out<2^24:=Nat.lt_of_lt_of_le ho (pow_le_pow_right (by decide) (by omega));rw[qaz,qaeb .i64 (x:=(out:Int)) (y:=1) (t:=1) rfl (by decide) (by omega) (by
  show(out:Int)*2^1<2^63;omega)]
 have e:v%2=((v%2).toNat:Int):=by omega
 have h2:(v%2).toNat<2:=by omega
 rw[e,qbr .i64 (t:=1) (by omega) (by
  show _<2^63;omega)]
 omega
theorem qud.loop{v:Int}{n out i:Nat}{Q:VWP}(hi:i<=n)(hn:n<=24)(ho:out<2^i)(hq:Q (.int .i64 (turnN (n-i) v out:Nat)) w):qud.l1 n v out i Q w:=by
 refine loop3 (λ(a:Nat×Nat) v' (out':Int) (i':Int) w'=>out'=a.1/\i'=a.2/\a.2<=n/\a.1<2^a.2/\turnN (n-a.2) v' a.1=turnN (n-i) v out/\w'=w) (λa=>n-a.2) (out,i) ⟨rfl,rfl,hi,ho,rfl,rfl⟩ ?_;rintro⟨o,i⟩ v' out' i' w' I μ ⟨rfl,rfl,h1,h2,h3,rfl⟩ hin;simp only at h1 h2 h3 hin|-
 unfold qud.b1;refine quc (λh=>?_) (λh=>?_)
 ·refine⟨by omega,?_⟩;refine qbe (qbe ?_);refine qm (qbib h2 (by omega)) ?_;refine⟨by omega,?_⟩;refine qm (qmi .i64 _ (t:=1) (by decide)) ?_;refine qm (qd (by omega) (by omega)) ?_;refine⟨rfl,hin (2*o+(v'%2).toNat,i+1) _ _ _ _ ⟨rfl,by simp,by simp only;omega,by simp only;rw[pow_succ];omega,?_,rfl⟩ (by simp only;omega)⟩;simp only
  rw[<-h3,show n-i=(n-(i+1))+1 by omega,turnN];rfl
 ·have:i=n:=by omega
  subst this
  unfold qud.j3;rw[sub_self,turnN]at h3;rw[h3];exact hq
theorem qud.c{v n:Int}{K:Ending->World->Prop}(hk:K (.returned (.int .i64 (turn v n))) w):Calls prog 151 ⟨[.int .i64 v,.int .i64 n]⟩ w K:=by
 refine qdc (qud.ok _ _ _ _ ?_);unfold qud qud.j1;refine quc (λh1=>?_) (λh1=>?_)
 ·rwa[turn,if_neg (by omega)]at hk
 refine quc (λh2=>?_) (λh2=>?_)
 ·rwa[turn,if_neg (by omega)]at hk
 rw[turn,if_pos (by omega)]at hk;obtain⟨t,rfl⟩:∃t:Nat,n=t:=⟨n.toNat,by omega⟩;exact qud.loop (i:=0) (out:=0) (by omega) (by omega) (by decide) hk
theorem qch.c{wb:Nat}{l:List Bool}{v n:Int}{K:Ending->World->Prop}(h:St F0 w0 w (wrL wb l::ps))(hL:l.length<=549755813888)
 (hk:∀w',St F0 w0 w' (wrL wb (l++(pb v n).reverse)::ps)->K (.returned (.tuple ⟨[]⟩)) w'):Calls prog 134 ⟨[.pointer (some ⟨wb,0,none⟩),.int .i64 v,.int .i64 n]⟩ w K:=by
 refine qdc (qch.ok _ _ _ _ _ ?_)
 unfold qch
 refine qud.c ⟨_,rfl,?_⟩
 refine qnb.cl h hL λw h=>⟨rfl,?_⟩
 rw[qisb]at h
 exact hk w h
def pad(l:List Bool):List Bool:=replicate ((8-l.length%8)%8) false
theorem pb_no(n:Nat)(h:n<=24):pb 0 n=replicate n false:=by
 unfold pb;rw[if_pos (by omega),toNat_natCast];apply ext_getElem
 ·simp[ql]
 ·intro i h1 h2;simp[ql,bt]
theorem qrf.c{wb:Nat}{l:List Bool}{K:Ending->World->Prop}(h:St F0 w0 w (wrL wb l::ps))(hL:l.length<=549755813888)
 (hk:∀w',St F0 w0 w' (wrL wb (l++pad l)::ps)->K (.returned (.tuple ⟨[]⟩)) w'):Calls prog 96 ⟨[.pointer (some ⟨wb,0,none⟩)]⟩ w K:=by
 refine qdc (qrf.ok _ _ _ ?_)
 unfold qrf
 obtain⟨s,h⟩:=qerb h
 refine qkd (h.blk.ldI (o:=2) rfl ?_)
 refine quc (λh1=>?_) (λh1=>?_)
 ·refine qkd (h.blk.ldI (o:=2) rfl ?_)
  refine qm (qd (by omega) (by omega)) ?_
  have e:(8:Int)-((l.length-8*(l.length/8):Nat):Int)=((8-l.length%8:Nat):Int):=by omega
  rw[e]
  refine qnb.cl (qsfb h) hL λw h=>⟨rfl,hk w ?_⟩
  rw[pb_no _ (by omega)]at h
  unfold pad
  rwa[Nat.mod_eq_of_lt (by omega)]
 ·have:(8-l.length%8)%8=0:=by omega
  refine hk w ?_
  unfold pad
  rw[this]
  simpa using qsfb h
theorem qdh.c{wb:Nat}{l:List Bool}{v:Int}{K:Ending->World->Prop}(h:St F0 w0 w (wrL wb l::ps))(hL:l.length<=274877906944)(hv:0<=v/\v<256)
 (hk:∀w',St F0 w0 w' (wrL wb (l++pad l++ql v 8)::ps)->K (.returned (.tuple ⟨[]⟩)) w'):Calls prog 97 ⟨[.pointer (some ⟨wb,0,none⟩),.int .u8 v]⟩ w K:=by
 refine qdc (qdh.ok _ _ _ _ ?_)
 unfold qdh
 refine qrf.c h (by omega) λw h=>⟨rfl,?_⟩
 have hm:(l++pad l).length%8=0:=by
  rw[length_append,pad,List.length_replicate];omega
 have hle:(l++pad l).length<=l.length+8:=by
  rw[length_append,pad,List.length_replicate];omega
 generalize l++pad l=l' at h hm hle hk
 obtain⟨s,h⟩:=qerb h
 refine qkd (h.blk.ldL (o:=0) rfl ?_)
 refine h.new λnb w h=>?_
 refine h.rdB rfl ?_
 have h:=h.drop.at1
 refine h.append_u8 (by rw[qsh];omega) rfl λs3 w h=>?_
 have h:=h.at1
 refine qkd (h.st (o:=0) (by simp) trivial λw h=>?_)
 refine hk w ?_
 have hV:=qlz l'
 have e0:8*(l'.length/8)=l'.length:=by omega
 have e1:(l'++ql v 8).length/8=l'.length/8+1:=by rw[length_append,qq];omega
 have hw:=qlz (ql v 8)
 have hw2:=qvm v 8
 rw[qq]at hw
 refine qsfb (s:=s3) ?_
 have ev:val (l'++ql v 8)=val l'+2^l'.length*val (ql v 8):=qmr _ _
 have c1:val (l'++ql v 8)/2^(8*((l'++ql v 8).length/8))=0:=by
  have:=qlz (l'++ql v 8);rw[e1,show 8*(l'.length/8+1)=(l'++ql v 8).length by rw[length_append,qq];omega];exact Nat.div_eq_of_lt this
 have c2:(l'++ql v 8).length-8*((l'++ql v 8).length/8)=0:=by
  rw[e1,length_append,qq];omega
 have c3:byt (val (l'++ql v 8)) ((l'++ql v 8).length/8)=byt (val l') (l'.length/8)++[v]:=by
  rw[e1,qft,ev,qxab _ _ _ _ (by omega)];congr 2;rw[e0,Nat.add_mul_div_left _ _ (Nat.pow_pos (by decide)),Nat.div_eq_of_lt hV];omega
 rw[c1,c2,c3]
 have d1:val l'/2^(8*(l'.length/8))=0:=by rw[e0];exact Nat.div_eq_of_lt hV
 have d2:l'.length-8*(l'.length/8)=0:=by omega
 rw[d1,d2]at h
 exact h
theorem qhd.c{s:Sl}{xs:List Int}{K:Ending->World->Prop}(h:St F0 w0 w ps)(hr:Rd w 1 s (u8s xs))(hlen:xs.length<=35184372088832)
 (hk:∀s' w',St F0 w0 w' (qcc 1 s' (u8s xs)::ps)->K (.returned (.slice s'.a s'.len s'.cap)) w'):Calls prog 61 ⟨[.slice s.a s.len s.cap]⟩ w K:=by
 refine qdc (qhd.ok _ _ _ ?_)
 unfold qhd
 have hl:=hr.1
 rw[qjd]at hl
 refine qye (λh1=>?_) (λh1=>?_)
 ·have hx:xs=[]:=by
   cases xs with
   |nil=>rfl
   |cons x xs=>
    obtain⟨a,ha,_⟩:=hr.2 0 (by simp[u8s]);rw[ha]at h1;cases h1
  subst hx
  exact hk ⟨none,0,0⟩ w (h.nil 1)
 ·refine h.newM λnb w1 hm h=>?_
  have hr1:=hr.keep hm (by simp)
  refine hr1.rdO (by rw[hr1.1]) ?_
  have h1:(Tryz.t5).size=1:=rfl
  have h2:(Tryz.t5).bytes=1:=rfl
  have h4:(zc prog 5).size=1:=by rw[qzqb];rfl
  have h5:(Tryz.t5).bytes≠0:=by rw[h2];decide
  have h:St F0 w0 w1 (qcc 1 ⟨some ⟨nb,0,none⟩,0,0⟩ []::ps):=by
   refine h.mp ?_;rintro F ⟨hb,rfl⟩;exact Or.inr ⟨nb,[],rfl,hb,rfl,rfl,rfl⟩
  refine St.append (i:=Tryz.t5) (sz:=1) (m:=s.len) (s:=⟨some ⟨nb,0,none⟩,0,0⟩) qwjb h1 (by decide) h4 h5 (by rw[h2];show(2*(0+s.len)+1024)*1<=_;omega) h (by
   show(u8s xs).length=_;exact hr.1) (by
   intro v hv;have hv:v∈u8s xs:=by simpa using hv
   obtain⟨n,_,rfl⟩:=mem_map.1 hv;trivial) λs' w' h _=>hk s' w' h
def bytes(l:List Bool):List Int:=byt (val l) ((l.length+7)/8)
theorem qad.c{s:Sl}{cs:List Value}{K:Ending->World->Prop}(h:St F0 w0 w (rdA 1 s cs::ps))(hc:s.len<=s.cap)
 (hk:∀s':Sl,s'.len=s.len->s'.cap=s.len->St F0 w0 w (rdA 1 s' cs::ps)->K (.returned (.slice s'.a s'.len s'.cap)) w):Calls prog 20 ⟨[.slice s.a s.len s.cap]⟩ w K:=by
 refine qdc (qad.ok _ _ _ ?_)
 unfold qad
 refine⟨⟨by omega,by omega⟩,⟨by omega,by omega⟩,qbe ?_⟩
 refine hk ⟨_,_,_⟩ (by simp) (by simp) (h.recap ?_ (by simp))
 show qnf s.a _ 0 1=s.a
 unfold qnf
 split
 ·rfl
 ·cases s.a with
  |none=>rfl
  |some a=>simp[Addr.add]
theorem St.cap{sz:Nat}{s:Sl}{cs:List Value}(hsz:0<sz)(h:St F0 w0 w (qcc sz s cs::ps)):s.len<=s.cap:=by
 obtain⟨F,ho⟩:=h.own;rcases ho with⟨rfl,_,_⟩|⟨ob,rest,_,_,h2,h3,_⟩
 ·exact le_refl 0
 ·rw[length_append]at h3;have:s.len*sz<=s.cap*sz:=by omega
  exact Nat.le_of_mul_le_mul_right this hsz
theorem qgf.c{wb:Nat}{l:List Bool}{K:Ending->World->Prop}(h:St F0 w0 w (wrL wb l::ps))(hL:l.length<=274877906944)
 (hk:∀s w',s.len=(l.length+7)/8->s.cap=s.len->St F0 w0 w' (rdA 1 s (u8s (bytes l))::wrL wb l::ps)->K (.returned (.slice s.a s.len s.cap)) w'):Calls prog 98 ⟨[.pointer (some ⟨wb,0,none⟩)]⟩ w K:=by
 refine qdc (qgf.ok _ _ _ ?_)
 unfold qgf
 obtain⟨s,h⟩:=qerb h
 refine qkd (h.blk.ldL (o:=0) rfl ?_)
 refine qhd.c h h.at1.ord (by rw[qsh];omega) λs1 w h=>⟨s1,rfl,?_⟩
 refine qkd (h.blk1.ldI (o:=2) rfl ?_)
 refine quc (λh1=>?_) (λh1=>?_)
 ·refine qkd (h.blk1.ldI (o:=1) rfl ?_)
  refine qm (qmk _) ?_
  refine h.new λnb w h=>?_
  refine h.rdB rfl ?_
  have h:=h.drop
  refine h.append_u8 (by rw[qsh];omega) rfl λs2 w h=>?_
  have e:bytes l=byt (val l) (l.length/8)++[((val l/2^(8*(l.length/8)):Nat):Int)%256]:=by
   unfold bytes;rw[show(l.length+7)/8=l.length/8+1 by omega,qft];congr 1
  rw[<-e]at h
  have hcap:=h.cap (by decide)
  have hlen:=h.len
  rw[qjd,bytes,qsh]at hlen
  have h:=h.ro
  refine qad.c h hcap λs3 hs1 hs2 h=>⟨s3,rfl,hk s3 w (by omega) (by omega) ?_⟩
  exact h.tail λ_ _ _ h=>qsfb h
 ·have e:bytes l=byt (val l) (l.length/8):=by
   unfold bytes;rw[show(l.length+7)/8=l.length/8 by omega]
  have hcap:=h.cap (by decide)
  rw[<-e]at h
  have hlen:=h.len
  rw[qjd,bytes,qsh]at hlen
  have h:=h.ro
  refine qad.c h hcap λs3 hs1 hs2 h=>⟨s3,rfl,hk s3 w (by omega) (by omega) ?_⟩
  rw[e]at h|-
  exact h.tail λ_ _ _ h=>qsfb h
end
end
section
attribute [local irreducible] apK cpK mkK
def rrA(rb V N at':Nat):As:=exA λs:Sl=>andA (qqb rb [.slice s.a s.len s.cap,.int .i64 (at':Int)]) (qcc 1 s (u8s (byt V N)))
def getOk(N at':Nat)(n:Int):Bool:=decide (0<=n/\n<=24/\n<=8*(N:Int)-at')
theorem qnlb{V N i:Nat}(h:i<N):(u8s (byt V N))[i]?=some (.int .u8 ((V/2^(8*i)%256:Nat):Int)):=by
 simp[u8s,byt,h]
theorem queb(V at' k:Nat)(h:at'%8+k<=8):V/2^(8*(at'/8))%256/2^(at'%8)%2^k=V/2^at'%2^k:=by
 have e:V/2^at'=V/2^(8*(at'/8))/2^(at'%8):=by
  rw[Nat.div_div_eq_div_mul,<-pow_add];congr 2;omega
 rw[e];generalize V/2^(8*(at'/8))=X;generalize at'%8=r at h;have e2:(256:Nat)=2^r*(2^k*2^(8-r-k)):=by
  rw[<-pow_add,<-pow_add,show r+(k+(8-r-k))=8 by omega]
 rw[e2,Nat.mod_mul_right_div_self,Nat.mod_mul_right_mod]
theorem qteb(V a i k:Nat):V/2^a%2^i+V/2^(a+i)%2^k*2^i=V/2^a%2^(i+k):=by
 rw[pow_add 2 i k,Nat.mod_mul,Nat.div_div_eq_div_mul,<-pow_add,mul_comm]
section
variable {F0:List Nat}{w0 w:World}{ps:List As}
theorem qfnb{rb V N at':Nat}(h:St F0 w0 w (rrA rb V N at'::ps)):∃s:Sl,s.len=N/\St F0 w0 w (qqb rb [.slice s.a s.len s.cap,.int .i64 (at':Int)]::qcc 1 s (u8s (byt V N))::ps):=by
 obtain⟨s,h⟩:=h.exE;have h:=h.split;have hl:=h.at1.len;rw[qjd,qsh]at hl;exact⟨s,by omega,h⟩
theorem qmib{rb V N at':Nat}{s:Sl}(h:St F0 w0 w (qqb rb [.slice s.a s.len s.cap,.int .i64 (at':Int)]::qcc 1 s (u8s (byt V N))::ps)):St F0 w0 w (rrA rb V N at'::ps):=
 h.join.exI (p:=λs:Sl=>andA (qqb rb [.slice s.a s.len s.cap,.int .i64 (at':Int)]) (qcc 1 s (u8s (byt V N)))) s
theorem qii.c{V N:Nat}{s:Sl}{K:Ending->World->Prop}(h:St F0 w0 w ps)(hr:Rd w 1 s (u8s (byt V N)))(hN:N<=137438953472)
 (hk:∀rb w',St F0 w0 w' (rrA rb V N 0::ps)->K (.returned (.pointer (some ⟨rb,0,none⟩))) w'):Calls prog 142 ⟨[.slice s.a s.len s.cap]⟩ w K:=by
 refine qdc (qii.ok _ _ _ ?_)
 unfold qii
 refine qhd.c h hr (by rw[qsh];omega) λs' w h=>⟨s',rfl,?_⟩
 refine h.new λnb w h=>?_
 exact hk nb w (qmib h)
theorem qeh.c{rb V N at':Nat}{K:Ending->World->Prop}(h:St F0 w0 w (rrA rb V N at'::ps))(hN:N<=137438953472)(ha:at'<=8*N+8)
 (hk:∀w',St F0 w0 w' (rrA rb V N at'::ps)->K (.returned (.int .i64 (8*(N:Int)-at'))) w'):Calls prog 175 ⟨[.pointer (some ⟨rb,0,none⟩)]⟩ w K:=by
 refine qdc (qeh.ok _ _ _ ?_)
 unfold qeh
 refine h.drewK λw h=>?_
 obtain⟨s,hs,h⟩:=qfnb h
 refine qkd (h.blk.ldL (o:=0) rfl ?_)
 refine qm (qd (by omega) (by omega)) ?_
 refine qkd (h.blk.ldI (o:=1) rfl ?_)
 refine qm (qd (by omega) (by omega)) ?_
 rw[hs]
 rw[hs]at h
 exact hk w (qmib (by rw[hs];exact h))
theorem qhf.c{rb V N at':Nat}{K:Ending->World->Prop}(h:St F0 w0 w (rrA rb V N at'::ps))(ha:at'<=1099511627784)
 (hk:St F0 w0 w (rrA rb V N at'::ps)->K (.returned (.int .i64 ((at'+7)/8:Nat))) w):Calls prog 144 ⟨[.pointer (some ⟨rb,0,none⟩)]⟩ w K:=by
 refine qdc (qhf.ok _ _ _ ?_)
 unfold qhf
 obtain⟨s,hs,h⟩:=qfnb h
 refine qkd (h.blk.ldI (o:=1) rfl ?_)
 refine qm (qd (by omega) (by omega)) ?_
 refine⟨by decide,?_⟩
 rw[qno (by omega)]
 refine qm (qd (by omega) (by omega)) ?_
 have e:((at':Int)+7)/8=((at'+7)/8:Nat):=by omega
 rw[e]
 exact hk (qmib h)
theorem qlg.c{rb V N at':Nat}{K:Ending->World->Prop}(h:St F0 w0 w (rrA rb V N at'::ps))(ha:at'<=1099511627784)
 (hk:∀w',St F0 w0 w' (rrA rb V N (8*((at'+7)/8))::ps)->K (.returned (.tuple ⟨[]⟩)) w'):Calls prog 165 ⟨[.pointer (some ⟨rb,0,none⟩)]⟩ w K:=by
 refine qdc (qlg.ok _ _ _ ?_)
 unfold qlg
 refine qhf.c h ha λh=>⟨_,rfl,?_⟩
 refine qm (qd (by omega) (by omega)) ?_
 obtain⟨s,hs,h⟩:=qfnb h
 refine qkd (h.st (o:=1) (by simp) trivial λw h=>?_)
 have e:(8:Int)*((at'+7)/8:Nat)=(8*((at'+7)/8):Nat):=by omega
 rw[e]at h
 exact hk w (qmib h)
theorem qwb.loop{rb V N at' n:Nat}{Q:VWP}(h:St F0 w0 w (rrA rb V N at'::ps))(hN:N<=137438953472)(hn:n<=24)(ha:at'+n<=8*N)
 (hq:∀w',St F0 w0 w' (rrA rb V N (at'+n)::ps)->Q (.tuple ⟨[.int .i64 (V/2^at'%2^n:Nat),.bool true]⟩) w'):qwb.l1 (some ⟨rb,0,none⟩) n 0 0 Q w:=by
 refine qug (λ(i:Nat) (v i':Int) w=>i'=i/\i<=n/\v=(V/2^at'%2^i:Nat)/\St F0 w0 w (rrA rb V N (at'+i)::ps)) (λi=>n-i) 0 ⟨rfl,by omega,by simp[Nat.mod_one],h⟩ ?_
 clear h
 rintro i v i' w I μ ⟨rfl,hi,rfl,h⟩ hin
 unfold qwb.b1
 refine quc (λh1=>?_) (λh1=>?_)
 ·obtain⟨s,hs,h⟩:=qfnb h
  refine qkd (h.blk.ldI (o:=1) rfl ?_)
  refine⟨by decide,?_⟩
  refine qm (qzk (by omega)) ?_
  refine qm (qd (by omega) (by omega)) ?_
  refine qm (qd (by omega) (by omega)) ?_
  obtain⟨k,hk,hk8,hkn,hk0⟩:∃k:Nat,(if(n:Int)-i<8-((at'+i:Nat):Int)%8 then(n:Int)-i else 8-((at'+i:Nat):Int)%8)=(k:Int)/\(at'+i)%8+k<=8/\i+k<=n/\0<k:=by
   split
   ·exact⟨n-i,by omega,by omega,by omega,by omega⟩
   ·exact⟨8-(at'+i)%8,by omega,by omega,by omega,by omega⟩
  refine qm hk ?_
  refine h.drewK λw h=>?_
  refine qkd (h.blk.ldL (o:=0) rfl ?_)
  refine qkd (h.blk.ldI (o:=1) rfl ?_)
  refine⟨by decide,?_⟩
  rw[qno (by omega)]
  refine qm (qd (by omega) (by omega)) ?_
  have hr:=h.at1.ord
  have hlt:(at'+i)/8<N:=by omega
  refine hr.ix (by decide) (by omega) (by omega) λa ha=>?_
  have ei:(((at'+i:Nat):Int)/8).toNat*1=(at'+i)/8:=by omega
  rw[ei]
  refine hr.ldI ha (qnlb hlt) ?_
  have hbyte:V/2^(8*((at'+i)/8))%256<256:=mod_lt _ (by decide)
  refine qm (qd (by omega) (by omega)) ?_
  refine qkd (h.blk.ldI (o:=1) rfl ?_)
  refine⟨by decide,?_⟩
  refine qm (qzk (by omega)) ?_
  refine⟨by omega,?_⟩
  have em:((at'+i:Nat):Int)%8=((at'+i)%8:Nat):=by omega
  rw[em]
  refine qm (qmi .i64 _ (t:=(at'+i)%8) (by show _<=64;omega)) ?_
  refine⟨by omega,?_⟩
  have hk24:k<=24:=by omega
  have hpk:(2:Nat)^k<=2^24:=pow_le_pow_right (by decide) hk24
  have ep:((2^k:Nat):Int)=2^k:=by simp
  have hp0:(0:Int)<2^k:=pow_pos (by decide)
  refine qm (qmj .i64 (show k<=64 by omega) (by omega) (by show(1:Int)*2^k<2^63;omega)) ?_
  rw[Int.one_mul]
  refine qm (qd (by omega) (by omega)) ?_
  refine qm (qsk .i64 _ (show k<64 by omega)) ?_
  have eb:((V/2^(8*((at'+i)/8))%256:Nat):Int)/2^((at'+i)%8)%2^k=((V/2^(at'+i)%2^k:Nat):Int):=by
   rw[<-queb V (at'+i) k hk8];simp
  rw[eb]
  refine⟨by omega,?_⟩
  have hx:V/2^(at'+i)%2^k<2^k:=mod_lt _ (Nat.pow_pos (by decide))
  have hy:V/2^at'%2^i<2^i:=mod_lt _ (Nat.pow_pos (by decide))
  have hpi:(2:Nat)^i<=2^24:=pow_le_pow_right (by decide) (by omega)
  have hm:V/2^(at'+i)%2^k*2^i<=2^24*2^24:=Nat.mul_le_mul (by omega) hpi
  have ex:((V/2^(at'+i)%2^k*2^i:Nat):Int)=((V/2^(at'+i)%2^k:Nat):Int)*2^i:=by simp
  refine qm (qmj .i64 (show i<=64 by omega) (by omega) (by rw[<-ex];show _<2^63;omega)) ?_
  refine qm (qvr .i64 hy (by show _<2^63;omega)) ?_
  have es:((V/2^at'%2^i:Nat):Int)+((V/2^(at'+i)%2^k:Nat):Int)*2^i=((V/2^at'%2^(i+k):Nat):Int):=by
   rw[<-ex,<-Int.natCast_add,qteb]
  refine qm (qd (by omega) (by omega)) ?_
  refine qkd (h.blk.ldI (o:=1) rfl ?_)
  refine qm (qd (by omega) (by omega)) ?_
  refine qkd (h.st (o:=1) (by simp) trivial λw h=>?_)
  refine⟨⟨rfl,rfl⟩,hin (i+k) _ _ _ ⟨by simp,hkn,es,?_⟩ (by omega)⟩
  have e:((at'+i:Nat):Int)+k=((at'+(i+k):Nat):Int):=by omega
  rw[e]at h
  exact qmib h
 ·have:i=n:=by omega
  subst this
  exact hq w h
theorem qwb.c{rb V N at':Nat}{n:Int}{K:Ending->World->Prop}(h:St F0 w0 w (rrA rb V N at'::ps))(hN:N<=137438953472)(ha:at'<=8*N+8)
 (hk:getOk N at' n=true->∀w',St F0 w0 w' (rrA rb V N (at'+n.toNat)::ps)->K (.returned (.tuple ⟨[.int .i64 (V/2^at'%2^n.toNat:Nat),.bool true]⟩)) w')
 (hk':getOk N at' n=false->∀w',St F0 w0 w' (rrA rb V N at'::ps)->K (.returned (.tuple ⟨[.int .i64 0,.bool false]⟩)) w'):
 Calls prog 164 ⟨[.pointer (some ⟨rb,0,none⟩),.int .i64 n]⟩ w K:=by
 refine qdc (qwb.ok _ _ _ _ ?_)
 unfold qwb qwb.j1
 refine quc (λh1=>?_) (λh1=>?_)
 ·exact hk' (by simp[getOk];omega) w h
 refine quc (λh2=>?_) (λh2=>?_)
 ·exact hk' (by simp[getOk];omega) w h
 refine qeh.c h hN ha λw h=>⟨_,rfl,?_⟩
 refine quc (λh3=>?_) (λh3=>?_)
 ·exact hk' (by simp[getOk];omega) w h
 obtain⟨t,rfl⟩:∃t:Nat,n=t:=⟨n.toNat,by omega⟩
 exact qwb.loop h hN (by omega) (by omega) (hk (by simp[getOk];omega))
end
end
section
attribute [local irreducible] apK cpK mkK
def u8(xs:List Int):List UInt8:=xs.map λx=>UInt8.ofNat x.toNat
theorem byt_ok(V N:Nat):∀x∈byt V N,0<=x/\x<256:=by
 intro x hx;obtain⟨i,_,rfl⟩:=mem_map.1 hx;omega
theorem Rd.btS{w:World}{s:Sl}{xs:List Int}{K:ByteArray->Prop}(h:Rd w 1 s (u8s xs))(hx:∀x∈xs,0<=x/\x<256)(hk:K ⟨⟨u8 xs⟩⟩):btS w s.a s.len K:=by
 have hl:=h.1;rw[qjd,mul_one]at hl;unfold Go.Proofs.YtdccpphmkfaioaaGreat.btS;cases e:s.a with
 |none=>
  cases xs with
  |nil=>exact hk
  |cons x xs=>
   obtain⟨a,ha,_⟩:=h.2 0 (by simp[u8s]);rw[e]at ha;cases ha
 |some a=>
  refine⟨u8 xs,by simp[u8,hl],λj hj=>?_,hk⟩;rw[h.cell e (by rw[qjd];omega)];have hj':j<xs.length:=by omega
  simp only[u8s,u8,List.getElem?_map,getElem?_eq_getElem hj',map_some];have:=hx _ (getElem_mem hj');congr 2;rw[UInt8.toNat_ofNat'];omega
theorem qmw(v:Int)(a b:Nat):ql v (a+b)=ql v a++ql (v/2^a) b:=by
 unfold ql;rw[List.range_add,List.map_append,map_map];congr 1;apply map_congr_left;intro i _;simp only[Function.comp,bt];congr 2;have h:(0:Int)<=2^a:=le_of_lt (pow_pos (by decide));rw[Int.pow_add,Int.ediv_ediv_of_nonneg h]
end
section
set_option maxRecDepth 100000
def qwe(r_0:OAd)(Q:VWP)(w:World):Prop:=nz r_0 λa1=>ldI .i64 w (Addr.add a1 1) λx2=>lt (i64.wrap (x2+7)) λx3=>(8:Int)≠0/\lt (i64.wrap (tdiv x3 8)) λx4=>lt (i64.wrap (x4*8)) λx5=>nz r_0 λa6=>st w (Addr.add a6 1) (.int .i64 x5) λw7=>Q (.tuple ⟨[]⟩) w7
theorem qwe.ok(r_0:OAd)(Q:VWP)(w:World)(h:qwe r_0 Q w):Calls prog 136 ⟨[.pointer r_0]⟩ w (Ret Q):=
 qhc [] qde Tryz.func136 rfl rfl rfl rfl .lf (by kernel_rfl) h
def qcb.j3(r_0:OAd)(n_1:Int)(v_6:Int)(Q:VWP)(w:World):Prop:=nz r_0 λa1=>ldI .i64 w (Addr.add a1 1) λx2=>lt (i64.wrap (x2+n_1)) λx3=>nz r_0 λa4=>st w (Addr.add a4 1) (.int .i64 x3) λw5=>Q (.tuple ⟨[.int .i64 v_6,.bool true]⟩) w5
def qcb.b1(r_0:OAd)(n_1:Int)(v_6 i_7:Int)(Q:VWP)(nx1:OAd->Int->Int->Int->WP)(w:World):Prop:=br (decide (i_7<n_1)) (nz r_0 λa6=>ldI .i64 w (Addr.add a6 1) λx7=>lt (i64.wrap (x7+i_7)) λx8=>nz r_0 λa9=>ldL w (Addr.add a9 0) λx10=>(8:Int)≠0/\lt (i64.wrap (tdiv x8 8)) λx11=>ixS x10.a x10.len x11 1 λa12=>ldI .u8 w a12 λx13=>(8:Int)≠0/\lt (tmod x8 8) λx14=>lt (u64.wrap x14) λx15=>(0:Int)<=x15/\lt (qal .u8 x13 x15) λx16=>lt (qdj .u8 x16 1) λx17=>lt (i64.wrap x17) λx18=>lt (u64.wrap i_7) λx19=>(0:Int)<=x19/\lt (qzi .i64 x18 x19) λx20=>lt (orV .i64 v_6 x20) λx21=>lt (i64.wrap (i_7+1)) λx22=>nx1 r_0 n_1 x21 x22 w) (qcb.j3 r_0 n_1 v_6 Q w)
def qcb.l1(r_0:OAd)(n_1:Int)(v_6 i_7:Int)(Q:VWP)(w:World):Prop:=∃(I:Int->Int->WP) (μ:Int->Int->World->Nat),I v_6 i_7 w/\∀v_6:Int,∀i_7:Int,∀w:World,I v_6 i_7 w->qcb.b1 r_0 n_1 v_6 i_7 Q (λr_0' n_1' v_6' i_7' w'=>(r_0'=r_0/\n_1'=n_1)/\I v_6' i_7' w'/\μ v_6' i_7' w'<μ v_6 i_7 w) w
def qcb.j4(r_0:OAd)(n_1:Int)(v_6 i_7:Int)(Q:VWP)(w:World):Prop:=qcb.l1 r_0 n_1 v_6 i_7 Q w
def qcb.j2(r_0:OAd)(n_1:Int)(v_6:Int)(Q:VWP)(w:World):Prop:=qcb.j4 r_0 n_1 v_6 0 Q w
def qcb.j1(r_0:OAd)(n_1:Int)(Q:VWP)(w:World):Prop:=br (decide (n_1<0)) (Q (.tuple ⟨[.int .i64 0,.bool false]⟩) w) (br (decide (n_1>24)) (Q (.tuple ⟨[.int .i64 0,.bool false]⟩) w) (qbk 152 [.pointer r_0] w λr25 w24=>br (decide (n_1>r25)) (Q (.tuple ⟨[.int .i64 0,.bool false]⟩) w24) (qcb.j2 r_0 n_1 0 Q w24)))
def qcb(r_0:OAd)(n_1:Int)(Q:VWP)(w:World):Prop:=qcb.j1 r_0 n_1 Q w
theorem qcb.ok(r_0:OAd)(n_1:Int)(Q:VWP)(w:World)(h:qcb r_0 n_1 Q w):Calls prog 135 ⟨[.pointer r_0,.int .i64 n_1]⟩ w (Ret Q):=
 qhc [.tmp 4,.tmp 5] qde Tryz.func135 rfl rfl rfl rfl (.sq [sP 0,sI 1] (λa b w=>qcb.j1 a b Q w) .lf (.pr 1 [sP 0,sI 1,sI 6] (λa b c w=>qcb.j2 a b c Q w) (.sq [sP 0,sI 1,sI 6] (λa b c w=>qcb.j3 a b c Q w) (.sq [sP 0,sI 1,sI 6,sI 7] (λa b c d w=>qcb.j4 a b c d Q w) .lf (.bk (.lo [sP 0,sI 1] [sI 6,sI 7] (λa b c d w=>qcb.l1 a b c d Q w) (λnx1 a b c d w=>qcb.b1 a b c d Q nx1 w) λnx1=> .lf))) .lf))) (by kernel_rfl) h
def qaf(r_0:OAd)(Q:VWP)(w:World):Prop:=lt (World.drew w) λw1=>nz r_0 λa2=>ldL w1 (Addr.add a2 0) λx3=>lt (i64.wrap (8*(x3.len:Int))) λx4=>nz r_0 λa5=>ldI .i64 w1 (Addr.add a5 1) λx6=>lt (i64.wrap (x4-x6)) λx7=>Q (.int .i64 x7) w1
theorem qaf.ok(r_0:OAd)(Q:VWP)(w:World)(h:qaf r_0 Q w):Calls prog 152 ⟨[.pointer r_0]⟩ w (Ret Q):=
 qhc [.tmp 2] qde Tryz.func152 rfl rfl rfl rfl .lf (by kernel_rfl) h
def qne(r_0:OAd)(Q:VWP)(w:World):Prop:=nz r_0 λa1=>ldI .i64 w (Addr.add a1 1) λx2=>lt (i64.wrap (x2+7)) λx3=>(8:Int)≠0/\lt (i64.wrap (tdiv x3 8)) λx4=>Q (.int .i64 x4) w
theorem qne.ok(r_0:OAd)(Q:VWP)(w:World)(h:qne r_0 Q w):Calls prog 84 ⟨[.pointer r_0]⟩ w (Ret Q):=
 qhc [.tmp 2] qde Tryz.func84 rfl rfl rfl rfl .lf (by kernel_rfl) h
end
section
attribute [local irreducible] apK cpK mkK
theorem qhqb:∀(xs:List Int),(∀x∈xs,0<=x/\x<256)->∃V,xs=byt V xs.length
 |[],_=>⟨0,rfl⟩
 |x::xs,h=>by
  obtain⟨V,hV⟩:=qhqb xs (λy hy=>h y (by simp[hy]));refine⟨x.toNat+256*V,?_⟩;have hx:=h x (by simp);unfold byt at hV|-
  rw[length_cons,List.range_succ_eq_map,map_cons,map_map];congr 1
  ·simp;omega
  ·refine hV.trans ?_;apply map_congr_left;intro i _;simp only[Function.comp];congr 1;rw[show 8*i.succ=8+8*i by omega,pow_add,<-Nat.div_div_eq_div_mul];congr 2;have:(x.toNat+256*V)/2^8=V:=by omega
   rw[this]
section
variable {F0:List Nat}{w0 w:World}{ps:List As}
def rfA(rb:Nat)(s:Sl)(at':Nat):As:=qqb rb [.slice s.a s.len s.cap,.int .i64 (at':Int)]
theorem qaf.c{rb at':Nat}{s:Sl}{K:Ending->World->Prop}(h:St F0 w0 w (rfA rb s at'::ps))(hN:s.len<=137438953472)(ha:at'<=8*s.len+8)
 (hk:∀w',St F0 w0 w' (rfA rb s at'::ps)->K (.returned (.int .i64 (8*(s.len:Int)-at'))) w'):Calls prog 152 ⟨[.pointer (some ⟨rb,0,none⟩)]⟩ w K:=by
 refine qdc (qaf.ok _ _ _ ?_)
 unfold qaf
 refine h.drewK λw h=>?_
 refine qkd (h.blk.ldL (o:=0) rfl ?_)
 refine qm (qd (by omega) (by omega)) ?_
 refine qkd (h.blk.ldI (o:=1) rfl ?_)
 refine qm (qd (by omega) (by omega)) ?_
 exact hk w h
theorem qne.c{rb at':Nat}{s:Sl}{K:Ending->World->Prop}(h:St F0 w0 w (rfA rb s at'::ps))(ha:at'<=1099511627784)
 (hk:K (.returned (.int .i64 ((at'+7)/8:Nat))) w):Calls prog 84 ⟨[.pointer (some ⟨rb,0,none⟩)]⟩ w K:=by
 refine qdc (qne.ok _ _ _ ?_)
 unfold qne
 refine qkd (h.blk.ldI (o:=1) rfl ?_)
 refine qm (qd (by omega) (by omega)) ?_
 refine⟨by decide,?_⟩
 rw[qno (by omega)]
 refine qm (qd (by omega) (by omega)) ?_
 have e:((at':Int)+7)/8=((at'+7)/8:Nat):=by omega
 rw[e]
 exact hk
theorem qwe.c{rb at':Nat}{s:Sl}{K:Ending->World->Prop}(h:St F0 w0 w (rfA rb s at'::ps))(ha:at'<=1099511627784)
 (hk:∀w',St F0 w0 w' (rfA rb s (8*((at'+7)/8))::ps)->K (.returned (.tuple ⟨[]⟩)) w'):Calls prog 136 ⟨[.pointer (some ⟨rb,0,none⟩)]⟩ w K:=by
 refine qdc (qwe.ok _ _ _ ?_)
 unfold qwe
 refine qkd (h.blk.ldI (o:=1) rfl ?_)
 refine qm (qd (by omega) (by omega)) ?_
 refine⟨by decide,?_⟩
 rw[qno (by omega)]
 refine qm (qd (by omega) (by omega)) ?_
 refine qm (qd (by omega) (by omega)) ?_
 refine qkd (h.st (o:=1) (by simp) trivial λw h=>?_)
 have e:((at':Int)+7)/8*8=(8*((at'+7)/8):Nat):=by omega
 rw[e]at h
 exact hk w h
theorem qcb.loop{rb V N at' n:Nat}{s:Sl}{Q:VWP}(h:St F0 w0 w (rfA rb s at'::ps))(hr:∀w',St F0 w0 w' (rfA rb s at'::ps)->Rd w' 1 s (u8s (byt V N)))(hN:N<=137438953472)(hn:n<=24)(ha:at'+n<=8*N)
 (hq:∀w',St F0 w0 w' (rfA rb s (at'+n)::ps)->Q (.tuple ⟨[.int .i64 (V/2^at'%2^n:Nat),.bool true]⟩) w'):qcb.l1 (some ⟨rb,0,none⟩) n 0 0 Q w:=by
 refine qug (λ(i:Nat) (v i':Int) w=>i'=i/\i<=n/\v=(V/2^at'%2^i:Nat)/\St F0 w0 w (rfA rb s at'::ps)) (λi=>n-i) 0 ⟨rfl,by omega,by simp[Nat.mod_one],h⟩ ?_
 clear h
 rintro i v i' w I μ ⟨rfl,hi,rfl,h⟩ hin
 have hr:=hr w h
 have hs:=hr.1
 rw[qjd,qsh]at hs
 unfold qcb.b1
 refine quc (λh1=>?_) (λh1=>?_)
 ·refine qkd (h.blk.ldI (o:=1) rfl ?_)
  refine qm (qd (by omega) (by omega)) ?_
  refine qkd (h.blk.ldL (o:=0) rfl ?_)
  refine⟨by decide,?_⟩
  rw[qno (by omega)]
  refine qm (qd (by omega) (by omega)) ?_
  have hlt:(at'+i)/8<N:=by omega
  refine hr.ix (by decide) (by omega) (by omega) λa ha=>?_
  have ei:(((at':Int)+i)/8).toNat*1=(at'+i)/8:=by omega
  rw[ei]
  refine hr.ldI ha (qnlb hlt) ?_
  have hbyte:V/2^(8*((at'+i)/8))%256<256:=mod_lt _ (by decide)
  refine⟨by decide,?_⟩
  refine qm (qzk (by omega)) ?_
  have em:((at':Int)+i)%8=((at'+i)%8:Nat):=by omega
  rw[em]
  refine qm (show u64.wrap (((at'+i)%8:Nat):Int)=((at'+i)%8:Nat)by rw[qgh];omega) ?_
  refine⟨by omega,?_⟩
  refine qm (qmi .u8 _ (t:=(at'+i)%8) (by show _<=8;omega)) ?_
  refine qm (qaz .u8 _) ?_
  have eb:((V/2^(8*((at'+i)/8))%256:Nat):Int)/2^((at'+i)%8)%2=((V/2^(at'+i)%2:Nat):Int):=by
   have:=queb V (at'+i) 1 (by omega);rw[Nat.pow_one]at this
   rw[<-this];simp
  rw[eb]
  have hx:V/2^(at'+i)%2<2:=mod_lt _ (by decide)
  refine qm (qd (by omega) (by omega)) ?_
  refine qm (show u64.wrap (i:Int)=i by rw[qgh];omega) ?_
  refine⟨by omega,?_⟩
  have hy:V/2^at'%2^i<2^i:=mod_lt _ (Nat.pow_pos (by decide))
  have hpi:(2:Nat)^i<=2^24:=pow_le_pow_right (by decide) (by omega)
  have hm:V/2^(at'+i)%2*2^i<=2*2^24:=Nat.mul_le_mul (by omega) hpi
  have ex:((V/2^(at'+i)%2*2^i:Nat):Int)=((V/2^(at'+i)%2:Nat):Int)*2^i:=by simp
  refine qm (qmj .i64 (show i<=64 by omega) (by omega) (by rw[<-ex];show _<2^63;omega)) ?_
  refine qm (qvr .i64 hy (by show _<2^63;omega)) ?_
  have es:((V/2^at'%2^i:Nat):Int)+((V/2^(at'+i)%2:Nat):Int)*2^i=((V/2^at'%2^(i+1):Nat):Int):=by
   have:=qteb V at' i 1;rw[Nat.pow_one]at this
   rw[<-ex,<-Int.natCast_add,this]
  refine qm (qd (by omega) (by omega)) ?_
  exact⟨⟨rfl,rfl⟩,hin (i+1) _ _ _ ⟨by simp,by omega,es,h⟩ (by omega)⟩
 ·have:i=n:=by omega
  subst this
  unfold qcb.j3
  refine qkd (h.blk.ldI (o:=1) rfl ?_)
  refine qm (qd (by omega) (by omega)) ?_
  refine qkd (h.st (o:=1) (by simp) trivial λw h=>?_)
  have e:(at':Int)+i=((at'+i:Nat):Int):=by omega
  rw[e]at h
  exact hq w h
theorem qcb.c{rb V N at':Nat}{s:Sl}{n:Int}{K:Ending->World->Prop}(h:St F0 w0 w (rfA rb s at'::ps))(hr:∀w',St F0 w0 w' (rfA rb s at'::ps)->Rd w' 1 s (u8s (byt V N)))(hN:N<=137438953472)(ha:at'<=8*N)
 (hk:getOk N at' n=true->∀w',St F0 w0 w' (rfA rb s (at'+n.toNat)::ps)->K (.returned (.tuple ⟨[.int .i64 (V/2^at'%2^n.toNat:Nat),.bool true]⟩)) w')
 (hk':getOk N at' n=false->∀w',St F0 w0 w' (rfA rb s at'::ps)->K (.returned (.tuple ⟨[.int .i64 0,.bool false]⟩)) w'):
 Calls prog 135 ⟨[.pointer (some ⟨rb,0,none⟩),.int .i64 n]⟩ w K:=by
 have hs:=(hr w h).1
 rw[qjd,qsh]at hs
 refine qdc (qcb.ok _ _ _ _ ?_)
 unfold qcb qcb.j1
 refine quc (λh1=>?_) (λh1=>?_)
 ·exact hk' (by simp[getOk];omega) w h
 refine quc (λh2=>?_) (λh2=>?_)
 ·exact hk' (by simp[getOk];omega) w h
 refine qaf.c h (by omega) (by omega) λw h=>⟨_,rfl,?_⟩
 refine quc (λh3=>?_) (λh3=>?_)
 ·exact hk' (by simp[getOk];omega) w h
 obtain⟨t,rfl⟩:∃t:Nat,n=t:=⟨n.toNat,by omega⟩
 exact qcb.loop h hr hN (by omega) (by omega) (hk (by simp[getOk];omega))
end
end
section
attribute [local irreducible] apK cpK mkK
theorem qrmb{k:IntKind}(hk:k.signed=false)(x:Int):k.wrap x=x%2^k.bits:=by
 simp[IntKind.wrap,hk]
theorem qiz{k:IntKind}(hk:k.signed=false){n:Nat}(h:n<2^k.bits):k.wrap (n:Int)=n:=by
 rw[qrmb hk];exact Int.emod_eq_of_lt (by omega) (by exact_mod_cast h)
theorem qunb{k:IntKind}(hk:k.signed=false){a b:Nat}(ha:a<2^k.bits)(hb:b<2^k.bits):orV k (a:Int) (b:Int)=((a|||b:Nat):Int):=by
 unfold orV;rw[BitVec.toNat_or,qwj _ _ ha,qwj _ _ hb];exact qiz hk (Nat.or_lt_two_pow ha hb)
theorem qxs{k:IntKind}(hk:k.signed=false){a b:Nat}{t:Nat}(ha:a<2^t)(hs:a+b*2^t<2^k.bits):orV k (a:Int) ((b:Int)*2^t)=(a:Int)+(b:Int)*2^t:=by
 have e:(b:Int)*2^t=((b*2^t:Nat):Int):=by simp
 rw[e,qunb hk (by omega) (by omega),Nat.or_comm];have:=Nat.two_pow_add_eq_or_of_lt ha b;rw[mul_comm b,<-this];simp;omega
theorem qgib{k:IntKind}(hk:k.signed=false){x:Nat}{t:Nat}(ht:t<=k.bits)(hs:x*2^t<2^k.bits):qzi k (x:Int) (t:Int)=(x:Int)*2^t:=by
 unfold qzi;rw[toNat_natCast,Nat.min_eq_left ht];have e:(x:Int)*2^t=((x*2^t:Nat):Int):=by simp
 rw[e,qiz hk hs]
section
variable {F0:List Nat}{w0 w:World}{ps:List As}
theorem St.append1{P:Program}{e:TypeId}{i:TypeInfo}{z v:Value}{s:Sl}{cs:List Value}{c:Array Value}{K:Sl->World->Prop}
 (hi:P.info? e=some i) (hsz:i.size=1) (hz:zc P e=#[z]) (hb0:i.bytes≠0) (hb:i.bytes<=16)
 (h:St F0 w0 w (qcc 1 s cs::ps)) (hlen:cs.length<=1099511627776) (hc:c=⟨[v]⟩) (hv:qfe v)
 (hk:∀s' w',St F0 w0 w' (qcc 1 s' (cs++[v])::ps)->K s' w'):apK P e w s.a s.len s.cap 1 c K:=by
 subst hc
 have hl:=h.len
 refine St.append (i:=i) (sz:=1) (m:=1) hi hsz (by decide) (by rw[hz];rfl) hb0 ?_ h (by rfl) (by simpa using hv) (λs' w' h _=>hk s' w' h)
 refine le_trans (Nat.mul_le_mul_left _ hb) ?_
 have hl2:s.len<=1099511627776:=by omega
 clear hk h
 generalize s.len=n at hl2
 omega
theorem St.setO{sz:Nat}{s:Sl}{cs:List Value}{i:Nat}{v:Value}{a:Addr}{K:World->Prop}(h:St F0 w0 w (qcc sz s cs::ps))(ha:s.a=some a)(hi:i<cs.length)(hs:qfe v)
 (hk:∀w',St F0 w0 w' (qcc sz s (cs.set i v)::ps)->K w'):Go.Proofs.YtdccpphmkfaioaaGreat.st w (a.add i) v K:=by
 obtain⟨f,ho,hstep⟩:=h.step
 rcases ho with⟨rfl,rfl,_⟩|⟨ob,rest,h1,hb,h2,h3,rfl⟩
 ·simp at hi
 ·rw[h1]at ha
  cases ha
  rw[qyf,zero_add]
  refine hb.st (by rw[length_append];omega) hs λw' hm hb'=>hk w' (hstep w' [ob] _ hm (Gr.refl _ _) (Or.inr ⟨ob,rest,h1,?_,by simpa using h2,by simpa using h3,rfl⟩))
  rw[List.set_append_left _ _ hi]at hb'
  exact hb'
theorem qlx(n:Nat)(z:Value):qqm n [z]=replicate n z:=by
 induction n with
 |zero=>rfl
 |succ n ih=>rw[qqm,ih,List.replicate_succ];rfl
theorem St.make1{P:Program}{e:TypeId}{z:Value}{n:Nat}{l c:Int}{K:Sl->World->Prop}(hz:zc P e=#[z])(hl:l=n)(hc:c=n)(hn:n<=1099511627776)(hb:P.bytesOf e<=16)(h:St F0 w0 w ps)
 (hk:∀s w',s.len=n->s.cap=n->St F0 w0 w' (qcc 1 s (replicate n z)::ps)->K s w'):mkK P e w l c K:=by
 subst hl hc
 unfold mkK
 refine⟨⟨by omega,by omega,by omega,?_⟩,?_⟩
 ·have:P.bytesOf e*n<=16*n:=mul_le_mul_right _ hb
  have e2:((P.bytesOf e:Int)*(n:Int))=((P.bytesOf e*n:Nat):Int):=by simp
  rw[e2]
  have:((P.bytesOf e*n:Nat):Int)<=((16*n:Nat):Int):=by exact_mod_cast this
  have h3:(2:Int)^48=281474976710656:=by decide
  omega
 ·refine hk ⟨newAt w,_,_⟩ _ (by simp) (by simp) ?_
  rw[hz]
  refine h.add (f':=[w.heap.size]) (Mod.alloc _ _) (Or.inr ⟨w.heap.size,[],rfl,?_,by simp,by simp,rfl⟩) (λx hx=>Or.inr (by have:x=w.heap.size:=(by simpa using hx);omega))
  have:=Blk.new w (qqm ((n:Int)).toNat #[z].toList) e
  rw[append_nil]
  rw[toNat_natCast]at this|-
  rw[show(#[z]:Array Value).toList=[z]from rfl,qlx]at this|-
  exact this
end
section
variable {F0:List Nat}{w0 w:World}{ps:List As}
theorem qzhb(xs:List Int)(i:Nat)(v:Int):(u8s xs).set i (.int .u8 v)=u8s (xs.set i v):=by
 unfold u8s;rw[List.map_set]
end
end
section
attribute [local irreducible] apK cpK mkK
class PkA(p:As)(ps:List As)(rest:outParam (List As)):Prop where
 pk:∀{F0:List Nat} {w0 w:World},St F0 w0 w ps->St F0 w0 w (p::rest)
instance PkA.tl{p q:As}{ps rest:List As}[i:PkA p ps rest]:PkA p (q::ps) (q::rest):=⟨λh=>(h.tail λ_ _ _ h=>i.pk h).at1⟩
instance PkA.hd{p:As}{ps:List As}:PkA p (p::ps) ps:=⟨id⟩
class PkB(b:Nat)(ps:List As)(l:outParam (List Value))(rest:outParam (List As)):Prop where
 pk:∀{F0:List Nat} {w0 w:World},St F0 w0 w ps->St F0 w0 w (qqb b l::rest)
instance PkB.tl{b:Nat}{l:List Value}{q:As}{ps rest:List As}[i:PkB b ps l rest]:PkB b (q::ps) l (q::rest):=⟨λh=>(h.tail λ_ _ _ h=>i.pk h).at1⟩
instance PkB.hd{b:Nat}{l:List Value}{ps:List As}:PkB b (qqb b l::ps) l ps:=⟨id⟩
class PkO(s:Sl)(ps:List As)(sz:outParam Nat)(cs:outParam (List Value))(rest:outParam (List As)):Prop where
 pk:∀{F0:List Nat} {w0 w:World},St F0 w0 w ps->St F0 w0 w (qcc sz s cs::rest)
instance PkO.tl{s:Sl}{sz:Nat}{cs:List Value}{q:As}{ps rest:List As}[i:PkO s ps sz cs rest]:PkO s (q::ps) sz cs (q::rest):=⟨λh=>(h.tail λ_ _ _ h=>i.pk h).at1⟩
instance PkO.hd{s:Sl}{sz:Nat}{cs:List Value}{ps:List As}:PkO s (qcc sz s cs::ps) sz cs ps:=⟨id⟩
class Sub(ps qs:List As):Prop where
 sub:∀{F0:List Nat} {w0 w:World},St F0 w0 w ps->St F0 w0 w qs
instance (priority:=100) Sub.dr {q:As} {ps qs:List As} [i:Sub ps qs]:Sub (q::ps) qs:=⟨λh=>i.sub h.drop⟩
instance (priority:=500) Sub.cons {p:As} {ps rest qs:List As} [i:PkA p ps rest] [j:Sub rest qs]:Sub ps (p::qs):=⟨λh=>(i.pk h).tail λ_ _ _ h=>j.sub h⟩
instance (priority:=2000) Sub.refl {ps:List As}:Sub ps ps:=⟨id⟩
class Rdb(F0:List Nat)(w0:World)(s:Sl)(ps:List As)(sz:outParam Nat)(cs:outParam (List Value)):Prop where
 rd:∀{w:World},St F0 w0 w ps->Rd w sz s cs
instance Rdb.tl{F0:List Nat}{w0:World}{s:Sl}{q:As}{ps:List As}{sz:Nat}{cs:List Value}[i:Rdb F0 w0 s ps sz cs]:Rdb F0 w0 s (q::ps) sz cs:=⟨λh=>i.rd h.drop⟩
instance Rdb.own{F0:List Nat}{w0:World}{s:Sl}{ps:List As}{sz:Nat}{cs:List Value}:Rdb F0 w0 s (qcc sz s cs::ps) sz cs:=⟨λh=>h.ord⟩
instance Rdb.rdo{F0:List Nat}{w0:World}{s:Sl}{ps:List As}{sz:Nat}{cs:List Value}:Rdb F0 w0 s (rdA sz s cs::ps) sz cs:=⟨λh=>h.rd⟩
theorem Rdb.nil{F0:List Nat}{w0:World}{ps:List As}(n:Nat):Rdb F0 w0 ⟨none,0,n⟩ ps 1 []:=⟨λh=>⟨rfl,λi hi=>by simp at hi⟩⟩
theorem Rd.cut{w:World}{sz n m:Nat}{s:Sl}{cs:List Value}(h:Rd w sz s cs)(hsz:0<sz)(hm:m<=s.len)(hn:n<=m)(hc:s.len<=s.cap)(c':Nat):Rd w sz ⟨qnf s.a s.cap n sz,m-n,c'⟩ ((cs.drop (n*sz)).take ((m-n)*sz)):=by
 have hl:=h.1;have hms:m*sz<=s.len*sz:=mul_le_mul_right _ hm;have hns:(m-n)*sz=m*sz-n*sz:=Nat.sub_mul _ _ _;have hnm:n*sz<=m*sz:=mul_le_mul_right _ hn;refine⟨by rw[length_take,length_drop,hl];show _=(m-n)*sz;omega,λi hi=>?_⟩;rw[length_take,length_drop,hl]at hi;have hne:¬s.cap=n:=by
  intro e;have:m-n=0:=by omega
  rw[this]at hi;simp at hi
 obtain⟨a,ha,hcell⟩:=h.2 (n*sz+i) (by omega);refine⟨a.add (n*sz),?_,?_⟩
 ·show qnf s.a s.cap n sz=_;unfold qnf;rw[if_neg hne,ha];rfl
 ·rw[qgs,hcell,List.getElem?_take,if_pos (by omega),List.getElem?_drop]
class GetL(l:List Value)(o:Nat)(v:outParam Value):Prop where
 get:l[o]?=some v
instance GetL.z{v:Value}{l:List Value}:GetL (v::l) 0 v:=⟨rfl⟩
instance GetL.s{v u:Value}{l:List Value}{n:Nat}[i:GetL l n v]:GetL (u::l) (n+1) v:=⟨by simpa using i.get⟩
class SetL(l:List Value)(o:Nat)(v:Value)(l':outParam (List Value)):Prop where
 set:l.set o v=l'
 lt:o<l.length
instance SetL.z{v u:Value}{l:List Value}:SetL (u::l) 0 v (v::l):=⟨rfl,by simp⟩
instance SetL.s{v u:Value}{l l':List Value}{n:Nat}[i:SetL l n v l']:SetL (u::l) (n+1) v (u::l'):=⟨by simp[i.set],by have:=i.lt;simp;omega⟩
section
variable {F0:List Nat}{w0 w:World}{ps qs rest:List As}{b o:Nat}{l l':List Value}
theorem St.sub [i:Sub ps qs](h:St F0 w0 w ps):St F0 w0 w qs:=i.sub h
theorem St.toB(b:Nat)[i:PkB b ps l rest](h:St F0 w0 w ps):St F0 w0 w (qqb b l::rest):=i.pk h
theorem St.toO(s:Sl){sz:Nat}{cs:List Value}[i:PkO s ps sz cs rest](h:St F0 w0 w ps):St F0 w0 w (qcc sz s cs::rest):=i.pk h
theorem St.rdb(s:Sl){sz:Nat}{cs:List Value}[i:Rdb F0 w0 s ps sz cs](h:St F0 w0 w ps):Rd w sz s cs:=i.rd h
theorem St.fI{k:IntKind}{n:Int}{K:Int->Prop}(h:St F0 w0 w ps)[PkB b ps l rest][g:GetL l o (.int k n)](hk:K n):ldI k w ⟨b,o,none⟩ K:=(h.toB b).blk.ldI g.get hk
theorem St.fP{n:Option Addr}{K:Option Addr->Prop}(h:St F0 w0 w ps)[PkB b ps l rest][g:GetL l o (.pointer n)](hk:K n):ldP w ⟨b,o,none⟩ K:=(h.toB b).blk.ldP g.get hk
theorem St.fL{a:Option Addr}{n c:Nat}{K:Sl->Prop}(h:St F0 w0 w ps)[PkB b ps l rest][g:GetL l o (.slice a n c)](hk:K ⟨a,n,c⟩):ldL w ⟨b,o,none⟩ K:=(h.toB b).blk.ldL (n:=⟨a,n,c⟩) g.get hk
theorem St.fM{n:Option Nat}{K:Option Nat->Prop}(h:St F0 w0 w ps)[PkB b ps l rest][g:GetL l o (.map n)](hk:K n):ldM w ⟨b,o,none⟩ K:=(h.toB b).blk.ldM g.get hk
theorem St.fst{v:Value}{K:World->Prop}(h:St F0 w0 w ps)[PkB b ps l rest][g:SetL l o v l'](hs:qfe v)(hk:∀w',St F0 w0 w' (qqb b l'::rest)->K w'):Go.Proofs.YtdccpphmkfaioaaGreat.st w ⟨b,o,none⟩ v K:=
 (h.toB b).st g.lt hs λw' h=>hk w' (by rw[g.set]at h;exact h)
abbrev ivs(k:IntKind)(l:List Int):List Value:=l.map (int k)
theorem qk(k:IntKind)(l:List Int):(ivs k l).length=l.length:=by simp[ivs]
theorem qsm{k:IntKind}{l:List Int}{i:Nat}(h:i<l.length):(ivs k l)[i]?=some (.int k (l.getD i 0)):=by
 simp[ivs,h,getD,getElem?_eq_getElem h]
theorem qlcb(k:IntKind)(l:List Int)(i:Nat)(v:Int):(ivs k l).set i (.int k v)=ivs k (l.set i v):=by
 unfold ivs;rw[List.map_set]
theorem qpe{k:IntKind}{l:List Int}:∀v∈(⟨ivs k l⟩:Array Value),qfe v:=by
 intro v hv;have hv:v∈ivs k l:=by simpa using hv
 obtain⟨n,_,rfl⟩:=mem_map.1 hv;trivial
theorem qgu(k:IntKind)(l m:List Int):ivs k l++ivs k m=ivs k (l++m):=by simp[ivs]
theorem qcr(k:IntKind)(l:List Int)(n:Nat):(ivs k l).take n=ivs k (l.take n):=by simp[ivs,List.map_take]
theorem qoeb(k:IntKind)(l:List Int)(n:Nat):(ivs k l).drop n=ivs k (l.drop n):=by simp[ivs,List.map_drop]
theorem qysb(k:IntKind)(n:Nat)(v:Int):replicate n (int k v)=ivs k (replicate n v):=by simp[ivs]
theorem Rd.at{k:IntKind}{s:Sl}{zs:List Int}{i:Int}{K:Int->Prop}(h:Rd w 1 s (ivs k zs))(j:Nat)(hi:i=j)(hj:j<zs.length)(hk:K (zs.getD j 0)):ixS s.a s.len i 1 λa=>Go.Proofs.YtdccpphmkfaioaaGreat.ldI k w a K:=by
 subst hi;have hl:=h.1;rw[qk]at hl;refine h.ix (by decide) (by omega) (by omega) λa ha=>?_;rw[show((j:Int)).toNat*1=j by omega];exact h.ldI ha (qsm hj) hk
theorem St.lx{k:IntKind}{s:Sl}{zs:List Int}{i:Int}{K:Int->Prop}(h:St F0 w0 w ps)[Rdb F0 w0 s ps 1 (ivs k zs)](j:Nat)(hi:i=j)(hj:j<zs.length)(hk:K (zs.getD j 0)):ixS s.a s.len i 1 λa=>Go.Proofs.YtdccpphmkfaioaaGreat.ldI k w a K:=
 (h.rdb s).at j hi hj hk
theorem St.sx{k:IntKind}{s:Sl}{zs:List Int}{i v:Int}{K:World->Prop}(h:St F0 w0 w ps)[PkO s ps 1 (ivs k zs) rest](j:Nat)(hi:i=j)(hj:j<zs.length)(hk:∀w',St F0 w0 w' (qcc 1 s (ivs k (zs.set j v))::rest)->K w'):ixS s.a s.len i 1 λa=>Go.Proofs.YtdccpphmkfaioaaGreat.st w a (.int k v) K:=by
 subst hi;have h:=h.toO s;have hr:=h.ord;have hl:=hr.1;rw[qk]at hl;refine hr.ix (by decide) (by omega) (by omega) λa ha=>?_;rw[show((j:Int)).toNat*1=j by omega];refine h.setO ha (by rw[qk];exact hj) trivial λw h=>hk w ?_;rw[qlcb]at h;exact h
theorem qneb{b o n sz:Nat}{i:Int}{K:Addr->Prop}(h0:0<=i)(h1:i<(n:Int))(hk:K ⟨b,o+i.toNat*sz,none⟩):ixA ⟨b,o,none⟩ n i sz K:=by
 unfold ixA;rw[qyf];exact⟨⟨h0,h1⟩,hk⟩
theorem St.la{k:IntKind}{n:Nat}{zs:List Int}{i:Int}{K:Int->Prop}(h:St F0 w0 w ps)[PkB b ps (ivs k zs) rest](j:Nat)(hi:i=j)(hn:zs.length=n)(hj:j<n)(hk:K (zs.getD j 0)):ixA ⟨b,0,none⟩ n i 1 λa=>Go.Proofs.YtdccpphmkfaioaaGreat.ldI k w a K:=by
 subst hi;refine qneb (by omega) (by omega) ?_;refine(h.toB b).blk.ldI ?_ hk;rw[show 0+((j:Int)).toNat*1=j by omega];exact qsm (by omega)
theorem St.sa{k:IntKind}{n:Nat}{zs:List Int}{i v:Int}{K:World->Prop}(h:St F0 w0 w ps)[PkB b ps (ivs k zs) rest](j:Nat)(hi:i=j)(hn:zs.length=n)(hj:j<n)(hk:∀w',St F0 w0 w' (qqb b (ivs k (zs.set j v))::rest)->K w'):ixA ⟨b,0,none⟩ n i 1 λa=>Go.Proofs.YtdccpphmkfaioaaGreat.st w a (.int k v) K:=by
 subst hi;refine qneb (by omega) (by omega) ?_;rw[show 0+((j:Int)).toNat*1=j by omega];refine(h.toB b).st (by rw[qk];omega) trivial λw h=>hk w ?_;rw[qlcb]at h;exact h
theorem St.lA{n:Nat}{K:Array Value->Prop}(h:St F0 w0 w ps)[PkB b ps l rest](hl:l.length=n)(hk:K ⟨l⟩):ldA w ⟨b,0,none⟩ n K:=
 (h.toB b).blk.ldA (cs:=⟨l⟩) hl (λj hj=>by rw[zero_add];simp) hk
theorem St.sA{n:Nat}{K:World->Prop}(h:St F0 w0 w ps)[PkB b ps l rest](hl:l.length=n)(hl':l'.length=n)(hs:∀v∈(⟨l'⟩:Array Value),qfe v)(hk:∀w',St F0 w0 w' (qqb b l'::rest)->K w'):Go.Proofs.YtdccpphmkfaioaaGreat.stA w ⟨b,0,none⟩ ⟨l'⟩ K:=by
 refine(h.toB b).stA (o:=0) (by show 0+l'.length<=l.length;omega) hs λw' h=>hk w' ?_;have e:l.take 0++(⟨l'⟩:Array Value).toList++l.drop (0+(⟨l'⟩:Array Value).size)=l':=by
  rw[List.take_zero,List.nil_append,drop_eq_nil_of_le (by show l.length<=0+l'.length;omega),append_nil]
 rwa[e]at h
end
end
section
attribute [local irreducible] apK cpK mkK
class PkF{α:Type}(f:Nat->α->As)(b:Nat)(ps:List As)(x:outParam α)(rest:outParam (List As)):Prop where
 pk:∀{F0:List Nat} {w0 w:World},St F0 w0 w ps->St F0 w0 w (f b x::rest)
instance PkF.tl{α:Type}{f:Nat->α->As}{b:Nat}{x:α}{q:As}{ps rest:List As}[i:PkF f b ps x rest]:PkF f b (q::ps) x (q::rest):=⟨λh=>(h.tail λ_ _ _ h=>i.pk h).at1⟩
instance PkF.hd{α:Type}{f:Nat->α->As}{b:Nat}{x:α}{ps:List As}:PkF f b (f b x::ps) x ps:=⟨id⟩
theorem St.toF{α:Type}(f:Nat->α->As)(b:Nat){F0:List Nat}{w0 w:World}{ps rest:List As}{x:α}[i:PkF f b ps x rest](h:St F0 w0 w ps):St F0 w0 w (f b x::rest):=i.pk h
theorem eqA_i{k:IntKind}{n:Nat}{xs ys:List Int}{K:Bool->Prop}(h1:xs.length=n)(h2:ys.length=n)(hk:K (xs==ys)):eqA k n ⟨ivs k xs⟩ ⟨ivs k ys⟩ K:=⟨xs,ys,rfl,rfl,h1,h2,hk⟩
theorem qgp{A B:Prop}(h:A):br true A B:=h
theorem qcq{A B:Prop}(h:B):br false A B:=h
theorem qjh{b:Bool}{A B:Prop}(hb:b=true)(h:A):br b A B:=by subst hb;exact h
theorem qze{b:Bool}{A B:Prop}(hb:b=false)(h:B):br b A B:=by subst hb;exact h
theorem qkn{i:Int}{y n:Nat}{K:Nat->Prop}(hn:i=n)(h:n<=y)(hk:K n):bd i y K:=by subst hn;exact⟨⟨by omega,by omega⟩,by rw[toNat_natCast];exact hk⟩
theorem qpsb{F0:List Nat}{w0 w:World}{ps:List As}{nb:Nat}{l m:List Value}(e:l=m)(h:St F0 w0 w (qqb nb (⟨l⟩:Array Value).toList::ps)):St F0 w0 w (qqb nb m::ps):=by
 subst e;exact h
class Elt(P:Program)(e:TypeId)(z:outParam Value):Prop where
 info:∃i,P.info? e=some i/\i.size=1/\i.bytes≠0/\i.bytes<=16
 zc:Go.Proofs.YtdccpphmkfaioaaGreat.zc P e=#[z]
theorem Elt.bytes{P:Program}{e:TypeId}{z:Value}[h:Elt P e z]:P.bytesOf e<=16:=by
 obtain⟨i,h1,_,_,h4⟩:=h.info;simp[bytesOf,h1,h4]
instance elt_u8:Elt prog 5 (.int .u8 0):=⟨⟨Tryz.t5,by kernel_rfl,rfl,by decide,by decide⟩,by kernel_rfl⟩
instance elt_int:Elt prog 3 (.int .i64 0):=⟨⟨Tryz.t3,by kernel_rfl,rfl,by decide,by decide⟩,by kernel_rfl⟩
section
variable {F0:List Nat}{w0 w:World}{ps rest:List As}{P:Program}{e:TypeId}{z:Value}{s:Sl}{cs:List Value}
theorem St.push{v:Value}{K:Sl->World->Prop}[he:Elt P e z](h:St F0 w0 w ps)[PkO s ps 1 cs rest](hlen:cs.length<=1099511627776)(hv:qfe v)
 (hk:∀s' w',St F0 w0 w' (qcc 1 s' (cs++[v])::rest)->K s' w'):
 lt (⟨World.heapSize w,0,none⟩:Addr) λa=>lt (World.alloc w (.cells ⟨[v]⟩ e)) λw1=>rdO w1 (some a) (1*1) λc=>apK P e w1 s.a s.len s.cap 1 c K:=by
 refine(h.toO s).new λnb w h=>?_
 refine h.rdB rfl ?_
 obtain⟨i,h1,h2,h3,h4⟩:=he.info
 exact h.drop.append1 h1 h2 he.zc h3 h4 hlen rfl hv hk
theorem St.pushI{k:IntKind}{zs:List Int}{x:Int}{K:Sl->World->Prop}[he:Elt P e z](h:St F0 w0 w ps)[PkO s ps 1 (ivs k zs) rest](hlen:zs.length<=1099511627776)
 (hk:∀s' w',St F0 w0 w' (qcc 1 s' (ivs k (zs++[x]))::rest)->K s' w'):
 lt (⟨World.heapSize w,0,none⟩:Addr) λa=>lt (World.alloc w (.cells ⟨[.int k x]⟩ e)) λw1=>rdO w1 (some a) (1*1) λc=>apK P e w1 s.a s.len s.cap 1 c K:=
 h.push (by rw[qk];exact hlen) trivial λs' w h=>hk s' w (by rw[<-qgu];exact h)
theorem St.app{n:Nat}{cs2:List Value}{c:Array Value}{K:Sl->World->Prop}[he:Elt P e z](h:St F0 w0 w ps)[PkO s ps 1 cs rest](hc:c=⟨cs2⟩)(hn:cs2.length=n)(hlen:cs.length+n<=1099511627776)(hv:∀v∈(⟨cs2⟩:Array Value),qfe v)
 (hk:∀s' w',St F0 w0 w' (qcc 1 s' (cs++cs2)::rest)->K s' w'):apK P e w s.a s.len s.cap n c K:=by
 subst hc
 obtain⟨i,h1,h2,h3,h4⟩:=he.info
 have h:=h.toO s
 have hl:=h.len
 refine St.append (i:=i) (sz:=1) (m:=n) h1 h2 (by decide) (by rw[he.zc];rfl) h3 ?_ h (by show cs2.length=n*1;omega) hv (λs' w' h _=>hk s' w' h)
 refine le_trans (Nat.mul_le_mul_left _ h4) ?_
 have hl2:s.len+n<=1099511627776:=by omega
 clear hk h
 generalize s.len+n=m at hl2
 omega
theorem St.appI{k:IntKind}{s2:Sl}{zs ys:List Int}{K:Sl->World->Prop}[he:Elt P e z](h:St F0 w0 w ps)[PkO s ps 1 (ivs k zs) rest][Rdb F0 w0 s2 ps 1 (ivs k ys)](hlen:zs.length+ys.length<=1099511627776)
 (hk:∀s' w',St F0 w0 w' (qcc 1 s' (ivs k (zs++ys))::rest)->K s' w'):rdO w s2.a (s2.len*1) λc=>apK P e w s.a s.len s.cap s2.len c K:=by
 have hr:=h.rdb s2
 have hl:=hr.1
 rw[qk]at hl
 refine hr.rdO (by rw[qk];omega) ?_
 exact h.app (cs:=ivs k zs) (cs2:=ivs k ys) rfl (by rw[qk];omega) (by rw[qk];omega) qpe λs' w h=>hk s' w (by rw[<-qgu];exact h)
theorem St.own0{nb:Nat}(h:St F0 w0 w (qqb nb []::ps)):St F0 w0 w (qcc 1 ⟨some ⟨nb,0,none⟩,0,0⟩ []::ps):=by
 refine h.mp ?_;rintro F ⟨hb,rfl⟩;exact Or.inr ⟨nb,[],rfl,hb,rfl,rfl,rfl⟩
theorem St.ownB{nb n:Nat}{l:List Value}(h:St F0 w0 w (qqb nb l::ps))(hn:l.length=n):St F0 w0 w (qcc 1 ⟨some ⟨nb,0,none⟩,n,n⟩ l::ps):=by
 refine h.mp ?_;rintro F ⟨hb,rfl⟩;exact Or.inr ⟨nb,[],rfl,by simpa using hb,by simp[hn],by simp[hn],rfl⟩
theorem St.clone{k:IntKind}{s2:Sl}{ys:List Int}{K:Sl->World->Prop}[he:Elt P e z](h:St F0 w0 w ps)[Rdb F0 w0 s2 ps 1 (ivs k ys)](hlen:ys.length<=1099511627776)
 (hk:∀s' w',St F0 w0 w' (qcc 1 s' (ivs k ys)::ps)->K s' w'):
 lt (⟨World.heapSize w,0,none⟩:Addr) λa=>lt (World.alloc w (.cells ⟨[]⟩ e)) λw1=>rdO w1 s2.a (s2.len*1) λc=>apK P e w1 (some a) 0 0 s2.len c K:=by
 refine h.new λnb w h=>?_
 have h:=h.own0
 exact St.appI (s:=⟨some ⟨nb,0,none⟩,0,0⟩) (zs:=[]) (k:=k) (ys:=ys) h (by simpa using hlen) λs' w h=>hk s' w h
theorem St.make{n:Nat}{l c:Int}{K:Sl->World->Prop}[he:Elt P e z](h:St F0 w0 w ps)(hl:l=n)(hc:c=n)(hn:n<=1099511627776)
 (hk:∀s w',s.len=n->s.cap=n->St F0 w0 w' (qcc 1 s (replicate n z)::ps)->K s w'):mkK P e w l c K:=
 St.make1 he.zc hl hc hn he.bytes h hk
theorem St.makeI{k:IntKind}{n:Nat}{l c:Int}{K:Sl->World->Prop}[he:Elt P e (.int k 0)](h:St F0 w0 w ps)(hl:l=n)(hc:c=n)(hn:n<=1099511627776)
 (hk:∀s w',s.len=n->s.cap=n->St F0 w0 w' (qcc 1 s (ivs k (replicate n 0))::ps)->K s w'):mkK P e w l c K:=
 h.make hl hc hn λs w h1 h2 h=>hk s w h1 h2 (by rw[<-qysb];exact h)
theorem St.bt{s:Sl}{xs:List Int}{K:ByteArray->Prop}(h:St F0 w0 w ps)[Rdb F0 w0 s ps 1 (ivs .u8 xs)](hx:∀x∈xs,0<=x/\x<256)(hk:K ⟨⟨u8 xs⟩⟩):btS w s.a s.len K:=
 (h.rdb s).btS hx hk
theorem Rdb.cut{k:IntKind}{xs:List Int}(hr:Rdb F0 w0 s ps 1 (ivs k xs))(n m c':Nat)(hm:m<=s.len)(hn:n<=m)(hc:s.len<=s.cap):Rdb F0 w0 ⟨qnf s.a s.cap n 1,m-n,c'⟩ ps 1 (ivs k ((xs.drop n).take (m-n))):=⟨λh=>by
 have:=(hr.rd h).cut (n:=n) (m:=m) (by decide) hm hn hc c';rw[mul_one,mul_one,qoeb,qcr]at this
 exact this⟩
theorem Rdb.cutAs{k:IntKind}{xs ys:List Int}(hr:Rdb F0 w0 s ps 1 (ivs k xs))(n m c':Nat)(hm:m<=s.len)(hn:n<=m)(hc:s.len<=s.cap)(e:(xs.drop n).take (m-n)=ys):Rdb F0 w0 ⟨qnf s.a s.cap n 1,m-n,c'⟩ ps 1 (ivs k ys):=e▸hr.cut n m c' hm hn hc
theorem St.cutR{k:IntKind}{xs ys:List Int}(h:St F0 w0 w ps)(s:Sl)[hr:Rdb F0 w0 s ps 1 (ivs k xs)](n m c':Nat)(hm:m<=s.len)(hn:n<=m)(hc:s.len<=s.cap)(e:(xs.drop n).take (m-n)=ys):Rdb F0 w0 ⟨qnf s.a s.cap n 1,m-n,c'⟩ ps 1 (ivs k ys):=hr.cutAs n m c' hm hn hc e
theorem St.str{b n:Nat}{l:List Value}{K:World->Prop}(h:St F0 w0 w ps)[PkB b ps l rest](hn:l.length=n)(hk:∀w',St F0 w0 w' (rdA 1 ⟨some ⟨b,0,none⟩,n,n⟩ l::rest)->K w'):mkStr w (some ⟨b,0,none⟩) K:=
 qqsb (h.toB b) hn hk
end
end
section
set_option maxRecDepth 100000
def qgm(x_0 n_1:Int)(Q:VWP)(w:World):Prop:=lt (World.drew w) λw1=>(0:Int)<=n_1/\lt (qzi .u32 x_0 n_1) λx2=>lt (i64.wrap (32-n_1)) λx3=>(0:Int)<=x3/\lt (qal .u32 x_0 x3) λx4=>lt (orV .u32 x2 x4) λx5=>Q (.int .u32 x5) w1
theorem qgm.ok(x_0:Int)(n_1:Int)(Q:VWP)(w:World)(h:qgm x_0 n_1 Q w):Calls prog 74 ⟨[.int .u32 x_0,.int .i64 n_1]⟩ w (Ret Q):=
 qhc [.tmp 4] qde Tryz.func74 rfl rfl rfl rfl .lf (by kernel_rfl) h
def qpr(t_0 b_1 c_2 d_3:Int)(Q:VWP)(w:World):Prop:=
 (20:Int)≠0/\
 lt (i64.wrap (tdiv t_0 20)) λx1=>
 br (x1==0) (
 lt (qdj .u32 b_1 c_2) λx2=>
 lt (qlk .u32 (if signed .u32 then -1 else IntKind.max .u32) b_1) λx3=>
 lt (qdj .u32 x3 d_3) λx4=>
 lt (orV .u32 x2 x4) λx5=>
 Q (.tuple ⟨[.int .u32 x5,.int .u32 1518500249]⟩) w) (
 br (x1==1) (
 lt (qlk .u32 b_1 c_2) λx6=>
 lt (qlk .u32 x6 d_3) λx7=>
 Q (.tuple ⟨[.int .u32 x7,.int .u32 1859775393]⟩) w) (
 br (x1==2) (
 lt (qdj .u32 b_1 c_2) λx8=>
 lt (qdj .u32 b_1 d_3) λx9=>
 lt (orV .u32 x8 x9) λx10=>
 lt (qdj .u32 c_2 d_3) λx11=>
 lt (orV .u32 x10 x11) λx12=>
 Q (.tuple ⟨[.int .u32 x12,.int .u32 2400959708]⟩) w) (
 lt (qlk .u32 b_1 c_2) λx13=>
 lt (qlk .u32 x13 d_3) λx14=>
 Q (.tuple ⟨[.int .u32 x14,.int .u32 3395469782]⟩) w)))
theorem qpr.ok(t_0:Int)(b_1:Int)(c_2:Int)(d_3:Int)(Q:VWP)(w:World)(h:qpr t_0 b_1 c_2 d_3 Q w):Calls prog 75 ⟨[.int .i64 t_0,.int .u32 b_1,.int .u32 c_2,.int .u32 d_3]⟩ w (Ret Q):=
 qhc [.tmp 8,.tmp 9] qde Tryz.func75 rfl rfl rfl rfl .lf (by kernel_rfl) h
def qu.b1(h_0:OAd)(t121:(Array Value))(t122:Int)(Q:VWP)(nx1:OAd->(Array Value)->Int->WP)(w:World):Prop:=br (decide (t122<5)) (((0:Int)<=t122/\t122<((5:Nat):Int))/\ptI .u32 t121 (toNat t122*1) λx1=>lt (World.drew w) λw2=>nz h_0 λa3=>ixA (Addr.add a3 0) 5 t122 1 λa4=>ldI .u32 w2 a4 λx5=>lt (u32.wrap (x5+x1)) λx6=>nz h_0 λa7=>ixA (Addr.add a7 0) 5 t122 1 λa8=>st w2 a8 (.int .u32 x6) λw9=>lt (i64.wrap (t122+1)) λx10=>nx1 h_0 t121 x10 w9) (Q (.tuple ⟨[]⟩) w)
def qu.l1(h_0:OAd)(t121:(Array Value))(t122:Int)(Q:VWP)(w:World):Prop:=∃(I:Int->WP) (μ:Int->World->Nat),I t122 w/\∀t122:Int,∀w:World,I t122 w->qu.b1 h_0 t121 t122 Q (λh_0' t121' t122' w'=>(h_0'=h_0/\t121'=t121)/\I t122' w'/\μ t122' w'<μ t122 w) w
def qu.j6(h_0:OAd)(t121:(Array Value))(t122:Int)(Q:VWP)(w:World):Prop:=qu.l1 h_0 t121 t122 Q w
def qu.j5(h_0:OAd)(a_8:Int)(b_9 c_10 d_11 e_12:Int)(Q:VWP)(w:World):Prop:=qu.j6 h_0 ⟨[.int .u32 a_8,.int .u32 b_9,.int .u32 c_10,.int .u32 d_11,.int .u32 e_12]⟩ 0 Q w
def qu.b2(h_0:OAd)(t87:(Array Value))(a_8 b_9 c_10 d_11 e_12 t88:Int)(Q:VWP)(nx2:OAd->(Array Value)->Int->Int->Int->Int->Int->Int->WP)(w:World):Prop:=br (decide (t88<80)) (((0:Int)<=t88/\t88<((80:Nat):Int))/\ptI .u32 t87 (toNat t88*1) λx11=>Calls prog 75 ⟨[.int .i64 t88,.int .u32 b_9,.int .u32 c_10,.int .u32 d_11]⟩ w λe12 w13=>∃r14:Int,∃r15:Int,e12= .returned (.tuple ⟨[.int .u32 r14,.int .u32 r15]⟩)/\qlj 74 [.int .u32 a_8,.int .i64 5] w13 λr18 w17=>lt (u32.wrap (r18+r14)) λx19=>lt (u32.wrap (x19+e_12)) λx20=>lt (u32.wrap (x20+r15)) λx21=>lt (u32.wrap (x21+x11)) λx22=>qlj 74 [.int .u32 b_9,.int .i64 30] w17 λr25 w24=>lt (i64.wrap (t88+1)) λx26=>nx2 h_0 t87 x22 a_8 r25 c_10 d_11 x26 w24) (qu.j5 h_0 a_8 b_9 c_10 d_11 e_12 Q w)
def qu.l2(h_0:OAd)(t87:(Array Value))(a_8 b_9 c_10 d_11 e_12 t88:Int)(Q:VWP)(w:World):Prop:=∃(I:Int->Int->Int->Int->Int->Int->WP) (μ:Int->Int->Int->Int->Int->Int->World->Nat),I a_8 b_9 c_10 d_11 e_12 t88 w/\∀a_8:Int,∀b_9:Int,∀c_10:Int,∀d_11:Int,∀e_12:Int,∀t88:Int,∀w:World,I a_8 b_9 c_10 d_11 e_12 t88 w->qu.b2 h_0 t87 a_8 b_9 c_10 d_11 e_12 t88 Q (λh_0' t87' a_8' b_9' c_10' d_11' e_12' t88' w'=>(h_0'=h_0/\t87'=t87)/\I a_8' b_9' c_10' d_11' e_12' t88' w'/\μ a_8' b_9' c_10' d_11' e_12' t88' w'<μ a_8 b_9 c_10 d_11 e_12 t88 w) w
def qu.j7(h_0:OAd)(a_8:Int)(b_9 c_10 d_11 e_12:Int)(t87:(Array Value))(t88:Int)(Q:VWP)(w:World):Prop:=qu.l2 h_0 t87 a_8 b_9 c_10 d_11 e_12 t88 Q w
def qu.j4(h_0:OAd)(w_4:Addr)(a_8 b_9 c_10 d_11 e_12:Int)(Q:VWP)(w:World):Prop:=ldA w w_4 80 λc27=>qu.j7 h_0 a_8 b_9 c_10 d_11 e_12 c27 0 Q w
def qu.j3(h_0:OAd)(w_4:Addr)(Q:VWP)(w:World):Prop:=lt (World.drew w) λw28=>nz h_0 λa29=>ixA (Addr.add a29 0) 5 0 1 λa30=>ldI .u32 w28 a30 λx31=>nz h_0 λa32=>ixA (Addr.add a32 0) 5 1 1 λa33=>ldI .u32 w28 a33 λx34=>nz h_0 λa35=>ixA (Addr.add a35 0) 5 2 1 λa36=>ldI .u32 w28 a36 λx37=>nz h_0 λa38=>ixA (Addr.add a38 0) 5 3 1 λa39=>ldI .u32 w28 a39 λx40=>nz h_0 λa41=>ixA (Addr.add a41 0) 5 4 1 λa42=>ldI .u32 w28 a42 λx43=>qu.j4 h_0 w_4 x31 x34 x37 x40 x43 Q w28
def qu.b3(h_0:OAd)(w_4:Addr)(t_7:Int)(Q:VWP)(nx3:OAd->Addr->Int->WP)(w:World):Prop:=br (decide (t_7<80)) (lt (World.drew w) λw44=>lt (i64.wrap (t_7-3)) λx45=>ixA w_4 80 x45 1 λa46=>ldI .u32 w44 a46 λx47=>lt (i64.wrap (t_7-8)) λx48=>ixA w_4 80 x48 1 λa49=>ldI .u32 w44 a49 λx50=>lt (qlk .u32 x47 x50) λx51=>lt (i64.wrap (t_7-14)) λx52=>ixA w_4 80 x52 1 λa53=>ldI .u32 w44 a53 λx54=>lt (qlk .u32 x51 x54) λx55=>lt (i64.wrap (t_7-16)) λx56=>ixA w_4 80 x56 1 λa57=>ldI .u32 w44 a57 λx58=>lt (qlk .u32 x55 x58) λx59=>qlj 74 [.int .u32 x59,.int .i64 1] w44 λr62 w61=>ixA w_4 80 t_7 1 λa63=>st w61 a63 (.int .u32 r62) λw64=>lt (i64.wrap (t_7+1)) λx65=>nx3 h_0 w_4 x65 w64) (qu.j3 h_0 w_4 Q w)
def qu.l3(h_0:OAd)(w_4:Addr)(t_7:Int)(Q:VWP)(w:World):Prop:=∃(I:Int->WP) (μ:Int->World->Nat),I t_7 w/\∀t_7:Int,∀w:World,I t_7 w->qu.b3 h_0 w_4 t_7 Q (λh_0' w_4' t_7' w'=>(h_0'=h_0/\w_4'=w_4)/\I t_7' w'/\μ t_7' w'<μ t_7 w) w
def qu.j8(h_0:OAd)(w_4:Addr)(t_7:Int)(Q:VWP)(w:World):Prop:=qu.l3 h_0 w_4 t_7 Q w
def qu.j2(h_0:OAd)(w_4:Addr)(Q:VWP)(w:World):Prop:=qu.j8 h_0 w_4 16 Q w
def qu.b4(h_0:OAd)(w_4:Addr)(t19:(Array Value))(t20:Int)(Q:VWP)(nx4:OAd->Addr->(Array Value)->Int->WP)(w:World):Prop:=br (decide (t20<64)) (((0:Int)<=t20/\t20<((64:Nat):Int))/\ptI .u8 t19 (toNat t20*1) λx66=>(4:Int)≠0/\lt (i64.wrap (tdiv t20 4)) λx67=>(4:Int)≠0/\lt (i64.wrap (tdiv t20 4)) λx68=>ixA w_4 80 x68 1 λa69=>ldI .u32 w a69 λx70=>(0:Int)<=8/\lt (qzi .u32 x70 8) λx71=>lt (u32.wrap x66) λx72=>lt (orV .u32 x71 x72) λx73=>ixA w_4 80 x67 1 λa74=>st w a74 (.int .u32 x73) λw75=>lt (i64.wrap (t20+1)) λx76=>nx4 h_0 w_4 t19 x76 w75) (qu.j2 h_0 w_4 Q w)
def qu.l4(h_0:OAd)(w_4:Addr)(t19:(Array Value))(t20:Int)(Q:VWP)(w:World):Prop:=∃(I:Int->WP) (μ:Int->World->Nat),I t20 w/\∀t20:Int,∀w:World,I t20 w->qu.b4 h_0 w_4 t19 t20 Q (λh_0' w_4' t19' t20' w'=>(h_0'=h_0/\w_4'=w_4/\t19'=t19)/\I t20' w'/\μ t20' w'<μ t20 w) w
def qu.j9(h_0:OAd)(w_4:Addr)(t19:(Array Value))(t20:Int)(Q:VWP)(w:World):Prop:=qu.l4 h_0 w_4 t19 t20 Q w
def qu.j1(h_0:OAd)(p_3:Addr)(w_4:Addr)(Q:VWP)(w:World):Prop:=ldA w p_3 64 λc77=>qu.j9 h_0 w_4 c77 0 Q w
def qu(h_0:OAd)(p_1:(Array Value))(Q:VWP)(w:World):Prop:=nw w p_1 88 λa78 w79=>nw w79 (zc prog 119) 119 λa80 w81=>qu.j1 h_0 a78 a80 Q w81
theorem qu.ok(h_0:OAd)(p_1:(Array Value))(Q:VWP)(w:World)(h:qu h_0 p_1 Q w):Calls prog 60 ⟨[.pointer h_0,.agg p_1]⟩ w (Ret Q):=
 qhc [] qde Tryz.func60 rfl rfl rfl rfl (.pr 1 [sP 0,sA 3,sA 4] (λa b c w=>qu.j1 a b c Q w) (.sq [sP 0,sA 4] (λa b w=>qu.j2 a b Q w) (.sq [sP 0,sA 4,(19,.G),sI 20] (λa b c d w=>qu.j9 a b c d Q w) .lf (.bk (.lo [sP 0,sA 4,(19,.G)] [sI 20] (λa b c d w=>qu.l4 a b c d Q w) (λnx4 a b c d w=>qu.b4 a b c d Q nx4 w) λnx4=> .lf))) (.sq [sP 0,sA 4] (λa b w=>qu.j3 a b Q w) (.sq [sP 0,sA 4,sI 7] (λa b c w=>qu.j8 a b c Q w) .lf (.bk (.lo [sP 0,sA 4] [sI 7] (λa b c w=>qu.l3 a b c Q w) (λnx3 a b c w=>qu.b3 a b c Q nx3 w) λnx3=> .lf))) (.sq [sP 0,sA 4,(8,.I .u32),(9,.I .u32),(10,.I .u32),(11,.I .u32),(12,.I .u32)] (λa b c d e f g w=>qu.j4 a b c d e f g Q w) .lf (.sq [sP 0,(8,.I .u32),(9,.I .u32),(10,.I .u32),(11,.I .u32),(12,.I .u32)] (λa b c d e f w=>qu.j5 a b c d e f Q w) (.sq [sP 0,(8,.I .u32),(9,.I .u32),(10,.I .u32),(11,.I .u32),(12,.I .u32),(87,.G),sI 88] (λa b c d e f g h w=>qu.j7 a b c d e f g h Q w) .lf (.bk (.lo [sP 0,(87,.G)] [(8,.I .u32),(9,.I .u32),(10,.I .u32),(11,.I .u32),(12,.I .u32),sI 88] (λa b c d e f g h w=>qu.l2 a b c d e f g h Q w) (λnx2 a b c d e f g h w=>qu.b2 a b c d e f g h Q nx2 w) λnx2=> .lf))) (.sq [sP 0,(121,.G),sI 122] (λa b c w=>qu.j6 a b c Q w) .lf (.bk (.lo [sP 0,(121,.G)] [sI 122] (λa b c w=>qu.l1 a b c Q w) (λnx1 a b c w=>qu.b1 a b c Q nx1 w) λnx1=> .lf)))))))) (by kernel_rfl) h
def qbd.b1(h_0:OAd)(t6:Sl)(t7 t8:Int)(Q:VWP)(nx1:OAd->Sl->Int->Int->WP)(w:World):Prop:=br (decide (t8<t7)) (ixS t6.a t6.len t8 1 λa1=>ldI .u8 w a1 λx2=>lt (World.drew w) λw3=>nz h_0 λa4=>ldI .i64 w3 (Addr.add a4 69) λx5=>(64:Int)≠0/\lt (tmod x5 64) λx6=>nz h_0 λa7=>ixA (Addr.add a7 5) 64 x6 1 λa8=>st w3 a8 (.int .u8 x2) λw9=>nz h_0 λa10=>ldI .i64 w9 (Addr.add a10 69) λx11=>lt (i64.wrap (x11+1)) λx12=>nz h_0 λa13=>st w9 (Addr.add a13 69) (.int .i64 x12) λw14=>nz h_0 λa15=>ldI .i64 w14 (Addr.add a15 69) λx16=>(64:Int)≠0/\lt (tmod x16 64) λx17=>br (x17==0) (nz h_0 λa18=>ldA w14 (Addr.add a18 5) 64 λc19=>ct_ 60 [.pointer h_0,.agg c19] w14 λw21=>lt (i64.wrap (t8+1)) λx22=>nx1 h_0 t6 t7 x22 w21) (lt (i64.wrap (t8+1)) λx23=>nx1 h_0 t6 t7 x23 w14)) (Q (.tuple ⟨[]⟩) w)
def qbd.l1(h_0:OAd)(t6:Sl)(t7 t8:Int)(Q:VWP)(w:World):Prop:=∃(I:Int->WP) (μ:Int->World->Nat),I t8 w/\∀t8:Int,∀w:World,I t8 w->qbd.b1 h_0 t6 t7 t8 Q (λh_0' t6' t7' t8' w'=>(h_0'=h_0/\t6'=t6/\t7'=t7)/\I t8' w'/\μ t8' w'<μ t8 w) w
def qbd.j1(h_0:OAd)(t6:Sl)(t7 t8:Int)(Q:VWP)(w:World):Prop:=qbd.l1 h_0 t6 t7 t8 Q w
def qbd(h_0:OAd)(b_1:Sl)(Q:VWP)(w:World):Prop:=qbd.j1 h_0 b_1 (b_1.len:Int) 0 Q w
theorem qbd.ok(h_0:OAd)(b_1:Sl)(Q:VWP)(w:World)(h:qbd h_0 b_1 Q w):Calls prog 37 ⟨[.pointer h_0,sV b_1]⟩ w (Ret Q):=
 qhc [] qde Tryz.func37 rfl rfl rfl rfl (.sq [sP 0,sL 6,sI 7,sI 8] (λa b c d w=>qbd.j1 a b c d Q w) .lf (.bk (.lo [sP 0,sL 6,sI 7] [sI 8] (λa b c d w=>qbd.l1 a b c d Q w) (λnx1 a b c d w=>qbd.b1 a b c d Q nx1 w) λnx1=> .lf))) (by kernel_rfl) h
def qaj(h_0:OAd)(Q:VWP)(w:World):Prop:=nz h_0 λa1=>ldA w a1 70 λc2=>nw w (zc prog 90) 90 λa3 w4=>(c2).size=70/\stA w4 a3 c2 λw5=>Q (.pointer (some a3)) w5
theorem qaj.ok(h_0:OAd)(Q:VWP)(w:World)(h:qaj h_0 Q w):Calls prog 42 ⟨[.pointer h_0]⟩ w (Ret Q):=
 qhc [.tmp 2] qde Tryz.func42 rfl rfl rfl rfl .lf (by kernel_rfl) h
def qrb.j5(t2:Addr)(out_4:Sl)(Q:VWP)(w:World):Prop:=20<=out_4.len/\nz out_4.a λa1=>ldA w a1 20 λc2=>(c2).size=20/\stA w t2 c2 λw3=>ldA w3 t2 20 λc4=>Q (.agg c4) w3
def qrb.b1(t2:Addr)(t32:(Array Value))(out_4:Sl)(t33:Int)(Q:VWP)(nx1:Addr->(Array Value)->Sl->Int->WP)(w:World):Prop:=br (decide (t33<5)) (((0:Int)<=t33/\t33<((5:Nat):Int))/\ptI .u32 t32 (toNat t33*1) λx5=>lt (i64.wrap x5) λx6=>qak 16 [sV out_4,.int .i64 x6] w λr9 w8=>lt (i64.wrap (t33+1)) λx10=>nx1 t2 t32 r9 x10 w8) (qrb.j5 t2 out_4 Q w)
def qrb.l1(t2:Addr)(t32:(Array Value))(out_4:Sl)(t33:Int)(Q:VWP)(w:World):Prop:=∃(I:Sl->Int->WP) (μ:Sl->Int->World->Nat),I out_4 t33 w/\∀out_4:Sl,∀t33:Int,∀w:World,I out_4 t33 w->qrb.b1 t2 t32 out_4 t33 Q (λt2' t32' out_4' t33' w'=>(t2'=t2/\t32'=t32)/\I out_4' t33' w'/\μ out_4' t33' w'<μ out_4 t33 w) w
def qrb.j6(t2:Addr)(out_4:Sl)(t32:(Array Value))(t33:Int)(Q:VWP)(w:World):Prop:=qrb.l1 t2 t32 out_4 t33 Q w
def qrb.j4(t2:Addr)(t_3:OAd)(out_4:Sl)(Q:VWP)(w:World):Prop:=nz t_3 λa11=>ldA w (Addr.add a11 0) 5 λc12=>qrb.j6 t2 out_4 c12 0 Q w
def qrb.j3(h_0:OAd)(t2:Addr)(t_3:OAd)(Q:VWP)(w:World):Prop:=nz h_0 λa13=>ldI .i64 w (Addr.add a13 69) λx14=>lt (i64.wrap (8*x14)) λx15=>qak 43 [.slice none 0 0,.int .i64 x15] w λr18 w17=>ct_ 37 [.pointer t_3,sV r18] w17 λw20=>qrb.j4 t2 t_3 ⟨none,0,0⟩ Q w20
def qrb.b2(h_0:OAd)(t2:Addr)(t_3:OAd)(Q:VWP)(nx2:OAd->Addr->OAd->WP)(w:World):Prop:=nz t_3 λa21=>ldI .i64 w (Addr.add a21 69) λx22=>(64:Int)≠0/\lt (tmod x22 64) λx23=>br (x23 !=56) (nw w ⟨[.int .u8 0]⟩ 5 λa24 w25=>ct_ 37 [.pointer t_3,.slice (some a24) 1 1] w25 λw27=>nx2 h_0 t2 t_3 w27) (qrb.j3 h_0 t2 t_3 Q w)
def qrb.l2(h_0:OAd)(t2:Addr)(t_3:OAd)(Q:VWP)(w:World):Prop:=∃(I:WP) (μ:World->Nat),I w/\∀w:World,I w->qrb.b2 h_0 t2 t_3 Q (λh_0' t2' t_3' w'=>(h_0'=h_0/\t2'=t2/\t_3'=t_3)/\I w'/\μ w'<μ w) w
def qrb.j2(h_0:OAd)(t2:Addr)(t_3:OAd)(Q:VWP)(w:World):Prop:=qrb.l2 h_0 t2 t_3 Q w
def qrb.j1(h_0:OAd)(t2:Addr)(Q:VWP)(w:World):Prop:=qchb 42 [.pointer h_0] w λr30 w29=>nw w29 ⟨[.int .u8 128]⟩ 5 λa31 w32=>ct_ 37 [.pointer r30,.slice (some a31) 1 1] w32 λw34=>qrb.j2 h_0 t2 r30 Q w34
def qrb(h_0:OAd)(Q:VWP)(w:World):Prop:=nw w (zc prog 43) 43 λa35 w36=>qrb.j1 h_0 a35 Q w36
theorem qrb.ok(h_0:OAd)(Q:VWP)(w:World)(h:qrb h_0 Q w):Calls prog 18 ⟨[.pointer h_0]⟩ w (Ret Q):=
 qhc [.cell 2 43] qde Tryz.func18 rfl rfl rfl rfl (.sq [sP 0,sA 2] (λa b w=>qrb.j1 a b Q w) .lf (.pr 1 [sP 0,sA 2,sP 3] (λa b c w=>qrb.j2 a b c Q w) (.sq [sP 0,sA 2,sP 3] (λa b c w=>qrb.j3 a b c Q w) (.bk (.lo [sP 0,sA 2,sP 3] [] (λa b c w=>qrb.l2 a b c Q w) (λnx2 a b c w=>qrb.b2 a b c Q nx2 w) λnx2=> .lf)) (.pr 1 [sA 2,sP 3,sL 4] (λa b c w=>qrb.j4 a b c Q w) (.sq [sA 2,sL 4] (λa b w=>qrb.j5 a b Q w) (.sq [sA 2,sL 4,(32,.G),sI 33] (λa b c d w=>qrb.j6 a b c d Q w) .lf (.bk (.lo [sA 2,(32,.G)] [sL 4,sI 33] (λa b c d w=>qrb.l1 a b c d Q w) (λnx1 a b c d w=>qrb.b1 a b c d Q nx1 w) λnx1=> .lf))) .lf))))) (by kernel_rfl) h
def qkq(Q:VWP)(w:World):Prop:=((⟨[.int .u32 1732584193,.int .u32 4023233417,.int .u32 2562383102,.int .u32 271733878,.int .u32 3285377520]⟩:Array Value)).size=5/\nw w (⟨(spl (zc prog 90).toList 0 (⟨[.int .u32 1732584193,.int .u32 4023233417,.int .u32 2562383102,.int .u32 271733878,.int .u32 3285377520]⟩:Array Value))⟩:Array Value) 90 λa1 w2=>Q (.pointer (some a1)) w2
theorem qkq.ok(Q:VWP)(w:World)(h:qkq Q w):Calls prog 14 ⟨[]⟩ w (Ret Q):=
 qhc [.tmp 0] qde Tryz.func14 rfl rfl rfl rfl .lf (by kernel_rfl) h
def qqr(b_0:Sl)(Q:VWP)(w:World):Prop:=nw w (zc prog 43) 43 λa1 w2=>qchb 14 [] w2 λr5 w4=>ct_ 37 [.pointer r5,sV b_0] w4 λw7=>qgv 18 [.pointer r5] w7 λr10 w9=>(r10).size=20/\stA w9 a1 r10 λw11=>ldA w11 a1 20 λc12=>Q (.agg c12) w11
theorem qqr.ok(b_0:Sl)(Q:VWP)(w:World)(h:qqr b_0 Q w):Calls prog 56 ⟨[sV b_0]⟩ w (Ret Q):=
 qhc [.cell 2 43] qde Tryz.func56 rfl rfl rfl rfl .lf (by kernel_rfl) h
end
section
set_option maxRecDepth 100000
def qre(w_0 n_1:Int)(Q:VWP)(w:World):Prop:=(0:Int)<=n_1/\lt (qzi .u32 w_0 n_1) λx1=>lt (u64.wrap (32-n_1)) λx2=>(0:Int)<=x2/\lt (qal .u32 w_0 x2) λx3=>lt (orV .u32 x1 x3) λx4=>Q (.int .u32 x4) w
theorem qre.ok(w_0:Int)(n_1:Int)(Q:VWP)(w:World)(h:qre w_0 n_1 Q w):Calls prog 68 ⟨[.int .u32 w_0,.int .u64 n_1]⟩ w (Ret Q):=
 qhc [.tmp 4] qde Tryz.func68 rfl rfl rfl rfl .lf (by kernel_rfl) h
def qgi(b_0:Sl)(Q:VWP)(w:World):Prop:=lt (World.drew w) λw1=>ixS b_0.a b_0.len 0 1 λa2=>ldI .u8 w1 a2 λx3=>lt (u32.wrap x3) λx4=>(0:Int)<=24/\lt (qzi .u32 x4 24) λx5=>ixS b_0.a b_0.len 1 1 λa6=>ldI .u8 w1 a6 λx7=>lt (u32.wrap x7) λx8=>(0:Int)<=16/\lt (qzi .u32 x8 16) λx9=>lt (orV .u32 x5 x9) λx10=>ixS b_0.a b_0.len 2 1 λa11=>ldI .u8 w1 a11 λx12=>lt (u32.wrap x12) λx13=>(0:Int)<=8/\lt (qzi .u32 x13 8) λx14=>lt (orV .u32 x10 x14) λx15=>ixS b_0.a b_0.len 3 1 λa16=>ldI .u8 w1 a16 λx17=>lt (u32.wrap x17) λx18=>lt (orV .u32 x15 x18) λx19=>Q (.int .u32 x19) w1
theorem qgi.ok(b_0:Sl)(Q:VWP)(w:World)(h:qgi b_0 Q w):Calls prog 67 ⟨[sV b_0]⟩ w (Ret Q):=
 qhc [.tmp 2] qde Tryz.func67 rfl rfl rfl rfl .lf (by kernel_rfl) h
def qe.j6(h_2 t4:Addr)(Q:VWP)(w:World):Prop:=ldA w h_2 5 λc1=>(c1).size=5/\stA w t4 c1 λw2=>ldA w2 t4 5 λc3=>Q (.agg c3) w2
def qe.b1(h_2 t4 x_8:Addr)(i_13:Int)(Q:VWP)(nx1:Addr->Addr->Addr->Int->WP)(w:World):Prop:=br (decide (i_13<5)) (lt (World.drew w) λw4=>ixA h_2 5 i_13 1 λa5=>ldI .u32 w4 a5 λx6=>ixA x_8 5 i_13 1 λa7=>ldI .u32 w4 a7 λx8=>lt (u32.wrap (x6+x8)) λx9=>ixA h_2 5 i_13 1 λa10=>st w4 a10 (.int .u32 x9) λw11=>lt (i64.wrap (i_13+1)) λx12=>nx1 h_2 t4 x_8 x12 w11) (qe.j6 h_2 t4 Q w)
def qe.l1(h_2 t4 x_8:Addr)(i_13:Int)(Q:VWP)(w:World):Prop:=∃(I:Int->WP) (μ:Int->World->Nat),I i_13 w/\∀i_13:Int,∀w:World,I i_13 w->qe.b1 h_2 t4 x_8 i_13 Q (λh_2' t4' x_8' i_13' w'=>(h_2'=h_2/\t4'=t4/\x_8'=x_8)/\I i_13' w'/\μ i_13' w'<μ i_13 w) w
def qe.j7(h_2 t4 x_8:Addr)(i_13:Int)(Q:VWP)(w:World):Prop:=qe.l1 h_2 t4 x_8 i_13 Q w
def qe.j5(h_2 t4 x_8:Addr)(Q:VWP)(w:World):Prop:=qe.j7 h_2 t4 x_8 0 Q w
def qe.j10(h_2 t4:Addr)(w_5:Sl)(x_8:Addr)(t_9:Int)(Q:VWP)(nx2:Addr->Addr->Sl->Addr->Int->WP)(w:World):Prop:=lt (i64.wrap (t_9+1)) λx13=>nx2 h_2 t4 w_5 x_8 x13 w
def qe.j13(h_2 t4:Addr)(w_5:Sl)(x_8:Addr)(t_9:Int)(temp_12:Int)(Q:VWP)(nx2:Addr->Addr->Sl->Addr->Int->WP)(w:World):Prop:=ixA x_8 5 3 1 λa14=>ldI .u32 w a14 λx15=>ixA x_8 5 4 1 λa16=>st w a16 (.int .u32 x15) λw17=>ixA x_8 5 2 1 λa18=>ldI .u32 w17 a18 λx19=>ixA x_8 5 3 1 λa20=>st w17 a20 (.int .u32 x19) λw21=>ixA x_8 5 1 1 λa22=>ldI .u32 w21 a22 λx23=>qlj 68 [.int .u32 x23,.int .u64 30] w21 λr26 w25=>ixA x_8 5 2 1 λa27=>st w25 a27 (.int .u32 r26) λw28=>ixA x_8 5 0 1 λa29=>ldI .u32 w28 a29 λx30=>ixA x_8 5 1 1 λa31=>st w28 a31 (.int .u32 x30) λw32=>ixA x_8 5 0 1 λa33=>st w32 a33 (.int .u32 temp_12) λw34=>qe.j10 h_2 t4 w_5 x_8 t_9 Q nx2 w34
def qe.j12(h_2 t4:Addr)(w_5:Sl)(x_8:Addr)(t_9:Int)(f_10 k_11:Int)(Q:VWP)(nx2:Addr->Addr->Sl->Addr->Int->WP)(w:World):Prop:=lt (World.drew w) λw35=>ixA x_8 5 0 1 λa36=>ldI .u32 w35 a36 λx37=>ixA x_8 5 4 1 λa38=>ixS w_5.a w_5.len t_9 1 λa39=>(qlj 68 [.int .u32 x37,.int .u64 5] w35 λr42 w41=>lt (u32.wrap (r42+f_10)) λx43=>(ldI .u32 w41 a38 λx44=>lt (u32.wrap (x43+x44)) λx45=>lt (u32.wrap (x45+k_11)) λx46=>ldI .u32 w41 a39 λx47=>lt (u32.wrap (x46+x47)) λx48=>qe.j13 h_2 t4 w_5 x_8 t_9 x48 Q nx2 w41)/\(ldI .u32 w41 a39 λx49=>ldI .u32 w41 a38 λx50=>lt (u32.wrap (x43+x50)) λx51=>lt (u32.wrap (x51+k_11)) λx52=>lt (u32.wrap (x52+x49)) λx53=>qe.j13 h_2 t4 w_5 x_8 t_9 x53 Q nx2 w41))/\(ldI .u32 w35 a38 λx54=>(qlj 68 [.int .u32 x37,.int .u64 5] w35 λr57 w56=>lt (u32.wrap (r57+f_10)) λx58=>lt (u32.wrap (x58+x54)) λx59=>lt (u32.wrap (x59+k_11)) λx60=>ldI .u32 w56 a39 λx61=>lt (u32.wrap (x60+x61)) λx62=>qe.j13 h_2 t4 w_5 x_8 t_9 x62 Q nx2 w56)/\(ldI .u32 w35 a39 λx63=>qlj 68 [.int .u32 x37,.int .u64 5] w35 λr66 w65=>lt (u32.wrap (r66+f_10)) λx67=>lt (u32.wrap (x67+x54)) λx68=>lt (u32.wrap (x68+k_11)) λx69=>lt (u32.wrap (x69+x63)) λx70=>qe.j13 h_2 t4 w_5 x_8 t_9 x70 Q nx2 w65))/\(ldI .u32 w35 a39 λx71=>(qlj 68 [.int .u32 x37,.int .u64 5] w35 λr74 w73=>lt (u32.wrap (r74+f_10)) λx75=>ldI .u32 w73 a38 λx76=>lt (u32.wrap (x75+x76)) λx77=>lt (u32.wrap (x77+k_11)) λx78=>lt (u32.wrap (x78+x71)) λx79=>qe.j13 h_2 t4 w_5 x_8 t_9 x79 Q nx2 w73)/\(ldI .u32 w35 a38 λx80=>qlj 68 [.int .u32 x37,.int .u64 5] w35 λr83 w82=>lt (u32.wrap (r83+f_10)) λx84=>lt (u32.wrap (x84+x80)) λx85=>lt (u32.wrap (x85+k_11)) λx86=>lt (u32.wrap (x86+x71)) λx87=>qe.j13 h_2 t4 w_5 x_8 t_9 x87 Q nx2 w82))
def qe.j11(h_2 t4:Addr)(w_5:Sl)(x_8:Addr)(t_9:Int)(Q:VWP)(nx2:Addr->Addr->Sl->Addr->Int->WP)(w:World):Prop:=
 br (decide (t_9<20)) (
 ixA x_8 5 1 1 λa88=>
 ldI .u32 w a88 λx89=>
 ixA x_8 5 2 1 λa90=>
 ldI .u32 w a90 λx91=>
 lt (qdj .u32 x89 x91) λx92=>
 ixA x_8 5 1 1 λa93=>
 ldI .u32 w a93 λx94=>
 lt (qlk .u32 (if signed .u32 then -1 else IntKind.max .u32) x94) λx95=>
 ixA x_8 5 3 1 λa96=>
 ldI .u32 w a96 λx97=>
 lt (qdj .u32 x95 x97) λx98=>
 lt (orV .u32 x92 x98) λx99=>
 qe.j12 h_2 t4 w_5 x_8 t_9 x99 1518500249 Q nx2 w) (
 br (decide (t_9<40)) (
 ixA x_8 5 1 1 λa100=>
 ldI .u32 w a100 λx101=>
 ixA x_8 5 2 1 λa102=>
 ldI .u32 w a102 λx103=>
 lt (qlk .u32 x101 x103) λx104=>
 ixA x_8 5 3 1 λa105=>
 ldI .u32 w a105 λx106=>
 lt (qlk .u32 x104 x106) λx107=>
 qe.j12 h_2 t4 w_5 x_8 t_9 x107 1859775393 Q nx2 w) (
 br (decide (t_9<60)) (
 ixA x_8 5 1 1 λa108=>
 ldI .u32 w a108 λx109=>
 ixA x_8 5 2 1 λa110=>
 ldI .u32 w a110 λx111=>
 lt (qdj .u32 x109 x111) λx112=>
 ixA x_8 5 1 1 λa113=>
 ldI .u32 w a113 λx114=>
 ixA x_8 5 3 1 λa115=>
 ldI .u32 w a115 λx116=>
 lt (qdj .u32 x114 x116) λx117=>
 lt (orV .u32 x112 x117) λx118=>
 ixA x_8 5 2 1 λa119=>
 ldI .u32 w a119 λx120=>
 ixA x_8 5 3 1 λa121=>
 ldI .u32 w a121 λx122=>
 lt (qdj .u32 x120 x122) λx123=>
 lt (orV .u32 x118 x123) λx124=>
 qe.j12 h_2 t4 w_5 x_8 t_9 x124 2400959708 Q nx2 w) (
 ixA x_8 5 1 1 λa125=>
 ldI .u32 w a125 λx126=>
 ixA x_8 5 2 1 λa127=>
 ldI .u32 w a127 λx128=>
 lt (qlk .u32 x126 x128) λx129=>
 ixA x_8 5 3 1 λa130=>
 ldI .u32 w a130 λx131=>
 lt (qlk .u32 x129 x131) λx132=>
 qe.j12 h_2 t4 w_5 x_8 t_9 x132 3395469782 Q nx2 w)))
def qe.j9(h_2 t4:Addr)(w_5:Sl)(x_8:Addr)(t_9:Int)(Q:VWP)(nx2:Addr->Addr->Sl->Addr->Int->WP)(w:World):Prop:=qe.j11 h_2 t4 w_5 x_8 t_9 Q nx2 w
def qe.b2(h_2 t4:Addr)(w_5:Sl)(x_8:Addr)(t_9:Int)(Q:VWP)(nx2:Addr->Addr->Sl->Addr->Int->WP)(w:World):Prop:=br (decide (t_9<80)) (qe.j9 h_2 t4 w_5 x_8 t_9 Q nx2 w) (qe.j5 h_2 t4 x_8 Q w)
def qe.l2(h_2 t4:Addr)(w_5:Sl)(x_8:Addr)(t_9:Int)(Q:VWP)(w:World):Prop:=∃(I:Int->WP) (μ:Int->World->Nat),I t_9 w/\∀t_9:Int,∀w:World,I t_9 w->qe.b2 h_2 t4 w_5 x_8 t_9 Q (λh_2' t4' w_5' x_8' t_9' w'=>(h_2'=h_2/\t4'=t4/\w_5'=w_5/\x_8'=x_8)/\I t_9' w'/\μ t_9' w'<μ t_9 w) w
def qe.j8(h_2 t4:Addr)(w_5:Sl)(x_8:Addr)(t_9:Int)(Q:VWP)(w:World):Prop:=qe.l2 h_2 t4 w_5 x_8 t_9 Q w
def qe.j4(h_2 t4:Addr)(w_5:Sl)(x_8:Addr)(Q:VWP)(w:World):Prop:=qe.j8 h_2 t4 w_5 x_8 0 Q w
def qe.j3(h_2 t4:Addr)(w_5:Sl)(Q:VWP)(w:World):Prop:=ldA w h_2 5 λc133=>nw w (zc prog 87) 87 λa134 w135=>(c133).size=5/\stA w135 a134 c133 λw136=>qe.j4 h_2 t4 w_5 a134 Q w136
def qe.b3(h_2 t4:Addr)(w_5:Sl)(t_7:Int)(Q:VWP)(nx3:Addr->Addr->Sl->Int->WP)(w:World):Prop:=br (decide (t_7<80)) (lt (World.drew w) λw137=>lt (i64.wrap (t_7-3)) λx138=>ixS w_5.a w_5.len x138 1 λa139=>ldI .u32 w137 a139 λx140=>lt (i64.wrap (t_7-8)) λx141=>ixS w_5.a w_5.len x141 1 λa142=>ldI .u32 w137 a142 λx143=>lt (qlk .u32 x140 x143) λx144=>lt (i64.wrap (t_7-14)) λx145=>ixS w_5.a w_5.len x145 1 λa146=>ldI .u32 w137 a146 λx147=>lt (qlk .u32 x144 x147) λx148=>lt (i64.wrap (t_7-16)) λx149=>ixS w_5.a w_5.len x149 1 λa150=>ldI .u32 w137 a150 λx151=>lt (qlk .u32 x148 x151) λx152=>qlj 68 [.int .u32 x152,.int .u64 1] w137 λr155 w154=>ixS w_5.a w_5.len t_7 1 λa156=>st w154 a156 (.int .u32 r155) λw157=>lt (i64.wrap (t_7+1)) λx158=>nx3 h_2 t4 w_5 x158 w157) (qe.j3 h_2 t4 w_5 Q w)
def qe.l3(h_2 t4:Addr)(w_5:Sl)(t_7:Int)(Q:VWP)(w:World):Prop:=∃(I:Int->WP) (μ:Int->World->Nat),I t_7 w/\∀t_7:Int,∀w:World,I t_7 w->qe.b3 h_2 t4 w_5 t_7 Q (λh_2' t4' w_5' t_7' w'=>(h_2'=h_2/\t4'=t4/\w_5'=w_5)/\I t_7' w'/\μ t_7' w'<μ t_7 w) w
def qe.j14(h_2 t4:Addr)(w_5:Sl)(t_7:Int)(Q:VWP)(w:World):Prop:=qe.l3 h_2 t4 w_5 t_7 Q w
def qe.j2(h_2 t4:Addr)(w_5:Sl)(Q:VWP)(w:World):Prop:=qe.j14 h_2 t4 w_5 16 Q w
def qe.b4(b_1:Sl)(h_2:Addr)(t4:Addr)(w_5:Sl)(t_6:Int)(Q:VWP)(nx4:Sl->Addr->Addr->Sl->Int->WP)(w:World):Prop:=br (decide (t_6<16)) (lt (i64.wrap (4*t_6)) λx159=>bd x159 b_1.len λn160=>lt (⟨qnf b_1.a b_1.cap n160 1,b_1.len-n160,b_1.cap-n160⟩:Sl) λs161=>qlj 67 [sV s161] w λr164 w163=>ixS w_5.a w_5.len t_6 1 λa165=>st w163 a165 (.int .u32 r164) λw166=>lt (i64.wrap (t_6+1)) λx167=>nx4 b_1 h_2 t4 w_5 x167 w166) (qe.j2 h_2 t4 w_5 Q w)
def qe.l4(b_1:Sl)(h_2:Addr)(t4:Addr)(w_5:Sl)(t_6:Int)(Q:VWP)(w:World):Prop:=∃(I:Int->WP) (μ:Int->World->Nat),I t_6 w/\∀t_6:Int,∀w:World,I t_6 w->qe.b4 b_1 h_2 t4 w_5 t_6 Q (λb_1' h_2' t4' w_5' t_6' w'=>(b_1'=b_1/\h_2'=h_2/\t4'=t4/\w_5'=w_5)/\I t_6' w'/\μ t_6' w'<μ t_6 w) w
def qe.j15(b_1:Sl)(h_2:Addr)(t4:Addr)(w_5:Sl)(t_6:Int)(Q:VWP)(w:World):Prop:=qe.l4 b_1 h_2 t4 w_5 t_6 Q w
def qe.j1(b_1:Sl)(h_2:Addr)(t4:Addr)(w_5:Sl)(Q:VWP)(w:World):Prop:=qe.j15 b_1 h_2 t4 w_5 0 Q w
def qe(h_0:(Array Value))(b_1:Sl)(Q:VWP)(w:World):Prop:=nw w h_0 87 λa168 w169=>nw w169 (zc prog 87) 87 λa170 w171=>mkK prog 40 w171 80 80 λs172 w173=>qe.j1 b_1 a168 a170 s172 Q w173
theorem qe.ok(h_0:(Array Value))(b_1:Sl)(Q:VWP)(w:World)(h:qe h_0 b_1 Q w):Calls prog 47 ⟨[.agg h_0,sV b_1]⟩ w (Ret Q):=
 qhc [.cell 4 87] qde Tryz.func47 rfl rfl rfl rfl (.pr 1 [sL 1,sA 2,sA 4,sL 5] (λa b c d w=>qe.j1 a b c d Q w) (.sq [sA 2,sA 4,sL 5] (λa b c w=>qe.j2 a b c Q w) (.sq [sL 1,sA 2,sA 4,sL 5,sI 6] (λa b c d e w=>qe.j15 a b c d e Q w) .lf (.bk (.lo [sL 1,sA 2,sA 4,sL 5] [sI 6] (λa b c d e w=>qe.l4 a b c d e Q w) (λnx4 a b c d e w=>qe.b4 a b c d e Q nx4 w) λnx4=> .lf))) (.sq [sA 2,sA 4,sL 5] (λa b c w=>qe.j3 a b c Q w) (.sq [sA 2,sA 4,sL 5,sI 7] (λa b c d w=>qe.j14 a b c d Q w) .lf (.bk (.lo [sA 2,sA 4,sL 5] [sI 7] (λa b c d w=>qe.l3 a b c d Q w) (λnx3 a b c d w=>qe.b3 a b c d Q nx3 w) λnx3=> .lf))) (.sq [sA 2,sA 4,sL 5,sA 8] (λa b c d w=>qe.j4 a b c d Q w) .lf (.sq [sA 2,sA 4,sA 8] (λa b c w=>qe.j5 a b c Q w) (.sq [sA 2,sA 4,sL 5,sA 8,sI 9] (λa b c d e w=>qe.j8 a b c d e Q w) .lf (.bk (.lo [sA 2,sA 4,sL 5,sA 8] [sI 9] (λa b c d e w=>qe.l2 a b c d e Q w) (λnx2 a b c d e w=>qe.b2 a b c d e Q nx2 w) λnx2=>(.sq [sA 2,sA 4,sL 5,sA 8,sI 9] (λa b c d e w=>qe.j9 a b c d e Q nx2 w) .lf (.sq [sA 2,sA 4,sL 5,sA 8,sI 9] (λa b c d e w=>qe.j10 a b c d e Q nx2 w) (.bk (.sq [sA 2,sA 4,sL 5,sA 8,sI 9] (λa b c d e w=>qe.j11 a b c d e Q nx2 w) .lf (.pr 1 [sA 2,sA 4,sL 5,sA 8,sI 9,(10,.I .u32),(11,.I .u32)] (λa b c d e f g w=>qe.j12 a b c d e f g Q nx2 w) (.sq [sA 2,sA 4,sL 5,sA 8,sI 9,(12,.I .u32)] (λa b c d e f w=>qe.j13 a b c d e f Q nx2 w) .lf .lf)))) .lf))))) (.sq [sA 2,sA 4] (λa b w=>qe.j6 a b Q w) (.sq [sA 2,sA 4,sA 8,sI 13] (λa b c d w=>qe.j7 a b c d Q w) .lf (.bk (.lo [sA 2,sA 4,sA 8] [sI 13] (λa b c d w=>qe.l1 a b c d Q w) (λnx1 a b c d w=>qe.b1 a b c d Q nx1 w) λnx1=> .lf))) .lf)))))) (by kernel_rfl) h
def qo.j9(t2 out_8:Addr)(Q:VWP)(w:World):Prop:=ldA w out_8 20 λc1=>(c1).size=20/\stA w t2 c1 λw2=>ldA w2 t2 20 λc3=>Q (.agg c3) w2
def qo.b1(t2 h_6 out_8:Addr)(i_9:Int)(Q:VWP)(nx1:Addr->Addr->Addr->Int->WP)(w:World):Prop:=br (decide (i_9<20)) ((4:Int)≠0/\lt (i64.wrap (tdiv i_9 4)) λx4=>ixA h_6 5 x4 1 λa5=>ldI .u32 w a5 λx6=>(4:Int)≠0/\lt (tmod i_9 4) λx7=>lt (u64.wrap x7) λx8=>lt (u64.wrap (8*x8)) λx9=>lt (u64.wrap (24-x9)) λx10=>(0:Int)<=x10/\lt (qal .u32 x6 x10) λx11=>lt (IntKind.u8.wrap x11) λx12=>ixA out_8 20 i_9 1 λa13=>st w a13 (.int .u8 x12) λw14=>lt (i64.wrap (i_9+1)) λx15=>nx1 t2 h_6 out_8 x15 w14) (qo.j9 t2 out_8 Q w)
def qo.l1(t2 h_6 out_8:Addr)(i_9:Int)(Q:VWP)(w:World):Prop:=∃(I:Int->WP) (μ:Int->World->Nat),I i_9 w/\∀i_9:Int,∀w:World,I i_9 w->qo.b1 t2 h_6 out_8 i_9 Q (λt2' h_6' out_8' i_9' w'=>(t2'=t2/\h_6'=h_6/\out_8'=out_8)/\I i_9' w'/\μ i_9' w'<μ i_9 w) w
def qo.j10(t2 h_6 out_8:Addr)(i_9:Int)(Q:VWP)(w:World):Prop:=qo.l1 t2 h_6 out_8 i_9 Q w
def qo.j8(t2 h_6 out_8:Addr)(Q:VWP)(w:World):Prop:=qo.j10 t2 h_6 out_8 0 Q w
def qo.j7(t2 h_6:Addr)(Q:VWP)(w:World):Prop:=nw w (zc prog 39) 39 λa16 w17=>qo.j8 t2 h_6 a16 Q w17
def qo.b2(t2:Addr)(all_3:Sl)(h_6:Addr)(i_7:Int)(Q:VWP)(nx2:Addr->Sl->Addr->Int->WP)(w:World):Prop:=br (decide (i_7<(all_3.len:Int))) (lt (World.drew w) λw18=>ldA w18 h_6 5 λc19=>lt (i64.wrap (i_7+64)) λx20=>bd x20 all_3.cap λn21=>bd i_7 n21 λn22=>lt (⟨qnf all_3.a all_3.cap n22 1,n21-n22,all_3.cap-n22⟩:Sl) λs23=>qgv 47 [.agg c19,sV s23] w18 λr26 w25=>(r26).size=5/\stA w25 h_6 r26 λw27=>lt (i64.wrap (i_7+64)) λx28=>nx2 t2 all_3 h_6 x28 w27) (qo.j7 t2 h_6 Q w)
def qo.l2(t2:Addr)(all_3:Sl)(h_6:Addr)(i_7:Int)(Q:VWP)(w:World):Prop:=∃(I:Int->WP) (μ:Int->World->Nat),I i_7 w/\∀i_7:Int,∀w:World,I i_7 w->qo.b2 t2 all_3 h_6 i_7 Q (λt2' all_3' h_6' i_7' w'=>(t2'=t2/\all_3'=all_3/\h_6'=h_6)/\I i_7' w'/\μ i_7' w'<μ i_7 w) w
def qo.j11(t2:Addr)(all_3:Sl)(h_6:Addr)(i_7:Int)(Q:VWP)(w:World):Prop:=qo.l2 t2 all_3 h_6 i_7 Q w
def qo.j6(t2:Addr)(all_3:Sl)(h_6:Addr)(Q:VWP)(w:World):Prop:=qo.j11 t2 all_3 h_6 0 Q w
def qo.j5(t2:Addr)(all_3:Sl)(Q:VWP)(w:World):Prop:=nw w (zc prog 87) 87 λa29 w30=>((⟨[.int .u32 1732584193,.int .u32 4023233417,.int .u32 2562383102,.int .u32 271733878,.int .u32 3285377520]⟩:Array Value)).size=5/\stA w30 a29 (⟨[.int .u32 1732584193,.int .u32 4023233417,.int .u32 2562383102,.int .u32 271733878,.int .u32 3285377520]⟩:Array Value) λw31=>qo.j6 t2 all_3 a29 Q w31
def qo.b3(t2:Addr)(n_4:Int)(all_3:Sl)(i_5:Int)(Q:VWP)(nx3:Addr->Int->Sl->Int->WP)(w:World):Prop:=br (decide (i_5>=0)) (lt (u64.wrap i_5) λx32=>lt (u64.wrap (8*x32)) λx33=>(0:Int)<=x33/\lt (qal .u64 n_4 x33) λx34=>lt (IntKind.u8.wrap x34) λx35=>nw w ⟨[.int .u8 x35]⟩ 5 λa36 w37=>rdO w37 (some a36) (1*1) λc38=>apK prog 5 w37 all_3.a all_3.len all_3.cap 1 c38 λs39 w40=>lt (i64.wrap (i_5-1)) λx41=>nx3 t2 n_4 s39 x41 w40) (qo.j5 t2 all_3 Q w)
def qo.l3(t2:Addr)(n_4:Int)(all_3:Sl)(i_5:Int)(Q:VWP)(w:World):Prop:=∃(I:Sl->Int->WP) (μ:Sl->Int->World->Nat),I all_3 i_5 w/\∀all_3:Sl,∀i_5:Int,∀w:World,I all_3 i_5 w->qo.b3 t2 n_4 all_3 i_5 Q (λt2' n_4' all_3' i_5' w'=>(t2'=t2/\n_4'=n_4)/\I all_3' i_5' w'/\μ all_3' i_5' w'<μ all_3 i_5 w) w
def qo.j12(t2:Addr)(all_3:Sl)(n_4 i_5:Int)(Q:VWP)(w:World):Prop:=qo.l3 t2 n_4 all_3 i_5 Q w
def qo.j4(t2:Addr)(all_3:Sl)(n_4:Int)(Q:VWP)(w:World):Prop:=qo.j12 t2 all_3 n_4 7 Q w
def qo.j3(b_0:Sl)(t2:Addr)(all_3:Sl)(Q:VWP)(w:World):Prop:=lt (u64.wrap (b_0.len:Int)) λx42=>lt (u64.wrap (x42*8)) λx43=>qo.j4 t2 all_3 x43 Q w
def qo.b4(b_0:Sl)(t2:Addr)(all_3:Sl)(Q:VWP)(nx4:Sl->Addr->Sl->WP)(w:World):Prop:=(64:Int)≠0/\lt (tmod (all_3.len:Int) 64) λx44=>br (x44 !=56) (nw w ⟨[.int .u8 0]⟩ 5 λa45 w46=>rdO w46 (some a45) (1*1) λc47=>apK prog 5 w46 all_3.a all_3.len all_3.cap 1 c47 λs48 w49=>nx4 b_0 t2 s48 w49) (qo.j3 b_0 t2 all_3 Q w)
def qo.l4(b_0:Sl)(t2:Addr)(all_3:Sl)(Q:VWP)(w:World):Prop:=∃(I:Sl->WP) (μ:Sl->World->Nat),I all_3 w/\∀all_3:Sl,∀w:World,I all_3 w->qo.b4 b_0 t2 all_3 Q (λb_0' t2' all_3' w'=>(b_0'=b_0/\t2'=t2)/\I all_3' w'/\μ all_3' w'<μ all_3 w) w
def qo.j2(b_0:Sl)(t2:Addr)(all_3:Sl)(Q:VWP)(w:World):Prop:=qo.l4 b_0 t2 all_3 Q w
def qo.j1(b_0:Sl)(t2:Addr)(Q:VWP)(w:World):Prop:=nw w ⟨[]⟩ 5 λa50 w51=>rdO w51 b_0.a (b_0.len*1) λc52=>apK prog 5 w51 (some a50) 0 0 b_0.len c52 λs53 w54=>nw w54 ⟨[.int .u8 128]⟩ 5 λa55 w56=>rdO w56 (some a55) (1*1) λc57=>apK prog 5 w56 s53.a s53.len s53.cap 1 c57 λs58 w59=>qo.j2 b_0 t2 s58 Q w59
def qo(b_0:Sl)(Q:VWP)(w:World):Prop:=nw w (zc prog 39) 39 λa60 w61=>qo.j1 b_0 a60 Q w61
theorem qo.ok(b_0:Sl)(Q:VWP)(w:World)(h:qo b_0 Q w):Calls prog 24 ⟨[sV b_0]⟩ w (Ret Q):=
 qhc [.cell 2 39] qde Tryz.func24 rfl rfl rfl rfl (.sq [sL 0,sA 2] (λa b w=>qo.j1 a b Q w) .lf (.pr 1 [sL 0,sA 2,sL 3] (λa b c w=>qo.j2 a b c Q w) (.sq [sL 0,sA 2,sL 3] (λa b c w=>qo.j3 a b c Q w) (.bk (.lo [sL 0,sA 2] [sL 3] (λa b c w=>qo.l4 a b c Q w) (λnx4 a b c w=>qo.b4 a b c Q nx4 w) λnx4=> .lf)) (.sq [sA 2,sL 3,(4,.I .u64)] (λa b c w=>qo.j4 a b c Q w) .lf (.sq [sA 2,sL 3] (λa b w=>qo.j5 a b Q w) (.sq [sA 2,sL 3,(4,.I .u64),sI 5] (λa b c d w=>qo.j12 a b c d Q w) .lf (.bk (.lo [sA 2,(4,.I .u64)] [sL 3,sI 5] (λa b c d w=>qo.l3 a b c d Q w) (λnx3 a b c d w=>qo.b3 a b c d Q nx3 w) λnx3=> .lf))) (.sq [sA 2,sL 3,sA 6] (λa b c w=>qo.j6 a b c Q w) .lf (.sq [sA 2,sA 6] (λa b w=>qo.j7 a b Q w) (.sq [sA 2,sL 3,sA 6,sI 7] (λa b c d w=>qo.j11 a b c d Q w) .lf (.bk (.lo [sA 2,sL 3,sA 6] [sI 7] (λa b c d w=>qo.l2 a b c d Q w) (λnx2 a b c d w=>qo.b2 a b c d Q nx2 w) λnx2=> .lf))) (.sq [sA 2,sA 6,sA 8] (λa b c w=>qo.j8 a b c Q w) .lf (.sq [sA 2,sA 8] (λa b w=>qo.j9 a b Q w) (.sq [sA 2,sA 6,sA 8,sI 9] (λa b c d w=>qo.j10 a b c d Q w) .lf (.bk (.lo [sA 2,sA 6,sA 8] [sI 9] (λa b c d w=>qo.l1 a b c d Q w) (λnx1 a b c d w=>qo.b1 a b c d Q nx1 w) λnx1=> .lf))) .lf))))))))) (by kernel_rfl) h
end
section
attribute [local irreducible] apK cpK mkK
def lf(x n:Int):Int:=orV .u32 (qzi .u32 x n) (qal .u32 x (32-n))
def no32(b:Int):Int:=qlk .u32 4294967295 b
def mixF(t:Nat)(b c d:Int):Int×Int:=
 if t<20 then(orV .u32 (qdj .u32 b c) (qdj .u32 (no32 b) d),1518500249)
 else if t<40 then(qlk .u32 (qlk .u32 b c) d,1859775393)
 else if t<60 then(orV .u32 (orV .u32 (qdj .u32 b c) (qdj .u32 b d)) (qdj .u32 c d),2400959708)
 else(qlk .u32 (qlk .u32 b c) d,3395469782)
structure W5 where
 a:Int
 b:Int
 c:Int
 d:Int
 e:Int
def stepF(t:Nat)(x:Int)(s:W5):W5:=⟨u32.wrap (u32.wrap (u32.wrap (u32.wrap (lf s.a 5+(mixF t s.b s.c s.d).1)+s.e)+(mixF t s.b s.c s.d).2)+x),s.a,lf s.b 30,s.c,s.d⟩
def rounds(l:List Int):Nat->W5->W5
 |0,s=>s
 |n+1,s=>stepF n (l.getD n 0) (rounds l n s)
def nextW(l:List Int):Int:=lf (qlk .u32 (qlk .u32 (qlk .u32 (l.getD (l.length-3) 0) (l.getD (l.length-8) 0)) (l.getD (l.length-14) 0)) (l.getD (l.length-16) 0)) 1
def qkj:Nat->List Int->List Int
 |0,l=>l
 |n+1,l=>qkj n (l++[nextW l])
theorem qew(n:Nat):∀l,qkj (n+1) l=qkj n l++[nextW (qkj n l)]:=by
 induction n with
 |zero=>intro l;rfl
 |succ n ih=>intro l;rw[qkj,ih];rfl
theorem qns(n:Nat)(l:List Int):(qkj n l).length=l.length+n:=by
 induction n generalizing l with
 |zero=>rfl
 |succ n ih=>rw[qkj,ih];simp;omega
def be(l:List Int):Int:=l.foldl (λa x=>a*256+x) 0
theorem qidb(l:List Int)(x:Int):be (l++[x])=be l*256+x:=by simp[be]
def qsg(p:List Int):List Int:=(range 16).map λt=>be ((p.drop (4*t)).take 4)
def addW(s x:W5):W5:=⟨u32.wrap (s.a+x.a),u32.wrap (s.b+x.b),u32.wrap (s.c+x.c),u32.wrap (s.d+x.d),u32.wrap (s.e+x.e)⟩
def blkF(s:W5)(p:List Int):W5:=addW s (rounds (qkj 64 (qsg p)) 80 s)
def W5.l(s:W5):List Int:=[s.a,s.b,s.c,s.d,s.e]
abbrev quh(l:List Int):List Value:=l.map (int .u32)
theorem qge(l:List Int):(quh l).length=l.length:=by simp[quh]
theorem qhp{l:List Int}{i:Nat}(h:i<l.length):(quh l)[i]?=some (.int .u32 (l.getD i 0)):=by
 simp[quh,h,getD,getElem?_eq_getElem h]
theorem qzw(l:List Int)(i:Nat)(v:Int):(quh l).set i (.int .u32 v)=quh (l.set i v):=by
 unfold quh;rw[List.map_set]
theorem qjrb{l:List Int}{i:Nat}(h:i<l.length):(u8s l)[i]?=some (.int .u8 (l.getD i 0)):=by
 simp[u8s,h,getD,getElem?_eq_getElem h]
def init5:W5:=⟨1732584193,4023233417,2562383102,271733878,3285377520⟩
def hs(xs:List Int):Nat->W5
 |0=>init5
 |n+1=>blkF (hs xs n) ((xs.drop (64*n)).take 64)
theorem qgy(xs ys:List Int):∀n,64*n<=xs.length->hs (xs++ys) n=hs xs n
 |0,_=>rfl
 |n+1,h=>by
  rw[hs,hs,qgy xs ys n (by omega)];congr 1;rw[List.drop_append_of_le_length (by omega),List.take_append_of_le_length (by rw[length_drop];omega)]
def be8(n:Int):List Int:=(range 8).map λi=>n/2^(8*(7-i))%256
def zeros(n:Nat):List Int:=replicate ((119-n%64)%64) 0
def qar(xs:List Int):List Int:=xs++[128]++zeros xs.length++be8 (8*xs.length)
theorem qvx(xs:List Int):(qar xs).length%64=0:=by
 simp[qar,zeros,be8];omega
def sumW(xs:List Int):W5:=hs (qar xs) ((qar xs).length/64)
def word4(x:Int):List Int:=[x/2^24%256,x/2^16%256,x/2^8%256,x%256]
def qtk(xs:List Int):List Int:=(sumW xs).l.flatMap word4
section
variable {F0:List Nat}{w0 w:World}{ps:List As}
theorem qxn{b o n sz:Nat}{i:Int}{K:Addr->Prop}(h0:0<=i)(h1:i<(n:Int))(hk:K ⟨b,o+i.toNat*sz,none⟩):ixA ⟨b,o,none⟩ n i sz K:=by
 unfold ixA;rw[qyf];exact⟨⟨h0,h1⟩,hk⟩
theorem qgm.c{x n:Int}{K:Ending->World->Prop}(hn:0<=n/\n<=32)(hk:∀w',Mod [] w w'->K (.returned (.int .u32 (lf x n))) w'):Calls prog 74 ⟨[.int .u32 x,.int .i64 n]⟩ w K:=by
 refine qdc (qgm.ok _ _ _ _ ?_);unfold qgm;refine qbe ?_;refine⟨hn.1,qbe ?_⟩;refine qm (qd (by omega) (by omega)) ?_;refine⟨by omega,qbe (qbe ?_)⟩;exact hk _ (Mod.drew w)
theorem qre.c{x n:Int}{K:Ending->World->Prop}(hn:0<=n/\n<=32)(hk:K (.returned (.int .u32 (lf x n))) w):Calls prog 68 ⟨[.int .u32 x,.int .u64 n]⟩ w K:=by
 refine qdc (qre.ok _ _ _ _ ?_);unfold qre;refine⟨hn.1,qbe ?_⟩;refine qm (show u64.wrap (32-n)=32-n by rw[qgh];omega) ?_;refine⟨by omega,qbe (qbe ?_)⟩;exact hk
theorem qpr.c{t:Nat}{b c d:Int}{K:Ending->World->Prop}(ht:t<80)(hk:K (.returned (.tuple ⟨[.int .u32 (mixF t b c d).1,.int .u32 (mixF t b c d).2]⟩)) w):Calls prog 75 ⟨[.int .i64 t,.int .u32 b,.int .u32 c,.int .u32 d]⟩ w K:=by
 refine qdc (qpr.ok _ _ _ _ _ _ ?_);unfold qpr;refine⟨by decide,?_⟩;rw[qno (by omega)];refine qm (qd (by omega) (by omega)) ?_;unfold mixF at hk;refine qye (λh1=>?_) (λh1=>?_)
 ·have h1:(t:Int)/20=0:=by simpa using h1
  rw[if_pos (by omega)]at hk;exact qbe (qbe (qbe (qbe hk)))
 have h1:¬(t:Int)/20=0:=by simpa using h1
 rw[if_neg (by omega)]at hk;refine qye (λh2=>?_) (λh2=>?_)
 ·have h2:(t:Int)/20=1:=by simpa using h2
  rw[if_pos (by omega)]at hk;exact qbe (qbe hk)
 have h2:¬(t:Int)/20=1:=by simpa using h2
 rw[if_neg (by omega)]at hk;refine qye (λh3=>?_) (λh3=>?_)
 ·have h3:(t:Int)/20=2:=by simpa using h3
  rw[if_pos (by omega)]at hk;exact qbe (qbe (qbe (qbe (qbe hk))))
 have h3:¬(t:Int)/20=2:=by simpa using h3
 rw[if_neg (by omega)]at hk;exact qbe (qbe hk)
end
end
section
attribute [local irreducible] apK cpK mkK
theorem loop6{α A B D E G H:Type}{C:(A->B->D->E->G->H->World->Prop)->(A->B->D->E->G->H->World->Nat)->A->B->D->E->G->H->World->Prop}{x:A}{y:B}{z:D}{u:E}{v:G}{t:H}{w:World}(Inv:α->A->B->D->E->G->H->World->Prop)(m:α->Nat)(a:α)(h:Inv a x y z u v t w)
 (hb:∀a x y z u v t w I μ,Inv a x y z u v t w->(∀a' x' y' z' u' v' t' w',Inv a' x' y' z' u' v' t' w'->m a'<m a->I x' y' z' u' v' t' w'/\μ x' y' z' u' v' t' w'<μ x y z u v t w)->C I μ x y z u v t w):∃I μ,I x y z u v t w/\∀x y z u v t w,I x y z u v t w->C I μ x y z u v t w:=by
 obtain⟨I,μ,h1,h2⟩:=qdn (σ:=A×B×D×E×G×H×World) (C:=λI μ s=>C (λx y z u v t w=>I (x,y,z,u,v,t,w)) (λx y z u v t w=>μ (x,y,z,u,v,t,w)) s.1 s.2.1 s.2.2.1 s.2.2.2.1 s.2.2.2.2.1 s.2.2.2.2.2.1 s.2.2.2.2.2.2) (s:=(x,y,z,u,v,t,w))
  (λa s=>Inv a s.1 s.2.1 s.2.2.1 s.2.2.2.1 s.2.2.2.2.1 s.2.2.2.2.2.1 s.2.2.2.2.2.2) m a h
  (λa s I μ hi hn=>hb a s.1 s.2.1 s.2.2.1 s.2.2.2.1 s.2.2.2.2.1 s.2.2.2.2.2.1 s.2.2.2.2.2.2 _ _ hi λa' x' y' z' u' v' t' w'=>hn a' (x',y',z',u',v',t',w'))
 exact⟨λx y z u v t w=>I (x,y,z,u,v,t,w),λx y z u v t w=>μ (x,y,z,u,v,t,w),h1,λx y z u v t w hI=>h2 (x,y,z,u,v,t,w) hI⟩
attribute [local irreducible] rounds qkj
theorem qcl(l:List Value)(i:Nat):(⟨l⟩:Array Value)[i]?=l[i]?:=by simp
def qxl(l:List Int):Prop:=∀x∈l,0<=x/\x<256
theorem be_lt:∀(l:List Int),qxl l->0<=be l/\be l<256^l.length:=by
 intro l;have key:∀(l:List Int) (a:Int) (k:Nat),qxl l->0<=a->a<256^k->0<=l.foldl (λa x=>a*256+x) a/\l.foldl (λa x=>a*256+x) a<256^(k+l.length):=by
  intro l;induction l with
  |nil=>intro a k _ h0 h1;exact⟨h0,h1⟩
  |cons x l ih=>
   intro a k hb h0 h1;have hx:=hb x (by simp);have:=ih (a*256+x) (k+1) (λy hy=>hb y (by simp[hy])) (by omega) (by rw[Int.pow_succ];omega);rw[List.foldl_cons,length_cons,show k+(l.length+1)=k+1+l.length by omega];exact this
 intro hb;have:=key l 0 0 hb (by omega) (by decide);rwa[zero_add]at this
theorem qksb{x c:Int}(hx:0<=x/\x<16777216)(hc:0<=c/\c<256):orV .u32 (qzi .u32 x 8) c=x*256+c:=by
 obtain⟨n,rfl⟩:∃n:Nat,x=n:=⟨x.toNat,by omega⟩;obtain⟨m,rfl⟩:∃m:Nat,c=m:=⟨c.toNat,by omega⟩;have h1:qzi .u32 (n:Int) 8=(n:Int)*2^8:=qgib (k:= .u32) (t:=8) rfl (by decide) (by show n*2^8<2^32;omega);rw[h1,qwx,qxs (k:= .u32) (t:=8) rfl (by omega) (by show m+n*2^8<2^32;omega)];omega
def fillW(p:List Int)(i:Nat):List Int:=(range 80).map λt=>be (((p.take i).drop (4*t)).take 4)
theorem qzo(p:List Int)(i:Nat):(fillW p i).length=80:=by unfold fillW;rw[List.length_map,List.length_range]
theorem qvgb(p:List Int):fillW p 0=replicate 80 0:=by
 apply ext_getElem
 ·simp[fillW]
 ·intro i h1 h2;rw[List.getElem_replicate];simp[fillW,be]
theorem qxgb{p:List Int}{i t:Nat}(h:t<80):(fillW p i).getD t 0=be (((p.take i).drop (4*t)).take 4):=by
 unfold fillW;rw[List.getD_eq_getElem?_getD,List.getElem?_map,List.getElem?_range h];rfl
theorem qtcb{p:List Int}{i:Nat}(hp:qxl p)(hi:i<p.length):0<=be (((p.take i).drop (4*(i/4))).take 4)/\be (((p.take i).drop (4*(i/4))).take 4)<16777216:=by
 have h:=be_lt (((p.take i).drop (4*(i/4))).take 4) (λx hx=>hp x (List.mem_of_mem_take (List.mem_of_mem_drop (List.mem_of_mem_take hx))));refine⟨h.1,Int.lt_of_lt_of_le h.2 ?_⟩;have hl:(((p.take i).drop (4*(i/4))).take 4).length<=3:=by
  rw[length_take,length_drop,length_take];omega
 generalize (((p.take i).drop (4*(i/4))).take 4).length=n at hl|-
 have h3:(256:Nat)^n<=256^3:=pow_le_pow_right (by decide) hl;have h4:((256^n:Nat):Int)=256^n:=by rw[Int.natCast_pow];rfl
 have h5:(256:Nat)^3=16777216:=by decide
 omega
theorem qwgb{p:List Int}{i:Nat}(hi:i<p.length)(h64:i<64):(fillW p i).set (i/4) (be (((p.take i).drop (4*(i/4))).take 4)*256+p[i])=fillW p (i+1):=by
 apply ext_getElem
 ·simp[fillW]
 ·intro t h1 h2;simp only[length_set,qzo]at h1;have htk:p.take (i+1)=p.take i++[p[i]]:=List.take_succ_eq_append_getElem hi;rw[List.getElem_set];simp only[fillW,List.getElem_map,List.getElem_range];have hlen:(p.take i).length=i:=by rw[length_take];omega
  by_cases h:i/4=t
  ·subst h;rw[if_pos rfl,<-qidb,htk,List.drop_append_of_le_length (by rw[hlen];omega),List.take_append,take_of_length_le (l:=(p.take i).drop _) (by rw[length_drop,hlen];omega)];congr 2;rw[length_drop,hlen,take_of_length_le];simp;omega
  ·rw[if_neg h,htk];congr 1;rcases lt_or_ge t (i/4)with h3|h3
   ·rw[List.drop_append_of_le_length (by rw[hlen];omega),List.take_append_of_le_length (by rw[length_drop,hlen];omega)]
   ·rw[drop_eq_nil_of_le (by rw[hlen];omega),drop_eq_nil_of_le (by rw[length_append,hlen];simp;omega)]
theorem qokb{p:List Int}(hp:p.length=64):fillW p 64=qsg p++replicate 64 0:=by
 apply ext_getElem
 ·simp[fillW,qsg]
 ·intro t h1 h2;rw[List.getElem_append];simp only[fillW,List.getElem_map,List.getElem_range,qsg,List.length_map,List.length_range];have e:p.take 64=p:=take_of_length_le (by omega);rw[e];split
  ·rfl
  ·rw[drop_eq_nil_of_le (by omega)];rw[List.getElem_replicate];simp[be]
theorem qui{l m:List Int}{i:Nat}(h:i<l.length):(l++m).getD i 0=l.getD i 0:=by
 simp[getD,getElem?_append_left h]
theorem zc_w80:zc prog 119=⟨quh (replicate 80 0)⟩:=by kernel_rfl
section
variable {F0:List Nat}{w0 w:World}{ps:List As}
theorem St.ldu32{b o:Nat}{l:List Int}{m:List Value}{i:Nat}{K:Int->Prop}(h:St F0 w0 w (qqb b (quh l++m)::ps))(ho:o=i)(hi:i<l.length)(hk:K (l.getD i 0)):ldI .u32 w ⟨b,o,none⟩ K:=by
 subst ho;refine h.blk.ldI ?_ hk;rw[getElem?_append_left (by rw[qge];exact hi),qhp hi]
theorem St.ldu32'{b o:Nat}{l:List Int}{i:Nat}{K:Int->Prop}(h:St F0 w0 w (qqb b (quh l)::ps))(ho:o=i)(hi:i<l.length)(hk:K (l.getD i 0)):ldI .u32 w ⟨b,o,none⟩ K:=by
 subst ho;exact h.blk.ldI (qhp hi) hk
theorem St.stu32{b o:Nat}{l:List Int}{i:Nat}{v:Int}{K:World->Prop}(h:St F0 w0 w (qqb b (quh l)::ps))(ho:o=i)(hi:i<l.length)(hk:∀w',St F0 w0 w' (qqb b (quh (l.set i v))::ps)->K w'):Go.Proofs.YtdccpphmkfaioaaGreat.st w ⟨b,o,none⟩ (.int .u32 v) K:=by
 subst ho;refine h.st (by rw[qge];exact hi) trivial λw' h=>hk w' ?_;rw[qzw]at h;exact h
def someW(s x:W5)(n:Nat):List Int:=
 [if 0<n then u32.wrap (s.a+x.a)else s.a,if 1<n then u32.wrap (s.b+x.b)else s.b,if 2<n then u32.wrap (s.c+x.c)else s.c,if 3<n then u32.wrap (s.d+x.d)else s.d,if 4<n then u32.wrap (s.e+x.e)else s.e]
theorem qu.add{hb:Nat}{s x:W5}{tl:List Value}{Q:VWP}(h:St F0 w0 w (qqb hb (quh s.l++tl)::ps))
 (hk:∀w',St F0 w0 w' (qqb hb (quh (addW s x).l++tl)::ps)->Q (.tuple ⟨[]⟩) w'):qu.l1 (some ⟨hb,0,none⟩) ⟨quh x.l⟩ 0 Q w:=by
 refine qjf (λ(i:Nat) (i':Int) w=>i'=i/\i<=5/\St F0 w0 w (qqb hb (quh (someW s x i)++tl)::ps)) (λi=>5-i) 0 ⟨rfl,by omega,h⟩ ?_
 clear h
 rintro i i' w I μ ⟨rfl,hi,h⟩ hin
 unfold qu.b1
 refine quc (λh1=>?_) (λh1=>?_)
 ·refine⟨by omega,?_⟩
  have ei:((i:Int)).toNat*1=i:=by omega
  rw[ei]
  refine⟨x.l.getD i 0,?_,?_⟩
  ·rw[qcl]
   exact qhp (by show i<5;omega)
  refine h.drewK λw h=>?_
  refine qkd (qxn (by omega) (by omega) ?_)
  rw[ei]
  refine h.ldu32 (i:=i) (by omega) (by show i<5;omega) ?_
  refine qbe ?_
  refine qkd (qxn (by omega) (by omega) ?_)
  rw[ei]
  refine h.st (by rw[length_append,qge];show 0+i<5+tl.length;omega) trivial λw h=>?_
  refine qm (qd (by omega) (by omega)) ?_
  refine⟨⟨rfl,rfl⟩,hin (i+1) _ _ ⟨by simp,by omega,?_⟩ (by omega)⟩
  rw[List.set_append_left _ _ (by rw[qge];show 0+i<5;omega),qzw]at h
  have hc:i=0\/i=1\/i=2\/i=3\/i=4:=by omega
  rcases hc with rfl|rfl|rfl|rfl|rfl<;>exact h
 ·have:i=5:=by omega
  subst this
  exact hk w h
theorem qu.rounds{hb:Nat}{s:W5}{tl:List Value}{l:List Int}(hl:l.length=80){Q:VWP}(h:St F0 w0 w (qqb hb (quh s.l++tl)::ps))
 (hk:∀w',St F0 w0 w' (qqb hb (quh (addW s (rounds l 80 s)).l++tl)::ps)->Q (.tuple ⟨[]⟩) w'):qu.l2 (some ⟨hb,0,none⟩) ⟨quh l⟩ s.a s.b s.c s.d s.e 0 Q w:=by
 refine loop6 (λ(t:Nat) a b c d e (t':Int) w=>t'=t/\t<=80/\(⟨a,b,c,d,e⟩:W5)=Go.Proofs.YtdccpphmkfaioaaGreat.rounds l t s/\St F0 w0 w (qqb hb (quh s.l++tl)::ps)) (λt=>80-t) 0 ⟨rfl,by omega,by rw[Go.Proofs.YtdccpphmkfaioaaGreat.rounds],h⟩ ?_
 clear h
 rintro t a b c d e t' w I μ ⟨rfl,ht,hr,h⟩ hin
 unfold qu.b2
 refine quc (λh1=>?_) (λh1=>?_)
 ·refine⟨by omega,?_⟩
  have ei:((t:Int)).toNat*1=t:=by omega
  rw[ei]
  refine⟨l.getD t 0,?_,?_⟩
  ·rw[qcl]
   exact qhp (by omega)
  refine qpr.c (by omega) ⟨_,_,rfl,?_⟩
  refine qgm.c (by decide) λw1 hm=>⟨_,rfl,?_⟩
  have h:=h.skip hm
  refine qbe (qbe (qbe (qbe ?_)))
  refine qgm.c (by decide) λw2 hm=>⟨_,rfl,?_⟩
  have h:=h.skip hm
  refine qm (qd (by omega) (by omega)) ?_
  refine⟨⟨rfl,rfl⟩,hin (t+1) _ _ _ _ _ _ _ ⟨by simp,by omega,?_,h⟩ (by omega)⟩
  rw[Go.Proofs.YtdccpphmkfaioaaGreat.rounds,<-hr]
  rfl
 ·have:t=80:=by omega
  subst this
  unfold qu.j5 qu.j6
  refine qu.add (x:=⟨a,b,c,d,e⟩) h ?_
  rw[hr]
  exact hk
theorem qu.c{hb:Nat}{s:W5}{tl:List Value}{p:List Int}{K:Ending->World->Prop}(hp:p.length=64)(hpb:qxl p)(h:St F0 w0 w (qqb hb (quh s.l++tl)::ps))
 (hk:∀w',St F0 w0 w' (qqb hb (quh (blkF s p).l++tl)::ps)->K (.returned (.tuple ⟨[]⟩)) w'):Calls prog 60 ⟨[.pointer (some ⟨hb,0,none⟩),.agg ⟨u8s p⟩]⟩ w K:=by
 unfold blkF at hk
 refine qdc (qu.ok _ _ _ _ ?_)
 unfold qu
 refine h.new λn1 w h=>?_
 refine h.new λn2 w h=>?_
 unfold qu.j1
 refine h.blk1.ldA (cs:=⟨u8s p⟩) (by show(u8s p).length=64;rw[qjd,hp]) (λi hi=>by rw[zero_add,qcl]) ?_
 have h:St F0 w0 w (qqb n2 (quh (fillW p 0))::qqb hb (quh s.l++tl)::ps):=by
  have h:=h.at1.drop;rw[zc_w80]at h;rw[qvgb];exact h
 unfold qu.j9
 refine qjf (λ(i:Nat) (i':Int) w=>i'=i/\i<=64/\St F0 w0 w (qqb n2 (quh (fillW p i))::qqb hb (quh s.l++tl)::ps)) (λi=>64-i) 0 ⟨rfl,by omega,h⟩ ?_
 clear h
 rintro i i' w I μ ⟨rfl,hi,h⟩ hin
 unfold qu.b4
 refine quc (λh1=>?_) (λh1=>?_)
 ·refine⟨by omega,?_⟩
  have ei:((i:Int)).toNat*1=i:=by omega
  have ei4:((i:Int)/4).toNat*1=i/4:=by omega
  rw[ei]
  refine⟨p.getD i 0,?_,?_⟩
  ·rw[qcl]
   exact qjrb (by omega)
  have hip:i<p.length:=by omega
  have hc:p.getD i 0=p[i]:=by simp[getD,hip]
  have hcb:=hpb p[i] (getElem_mem hip)
  rw[hc]
  refine⟨by decide,?_⟩
  rw[qno (by omega)]
  refine qm (qd (by omega) (by omega)) ?_
  refine⟨by decide,?_⟩
  refine qm (qd (by omega) (by omega)) ?_
  refine qxn (by omega) (by omega) ?_
  rw[ei4]
  refine h.ldu32' (i:=i/4) (by omega) (by rw[qzo];omega) ?_
  rw[qxgb (by omega)]
  refine⟨by decide,qbe ?_⟩
  refine qm (show u32.wrap p[i]=p[i]by rw[qtg];omega) ?_
  refine qm (qksb (qtcb hpb hip) hcb) ?_
  refine qxn (by omega) (by omega) ?_
  rw[ei4]
  refine h.stu32 (i:=i/4) (by omega) (by rw[qzo];omega) λw h=>?_
  refine qm (qd (by omega) (by omega)) ?_
  refine⟨⟨rfl,rfl,rfl⟩,hin (i+1) _ _ ⟨by simp,by omega,?_⟩ (by omega)⟩
  rw[qwgb hip (by omega)]at h
  exact h
 have:i=64:=by omega
 subst this
 rw[qokb hp]at h
 clear hin hi h1
 unfold qu.j2 qu.j8
 have hb16:(qsg p).length=16:=by simp[qsg]
 refine qjf (λ(t:Nat) (t':Int) w=>t'=(t:Int)+16/\t<=64/\St F0 w0 w (qqb n2 (quh (qkj t (qsg p)++replicate (64-t) 0))::qqb hb (quh s.l++tl)::ps)) (λt=>64-t) 0 ⟨rfl,by omega,by rw[qkj];exact h⟩ ?_
 clear h
 rintro t t' w I μ ⟨rfl,ht,h⟩ hin
 have hgl:(qkj t (qsg p)).length=t+16:=by rw[qns,hb16];omega
 unfold qu.b3
 refine quc (λh1=>?_) (λh1=>?_)
 ·refine h.drewK λw h=>?_
  have hlen:(qkj t (qsg p)++replicate (64-t) (0:Int)).length=80:=by rw[length_append,hgl,List.length_replicate];omega
  refine qm (qd (by omega) (by omega)) ?_
  refine qxn (by omega) (by omega) ?_
  refine h.ldu32' (i:=t+13) (by omega) (by omega) ?_
  refine qm (qd (by omega) (by omega)) ?_
  refine qxn (by omega) (by omega) ?_
  refine h.ldu32' (i:=t+8) (by omega) (by omega) ?_
  refine qbe ?_
  refine qm (qd (by omega) (by omega)) ?_
  refine qxn (by omega) (by omega) ?_
  refine h.ldu32' (i:=t+2) (by omega) (by omega) ?_
  refine qbe ?_
  refine qm (qd (by omega) (by omega)) ?_
  refine qxn (by omega) (by omega) ?_
  refine h.ldu32' (i:=t) (by omega) (by omega) ?_
  refine qbe ?_
  refine qgm.c (by decide) λw1 hm=>⟨_,rfl,?_⟩
  have h:=h.skip hm
  refine qxn (by omega) (by omega) ?_
  refine h.stu32 (i:=t+16) (by omega) (by omega) λw h=>?_
  refine qm (qd (by omega) (by omega)) ?_
  refine⟨⟨rfl,rfl⟩,hin (t+1) _ _ ⟨by omega,by omega,?_⟩ (by omega)⟩
  rw[qui (by omega),qui (by omega),qui (by omega),qui (by omega)]at h
  have e:qkj (t+1) (qsg p)++replicate (64-(t+1)) 0=(qkj t (qsg p)++replicate (64-t) 0).set (t+16)
   (lf (qlk .u32 (qlk .u32 (qlk .u32 ((qkj t (qsg p)).getD (t+13) 0) ((qkj t (qsg p)).getD (t+8) 0)) ((qkj t (qsg p)).getD (t+2) 0)) ((qkj t (qsg p)).getD t 0)) 1):=by
   rw[qew,set_append_right _ _ (by omega),hgl,sub_self,show 64-t=(64-(t+1))+1 by omega,List.replicate_succ,List.set_cons_zero,List.append_assoc]
   unfold nextW
   rw[hgl]
   rfl
  rw[e]
  exact h
 have:t=64:=by omega
 subst this
 clear hin ht h1
 rw[sub_self,List.replicate_zero,append_nil]at h
 unfold qu.j3
 refine h.drewK λw h=>?_
 have hw:=h.at1
 refine qkd (qxn (by decide) (by decide) ?_)
 refine hw.ldu32 (i:=0) (by decide) (by show 0<5;decide) ?_
 refine qkd (qxn (by decide) (by decide) ?_)
 refine hw.ldu32 (i:=1) (by decide) (by show 1<5;decide) ?_
 refine qkd (qxn (by decide) (by decide) ?_)
 refine hw.ldu32 (i:=2) (by decide) (by show 2<5;decide) ?_
 refine qkd (qxn (by decide) (by decide) ?_)
 refine hw.ldu32 (i:=3) (by decide) (by show 3<5;decide) ?_
 refine qkd (qxn (by decide) (by decide) ?_)
 refine hw.ldu32 (i:=4) (by decide) (by show 4<5;decide) ?_
 unfold qu.j4
 refine h.blk.ldA (cs:=⟨quh (qkj 64 (qsg p))⟩) (by show(quh _).length=80;rw[qge,hgl]) (λi hi=>by rw[zero_add,qcl]) ?_
 unfold qu.j7
 exact qu.rounds (by rw[hgl]) hw.at1.drop λw h=>hk w h
end
end
section
set_option maxRecDepth 100000
def qrg.j2(out_7:Sl)(Q:VWP)(w:World):Prop:=qak 20 [sV out_7] w λr3 w2=>Q (sV r3) w2
def qrg.b1(v_1 bits_2:Int)(out_7:Sl)(Q:VWP)(nx1:Int->Int->Sl->WP)(w:World):Prop:=br (decide (bits_2>0)) (lt (i64.wrap (bits_2-8)) λx4=>(0:Int)<=x4/\lt (qal .i64 v_1 x4) λx5=>lt (IntKind.u8.wrap x5) λx6=>nw w ⟨[.int .u8 x6]⟩ 5 λa7 w8=>rdO w8 (some a7) (1*1) λc9=>apK prog 5 w8 out_7.a out_7.len out_7.cap 1 c9 λs10 w11=>nx1 v_1 x4 s10 w11) (qrg.j2 out_7 Q w)
def qrg.l1(v_1 bits_2:Int)(out_7:Sl)(Q:VWP)(w:World):Prop:=∃(I:Int->Sl->WP) (μ:Int->Sl->World->Nat),I bits_2 out_7 w/\∀bits_2:Int,∀out_7:Sl,∀w:World,I bits_2 out_7 w->qrg.b1 v_1 bits_2 out_7 Q (λv_1' bits_2' out_7' w'=>(v_1'=v_1)/\I bits_2' out_7' w'/\μ bits_2' out_7' w'<μ bits_2 out_7 w) w
def qrg.j1(v_1 bits_2:Int)(out_7:Sl)(Q:VWP)(w:World):Prop:=qrg.l1 v_1 bits_2 out_7 Q w
def qrg(b_0:Sl)(v_1:Int)(bits_2:Int)(Q:VWP)(w:World):Prop:=qak 61 [sV b_0] w λr14 w13=>qrg.j1 v_1 bits_2 r14 Q w13
theorem qrg.ok(b_0:Sl)(v_1:Int)(bits_2:Int)(Q:VWP)(w:World)(h:qrg b_0 v_1 bits_2 Q w):Calls prog 38 ⟨[sV b_0,.int .i64 v_1,.int .i64 bits_2]⟩ w (Ret Q):=
 qhc [.tmp 6] qde Tryz.func38 rfl rfl rfl rfl (.pr 1 [sI 1,sI 2,sL 7] (λa b c w=>qrg.j1 a b c Q w) (.sq [sL 7] (λa w=>qrg.j2 a Q w) (.bk (.lo [sI 1] [sI 2,sL 7] (λa b c w=>qrg.l1 a b c Q w) (λnx1 a b c w=>qrg.b1 a b c Q nx1 w) λnx1=> .lf)) .lf)) (by kernel_rfl) h
def qfi(b_0:Sl)(v_1:Int)(Q:VWP)(w:World):Prop:=qak 38 [sV b_0,.int .i64 v_1,.int .i64 32] w λr3 w2=>Q (sV r3) w2
theorem qfi.ok(b_0:Sl)(v_1:Int)(Q:VWP)(w:World)(h:qfi b_0 v_1 Q w):Calls prog 16 ⟨[sV b_0,.int .i64 v_1]⟩ w (Ret Q):=
 qhc [.tmp 4] qde Tryz.func16 rfl rfl rfl rfl .lf (by kernel_rfl) h
def qin(b_0:Sl)(v_1:Int)(Q:VWP)(w:World):Prop:=qak 38 [sV b_0,.int .i64 v_1,.int .i64 64] w λr3 w2=>Q (sV r3) w2
theorem qin.ok(b_0:Sl)(v_1:Int)(Q:VWP)(w:World)(h:qin b_0 v_1 Q w):Calls prog 43 ⟨[sV b_0,.int .i64 v_1]⟩ w (Ret Q):=
 qhc [.tmp 4] qde Tryz.func43 rfl rfl rfl rfl .lf (by kernel_rfl) h
end
section
attribute [local irreducible] apK cpK mkK hs
def qrh(s:W5)(rest:List Int)(n:Int):List Value:=quh s.l++(u8s rest++[.int .i64 n])
theorem W5.l_length(s:W5):s.l.length=5:=rfl
theorem qjr{s:W5}{rest:List Int}{n:Int}(h:rest.length=64):(qrh s rest n)[69]?=some (.int .i64 n):=by
 unfold qrh;rw[List.getElem?_append_right (by rw[qge,W5.l_length];omega),qge,W5.l_length,List.getElem?_append_right (by rw[qjd];omega),qjd,h];rfl
theorem qco{s:W5}{rest:List Int}{n:Int}(h:rest.length=64):(qrh s rest n).length=70:=by
 unfold qrh;rw[length_append,length_append,qge,qjd,W5.l_length,h];rfl
theorem qddb{s:W5}{rest:List Int}{n m:Int}(h:rest.length=64):(qrh s rest n).set 69 (.int .i64 m)=qrh s rest m:=by
 unfold qrh;rw[set_append_right _ _ (by rw[qge,W5.l_length];omega),qge,W5.l_length,set_append_right _ _ (by rw[qjd];omega),qjd,h];rfl
theorem qehb{s:W5}{rest:List Int}{n c:Int}{k:Nat}(h:rest.length=64)(hk:k<64):(qrh s rest n).set (5+k) (.int .u8 c)=qrh s (rest.set k c) n:=by
 unfold qrh;rw[set_append_right _ _ (by rw[qge,W5.l_length];omega),qge,W5.l_length,show 5+k-5=k by omega,List.set_append_left _ _ (by rw[qjd];omega),qzhb]
theorem qedb{s:W5}{rest:List Int}{n:Int}(h:rest.length=64){i:Nat}(hi:i<64):(qrh s rest n)[5+i]?=(u8s rest)[i]?:=by
 unfold qrh;rw[List.getElem?_append_right (by rw[qge,W5.l_length];omega),qge,W5.l_length,show 5+i-5=i by omega,getElem?_append_left (by rw[qjd];omega)]
def shA(hb:Nat)(xs:List Int):As:=exA λrest:List Int=>ifA (rest.length=64/\rest.take (xs.length%64)=xs.drop (64*(xs.length/64))/\qxl rest)<|qqb hb (qrh (Go.Proofs.YtdccpphmkfaioaaGreat.hs xs (xs.length/64)) rest (xs.length:Int))
section
variable {F0:List Nat}{w0 w:World}{ps:List As}
theorem qhib{hb:Nat}{xs:List Int}(h:St F0 w0 w (shA hb xs::ps)):∃rest:List Int,rest.length=64/\rest.take (xs.length%64)=xs.drop (64*(xs.length/64))/\qxl rest/\St F0 w0 w (qqb hb (qrh (hs xs (xs.length/64)) rest (xs.length:Int))::ps):=by
 obtain⟨rest,h⟩:=h.exE;obtain⟨⟨h1,h2,h3⟩,h⟩:=h.ifE;exact⟨rest,h1,h2,h3,h⟩
theorem qyfb{hb:Nat}{xs rest:List Int}(h1:rest.length=64)(h2:rest.take (xs.length%64)=xs.drop (64*(xs.length/64)))(h3:qxl rest)(h:St F0 w0 w (qqb hb (qrh (hs xs (xs.length/64)) rest (xs.length:Int))::ps)):St F0 w0 w (shA hb xs::ps):=
 (h.ifI ⟨h1,h2,h3⟩).exI (p:=λrest:List Int=>ifA (rest.length=64/\rest.take (xs.length%64)=xs.drop (64*(xs.length/64))/\qxl rest)<|qqb hb (qrh (hs xs (xs.length/64)) rest (xs.length:Int))) rest
theorem qhpb{l:List Int}{k:Nat}{c:Int}(h:qxl l)(hc:0<=c/\c<256):qxl (l.set k c):=by
 intro x hx;rcases List.mem_or_eq_of_mem_set hx with h1|h1
 ·exact h x h1
 ·subst h1;exact hc
theorem qbd.c{hb:Nat}{xs zs:List Int}{s:Sl}{K:Ending->World->Prop}(h:St F0 w0 w (shA hb xs::ps))(hr:∀w' p,St F0 w0 w' (p::ps)->Rd w' 1 s (u8s zs))(hz:qxl zs)(hL:xs.length+zs.length<=1099511627776)
 (hk:∀w',St F0 w0 w' (shA hb (xs++zs)::ps)->K (.returned (.tuple ⟨[]⟩)) w'):Calls prog 37 ⟨[.pointer (some ⟨hb,0,none⟩),.slice s.a s.len s.cap]⟩ w K:=by
 have hs0:=(hr w _ h).1
 rw[qjd]at hs0
 refine qdc (qbd.ok _ _ _ _ ?_)
 unfold qbd qbd.j1
 refine qjf (λ(i:Nat) (i':Int) w=>i'=i/\i<=zs.length/\St F0 w0 w (shA hb (xs++zs.take i)::ps)) (λi=>zs.length-i) 0 ⟨rfl,by omega,by simpa using h⟩ ?_
 clear h
 rintro i i' w I μ ⟨rfl,hi,h⟩ hin
 unfold qbd.b1
 refine quc (λh1=>?_) (λh1=>?_)
 ·have hiz:i<zs.length:=by omega
  have ei:((i:Int)).toNat*1=i:=by omega
  refine(hr w _ h).ix (by decide) (by omega) (by omega) λa ha=>?_
  rw[ei]
  refine(hr w _ h).ldI (n:=zs[i]) ha (by simp[u8s,hiz]) ?_
  have hcb:=hz zs[i] (getElem_mem hiz)
  have htk:xs++zs.take (i+1)=(xs++zs.take i)++[zs[i]]:=by rw[List.take_succ_eq_append_getElem hiz,List.append_assoc]
  have hlen:(xs++zs.take i).length<=1099511627776:=by rw[length_append,length_take];omega
  generalize hy:xs++zs.take i=ys at h htk hlen
  generalize zs[i]=c at hcb htk
  refine h.drewK λw h=>?_
  obtain⟨rest,r1,r2,r3,h⟩:=qhib h
  refine qkd (h.blk.ldI (o:=69) (qjr r1) ?_)
  refine⟨by decide,?_⟩
  refine qm (qzk (by omega)) ?_
  have em:(ys.length:Int)%64=(ys.length%64:Nat):=by omega
  rw[em]
  have hk64:ys.length%64<64:=mod_lt _ (by decide)
  refine qkd (qxn (by omega) (by omega) ?_)
  have eo:0+5+(((ys.length%64:Nat):Int)).toNat*1=5+ys.length%64:=by omega
  rw[eo]
  refine h.st (by rw[qco r1];omega) trivial λw h=>?_
  rw[qehb r1 hk64]at h
  have r1':(rest.set (ys.length%64) c).length=64:=by rw[length_set];exact r1
  refine qkd (h.blk.ldI (o:=69) (qjr r1') ?_)
  refine qm (qd (by omega) (by omega)) ?_
  refine qkd (h.st (o:=69) (by rw[qco r1'];omega) trivial λw h=>?_)
  rw[qddb r1']at h
  refine qkd (h.blk.ldI (o:=69) (qjr r1') ?_)
  refine⟨by decide,?_⟩
  refine qm (qzk (by omega)) ?_
  have r3':=qhpb (k:=ys.length%64) r3 hcb
  have r2':(rest.set (ys.length%64) c).take (ys.length%64+1)=(ys++[c]).drop (64*(ys.length/64)):=by
   rw[List.take_succ_eq_append_getElem (by omega),List.getElem_set_self,List.take_set_of_le (le_refl _),r2,List.drop_append_of_le_length (by omega)]
  have hl1:(ys++[c]).length=ys.length+1:=by simp
  refine qye (λh2=>?_) (λh2=>?_)
  ·have h2:((ys.length:Int)+1)%64=0:=by simpa using h2
   refine qkd (h.blk.ldA (cs:=⟨u8s (rest.set (ys.length%64) c)⟩) (by show(u8s _).length=64;rw[qjd,r1']) (λj hj=>by rw[qcl,zero_add,qedb r1' hj]) ?_)
   unfold qrh at h
   refine qu.c r1' r3' h λw h=>⟨rfl,?_⟩
   refine qm (qd (by omega) (by omega)) ?_
   refine⟨⟨rfl,rfl,rfl⟩,hin (i+1) _ _ ⟨by simp,by omega,?_⟩ (by omega)⟩
   rw[htk]
   refine qyfb r1' ?_ r3' ?_
   ·rw[hl1,show(ys.length+1)%64=0 by omega,List.take_zero,drop_eq_nil_of_le (by rw[hl1];omega)]
   ·rw[hl1,show(ys.length+1)/64=ys.length/64+1 by omega,hs,qgy ys [c] _ (by omega)]
    have e:((ys++[c]).drop (64*(ys.length/64))).take 64=rest.set (ys.length%64) c:=by
     rw[<-r2',take_of_length_le (l:=(rest.set (ys.length%64) c)) (by omega),take_of_length_le (by omega)]
    rw[e]
    exact h
  ·have h2:¬((ys.length:Int)+1)%64=0:=by simpa using h2
   refine qm (qd (by omega) (by omega)) ?_
   refine⟨⟨rfl,rfl,rfl⟩,hin (i+1) _ _ ⟨by simp,by omega,?_⟩ (by omega)⟩
   rw[htk]
   refine qyfb r1' ?_ r3' ?_
   ·rw[hl1,show(ys.length+1)%64=ys.length%64+1 by omega,show(ys.length+1)/64=ys.length/64 by omega]
    exact r2'
   ·rw[hl1,show(ys.length+1)/64=ys.length/64 by omega,qgy ys [c] _ (by omega)]
    exact h
 ·have:i=zs.length:=by omega
  subst this
  rw[List.take_length]at h
  exact hk w h
end
end
end Go.Proofs.YtdccpphmkfaioaaGreat
