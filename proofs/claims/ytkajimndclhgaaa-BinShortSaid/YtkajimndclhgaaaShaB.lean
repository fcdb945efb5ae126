/- A block is eaten: the program's own way. Own work. -/
import Derived.Test.YtkajimndclhgaaaShaA
namespace Go.Proofs.Ytkajimndclhgaaa
open Go Go.Proofs
set_option linter.unusedVariables false
set_option linter.unusedSimpArgs false
attribute [local irreducible] apK cpK mkK

theorem loop6 {α A B D E G H : Type} {C : (A → B → D → E → G → H → World → Prop) → (A → B → D → E → G → H → World → Nat) → A → B → D → E → G → H → World → Prop} {x : A} {y : B} {z : D} {u : E} {v : G} {t : H} {w : World} (Inv : α → A → B → D → E → G → H → World → Prop) (m : α → Nat) (a : α) (h : Inv a x y z u v t w)
    (hb : ∀ a x y z u v t w I μ, Inv a x y z u v t w → (∀ a' x' y' z' u' v' t' w', Inv a' x' y' z' u' v' t' w' → m a' < m a → I x' y' z' u' v' t' w' ∧ μ x' y' z' u' v' t' w' < μ x y z u v t w) → C I μ x y z u v t w) : ∃ I μ, I x y z u v t w ∧ ∀ x y z u v t w, I x y z u v t w → C I μ x y z u v t w := by
  obtain ⟨I, μ, h1, h2⟩ := loop_core (σ := A × B × D × E × G × H × World) (C := fun I μ s => C (fun x y z u v t w => I (x, y, z, u, v, t, w)) (fun x y z u v t w => μ (x, y, z, u, v, t, w)) s.1 s.2.1 s.2.2.1 s.2.2.2.1 s.2.2.2.2.1 s.2.2.2.2.2.1 s.2.2.2.2.2.2) (s := (x, y, z, u, v, t, w))
    (fun a s => Inv a s.1 s.2.1 s.2.2.1 s.2.2.2.1 s.2.2.2.2.1 s.2.2.2.2.2.1 s.2.2.2.2.2.2) m a h
    (fun a s I μ hi hn => hb a s.1 s.2.1 s.2.2.1 s.2.2.2.1 s.2.2.2.2.1 s.2.2.2.2.2.1 s.2.2.2.2.2.2 _ _ hi fun a' x' y' z' u' v' t' w' => hn a' (x', y', z', u', v', t', w'))
  exact ⟨fun x y z u v t w => I (x, y, z, u, v, t, w), fun x y z u v t w => μ (x, y, z, u, v, t, w), h1, fun x y z u v t w hI => h2 (x, y, z, u, v, t, w) hI⟩

attribute [local irreducible] rounds growW

theorem arr_get (l : List Value) (i : Nat) : (⟨l⟩ : Array Value)[i]? = l[i]? := by simp

/-! ### 1. four bytes as a word -/

def allB (l : List Int) : Prop := ∀ x ∈ l, 0 ≤ x ∧ x < 256

theorem be_lt : ∀ (l : List Int), allB l → 0 ≤ be l ∧ be l < 256 ^ l.length := by
  intro l
  have key : ∀ (l : List Int) (a : Int) (k : Nat), allB l → 0 ≤ a → a < 256 ^ k → 0 ≤ l.foldl (fun a x => a * 256 + x) a ∧ l.foldl (fun a x => a * 256 + x) a < 256 ^ (k + l.length) := by
    intro l
    induction l with
    | nil => intro a k _ h0 h1; exact ⟨h0, h1⟩
    | cons x l ih =>
      intro a k hb h0 h1
      have hx := hb x (by simp)
      have := ih (a * 256 + x) (k + 1) (fun y hy => hb y (by simp [hy])) (by omega) (by rw [Int.pow_succ]; omega)
      rw [List.foldl_cons, List.length_cons, show k + (l.length + 1) = k + 1 + l.length by omega]
      exact this
  intro hb
  have := key l 0 0 hb (by omega) (by decide)
  rwa [Nat.zero_add] at this

theorem or_byte {x c : Int} (hx : 0 ≤ x ∧ x < 16777216) (hc : 0 ≤ c ∧ c < 256) : orV .u32 (shlV .u32 x 8) c = x * 256 + c := by
  obtain ⟨n, rfl⟩ : ∃ n : Nat, x = n := ⟨x.toNat, by omega⟩
  obtain ⟨m, rfl⟩ : ∃ m : Nat, c = m := ⟨c.toNat, by omega⟩
  have h1 : shlV .u32 (n : Int) 8 = (n : Int) * 2 ^ 8 := shlV_u (k := .u32) (t := 8) rfl (by decide) (by show n * 2 ^ 8 < 2 ^ 32; omega)
  rw [h1, orV_comm, orV_uadd (k := .u32) (t := 8) rfl (by omega) (by show m + n * 2 ^ 8 < 2 ^ 32; omega)]
  omega

def fillW (p : List Int) (i : Nat) : List Int := (List.range 80).map fun t => be (((p.take i).drop (4 * t)).take 4)

theorem fillW_length (p : List Int) (i : Nat) : (fillW p i).length = 80 := by unfold fillW; rw [List.length_map, List.length_range]
theorem fillW_zero (p : List Int) : fillW p 0 = List.replicate 80 0 := by
  apply List.ext_getElem
  · simp [fillW]
  · intro i h1 h2
    rw [List.getElem_replicate]
    simp [fillW, be]

theorem fillW_getD {p : List Int} {i t : Nat} (h : t < 80) : (fillW p i).getD t 0 = be (((p.take i).drop (4 * t)).take 4) := by
  unfold fillW
  rw [List.getD_eq_getElem?_getD, List.getElem?_map, List.getElem?_range h]
  rfl

theorem fillW_bound {p : List Int} {i : Nat} (hp : allB p) (hi : i < p.length) : 0 ≤ be (((p.take i).drop (4 * (i / 4))).take 4) ∧ be (((p.take i).drop (4 * (i / 4))).take 4) < 16777216 := by
  have h := be_lt (((p.take i).drop (4 * (i / 4))).take 4) (fun x hx => hp x (List.mem_of_mem_take (List.mem_of_mem_drop (List.mem_of_mem_take hx))))
  refine ⟨h.1, Int.lt_of_lt_of_le h.2 ?_⟩
  have hl : (((p.take i).drop (4 * (i / 4))).take 4).length ≤ 3 := by
    rw [List.length_take, List.length_drop, List.length_take]; omega
  generalize (((p.take i).drop (4 * (i / 4))).take 4).length = n at hl ⊢
  have h3 : (256 : Nat) ^ n ≤ 256 ^ 3 := Nat.pow_le_pow_right (by decide) hl
  have h4 : ((256 ^ n : Nat) : Int) = 256 ^ n := by rw [Int.natCast_pow]; rfl
  have h5 : (256 : Nat) ^ 3 = 16777216 := by decide
  omega

theorem fillW_succ {p : List Int} {i : Nat} (hi : i < p.length) (h64 : i < 64) : (fillW p i).set (i / 4) (be (((p.take i).drop (4 * (i / 4))).take 4) * 256 + p[i]) = fillW p (i + 1) := by
  apply List.ext_getElem
  · simp [fillW]
  · intro t h1 h2
    simp only [List.length_set, fillW_length] at h1
    have htk : p.take (i + 1) = p.take i ++ [p[i]] := List.take_succ_eq_append_getElem hi
    rw [List.getElem_set]
    simp only [fillW, List.getElem_map, List.getElem_range]
    have hlen : (p.take i).length = i := by rw [List.length_take]; omega
    by_cases h : i / 4 = t
    · subst h
      rw [if_pos rfl, ← be_snoc, htk, List.drop_append_of_le_length (by rw [hlen]; omega), List.take_append, List.take_of_length_le (l := (p.take i).drop _) (by rw [List.length_drop, hlen]; omega)]
      congr 2
      rw [List.length_drop, hlen, List.take_of_length_le]
      simp; omega
    · rw [if_neg h, htk]
      congr 1
      rcases Nat.lt_or_ge t (i / 4) with h3 | h3
      · rw [List.drop_append_of_le_length (by rw [hlen]; omega), List.take_append_of_le_length (by rw [List.length_drop, hlen]; omega)]
      · rw [List.drop_eq_nil_of_le (by rw [hlen]; omega), List.drop_eq_nil_of_le (by rw [List.length_append, hlen]; simp; omega)]

theorem fillW_end {p : List Int} (hp : p.length = 64) : fillW p 64 = base16 p ++ List.replicate 64 0 := by
  apply List.ext_getElem
  · simp [fillW, base16]
  · intro t h1 h2
    rw [List.getElem_append]
    simp only [fillW, List.getElem_map, List.getElem_range, base16, List.length_map, List.length_range]
    have e : p.take 64 = p := List.take_of_length_le (by omega)
    rw [e]
    split
    · rfl
    · rw [List.drop_eq_nil_of_le (by omega)]
      rw [List.getElem_replicate]
      simp [be]

theorem getD_append {l m : List Int} {i : Nat} (h : i < l.length) : (l ++ m).getD i 0 = l.getD i 0 := by
  simp [List.getD, List.getElem?_append_left h]

/-! ### 2. eat -/

theorem zc_w80 : zc Try.prog 190 = ⟨u32s (List.replicate 80 0)⟩ := by kernel_rfl

section
variable {F0 : List Nat} {w0 w : World} {ps : List As}

theorem St.ldu32 {b o : Nat} {l : List Int} {m : List Value} {i : Nat} {K : Int → Prop} (h : St F0 w0 w (blkA b (u32s l ++ m) :: ps)) (ho : o = i) (hi : i < l.length) (hk : K (l.getD i 0)) : ldI .u32 w ⟨b, o, none⟩ K := by
  subst ho
  refine h.blk.ldI ?_ hk
  rw [List.getElem?_append_left (by rw [u32s_length]; exact hi), u32s_get hi]

theorem St.ldu32' {b o : Nat} {l : List Int} {i : Nat} {K : Int → Prop} (h : St F0 w0 w (blkA b (u32s l) :: ps)) (ho : o = i) (hi : i < l.length) (hk : K (l.getD i 0)) : ldI .u32 w ⟨b, o, none⟩ K := by
  subst ho
  exact h.blk.ldI (u32s_get hi) hk

theorem St.stu32 {b o : Nat} {l : List Int} {i : Nat} {v : Int} {K : World → Prop} (h : St F0 w0 w (blkA b (u32s l) :: ps)) (ho : o = i) (hi : i < l.length) (hk : ∀ w', St F0 w0 w' (blkA b (u32s (l.set i v)) :: ps) → K w') : Go.Proofs.Ytkajimndclhgaaa.st w ⟨b, o, none⟩ (.int .u32 v) K := by
  subst ho
  refine h.st (by rw [u32s_length]; exact hi) trivial fun w' h => hk w' ?_
  rw [u32s_set] at h
  exact h

/-- the words, the first n of them made more -/
def someW (s x : W5) (n : Nat) : List Int :=
  [if 0 < n then IntKind.u32.wrap (s.a + x.a) else s.a, if 1 < n then IntKind.u32.wrap (s.b + x.b) else s.b, if 2 < n then IntKind.u32.wrap (s.c + x.c) else s.c, if 3 < n then IntKind.u32.wrap (s.d + x.d) else s.d, if 4 < n then IntKind.u32.wrap (s.e + x.e) else s.e]

theorem sha_Hash_eat.add {hb : Nat} {s x : W5} {tl : List Value} {Q : Value → World → Prop} (h : St F0 w0 w (blkA hb (u32s s.l ++ tl) :: ps))
    (hk : ∀ w', St F0 w0 w' (blkA hb (u32s (addW s x).l ++ tl) :: ps) → Q (.tuple ⟨[]⟩) w') : sha_Hash_eat.l1 (some ⟨hb, 0, none⟩) ⟨u32s x.l⟩ 0 Q w := by
  refine loop1 (fun (i : Nat) (i' : Int) w => i' = i ∧ i ≤ 5 ∧ St F0 w0 w (blkA hb (u32s (someW s x i) ++ tl) :: ps)) (fun i => 5 - i) 0 ⟨rfl, by omega, h⟩ ?_
  clear h
  rintro i i' w I μ ⟨rfl, hi, h⟩ hin
  unfold sha_Hash_eat.b1
  refine br_d (fun h1 => ?_) (fun h1 => ?_)
  · refine ⟨by omega, ?_⟩
    have ei : ((i : Int)).toNat * 1 = i := by omega
    rw [ei]
    refine ⟨x.l.getD i 0, ?_, ?_⟩
    · rw [arr_get]
      exact u32s_get (by show i < 5; omega)
    refine h.drewK fun w h => ?_
    refine nz_i (ixA_b (by omega) (by omega) ?_)
    rw [ei]
    refine h.ldu32 (i := i) (by omega) (by show i < 5; omega) ?_
    refine lt_i ?_
    refine nz_i (ixA_b (by omega) (by omega) ?_)
    rw [ei]
    refine h.st (by rw [List.length_append, u32s_length]; show 0 + i < 5 + tl.length; omega) trivial fun w h => ?_
    refine lt_as (wrap_i64 (by omega) (by omega)) ?_
    refine ⟨⟨rfl, rfl⟩, hin (i + 1) _ _ ⟨by simp, by omega, ?_⟩ (by omega)⟩
    rw [List.set_append_left _ _ (by rw [u32s_length]; show 0 + i < 5; omega), u32s_set] at h
    have hc : i = 0 ∨ i = 1 ∨ i = 2 ∨ i = 3 ∨ i = 4 := by omega
    rcases hc with rfl | rfl | rfl | rfl | rfl <;> exact h
  · have : i = 5 := by omega
    subst this
    exact hk w h

theorem sha_Hash_eat.rounds {hb : Nat} {s : W5} {tl : List Value} {l : List Int} (hl : l.length = 80) {Q : Value → World → Prop} (h : St F0 w0 w (blkA hb (u32s s.l ++ tl) :: ps))
    (hk : ∀ w', St F0 w0 w' (blkA hb (u32s (addW s (rounds l 80 s)).l ++ tl) :: ps) → Q (.tuple ⟨[]⟩) w') : sha_Hash_eat.l2 (some ⟨hb, 0, none⟩) ⟨u32s l⟩ s.a s.b s.c s.d s.e 0 Q w := by
  refine loop6 (fun (t : Nat) a b c d e (t' : Int) w => t' = t ∧ t ≤ 80 ∧ (⟨a, b, c, d, e⟩ : W5) = Go.Proofs.Ytkajimndclhgaaa.rounds l t s ∧ St F0 w0 w (blkA hb (u32s s.l ++ tl) :: ps)) (fun t => 80 - t) 0 ⟨rfl, by omega, by rw [Go.Proofs.Ytkajimndclhgaaa.rounds], h⟩ ?_
  clear h
  rintro t a b c d e t' w I μ ⟨rfl, ht, hr, h⟩ hin
  unfold sha_Hash_eat.b2
  refine br_d (fun h1 => ?_) (fun h1 => ?_)
  · refine ⟨by omega, ?_⟩
    have ei : ((t : Int)).toNat * 1 = t := by omega
    rw [ei]
    refine ⟨l.getD t 0, ?_, ?_⟩
    · rw [arr_get]
      exact u32s_get (by omega)
    refine sha_mix.c (by omega) ⟨_, _, rfl, ?_⟩
    refine sha_left.c (by decide) fun w1 hm => ⟨_, rfl, ?_⟩
    have h := h.skip hm
    refine lt_i (lt_i (lt_i (lt_i ?_)))
    refine sha_left.c (by decide) fun w2 hm => ⟨_, rfl, ?_⟩
    have h := h.skip hm
    refine lt_as (wrap_i64 (by omega) (by omega)) ?_
    refine ⟨⟨rfl, rfl⟩, hin (t + 1) _ _ _ _ _ _ _ ⟨by simp, by omega, ?_, h⟩ (by omega)⟩
    rw [Go.Proofs.Ytkajimndclhgaaa.rounds, ← hr]
    rfl
  · have : t = 80 := by omega
    subst this
    unfold sha_Hash_eat.j5 sha_Hash_eat.j6
    refine sha_Hash_eat.add (x := ⟨a, b, c, d, e⟩) h ?_
    rw [hr]
    exact hk

theorem sha_Hash_eat.c {hb : Nat} {s : W5} {tl : List Value} {p : List Int} {K : Ending → World → Prop} (hp : p.length = 64) (hpb : allB p) (h : St F0 w0 w (blkA hb (u32s s.l ++ tl) :: ps))
    (hk : ∀ w', St F0 w0 w' (blkA hb (u32s (blkF s p).l ++ tl) :: ps) → K (.returned (.tuple ⟨[]⟩)) w') : Calls Try.prog 127 ⟨[.pointer (some ⟨hb, 0, none⟩), .agg ⟨u8s p⟩]⟩ w K := by
  unfold blkF at hk
  refine ret_k (sha_Hash_eat.ok _ _ _ _ ?_)
  unfold sha_Hash_eat
  refine h.new fun n1 w h => ?_
  refine h.new fun n2 w h => ?_
  unfold sha_Hash_eat.j1
  refine h.blk1.ldA (cs := ⟨u8s p⟩) (by show (u8s p).length = 64; rw [u8s_length, hp]) (fun i hi => by rw [Nat.zero_add, arr_get]) ?_
  have h : St F0 w0 w (blkA n2 (u32s (fillW p 0)) :: blkA hb (u32s s.l ++ tl) :: ps) := by
    have h := h.at1.drop
    rw [zc_w80] at h
    rw [fillW_zero]
    exact h
  unfold sha_Hash_eat.j9
  refine loop1 (fun (i : Nat) (i' : Int) w => i' = i ∧ i ≤ 64 ∧ St F0 w0 w (blkA n2 (u32s (fillW p i)) :: blkA hb (u32s s.l ++ tl) :: ps)) (fun i => 64 - i) 0 ⟨rfl, by omega, h⟩ ?_
  clear h
  rintro i i' w I μ ⟨rfl, hi, h⟩ hin
  unfold sha_Hash_eat.b4
  refine br_d (fun h1 => ?_) (fun h1 => ?_)
  · refine ⟨by omega, ?_⟩
    have ei : ((i : Int)).toNat * 1 = i := by omega
    have ei4 : ((i : Int) / 4).toNat * 1 = i / 4 := by omega
    rw [ei]
    refine ⟨p.getD i 0, ?_, ?_⟩
    · rw [arr_get]
      exact u8s_get (by omega)
    have hip : i < p.length := by omega
    have hc : p.getD i 0 = p[i] := by simp [List.getD, hip]
    have hcb := hpb p[i] (List.getElem_mem hip)
    rw [hc]
    refine ⟨by decide, ?_⟩
    rw [tdiv_nn (by omega)]
    refine lt_as (wrap_i64 (by omega) (by omega)) ?_
    refine ⟨by decide, ?_⟩
    refine lt_as (wrap_i64 (by omega) (by omega)) ?_
    refine ixA_b (by omega) (by omega) ?_
    rw [ei4]
    refine h.ldu32' (i := i / 4) (by omega) (by rw [fillW_length]; omega) ?_
    rw [fillW_getD (by omega)]
    refine ⟨by decide, lt_i ?_⟩
    refine lt_as (show IntKind.u32.wrap p[i] = p[i] by rw [wrap_u32]; omega) ?_
    refine lt_as (or_byte (fillW_bound hpb hip) hcb) ?_
    refine ixA_b (by omega) (by omega) ?_
    rw [ei4]
    refine h.stu32 (i := i / 4) (by omega) (by rw [fillW_length]; omega) fun w h => ?_
    refine lt_as (wrap_i64 (by omega) (by omega)) ?_
    refine ⟨⟨rfl, rfl, rfl⟩, hin (i + 1) _ _ ⟨by simp, by omega, ?_⟩ (by omega)⟩
    rw [fillW_succ hip (by omega)] at h
    exact h
  have : i = 64 := by omega
  subst this
  rw [fillW_end hp] at h
  clear hin hi h1
  unfold sha_Hash_eat.j2 sha_Hash_eat.j8
  have hb16 : (base16 p).length = 16 := by simp [base16]
  refine loop1 (fun (t : Nat) (t' : Int) w => t' = (t : Int) + 16 ∧ t ≤ 64 ∧ St F0 w0 w (blkA n2 (u32s (growW t (base16 p) ++ List.replicate (64 - t) 0)) :: blkA hb (u32s s.l ++ tl) :: ps)) (fun t => 64 - t) 0 ⟨rfl, by omega, by rw [growW]; exact h⟩ ?_
  clear h
  rintro t t' w I μ ⟨rfl, ht, h⟩ hin
  have hgl : (growW t (base16 p)).length = t + 16 := by rw [growW_length, hb16]; omega
  unfold sha_Hash_eat.b3
  refine br_d (fun h1 => ?_) (fun h1 => ?_)
  · refine h.drewK fun w h => ?_
    have hlen : (growW t (base16 p) ++ List.replicate (64 - t) (0 : Int)).length = 80 := by rw [List.length_append, hgl, List.length_replicate]; omega
    refine lt_as (wrap_i64 (by omega) (by omega)) ?_
    refine ixA_b (by omega) (by omega) ?_
    refine h.ldu32' (i := t + 13) (by omega) (by omega) ?_
    refine lt_as (wrap_i64 (by omega) (by omega)) ?_
    refine ixA_b (by omega) (by omega) ?_
    refine h.ldu32' (i := t + 8) (by omega) (by omega) ?_
    refine lt_i ?_
    refine lt_as (wrap_i64 (by omega) (by omega)) ?_
    refine ixA_b (by omega) (by omega) ?_
    refine h.ldu32' (i := t + 2) (by omega) (by omega) ?_
    refine lt_i ?_
    refine lt_as (wrap_i64 (by omega) (by omega)) ?_
    refine ixA_b (by omega) (by omega) ?_
    refine h.ldu32' (i := t) (by omega) (by omega) ?_
    refine lt_i ?_
    refine sha_left.c (by decide) fun w1 hm => ⟨_, rfl, ?_⟩
    have h := h.skip hm
    refine ixA_b (by omega) (by omega) ?_
    refine h.stu32 (i := t + 16) (by omega) (by omega) fun w h => ?_
    refine lt_as (wrap_i64 (by omega) (by omega)) ?_
    refine ⟨⟨rfl, rfl⟩, hin (t + 1) _ _ ⟨by omega, by omega, ?_⟩ (by omega)⟩
    rw [getD_append (by omega), getD_append (by omega), getD_append (by omega), getD_append (by omega)] at h
    have e : growW (t + 1) (base16 p) ++ List.replicate (64 - (t + 1)) 0 = (growW t (base16 p) ++ List.replicate (64 - t) 0).set (t + 16)
        (lf (xorV .u32 (xorV .u32 (xorV .u32 ((growW t (base16 p)).getD (t + 13) 0) ((growW t (base16 p)).getD (t + 8) 0)) ((growW t (base16 p)).getD (t + 2) 0)) ((growW t (base16 p)).getD t 0)) 1) := by
      rw [growW_succ, List.set_append_right _ _ (by omega), hgl, Nat.sub_self, show 64 - t = (64 - (t + 1)) + 1 by omega, List.replicate_succ, List.set_cons_zero, List.append_assoc]
      unfold nextW
      rw [hgl]
      rfl
    rw [e]
    exact h
  have : t = 64 := by omega
  subst this
  clear hin ht h1
  rw [Nat.sub_self, List.replicate_zero, List.append_nil] at h
  unfold sha_Hash_eat.j3
  refine h.drewK fun w h => ?_
  have hw := h.at1
  refine nz_i (ixA_b (by decide) (by decide) ?_)
  refine hw.ldu32 (i := 0) (by decide) (by show 0 < 5; decide) ?_
  refine nz_i (ixA_b (by decide) (by decide) ?_)
  refine hw.ldu32 (i := 1) (by decide) (by show 1 < 5; decide) ?_
  refine nz_i (ixA_b (by decide) (by decide) ?_)
  refine hw.ldu32 (i := 2) (by decide) (by show 2 < 5; decide) ?_
  refine nz_i (ixA_b (by decide) (by decide) ?_)
  refine hw.ldu32 (i := 3) (by decide) (by show 3 < 5; decide) ?_
  refine nz_i (ixA_b (by decide) (by decide) ?_)
  refine hw.ldu32 (i := 4) (by decide) (by show 4 < 5; decide) ?_
  unfold sha_Hash_eat.j4
  refine h.blk.ldA (cs := ⟨u32s (growW 64 (base16 p))⟩) (by show (u32s _).length = 80; rw [u32s_length, hgl]) (fun i hi => by rw [Nat.zero_add, arr_get]) ?_
  unfold sha_Hash_eat.j7
  exact sha_Hash_eat.rounds (by rw [hgl]) hw.at1.drop fun w h => hk w h

end

end Go.Proofs.Ytkajimndclhgaaa
