/- The statements on any acts of a writer: what their texts answer. Own work. -/
import Derived.Test.YtkajimndclhgaaaBitF
import Derived.Test.YtkajimndclhgaaaOpn
namespace Go.Proofs.Ytkajimndclhgaaa
open Go Go.Proofs
set_option linter.unusedVariables false
set_option linter.unusedSimpArgs false
attribute [local irreducible] apK cpK mkK

/-! ### 1. a row of acts -/

abbrev acts (xs : List (Int × Int × Int)) : List Value := tri .i64 .i64 .i64 xs

theorem acts_length (xs : List (Int × Int × Int)) : (acts xs).length = xs.length * 3 := tri_length _ _ _ xs

theorem acts_get (xs : List (Int × Int × Int)) (i : Nat) (h : i < xs.length) : (acts xs)[i * 3]? = some (.int .i64 xs[i].1) ∧ (acts xs)[i * 3 + 1]? = some (.int .i64 xs[i].2.1) ∧ (acts xs)[i * 3 + 2]? = some (.int .i64 xs[i].2.2) := tri_get _ _ _ xs i h

theorem Rd.ldA {sz n i : Nat} {w : World} {s : Sl} {cs : List Value} {a : Addr} {c : Array Value} {K : Array Value → Prop} (h : Rd w sz s cs) (ha : s.a = some a) (hi : i + n ≤ cs.length) (hs : c.size = n) (hv : ∀ j, j < n → cs[i + j]? = c[j]?) (hk : K c) : ldA w (a.add i) n K :=
  ⟨c, hs, fun j hj => by rw [add_add, h.cell ha (by omega)]; exact hv j hj, hk⟩

theorem zc_act : zc Try.prog 28 = #[.int .i64 0, .int .i64 0, .int .i64 0] := by kernel_rfl

theorem pb_length (v n : Int) : (pb v n).length ≤ 24 := by
  unfold pb
  split
  · rw [bitsOf_length]; omega
  · simp

section
variable {F0 : List Nat} {w0 w : World} {ps : List As}

theorem done_eq {l : List Bool} {s s' : Sl} {w : World} {K : ByteArray → ByteArray → Prop} (hr : Rd w 1 s (u8s (bytes l))) (hr' : Rd w 1 s' (u8s (bytes l))) (hk : K ⟨⟨u8 (bytes l)⟩⟩ ⟨⟨u8 (bytes l)⟩⟩) :
    btS w s.a s.len fun x => btS w s'.a s'.len fun y => K x y := by
  have hb := byt_ok (val l) ((l.length + 7) / 8)
  refine hr.btS hb ?_
  exact hr'.btS hb hk

end

theorem eqb (x : List UInt8) : (ByteArray.toList ⟨⟨x⟩⟩ == ByteArray.toList ⟨⟨x⟩⟩) = true := by simp

/-! ### 2. any acts -/

theorem trovelaw2_BitsWrites.law (s0 : Sl) (xs : List (Int × Int × Int)) (w : World) (hr0 : Rd w 3 s0 (acts xs)) (_hw : ∀ y ∈ xs, (Lit.int .i64 y.1).wf = true ∧ (Lit.int .i64 y.2.1).wf = true ∧ (Lit.int .i64 y.2.2).wf = true) :
    Calls Try.prog 4 ⟨[.slice s0.a s0.len s0.cap]⟩ w fun e w' => e = .returned (.bool true) ∧ Mod [] w w' := by
  refine ret_k (trovelaw2_BitsWrites.ok _ _ _ ?_)
  unfold trovelaw2_BitsWrites trovelaw2_BitsWrites.j1
  refine trovelaw2_known.c (St.start0 (w := w)) fun w1 h => ⟨_, rfl, ?_⟩
  have done : ∀ {w' ps}, St [] w w' ps → (Ending.returned (.bool true) = Ending.returned (.bool true) ∧ Mod [] w w') := fun h => ⟨rfl, h.mod⟩
  refine br_b (fun h1 => by cases h1) fun _ => ?_
  refine br_d (fun _ => done h) fun g1 => ?_
  have hl0 := hr0.1
  rw [acts_length] at hl0
  have rd0 : ∀ {w' ps}, St [] w w' ps → Rd w' 3 s0 (acts xs) := fun h => hr0.keep h.mod (by simp)
  unfold trovelaw2_BitsWrites.j2
  refine bits_NewWriter.c h fun wa w2 h => ⟨_, rfl, ?_⟩
  refine (h.nil 1).new fun wb w3 h => ?_
  have h : St [] w w3 (wrL wa [] :: rwA wb [] :: []) := (rwA_i (s := ⟨none, 0, 0⟩) (l := []) h).at1
  unfold trovelaw2_BitsWrites.j3 trovelaw2_BitsWrites.j5
  refine loop1 (fun (a : Nat × List Bool) (i' : Int) w' => i' = a.1 ∧ a.1 ≤ s0.len ∧ a.2.length ≤ 32 * a.1 ∧ St [] w w' (wrL wa a.2 :: rwA wb a.2 :: [])) (fun a => s0.len - a.1) (0, []) ⟨rfl, by omega, by simp, h⟩ ?_
  clear h
  rintro ⟨i, l⟩ i' w4 I μ ⟨rfl, hi, hll, h⟩ hin
  simp only at hi hll h hin ⊢
  unfold trovelaw2_BitsWrites.b1
  refine br_d (fun h1 => ?_) (fun _ => ?_)
  · have next : ∀ (l' : List Bool) (w5 : World) (ps : List As), l'.length ≤ 32 * (i + 1) → St [] w w5 (wrL wa l' :: rwA wb l' :: ps) → trovelaw2_BitsWrites.j8 s0 (some ⟨wa, 0, none⟩) (some ⟨wb, 0, none⟩) i (fun v w' => Ending.returned v = Ending.returned (.bool true) ∧ Mod [] w w')
        (fun d' t3' t4' t5' w' => (d' = s0 ∧ t3' = some ⟨wa, 0, none⟩ ∧ t4' = some ⟨wb, 0, none⟩) ∧ I t5' w' ∧ μ t5' w' < μ (i : Int) w4) w5 := by
      intro l' w5 ps hl' h
      unfold trovelaw2_BitsWrites.j8
      refine h.drewK fun w5 h => ?_
      refine nz_i ?_
      have fin : ∀ (w6 : World) (s : Sl), s.len = l'.length → St [] w w6 (blkA wb [.slice s.a s.len s.cap] :: ownA 1 s (bools l') :: wrL wa l' :: ps) →
          br (((l'.length : Int) : Int) != ((s.len : Nat) : Int)) ((fun v w' => Ending.returned v = Ending.returned (.bool true) ∧ Mod [] w w') (.bool false) w6)
          (trovelaw2_BitsWrites.j7 s0 (some ⟨wa, 0, none⟩) (some ⟨wb, 0, none⟩) i (fun v w' => Ending.returned v = Ending.returned (.bool true) ∧ Mod [] w w')
        (fun d' t3' t4' t5' w' => (d' = s0 ∧ t3' = some ⟨wa, 0, none⟩ ∧ t4' = some ⟨wb, 0, none⟩) ∧ I t5' w' ∧ μ t5' w' < μ (i : Int) w4) w6) := by
        intro w6 s hs h
        refine br_b (fun h1 => by simp [hs] at h1) fun _ => ?_
        unfold trovelaw2_BitsWrites.j7
        refine lt_as (wrap_i64 (by omega) (by omega)) ?_
        have h : St [] w w6 (wrL wa l' :: rwA wb l' :: ps) := (rwA_i h).at1
        have h : St [] w w6 (wrL wa l' :: rwA wb l' :: []) := h.cut2
        exact ⟨⟨rfl, rfl, rfl⟩, hin (i + 1, l') _ _ ⟨by simp, by simp only; omega, hl', h⟩ (by simp only; omega)⟩
      refine ⟨?_, ?_⟩
      · refine bits_Writer_Len.c h (by omega) fun w6 h => ⟨_, rfl, ?_⟩
        obtain ⟨s, hs, h⟩ := rwA_o h.at1
        refine h.blk.ldL (o := 0) rfl ?_
        exact fin w6 s hs h
      · obtain ⟨s, hs, h⟩ := rwA_o h.at1
        refine h.blk.ldL (o := 0) rfl ?_
        refine bits_Writer_Len.c h.at2 (by omega) fun w6 h => ⟨_, rfl, ?_⟩
        exact fin w6 s hs h.at1.tail2
    unfold trovelaw2_BitsWrites.j6
    have hix : i < xs.length := by omega
    obtain ⟨g0, g1', g2⟩ := acts_get xs i hix
    have hlen := acts_length xs
    refine (rd0 h).ix (by decide) (by omega) (by omega) fun a ha => ?_
    have ei : ((i : Int)).toNat * 3 = i * 3 := by omega
    rw [ei]
    refine (rd0 h).ldA (c := ⟨[.int .i64 xs[i].1, .int .i64 xs[i].2.1, .int .i64 xs[i].2.2]⟩) ha (by omega) rfl (fun j hj => ?_) ?_
    · have : j = 0 ∨ j = 1 ∨ j = 2 := by omega
      rcases this with rfl | rfl | rfl
      · exact g0
      · exact g1'
      · exact g2
    generalize xs[i] = a at g0 g1' g2
    refine h.new fun nb w5 h => ?_
    refine ⟨rfl, ?_⟩
    rw [zc_act] at h
    refine h.stA (o := 0) (Nat.le_refl 3) (by simp [storable]) fun w6 h => ?_
    have h : St [] w w6 (wrL wa l :: rwA wb l :: blkA nb [.int .i64 a.1, .int .i64 a.2.1, .int .i64 a.2.2] :: []) := h.at1.tail fun _ _ _ h => h.at1
    refine h.blk2.ldI (o := 0) rfl ?_
    refine br_b (fun _ => ?_) (fun _ => ?_)
    · refine h.blk2.ldI (o := 1) rfl ?_
      refine h.blk2.ldI (o := 2) rfl ?_
      refine bits_Writer_Put.cl h (by omega) fun w7 h => ⟨rfl, ?_⟩
      refine h.blk2.ldI (o := 1) rfl ?_
      refine h.blk2.ldI (o := 2) rfl ?_
      refine troveref2_Writer_Put.c h.at1 (by omega) fun w8 h => ⟨rfl, ?_⟩
      have := pb_length a.2.1 a.2.2
      exact next _ _ _ (by rw [List.length_append]; omega) h.at1
    refine br_b (fun _ => ?_) (fun _ => ?_)
    · refine h.blk2.ldI (o := 1) rfl ?_
      refine h.blk2.ldI (o := 2) rfl ?_
      refine bits_Writer_Code.c h (by omega) fun w7 h => ⟨rfl, ?_⟩
      refine h.blk2.ldI (o := 1) rfl ?_
      refine h.blk2.ldI (o := 2) rfl ?_
      refine troveref2_Writer_Code.c h.at1 (by omega) fun w8 h => ⟨rfl, ?_⟩
      have := pb_length a.2.1 a.2.2
      exact next _ _ _ (by rw [List.length_append, List.length_reverse]; omega) h.at1
    refine br_b (fun _ => ?_) (fun _ => ?_)
    · refine h.blk2.ldI (o := 1) rfl ?_
      refine lt_as (wrap_u8 _) ?_
      refine bits_Writer_Byte.c h (by omega) (by omega) fun w7 h => ⟨rfl, ?_⟩
      refine h.blk2.ldI (o := 1) rfl ?_
      refine lt_as (wrap_u8 _) ?_
      refine troveref2_Writer_Byte.c h.at1 (by omega) (by omega) fun w8 h => ⟨rfl, ?_⟩
      exact next _ _ _ (by rw [List.length_append, List.length_append, pad, List.length_replicate, bitsOf_length]; omega) h.at1
    · refine bits_Writer_Align.c h (by omega) fun w7 h => ⟨rfl, ?_⟩
      refine troveref2_Writer_Align.c h.at1 (by omega) fun w8 h => ⟨rfl, ?_⟩
      exact next _ _ _ (by rw [List.length_append, pad, List.length_replicate]; omega) h.at1
  · unfold trovelaw2_BitsWrites.j4
    refine h.drewK fun w5 h => ?_
    refine bits_Writer_Done.c h (by omega) fun s w5 hs hc h => ⟨s, rfl, ?_⟩
    have hb := byt_ok (val l) ((l.length + 7) / 8)
    refine ⟨?_, ?_⟩
    · refine h.rd.btS hb ?_
      refine troveref2_Writer_Done.c h.at2 (by omega) fun s' w6 hs' hc' h => ⟨s', rfl, ?_⟩
      refine h.rd.btS hb ?_
      rw [eqb]
      exact done h
    · refine troveref2_Writer_Done.c h.at2 (by omega) fun s' w6 hs' hc' h => ⟨s', rfl, ?_⟩
      refine ⟨?_, ?_⟩
      · refine done_eq h.at2.rd h.rd ?_
        rw [eqb]; exact done h
      · refine done_eq h.rd h.at2.rd ?_
        rw [eqb]; exact done h

end Go.Proofs.Ytkajimndclhgaaa
