/- Lists of numbers, place by place. Own work. -/
namespace Go.Proofs.Ythdmmmfgjmmelaa
set_option linter.unusedVariables false
set_option linter.unusedSimpArgs false

theorem lext {l m : List Int} (hl : l.length = m.length) (h : ∀ j, j < l.length → l.getD j 0 = m.getD j 0) : l = m := by
  apply List.ext_getElem hl
  intro j h1 h2
  have := h j h1
  simpa [List.getD, List.getElem?_eq_getElem h1, List.getElem?_eq_getElem h2] using this
theorem getD_setL {l : List Int} {i j : Nat} {v : Int} (h : i < l.length) : (l.set i v).getD j 0 = if i = j then v else l.getD j 0 := by
  rw [List.getD_eq_getElem?_getD, List.getElem?_set]
  split
  · rename_i e; subst e; simp [h]
  · rw [List.getD_eq_getElem?_getD]
theorem take_sn {xs : List Int} {i : Nat} (h : i < xs.length) : xs.take (i + 1) = xs.take i ++ [xs.getD i 0] := by
  rw [List.take_succ_eq_append_getElem h]
  simp [List.getD, List.getElem?_eq_getElem h]
theorem drop_sn {xs : List Int} {i : Nat} (h : i < xs.length) : xs.drop i = xs.getD i 0 :: xs.drop (i + 1) := by
  rw [List.drop_eq_getElem_cons h]
  simp [List.getD, List.getElem?_eq_getElem h]
theorem mem_getD {xs : List Int} {i : Nat} (h : i < xs.length) : xs.getD i 0 ∈ xs := by simp [List.getD, List.getElem?_eq_getElem h]
theorem set_nx {l : List Int} {k i : Nat} {v : Int} (hi : i = l.length) (hk : 0 < k) : (l ++ List.replicate k 0).set i v = (l ++ [v]) ++ List.replicate (k - 1) 0 := by
  subst hi
  rw [List.set_append_right _ _ (Nat.le_refl _), Nat.sub_self]
  cases k with
  | zero => omega
  | succ k =>
    rw [List.replicate_succ, List.set_cons_zero, List.append_assoc]
    rfl

/-- f at 0 .. n - 1 -/
def mapR (n : Nat) (f : Nat → Int) : List Int := (List.range n).map f
theorem mapR_length (n : Nat) (f : Nat → Int) : (mapR n f).length = n := by simp [mapR]
theorem getD_mapR {n i : Nat} {f : Nat → Int} (h : i < n) : (mapR n f).getD i 0 = f i := by
  unfold mapR
  rw [List.getD_eq_getElem?_getD, List.getElem?_map, List.getElem?_range h]
  rfl
theorem mapR_congr {n : Nat} {f g : Nat → Int} (h : ∀ i, i < n → f i = g i) : mapR n f = mapR n g := by
  unfold mapR
  exact List.map_congr_left fun i hi => h i (List.mem_range.1 hi)
theorem set_mapR {n i : Nat} {f : Nat → Int} {v : Int} : (mapR n f).set i v = mapR n fun m => if m = i then v else f m := by
  apply lext
  · simp [mapR]
  · intro j hj
    rw [List.length_set, mapR_length] at hj
    rw [getD_mapR hj]
    by_cases hi : i < n
    · rw [getD_setL (by rw [mapR_length]; exact hi), getD_mapR hj]
      by_cases e : i = j
      · rw [if_pos e, if_pos e.symm]
      · rw [if_neg e, if_neg fun h => e h.symm]
    · rw [List.set_eq_of_length_le (by rw [mapR_length]; omega), getD_mapR hj, if_neg (by omega)]
theorem rep_mapR (n : Nat) : List.replicate n 0 = mapR n fun _ => 0 := by
  apply lext
  · simp [mapR]
  · intro j hj
    have hj : j < n := by simpa using hj
    rw [getD_mapR hj]
    simp [List.getD, List.getElem?_replicate, hj]
theorem take_mapR {n i : Nat} {f : Nat → Int} (h : i < n) : (mapR n f).take (i + 1) = (mapR n f).take i ++ [f i] := by
  rw [take_sn (by rw [mapR_length]; exact h), getD_mapR h]

end Go.Proofs.Ythdmmmfgjmmelaa
