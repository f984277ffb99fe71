/- Plain functions and facts on lists and numbers: the binary heap of container/heap on lists, sets as numbers. No program in sight. -/
namespace Go.Proofs.Ytbkgnokoicmppaa

/-! ### the binary heap -/
def swp (xs : List Int) (i j : Nat) : List Int := (xs.set i (xs.getD j 0)).set j (xs.getD i 0)
def upF : Nat → List Int → Nat → List Int
  | 0, xs, _ => xs
  | n + 1, xs, j => if j = 0 then xs else if xs.getD j 0 < xs.getD ((j - 1) / 2) 0 then upF n (swp xs ((j - 1) / 2) j) ((j - 1) / 2) else xs
def kid (xs : List Int) (i n : Nat) : Nat := if 2 * i + 2 < n then (if xs.getD (2 * i + 2) 0 < xs.getD (2 * i + 1) 0 then 2 * i + 2 else 2 * i + 1) else 2 * i + 1
def dnF : Nat → List Int → Nat → Nat → List Int
  | 0, xs, _, _ => xs
  | f + 1, xs, i, n => if n ≤ 2 * i + 1 then xs else if xs.getD (kid xs i n) 0 < xs.getD i 0 then dnF f (swp xs i (kid xs i n)) (kid xs i n) n else xs
def pushF (xs : List Int) (x : Int) : List Int := upF xs.length (xs ++ [x]) xs.length
def popF (xs : List Int) : List Int := dnF xs.length (swp xs 0 (xs.length - 1)) 0 (xs.length - 1)

theorem swp_length (xs : List Int) (i j : Nat) : (swp xs i j).length = xs.length := by simp [swp]
theorem kid_lt (xs : List Int) (i n : Nat) (h : 2 * i + 1 < n) : kid xs i n < n := by unfold kid; split <;> (try split) <;> omega
theorem kid_gt (xs : List Int) (i n : Nat) : i < kid xs i n := by unfold kid; split <;> (try split) <;> omega
theorem upF_length (n : Nat) : ∀ xs j, (upF n xs j).length = xs.length := by
  induction n with
  | zero => intro xs j; rfl
  | succ n ih => intro xs j; unfold upF; split; rfl; split; rw [ih, swp_length]; rfl
theorem dnF_length (f : Nat) : ∀ xs i n, (dnF f xs i n).length = xs.length := by
  induction f with
  | zero => intro xs i n; rfl
  | succ f ih => intro xs i n; unfold dnF; split; rfl; split; rw [ih, swp_length]; rfl
theorem upF_zero (n : Nat) (xs : List Int) : upF n xs 0 = xs := by cases n <;> simp [upF]

theorem swp_perm (xs : List Int) (i j : Nat) (hi : i < xs.length) (hj : j < xs.length) : (swp xs i j).Perm xs := by
  rw [List.perm_iff_count]
  intro a
  unfold swp
  have e1 : xs.getD i 0 = xs[i] := by simp [List.getD_eq_getElem?_getD, hi]
  have e2 : xs.getD j 0 = xs[j] := by simp [List.getD_eq_getElem?_getD, hj]
  rw [e1, e2, List.count_set (by simpa using hj), List.count_set hi]
  have h3 : ((xs.set i xs[j])[j]'(by simpa using hj)) = xs[j] := by
    by_cases h : i = j
    · subst h; simp
    · simp [h]
  rw [h3]
  have c1 : 1 ≤ xs.count xs[i] := List.one_le_count_iff.2 (List.getElem_mem hi)
  have c2 : 1 ≤ xs.count xs[j] := List.one_le_count_iff.2 (List.getElem_mem hj)
  by_cases h1 : xs[i] = a <;> by_cases h2 : xs[j] = a <;> simp_all <;> omega
theorem upF_perm (n : Nat) : ∀ xs j, j < xs.length → (upF n xs j).Perm xs := by
  induction n with
  | zero => intro xs j _; exact List.Perm.refl _
  | succ n ih =>
    intro xs j hj
    unfold upF
    split
    · exact List.Perm.refl _
    · split
      · exact (ih _ _ (by rw [swp_length]; omega)).trans (swp_perm _ _ _ (by omega) hj)
      · exact List.Perm.refl _
theorem dnF_perm (f : Nat) : ∀ xs i n, n ≤ xs.length → i < xs.length → (dnF f xs i n).Perm xs := by
  induction f with
  | zero => intro xs i n _ _; exact List.Perm.refl _
  | succ f ih =>
    intro xs i n hn hi
    unfold dnF
    split
    · exact List.Perm.refl _
    · rename_i h
      have hk := kid_lt xs i n (by omega)
      split
      · exact (ih _ _ _ (by rw [swp_length]; exact hn) (by rw [swp_length]; omega)).trans (swp_perm _ _ _ hi (by omega))
      · exact List.Perm.refl _
theorem pushF_perm (xs : List Int) (x : Int) : (pushF xs x).Perm (x :: xs) :=
  (upF_perm _ _ _ (by simp)).trans (List.perm_append_singleton x xs)
theorem pushF_length (xs : List Int) (x : Int) : (pushF xs x).length = xs.length + 1 := by simp [pushF, upF_length]
theorem popF_length (xs : List Int) : (popF xs).length = xs.length := by rw [popF, dnF_length, swp_length]
theorem popF_perm (xs : List Int) (h : xs ≠ []) : (popF xs).Perm xs := by
  have hl : 0 < xs.length := List.length_pos_iff.2 h
  exact (dnF_perm _ _ _ _ (by rw [swp_length]; omega) (by rw [swp_length]; omega)).trans (swp_perm _ _ _ hl (by omega))
theorem popF_ne (xs : List Int) (h : xs ≠ []) : popF xs ≠ [] := by
  intro e; have := popF_length xs; rw [e] at this; have := List.length_pos_iff.2 h; simp at *; omega
/-- What Pop hands back, and what is left. -/
theorem pop_perm (xs : List Int) (h : xs ≠ []) : ((popF xs).getLast (popF_ne xs h) :: (popF xs).dropLast).Perm xs := by
  have h1 := List.dropLast_concat_getLast (popF_ne xs h)
  have h2 : ((popF xs).getLast (popF_ne xs h) :: (popF xs).dropLast).Perm (popF xs) := by
    conv => rhs; rw [← h1]
    exact (List.perm_append_singleton _ _).symm
  exact h2.trans (popF_perm xs h)
end Go.Proofs.Ytbkgnokoicmppaa
