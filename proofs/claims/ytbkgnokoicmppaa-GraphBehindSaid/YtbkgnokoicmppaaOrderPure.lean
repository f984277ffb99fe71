/- graph.Order as a plain function on lists, and that its counts come out even. No program in sight. -/
import Derived.Test.YtbkgnokoicmppaaPurePrg
namespace Go.Proofs.Ytbkgnokoicmppaa

section
variable (cnt : Nat → Nat) (has : Nat → Int → Bool)
/-- Which functions are ready at first: those from f on that call nobody. -/
def initL : Nat → List Nat → List Int → List Int
  | _, [], xs => xs
  | f, m :: r, xs => initL (f + 1) r (if cnt m = 0 then pushF xs f else xs)
/-- What the end of f does to the callers from g on. -/
def innerL (f : Int) : Nat → List Nat → List Int → List Int → List Int × List Int
  | _, [], wt, xs => (wt, xs)
  | g, m :: r, wt, xs =>
    if has m f = true then innerL f (g + 1) r (wt.set g (wt.getD g 0 - 1)) (if wt.getD g 0 - 1 = 0 then pushF xs g else xs)
    else innerL f (g + 1) r wt xs
def lastD (xs : List Int) : Int := xs.getLast?.getD 0
def orderL (calls : List Nat) : Nat → List Int → List Int → List Int → List Int
  | 0, _, _, out => out
  | n + 1, wt, xs, out => if xs = [] then out else
      orderL calls n (innerL has (lastD (popF xs)) 0 calls wt (popF xs).dropLast).1 (innerL has (lastD (popF xs)) 0 calls wt (popF xs).dropLast).2 (out ++ [lastD (popF xs)])
def orderOf (calls : List Nat) : List Int := orderL has calls (calls.length + 1) (calls.map fun m => (cnt m : Int)) (initL cnt 0 calls []) []
end

theorem innerL_nil (has : Nat → Int → Bool) (f : Int) (g : Nat) (wt xs : List Int) : innerL has f g [] wt xs = (wt, xs) := rfl
theorem innerL_cons (has : Nat → Int → Bool) (f : Int) (g m : Nat) (r : List Nat) (wt xs : List Int) : innerL has f g (m :: r) wt xs =
    if has m f = true then innerL has f (g + 1) r (wt.set g (wt.getD g 0 - 1)) (if wt.getD g 0 - 1 = 0 then pushF xs g else xs) else innerL has f (g + 1) r wt xs := rfl
theorem drop_consN (l : List Nat) (k : Nat) (h : k < l.length) : l.drop k = l.getD k 0 :: l.drop (k + 1) := by
  rw [List.drop_eq_getElem_cons h, List.getD_eq_getElem?_getD, List.getElem?_eq_getElem h]; rfl
theorem getD_set_ne' (l : List Int) (i j : Nat) (x : Int) (h : i ≠ j) : (l.set i x).getD j 0 = l.getD j 0 := by
  simp [List.getD_eq_getElem?_getD, List.getElem?_set_ne h]
theorem getD_set_self' (l : List Int) (i : Nat) (x : Int) (h : i < l.length) : (l.set i x).getD i 0 = x := by
  simp [List.getD_eq_getElem?_getD, h]
theorem lastD_eq (xs : List Int) (h : xs ≠ []) : lastD xs = xs.getLast h := by unfold lastD; rw [List.getLast?_eq_some_getLast h]; rfl
def pos (wt : List Int) : Nat := wt.countP fun x => decide (0 < x)
theorem pos_set (wt : List Int) (g : Nat) (x : Int) (h : g < wt.length) : pos (wt.set g x) + (if 0 < wt.getD g 0 then 1 else 0) = pos wt + (if 0 < x then 1 else 0) := by
  unfold pos
  have e : wt.getD g 0 = wt[g] := by simp [List.getD_eq_getElem?_getD, h]
  rw [e, List.countP_set h]
  have hp : (if decide (0 < wt[g]) = true then 1 else 0) ≤ wt.countP (fun x => decide (0 < x)) := by
    split
    · rename_i h2
      exact List.countP_pos_iff.2 ⟨wt[g], List.getElem_mem h, h2⟩
    · omega
  simp only [decide_eq_true_eq] at hp ⊢
  by_cases h1 : 0 < wt[g] <;> by_cases h2 : 0 < x <;> simp only [h1, h2, if_true, if_false] at hp ⊢ <;> omega

/-- What the inner loop keeps. -/
structure InnerOk (n : Nat) (lo : Int) (wt xs wt' xs' : List Int) : Prop where
  len : wt'.length = wt.length
  sum : pos wt' + xs'.length = pos wt + xs.length
  range : (∀ x ∈ xs, 0 ≤ x ∧ x < n) → ∀ x ∈ xs', 0 ≤ x ∧ x < n
theorem inner_step (has : Nat → Int → Bool) (f : Int) (n : Nat) (g : Nat) (m : Nat) (wt xs : List Int) (hg : g < n) (hw : wt.length = n) :
    InnerOk n 0 wt xs (if has m f = true then wt.set g (wt.getD g 0 - 1) else wt) (if has m f = true then (if wt.getD g 0 - 1 = 0 then pushF xs g else xs) else xs) := by
  by_cases h : has m f = true
  · simp only [h, if_true]
    have hp := pos_set wt g (wt.getD g 0 - 1) (by omega)
    refine ⟨by simp, ?_, ?_⟩
    · by_cases h0 : wt.getD g 0 - 1 = 0
      · rw [if_pos h0, pushF_length]
        rw [if_pos (by omega), if_neg (by omega)] at hp
        omega
      · rw [if_neg h0]
        by_cases h1 : 0 < wt.getD g 0
        · rw [if_pos h1, if_pos (by omega)] at hp; omega
        · rw [if_neg h1, if_neg (by omega)] at hp; omega
    · intro hx
      split
      · intro x hm
        have := (pushF_perm xs (g : Int)).mem_iff.1 hm
        rcases List.mem_cons.1 this with rfl | h2
        · omega
        · exact hx x h2
      · exact hx
  · simp only [h]
    exact ⟨rfl, rfl, fun h => h⟩
theorem pos_append (a b : List Int) : pos (a ++ b) = pos a + pos b := by simp [pos]
theorem pos_one (x : Int) : pos [x] = if 0 < x then 1 else 0 := by simp [pos, List.countP_cons]
theorem take_set_succ (wt : List Int) (f : Nat) (x : Int) (h : f < wt.length) : (wt.set f x).take (f + 1) = wt.take f ++ [x] := by
  rw [List.take_succ_eq_append_getElem (by simpa using h)]
  simp [List.take_set_of_le]
end Go.Proofs.Ytbkgnokoicmppaa
