/- alibilaw06.GraphBehind: where each function stands in the order; where nodes go on. No program in sight. -/
import Derived.Test.YtbkgnokoicmppaaTopoD
import Derived.Test.YtbkgnokoicmppaaAfterC
import Derived.Test.YtbkgnokoicmppaaSmall
namespace Go.Proofs.Ytbkgnokoicmppaa
open Go.RowKit
set_option linter.unusedVariables false
set_option linter.unusedSimpArgs false

/-- Where each function stands in the order, and 1; 0: not yet. -/
def placeF (o : List Int) : Nat → List Int
  | 0 => List.replicate 16 0
  | k + 1 => (placeF o k).set (o.getD k 0).toNat ((k : Int) + 1)
theorem placeF_length (o : List Int) (k : Nat) : (placeF o k).length = 16 := by
  induction k with
  | zero => rfl
  | succ k ih => unfold placeF; rw [List.length_set, ih]
theorem placeF_none (o : List Int) (g : Nat) : ∀ k, k ≤ o.length → (∀ x ∈ o, 0 ≤ x) → (g : Int) ∉ o.take k → (placeF o k).getD g 0 = 0 := by
  intro k
  induction k with
  | zero => intro _ _ _; unfold placeF; simp only [List.getD_eq_getElem?_getD, List.getElem?_replicate]; split <;> rfl
  | succ k ih =>
    intro hk h0 h
    have hkl : k < o.length := by omega
    rw [List.take_succ_eq_append_getElem hkl, List.mem_append, List.mem_singleton, not_or] at h
    have e : o.getD k 0 = o[k] := by rw [List.getD_eq_getElem?_getD, List.getElem?_eq_getElem hkl]; rfl
    have := h0 _ (List.getElem_mem hkl)
    unfold placeF
    rw [e, getD_set_ne' _ _ _ _ (fun e2 => h.2 (by omega))]
    exact ih (by omega) h0 h.1
theorem placeF_at (o : List Int) (hnd : o.Nodup) (hr : ∀ x ∈ o, 0 ≤ x ∧ x < 16) : ∀ k, k ≤ o.length → ∀ j, j < k → (placeF o k).getD (o.getD j 0).toNat 0 = (j : Int) + 1 := by
  intro k
  induction k with
  | zero => intro _ j h; omega
  | succ k ih =>
    intro hk j hj
    have hkl : k < o.length := by omega
    have hjl : j < o.length := by omega
    have e : o.getD k 0 = o[k] := by rw [List.getD_eq_getElem?_getD, List.getElem?_eq_getElem hkl]; rfl
    have ej : o.getD j 0 = o[j] := by rw [List.getD_eq_getElem?_getD, List.getElem?_eq_getElem hjl]; rfl
    have h1 := hr _ (List.getElem_mem hkl)
    have h2 := hr _ (List.getElem_mem hjl)
    unfold placeF
    by_cases h : j = k
    · subst h
      rw [getD_set_self' _ _ _ (by rw [placeF_length, e]; omega)]
    · have hne : o[j] ≠ o[k] := fun e2 => h ((List.getElem_inj hnd).1 e2)
      rw [e, getD_set_ne' _ _ _ _ (fun e2 => hne (by omega))]
      exact ih (by omega) j (by omega)
theorem placeF_lt {p : Prg} {o : List Int} (h : Ordered p o) (hn : p.fs.length ≤ 16) (f : Nat) (hf : f < p.fs.length) (x : Node) (hx : x ∈ p.fs.getD f []) (h7 : x.kind = 7) :
    (placeF o p.fs.length).getD x.arg.toNat 0 < (placeF o p.fs.length).getD f 0 ∧ 0 ≤ x.arg ∧ x.arg < p.fs.length := by
  have hr : ∀ x ∈ o, 0 ≤ x ∧ x < 16 := fun x hx => by have := h.range x hx; omega
  obtain ⟨i, hi, he⟩ := List.getElem_of_mem (h.all f hf)
  have ei : o.getD i 0 = (f : Int) := by rw [List.getD_eq_getElem?_getD, List.getElem?_eq_getElem hi, he]; rfl
  have hm := h.order i hi x (by rw [ei, Int.toNat_natCast]; exact hx) h7
  obtain ⟨j, hj, hje⟩ := List.getElem_of_mem hm
  have hji : j < i := by rw [List.length_take] at hj; omega
  rw [List.getElem_take] at hje
  have ej : o.getD j 0 = x.arg := by rw [List.getD_eq_getElem?_getD, List.getElem?_eq_getElem (by omega : j < o.length), hje]; rfl
  have p1 := placeF_at o h.nd hr p.fs.length (by rw [h.len]; exact Nat.le_refl _) j (by have := h.len; omega)
  have p2 := placeF_at o h.nd hr p.fs.length (by rw [h.len]; exact Nat.le_refl _) i (by have := h.len; omega)
  rw [ej] at p1
  rw [ei, Int.toNat_natCast] at p2
  have := h.range x.arg (hje ▸ List.getElem_mem (by omega))
  exact ⟨by rw [p1, p2]; omega, this⟩
theorem edges_in (l : List Node) : ∀ (k i : Nat) (x y : Int), (edgesL k l)[i]? = some (x, y) → ∃ j : Nat, x = ((k + j : Nat) : Int) ∧ j < l.length ∧ y ∈ succF (l.getD j zNode) := by
  induction l with
  | nil => intro k i x y h; rw [edgesL_nil] at h; simp at h
  | cons a l ih =>
    intro k i x y h
    rw [edgesL_cons] at h
    by_cases hi : i < ((succF a).map fun y => ((k : Int), y)).length
    · rw [List.getElem?_append_left hi, List.getElem?_map] at h
      obtain ⟨z, hz, he⟩ := Option.map_eq_some_iff.1 h
      injection he with e1 e2
      subst e1 e2
      exact ⟨0, by simp, by simp, by simpa using List.mem_of_getElem? hz⟩
    · rw [List.getElem?_append_right (by omega)] at h
      obtain ⟨j, h1, h2, h3⟩ := ih _ _ _ _ h
      exact ⟨j + 1, by omega, by simp; omega, by simpa using h3⟩
theorem edgeC_get (es : List (Int × Int)) (i : Nat) (x y : Int) (h : es[i]? = some (x, y)) : (edgeC es)[i * 2]? = some (.int .i64 x) ∧ (edgeC es)[i * 2 + 1]? = some (.int .i64 y) := by
  have key : ∀ (es : List (Int × Int)) (i j : Nat) (a : Int × Int), es[i]? = some a → j < 2 → (edgeC es)[i * 2 + j]? = ([.int .i64 a.1, .int .i64 a.2] : List Value)[j]? := by
    intro es
    induction es with
    | nil => intro i j a h; simp at h
    | cons e es ih =>
      intro i j a h hj
      unfold edgeC
      rw [List.flatMap_cons]
      cases i with
      | zero => simp at h; subst h; rw [Nat.zero_mul, Nat.zero_add, List.getElem?_append_left (by simpa using hj)]
      | succ i =>
        rw [List.getElem?_append_right (by simp; omega)]
        have := ih i j a (by simpa using h) hj
        unfold edgeC at this
        rw [← this]
        congr 1
        simp
        omega
  exact ⟨by have := key es i 0 _ h (by omega); simpa using this, by have := key es i 1 _ h (by omega); simpa using this⟩
theorem may_kind {p : Prg} {n : Node} {size : Int} (h : mayF p n size = true) : 0 ≤ n.kind ∧ n.kind ≤ 9 := by
  apply Decidable.byContradiction
  intro hn
  have : (fieldsF p n.kind size).2.2.2 = false := by
    unfold fieldsF
    rw [if_neg (by omega), if_neg (by omega), if_neg (by omega), if_neg (by omega), if_neg (by omega), if_neg (by omega), if_neg (by omega), if_neg (by omega)]
  unfold mayF at h
  rw [this] at h
  simp at h
theorem may_kinds {p : Prg} {n : Node} {size : Int} (h : mayF p n size = true) : n.kind = 0 ∨ n.kind = 1 ∨ n.kind = 2 ∨ n.kind = 3 ∨ n.kind = 4 ∨ n.kind = 5 ∨ n.kind = 6 ∨ n.kind = 7 ∨ n.kind = 8 ∨ n.kind = 9 := by
  have := may_kind h; omega
theorem may_succ {p : Prg} {n : Node} {size : Nat} (h0 : 0 < size) (h : mayF p n size = true) : ∀ y ∈ succF n, 0 ≤ y ∧ y < size := by
  intro y hy
  rcases may_kinds h with e | e | e | e | e | e | e | e | e | e <;> (unfold mayF fieldsF withinB at h; unfold succF at hy; rw [e] at h hy; simp at h hy) <;> (try (rcases hy with rfl | rfl)) <;> (try subst hy) <;> omega
end Go.Proofs.Ytbkgnokoicmppaa
