/- What graph.Reach computes is a closure: what comes of some ids, closed, and the least such. -/
import Derived.Test.YtbkgnokoicmppaaDoorReach
namespace Go.Proofs.YtbkgnokoicmppaaDoor
set_option linter.unusedVariables false

def sub (x y : Nat) : Prop := ∀ i, x.testBit i = true → y.testBit i = true
theorem sub_antisymm {x y : Nat} (h : sub x y) (k : sub y x) : x = y := by
  apply Nat.eq_of_testBit_eq
  intro i
  rw [Bool.eq_iff_iff]
  exact ⟨h i, k i⟩
theorem sub_of_and {x a : Nat} (h : x &&& a = x) : sub x a := by
  intro i hi
  have := congrArg (fun z => z.testBit i) h
  simp only [Nat.testBit_and, hi, Bool.true_and] at this
  exact this
theorem and_of_sub {x a : Nat} (h : sub x a) : x &&& a = x := by
  apply Nat.eq_of_testBit_eq
  intro i
  rw [Nat.testBit_and]
  cases hx : x.testBit i
  · rfl
  · rw [h i hx]; rfl
theorem orL_bit (cs : List Nat) (a : Nat) : ∀ (l : List Int) (m i : Nat), (orL cs a l m).testBit i = true ↔ m.testBit i = true ∨ ∃ f ∈ l, (cs.getD f.toNat 0 &&& a).testBit i = true := by
  intro l
  induction l with
  | nil => intro m i; simp [orL]
  | cons f l ih =>
    intro m i
    rw [orL_cons, ih, Nat.testBit_or, Bool.or_eq_true]
    constructor
    · rintro ((h | h) | ⟨g, hg, h⟩)
      · exact .inl h
      · exact .inr ⟨f, List.mem_cons_self, h⟩
      · exact .inr ⟨g, List.mem_cons_of_mem _ hg, h⟩
    · rintro (h | ⟨g, hg, h⟩)
      · exact .inl (.inl h)
      · rcases List.mem_cons.1 hg with rfl | hg
        · exact .inl (.inr h)
        · exact .inr ⟨g, hg, h⟩
/-- One round. -/
def rnd (cs : List Nat) (a m : Nat) : Nat := orL cs a (listF m) m
theorem rnd_bit (cs : List Nat) (a m i : Nat) (hm : m < 4294967296) : (rnd cs a m).testBit i = true ↔ m.testBit i = true ∨ ∃ j, j < 32 ∧ m.testBit j = true ∧ (cs.getD j 0 &&& a).testBit i = true := by
  unfold rnd
  rw [orL_bit]
  constructor
  · rintro (h | ⟨f, hf, h⟩)
    · exact .inl h
    · obtain ⟨j, rfl, hj, hb⟩ := (mem_listF m hm f).1 hf
      exact .inr ⟨j, hj, hb, by simpa using h⟩
  · rintro (h | ⟨j, hj, hb, h⟩)
    · exact .inl h
    · exact .inr ⟨(j : Int), (mem_listF m hm _).2 ⟨j, rfl, hj, hb⟩, by simpa using h⟩
theorem rnd_mono {cs : List Nat} {a x y : Nat} (hx : x < 4294967296) (hy : y < 4294967296) (h : sub x y) : sub (rnd cs a x) (rnd cs a y) := by
  intro i hi
  rw [rnd_bit _ _ _ _ hy]
  rcases (rnd_bit _ _ _ _ hx).1 hi with h1 | ⟨j, hj, hb, h1⟩
  · exact .inl (h i h1)
  · exact .inr ⟨j, hj, h j hb, h1⟩
theorem sub_rnd (cs : List Nat) (a m : Nat) : sub m (rnd cs a m) := fun i hi => (orL_bit cs a _ m i).2 (.inl hi)
theorem rnd_or (cs : List Nat) (a x y : Nat) (hx : x < 4294967296) (hy : y < 4294967296) (h1 : rnd cs a x = x) (h2 : rnd cs a y = y) : rnd cs a (x ||| y) = x ||| y := by
  apply sub_antisymm
  · intro i hi
    rcases (rnd_bit _ _ _ _ (or_lt _ _ hx hy)).1 hi with h | ⟨j, hj, hb, h⟩
    · exact h
    · rw [Nat.testBit_or, Bool.or_eq_true] at hb ⊢
      rcases hb with hb | hb
      · left; rw [← h1]; exact (rnd_bit _ _ _ _ hx).2 (.inr ⟨j, hj, hb, h⟩)
      · right; rw [← h2]; exact (rnd_bit _ _ _ _ hy).2 (.inr ⟨j, hj, hb, h⟩)
  · exact sub_rnd _ _ _
theorem reachG_spec (cs : List Nat) (a : Nat) (ha : a < 4294967296) : ∀ (k m : Nat), m &&& a = m → a < k + m →
    reachG k cs a m &&& a = reachG k cs a m ∧ sub m (reachG k cs a m) ∧ rnd cs a (reachG k cs a m) = reachG k cs a m ∧
      ∀ y, y &&& a = y → rnd cs a y = y → sub m y → sub (reachG k cs a m) y := by
  intro k
  induction k with
  | zero => intro m h1 h2; have := sub_le m a h1; omega
  | succ k ih =>
    intro m h1 h2
    unfold reachG
    by_cases h : orL cs a (listF m) m = m
    · rw [if_pos h]
      exact ⟨h1, fun i hi => hi, h, fun y _ _ hs => hs⟩
    · rw [if_neg h]
      have hge := orL_ge cs a (listF m) m
      obtain ⟨i1, i2, i3, i4⟩ := ih (orL cs a (listF m) m) (orL_sub cs a _ m h1) (by omega)
      refine ⟨i1, fun i hi => i2 i (sub_rnd cs a m i hi), i3, fun y hy hc hs => i4 y hy hc ?_⟩
      have := rnd_mono (cs := cs) (a := a) (Nat.lt_of_le_of_lt (sub_le m a h1) ha) (Nat.lt_of_le_of_lt (sub_le y a hy) ha) hs
      rw [hc] at this
      exact this
theorem reachM_spec (cs : List Nat) (m : Nat) : reachM cs m &&& allF cs.length = reachM cs m ∧ sub (m &&& allF cs.length) (reachM cs m) ∧ rnd cs (allF cs.length) (reachM cs m) = reachM cs m ∧
      ∀ y, y &&& allF cs.length = y → rnd cs (allF cs.length) y = y → sub (m &&& allF cs.length) y → sub (reachM cs m) y := by
  unfold reachM
  exact reachG_spec cs (allF cs.length) (allF_lt _) _ _ (by rw [Nat.and_assoc, Nat.and_self]) (by omega)
theorem reachM_lt (cs : List Nat) (m : Nat) : reachM cs m < 4294967296 := Nat.lt_of_le_of_lt (sub_le _ _ (reachM_spec cs m).1) (allF_lt _)
theorem reachM_self (cs : List Nat) (m : Nat) : reachM cs (reachM cs m) = reachM cs m := by
  obtain ⟨h1, h2, h3, h4⟩ := reachM_spec cs m
  obtain ⟨k1, k2, k3, k4⟩ := reachM_spec cs (reachM cs m)
  rw [h1] at k2 k4
  exact sub_antisymm (k4 _ h1 h3 (fun i hi => hi)) k2
theorem reachM_or (cs : List Nat) (x y : Nat) : reachM cs (x ||| y) = reachM cs x ||| reachM cs y := by
  obtain ⟨h1, h2, h3, h4⟩ := reachM_spec cs x
  obtain ⟨k1, k2, k3, k4⟩ := reachM_spec cs y
  obtain ⟨l1, l2, l3, l4⟩ := reachM_spec cs (x ||| y)
  rw [Nat.and_or_distrib_right] at l2 l4
  apply sub_antisymm
  · refine l4 _ (by rw [Nat.and_or_distrib_right, h1, k1]) (rnd_or _ _ _ _ (reachM_lt _ _) (reachM_lt _ _) h3 k3) ?_
    intro i hi
    rw [Nat.testBit_or, Bool.or_eq_true] at hi ⊢
    rcases hi with hi | hi
    · exact .inl (h2 i hi)
    · exact .inr (k2 i hi)
  · intro i hi
    rw [Nat.testBit_or, Bool.or_eq_true] at hi
    rcases hi with hi | hi
    · exact h4 _ l1 l3 (fun i hi => l2 i (by rw [Nat.testBit_or, hi, Bool.true_or])) i hi
    · exact k4 _ l1 l3 (fun i hi => l2 i (by rw [Nat.testBit_or, hi, Bool.or_true])) i hi
theorem reachM_has (cs : List Nat) (m : Nat) : (m &&& allF cs.length) &&& (4294967295 - reachM cs m) = 0 := by
  obtain ⟨h1, h2, h3, h4⟩ := reachM_spec cs m
  have hlt := reachM_lt cs m
  apply Nat.eq_of_testBit_eq
  intro i
  rw [Nat.testBit_and, Nat.zero_testBit]
  cases hx : (m &&& allF cs.length).testBit i
  · rfl
  · have := h2 i hx
    have e : (4294967295 - reachM cs m).testBit i = (decide (i < 32) && !(reachM cs m).testBit i) := by
      have := Nat.testBit_two_pow_sub_succ (n := 32) (x := reachM cs m) (by omega) i
      rw [show (2 : Nat) ^ 32 - (reachM cs m + 1) = 4294967295 - reachM cs m by omega] at this
      exact this
    rw [e, this]
    simp
end Go.Proofs.YtbkgnokoicmppaaDoor
