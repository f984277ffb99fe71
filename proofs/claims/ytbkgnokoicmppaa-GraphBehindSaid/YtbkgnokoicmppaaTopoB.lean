/- The order of functions: what orderOf lists, of whatever table of callees. No program in sight. -/
import Derived.Test.YtbkgnokoicmppaaOrderPure
namespace Go.Proofs.Ytbkgnokoicmppaa
set_option linter.unusedVariables false

theorem innerL_spec (has : Nat → Int → Bool) (f : Int) (cs : List Nat) : ∀ (d k : Nat) (wt xs : List Int), cs.length - k = d → wt.length = cs.length →
    (innerL has f k (cs.drop k) wt xs).1.length = cs.length ∧
    (∀ g, g < cs.length → (innerL has f k (cs.drop k) wt xs).1.getD g 0 = wt.getD g 0 - (if k ≤ g ∧ has (cs.getD g 0) f = true then 1 else 0)) ∧
    ∃ nw : List Int, (innerL has f k (cs.drop k) wt xs).2.Perm (nw ++ xs) ∧ nw.Nodup ∧ ∀ y, y ∈ nw ↔ ∃ g : Nat, y = (g : Int) ∧ k ≤ g ∧ g < cs.length ∧ has (cs.getD g 0) f = true ∧ wt.getD g 0 = 1 := by
  intro d
  induction d with
  | zero =>
    intro k wt xs hd hw
    rw [List.drop_eq_nil_of_le (by omega), innerL_nil]
    refine ⟨hw, fun g hg => by rw [if_neg (by omega)]; simp, [], by simp, by simp, fun y => ?_⟩
    constructor
    · intro h; simp at h
    · rintro ⟨g, _, h1, h2, _⟩; omega
  | succ d ih =>
    intro k wt xs hd hw
    have hk : k < cs.length := by omega
    rw [drop_consN cs k hk, innerL_cons]
    by_cases hh : has (cs.getD k 0) f = true
    · rw [if_pos hh]
      obtain ⟨i1, i2, nw, i3, i4, i5⟩ := ih (k + 1) (wt.set k (wt.getD k 0 - 1)) (if wt.getD k 0 - 1 = 0 then pushF xs k else xs) (by omega) (by simpa using hw)
      refine ⟨i1, fun g hg => ?_, ?_⟩
      · rw [i2 g hg]
        by_cases e : g = k
        · subst e
          rw [getD_set_self' _ _ _ (by omega), if_neg (by omega), if_pos ⟨Nat.le_refl _, hh⟩]
          omega
        · rw [getD_set_ne' _ _ _ _ (fun h => e h.symm)]
          by_cases hle : k + 1 ≤ g
          · have : k ≤ g := by omega
            simp [hle, this]
          · have : ¬ k ≤ g := by omega
            simp [hle, this]
      · have hget : ∀ g, k + 1 ≤ g → (wt.set k (wt.getD k 0 - 1)).getD g 0 = wt.getD g 0 := fun g hg => getD_set_ne' _ _ _ _ (by omega)
        by_cases h1 : wt.getD k 0 - 1 = 0
        · rw [if_pos h1] at i3 ⊢
          refine ⟨(k : Int) :: nw, ?_, ?_, fun y => ?_⟩
          · refine i3.trans ((List.Perm.append_left nw (pushF_perm xs (k : Int))).trans ?_)
            exact List.perm_middle
          · refine List.nodup_cons.2 ⟨fun h => ?_, i4⟩
            obtain ⟨g, e, h2, _⟩ := (i5 _).1 h
            omega
          · rw [List.mem_cons, i5]
            constructor
            · rintro (rfl | ⟨g, rfl, h2, h3, h4, h5⟩)
              · exact ⟨k, rfl, Nat.le_refl _, hk, hh, by omega⟩
              · exact ⟨g, rfl, by omega, h3, h4, by rw [hget g h2] at h5; exact h5⟩
            · rintro ⟨g, rfl, h2, h3, h4, h5⟩
              by_cases e : g = k
              · subst e; exact .inl rfl
              · exact .inr ⟨g, rfl, by omega, h3, h4, by rw [hget g (by omega)]; exact h5⟩
        · rw [if_neg h1] at i3 ⊢
          refine ⟨nw, i3, i4, fun y => ?_⟩
          rw [i5]
          constructor
          · rintro ⟨g, rfl, h2, h3, h4, h5⟩
            exact ⟨g, rfl, by omega, h3, h4, by rw [hget g h2] at h5; exact h5⟩
          · rintro ⟨g, rfl, h2, h3, h4, h5⟩
            have e : g ≠ k := by rintro rfl; omega
            exact ⟨g, rfl, by omega, h3, h4, by rw [hget g (by omega)]; exact h5⟩
    · rw [if_neg hh]
      obtain ⟨i1, i2, nw, i3, i4, i5⟩ := ih (k + 1) wt xs (by omega) hw
      refine ⟨i1, fun g hg => ?_, nw, i3, i4, fun y => ?_⟩
      · rw [i2 g hg]
        by_cases e : g = k
        · subst e
          rw [if_neg (by omega), if_neg (fun h => hh h.2)]
        · by_cases hle : k + 1 ≤ g
          · have : k ≤ g := by omega
            simp [hle, this]
          · have : ¬ k ≤ g := by omega
            simp [hle, this]
      · rw [i5]
        constructor
        · rintro ⟨g, rfl, h2, h3, h4, h5⟩
          exact ⟨g, rfl, by omega, h3, h4, h5⟩
        · rintro ⟨g, rfl, h2, h3, h4, h5⟩
          have e : g ≠ k := by rintro rfl; exact hh h4
          exact ⟨g, rfl, by omega, h3, h4, h5⟩
theorem initL_spec (cnt : Nat → Nat) : ∀ (cs : List Nat) (k : Nat) (xs : List Int), ∃ nw : List Int, (initL cnt k cs xs).Perm (nw ++ xs) ∧ nw.Nodup ∧ ∀ y, y ∈ nw ↔ ∃ g : Nat, y = ((k + g : Nat) : Int) ∧ g < cs.length ∧ cnt (cs.getD g 0) = 0 := by
  intro cs
  induction cs with
  | nil => intro k xs; exact ⟨[], by simp [initL], by simp, fun y => by simp⟩
  | cons m r ih =>
    intro k xs
    unfold initL
    obtain ⟨nw, i3, i4, i5⟩ := ih (k + 1) (if cnt m = 0 then pushF xs k else xs)
    by_cases h : cnt m = 0
    · rw [if_pos h] at i3 ⊢
      refine ⟨(k : Int) :: nw, i3.trans ((List.Perm.append_left nw (pushF_perm xs (k : Int))).trans List.perm_middle), List.nodup_cons.2 ⟨fun hm => ?_, i4⟩, fun y => ?_⟩
      · obtain ⟨g, e, _⟩ := (i5 _).1 hm
        omega
      · rw [List.mem_cons, i5]
        constructor
        · rintro (rfl | ⟨g, rfl, h1, h2⟩)
          · exact ⟨0, by simp, by simp, by simpa using h⟩
          · exact ⟨g + 1, by omega, by simpa using h1, by simpa using h2⟩
        · rintro ⟨g, rfl, h1, h2⟩
          cases g with
          | zero => exact .inl (by simp)
          | succ g => exact .inr ⟨g, by omega, by simpa using h1, by simpa using h2⟩
    · rw [if_neg h] at i3 ⊢
      refine ⟨nw, i3, i4, fun y => ?_⟩
      rw [i5]
      constructor
      · rintro ⟨g, rfl, h1, h2⟩
        exact ⟨g + 1, by omega, by simpa using h1, by simpa using h2⟩
      · rintro ⟨g, rfl, h1, h2⟩
        cases g with
        | zero => exact absurd (by simpa using h2) h
        | succ g => exact ⟨g, by omega, by simpa using h1, by simpa using h2⟩
end Go.Proofs.Ytbkgnokoicmppaa
