/- A slice of ints opened out of a row's reading. -/
import Derived.Test.YtbkgnokoicmppaaOpen
namespace Go.Proofs.Ytbkgnokoicmppaa
open Go.RowKit Go.ChangeShapes Go.Joins Go.Deep
set_option linter.unusedVariables false
set_option maxRecDepth 100000

theorem open_intsR {H : Type} {enc : TypeId × Value → H} {w : World} {base : Nat} {spare : Nat → Bool} {held : Bool} {n : Nat} {cs : List Value} {x : DataW H × List MemPlace} (h : DataW.trod enc Try.prog w base spare held n 25 cs = some x) :
    ∃ A c xs, cs = [.slice A (List.length xs) c] ∧ List.length xs ≤ c ∧ c ≤ maxLen ∧ Rd w A (ints xs) := by
  have c1 : Program.cellsOf Try.prog 3 = 1 := by kernel_rfl
  rcases open_ints Try.underlying25 Try.underlying3 c1 h with ⟨rfl, -⟩ | ⟨a, len, cap, zs, rfl, hb, hl, hm, hz, -, hc, hwf⟩
  · exact ⟨none, 0, [], rfl, Nat.le_refl _, by decide, Rd.nil _ _⟩
  · have hlz : len ≤ zs.length := by rw [hz]; split <;> omega
    have hlt : (zs.take len).length = len := by rw [List.length_take]; omega
    refine ⟨some a, cap, zs.take len, by rw [hlt], by rw [hlt]; exact hl, hm, ?_⟩
    by_cases h0 : len = 0
    · subst h0; exact .inl (by simp [ints])
    · obtain ⟨b, o, spot⟩ := a
      have hspot : spot = none := by
        have := World.cell?_spot (hc 0 (by omega))
        simpa [Addr.add] using this
      subst hspot
      refine .inr ⟨b, o, rfl, fun k v hv => ?_⟩
      have hk : k < len := by
        have := (List.getElem?_eq_some_iff.1 hv).1
        rw [ints_length, hlt] at this
        exact this
      have := hc k (by omega)
      rw [add_none] at this
      rw [this]
      rw [ints_get _ k (by rw [hlt]; exact hk)] at hv
      rw [← hv]
      congr 2
      simp [List.getD_eq_getElem?_getD, hk]
end Go.Proofs.Ytbkgnokoicmppaa
