/- A program, nodes and ids opened out of a row's reading. -/
import Derived.Test.YtbkgnokoicmppaaData
import Derived.ProofKit
import Derived.Lib.SmallJoins
import Derived.Deep.Slices
import Derived.OpenShut
import Derived.Carry
namespace Go.Proofs.Ytbkgnokoicmppaa
open Go.RowKit Go.ChangeShapes Go.Joins Go.Deep
set_option linter.unusedVariables false
set_option linter.unusedSimpArgs false
set_option maxRecDepth 100000

instance : Inhabited Node := ⟨zNode⟩
theorem laidOut : laidOutB Try.prog = true := by kernel_rfl
section
variable {H : Type} {enc : TypeId × Value → H} {w : World} {base : Nat} {spare : Nat → Bool} {held : Bool}

theorem open_node {n : Nat} {cs : List Value} {x : DataW H × List MemPlace} (h : DataW.trod enc Try.prog w base spare held n 34 cs = some x) :
    ∃ nd : Node, cs = nd.cells := by
  obtain ⟨y0, y1, y2, y3, n', -, hl, h0, h1, h2, h3⟩ := trod_struct4 Try.underlying34 h
  have c4 : Program.cellsOf Try.prog 34 = 4 := by kernel_rfl
  rw [c4] at hl
  match cs, hl with
  | [a, b, c, d], _ =>
    have c1 : Program.cellsOf Try.prog 3 = 1 := by kernel_rfl
    simp only [c1] at h0 h1 h2 h3
    obtain ⟨i0, e0, -, -⟩ := DataW.trod_int Try.underlying3 h0
    obtain ⟨i1, e1, -, -⟩ := DataW.trod_int Try.underlying3 h1
    obtain ⟨i2, e2, -, -⟩ := DataW.trod_int Try.underlying3 h2
    obtain ⟨i3, e3, -, -⟩ := DataW.trod_int Try.underlying3 h3
    simp at e0 e1 e2 e3
    subst e0 e1 e2 e3
    exact ⟨⟨i0, i1, i2, i3⟩, rfl⟩
theorem map_range_at {α : Type} (f : Nat → α) (n i : Nat) (hi : i < n) : ((List.range n).map f)[i]? = some (f i) := by simp [hi]
theorem add_none (b o i : Nat) : (⟨b, o, none⟩ : Addr).add i = ⟨b, o + i, none⟩ := by unfold Addr.add; split <;> simp_all
theorem flat_at (l : List Node) : ∀ (k : Nat) (v : Value), (l.flatMap Node.cells)[k]? = some v → ∃ nd, l[k / 4]? = some nd ∧ nd.cells[k % 4]? = some v := by
  induction l with
  | nil => intro k v h; simp at h
  | cons x l ih =>
    intro k v h
    rw [List.flatMap_cons] at h
    by_cases hk : k < 4
    · rw [List.getElem?_append_left (by simp [Node.cells]; omega)] at h
      exact ⟨x, by rw [Nat.div_eq_of_lt hk]; rfl, by rw [Nat.mod_eq_of_lt hk]; exact h⟩
    · rw [List.getElem?_append_right (by simp [Node.cells]; omega)] at h
      obtain ⟨nd, h1, h2⟩ := ih (k - 4) v (by simpa [Node.cells] using h)
      refine ⟨nd, ?_, ?_⟩
      · rw [show k / 4 = (k - 4) / 4 + 1 by omega]; simpa using h1
      · rw [show k % 4 = (k - 4) % 4 by omega]; exact h2
theorem open_nodes {n : Nat} {cs : List Value} {x : DataW H × List MemPlace} (h : DataW.trod enc Try.prog w base spare held n 32 cs = some x) :
    ∃ A c l, cs = [.slice A (List.length l) c] ∧ List.length l ≤ c ∧ c ≤ maxLen ∧ NodesAt w A l := by
  rcases open_slice Try.underlying32 h with ⟨rfl, -⟩ | ⟨a, len, cap, m, n', D, Pl, rfl, hb, hl, hm, hmm, -, hx⟩
  · exact ⟨none, 0, [], rfl, Nat.le_refl _, by decide, Rd.nil _ _⟩
  · have c4 : Program.cellsOf Try.prog 34 = 4 := by kernel_rfl
    rw [c4] at hx
    have hlm : len ≤ m := by rw [hmm]; split <;> omega
    obtain ⟨N, hN⟩ := choose_lt (α := Node) (p := fun i nd => w.cells? base (a.add (i * 4)) 4 = some (Node.cells nd)) (n := m) (fun i hi => by
      obtain ⟨cs', h1, h2⟩ := hx i hi
      obtain ⟨nd, rfl⟩ := open_node h2
      exact ⟨nd, h1⟩)
    refine ⟨some a, cap, (List.range len).map N, by simp, by simpa using hl, hm, ?_⟩
    by_cases h0 : len = 0
    · subst h0; exact .inl rfl
    · obtain ⟨b, o, spot⟩ := a
      have hz : w.cell? (Addr.add (Addr.mk b o spot) 0) = (Node.cells (N 0))[0]? := by
        have := (World.cells?_some (hN 0 (by omega))).2.2 0 (by omega)
        simpa [Addr.add] using this
      have hspot : spot = none := by
        have := World.cell?_spot (hz.trans (by rfl : _ = some (Value.int .i64 (N 0).kind)))
        simpa [Addr.add] using this
      subst hspot
      refine .inr ⟨b, o, rfl, fun k v hv => ?_⟩
      obtain ⟨nd, h1, h2⟩ := flat_at _ k v hv
      have hk : k / 4 < len := by
        have := (List.getElem?_eq_some_iff.1 h1).1
        simpa using this
      rw [map_range_at N len _ hk] at h1
      obtain rfl := Option.some.inj h1
      have := (World.cells?_some (hN (k / 4) (by omega))).2.2 (k % 4) (by omega)
      rw [add_none, add_none, h2, Nat.add_assoc, show k / 4 * 4 + k % 4 = k by omega] at this
      exact this
theorem open_funcs {n : Nat} {cs : List Value} {x : DataW H × List MemPlace} (h : DataW.trod enc Try.prog w base spare held n 22 cs = some x) :
    ∃ A c fs, cs = [.slice A (List.length fs) c] ∧ List.length fs ≤ c ∧ c ≤ maxLen ∧ FuncsAt w A fs := by
  have c1 : Program.cellsOf Try.prog 32 = 1 := by kernel_rfl
  rcases open_slice1 Try.underlying22 c1 h with ⟨rfl, -⟩ | ⟨a, len, cap, m, n', V, D, Pl, rfl, hb, hl, hm, hmm, -, hx⟩
  · exact ⟨none, 0, [], rfl, Nat.le_refl _, by decide, [], Rd.nil _ _, rfl, fun i l hl => by simp at hl⟩
  · have hlm : len ≤ m := by rw [hmm]; split <;> omega
    obtain ⟨N, hN⟩ := choose_lt (α := List Node) (p := fun i l => ∃ A' c', V i = .slice A' (List.length l) c' ∧ List.length l ≤ c' ∧ NodesAt w A' l) (n := m) (fun i hi => by
      obtain ⟨h1, h2⟩ := hx i hi
      obtain ⟨A', c', l, e, h3, -, h4⟩ := open_nodes h2
      exact ⟨l, A', c', by simpa using e, h3, h4⟩)
    refine ⟨some a, cap, (List.range len).map N, by simp, by simpa using hl, hm, (List.range len).map V, ?_, by simp, ?_⟩
    · by_cases h0 : len = 0
      · subst h0; exact .inl rfl
      · obtain ⟨b, o, spot⟩ := a
        have hspot : spot = none := by
          have := World.cell?_spot (hx 0 (by omega)).1
          simpa [Addr.add] using this
        subst hspot
        refine .inr ⟨b, o, rfl, fun k v hv => ?_⟩
        have hk : k < len := by
          have := (List.getElem?_eq_some_iff.1 hv).1
          simpa using this
        rw [map_range_at V len _ hk] at hv
        obtain rfl := Option.some.inj hv
        have := (hx k (by omega)).1
        rwa [add_none] at this
    · intro i l hl
      have hi : i < len := by
        have := (List.getElem?_eq_some_iff.1 hl).1
        simpa using this
      rw [map_range_at N len _ hi] at hl
      obtain rfl := Option.some.inj hl
      obtain ⟨A', c', e, h1, h2⟩ := hN i (by omega)
      exact ⟨A', c', by rw [map_range_at V len _ hi, e], h1, h2⟩
theorem open_prog {r : Reach} {b0 : Nat} {v : Value} {d : DataW H} {p : List MemPlace} (hv : Value.okWide Try.prog w r b0 24 v) (h : DataW.Trod enc Try.prog w base spare held 24 v d p) :
    ∃ (q : Prg) (A : Option Addr) (c : Nat), v = prgV q A c ∧ q.fs.length ≤ c ∧ c ≤ maxLen ∧ FuncsAt w A q.fs := by
  obtain ⟨v0, v1, v2, v3, y0, y1, y2, y3, n, rfl, -, -, h0, h1, h2, h3⟩ := open_agg4 Try.underlying24 (by kernel_rfl) (by kernel_rfl) hv h
  obtain ⟨i0, e0, -, -⟩ := DataW.trod_int Try.underlying3 h0
  obtain ⟨i1, e1, -, -⟩ := DataW.trod_int Try.underlying3 h1
  obtain ⟨i2, e2, -, -⟩ := DataW.trod_int Try.underlying3 h2
  obtain ⟨A, c, fs, e3, h4, h5, h6⟩ := open_funcs h3
  simp only [List.cons.injEq, and_true] at e0 e1 e2 e3
  subst e0 e1 e2 e3
  exact ⟨⟨i0, i1, i2, fs⟩, A, c, rfl, h4, h5, h6⟩
end
end Go.Proofs.Ytbkgnokoicmppaa
