/- graph.After: what is come to from behind some nodes: the result is closed. -/
import Derived.Test.YtbkgnokoicmppaaSucc
import Derived.Test.YtbkgnokoicmppaaIds
import Derived.Test.YtbkgnokoicmppaaPgRound
namespace Go.Proofs.Ytbkgnokoicmppaa
open Go.RowKit
set_option linter.unusedVariables false
set_option linter.unusedSimpArgs false

/-- What lies where while After runs: its argument's box, the marks, their box, the box of what is left to do. -/
structure AftSt (l : List Node) (A : Option Addr) (c : Nat) (w : World) (b : List Bool) (td : List Int) (v : Value) (wr : World) : Prop where
  lbox : wr.heap[w.heap.size]? = some (.cells #[.slice A l.length c] 32 (0, 0))
  row : wr.heap[w.heap.size + 1]? = some (.cells (bools b).toArray 4 (0, 0))
  obox : wr.heap[w.heap.size + 2]? = some (.cells #[.slice (some ⟨w.heap.size + 1, 0, none⟩) l.length l.length] 35 (0, 0))
  tbox : wr.heap[w.heap.size + 3]? = some (.cells #[v] 25 (0, 0))
  todo : wr.ownsRow (w.heap.size + 4) 3 1 v td.length (ints td)
  bel : Below w.heap.size w wr
  len : b.length = l.length
section
variable {l : List Node} {A : Option Addr} {c : Nat} {w : World} {b : List Bool} {td : List Int} {v : Value} {wr w' : World}
theorem AftSt.lt (h : AftSt l A c w b td v wr) : w.heap.size + 3 < wr.heap.size := (Array.getElem?_eq_some_iff.1 h.tbox).1
theorem AftSt.below (h : AftSt l A c w b td v wr) (hb : Below wr.heap.size wr w') : AftSt l A c w b td v w' :=
  ⟨below_blk hb h.lbox, below_blk hb h.row, below_blk hb h.obox, below_blk hb h.tbox, own_below2 h.todo hb, h.bel.trans (hb.mono h.bel.size), h.len⟩
theorem AftSt.set (h : AftSt l A c w b td v wr) (i : Nat) : AftSt l A c w (b.set i true) td v (wr.setCell ⟨w.heap.size + 1, i, none⟩ (.bool true)) := by
  have hC := Chg.of_setCell wr ⟨w.heap.size + 1, i, none⟩ (.bool true)
  have hlt := h.lt
  have hne : ∀ k, k < wr.heap.size → k ≠ w.heap.size + 1 → (wr.setCell ⟨w.heap.size + 1, i, none⟩ (.bool true)).heap[k]? = wr.heap[k]? := fun k h1 h2 => hC.block k h1 h2
  refine ⟨(hne _ (by omega) (by omega)).trans h.lbox, ?_, (hne _ (by omega) (by omega)).trans h.obox, (hne _ (by omega) (by omega)).trans h.tbox, own_chg h.todo hC (fun k hk => by
    have := (own_lt' h.todo k hk).1
    show ¬ k = w.heap.size + 1
    omega), hC.below h.bel h.bel.size (fun k hk => by rw [hk]; show w.heap.size ≤ w.heap.size + 1; omega), by simpa using h.len⟩
  have := blk_set h.row i (.bool true)
  rw [← bools_set] at this
  exact this
/-- What is left to do has been written anew: blocks of its own, then its box. -/
theorem AftSt.put (h : AftSt l A c w b td v wr) {w2 : World} {td2 : List Int} {v2 : Value} (hc : Chg (fun k => v.ownBlock = some k) wr w2) (ho : w2.ownsRow (w.heap.size + 4) 3 1 v2 td2.length (ints td2)) :
    AftSt l A c w b td2 v2 (w2.setCell ⟨w.heap.size + 3, 0, none⟩ v2) := by
  have hlt := h.lt
  have hC := Chg.of_setCell w2 ⟨w.heap.size + 3, 0, none⟩ v2
  have hq : ∀ k, v.ownBlock = some k → w.heap.size + 4 ≤ k := fun k hk => (own_lt' h.todo k hk).1
  have h2 : ∀ k, k < w.heap.size + 4 → w2.heap[k]? = wr.heap[k]? := fun k hk => hc.block k (by omega) (fun hv => by have := hq k hv; omega)
  have hs := hc.size
  have h3 : ∀ k, k < w.heap.size + 4 → k ≠ w.heap.size + 3 → (w2.setCell ⟨w.heap.size + 3, 0, none⟩ v2).heap[k]? = wr.heap[k]? := fun k hk hne => (hC.block k (by omega) hne).trans (h2 k hk)
  have hB2 := hc.below h.bel h.bel.size (fun k hk => by have := hq k hk; omega)
  refine ⟨(h3 _ (by omega) (by omega)).trans h.lbox, (h3 _ (by omega) (by omega)).trans h.row, (h3 _ (by omega) (by omega)).trans h.obox, ?_, own_chg ho hC (fun k hk => by
    have := (own_lt' ho k hk).1
    show ¬ k = w.heap.size + 3
    omega), hC.below hB2 hB2.size (fun k hk => by rw [hk]; show w.heap.size ≤ w.heap.size + 3; omega), h.len⟩
  have := blk_set ((h2 (w.heap.size + 3) (by omega)).trans h.tbox) 0 v2
  simpa using this
end
/-- What one round marks: b to b', td to td'. -/
structure AddOk (n : Nat) (ys : List Int) (b : List Bool) (td : List Int) (b' : List Bool) (td' : List Int) : Prop where
  len : b'.length = b.length
  mono : ∀ j, b.getD j false = true → b'.getD j false = true
  ins : ∀ y ∈ ys, 0 ≤ y → y < n → b'.getD y.toNat false = true
  new : ∀ j : Nat, b'.getD j false = true → b.getD j false = true ∨ (j : Int) ∈ td'
  keep : ∀ x ∈ td, x ∈ td'
  range : (∀ x ∈ td, 0 ≤ x ∧ x < n) → ∀ x ∈ td', 0 ≤ x ∧ x < n
  cnt : b'.count false + td'.length = b.count false + td.length
theorem AddOk.refl (n : Nat) (b : List Bool) (td : List Int) : AddOk n [] b td b td :=
  ⟨rfl, fun _ h => h, fun _ h => by simp at h, fun _ h => .inl h, fun _ h => h, fun h => h, rfl⟩
theorem AddOk.skip {n : Nat} {ys : List Int} {b b' : List Bool} {td td' : List Int} (h : AddOk n ys b td b' td') (y : Int) (hy : 0 ≤ y → y < n → b'.getD y.toNat false = true) : AddOk n (ys ++ [y]) b td b' td' :=
  ⟨h.len, h.mono, fun z hz h0 h1 => by
    rcases List.mem_append.1 hz with hz | hz
    · exact h.ins z hz h0 h1
    · simp at hz; subst hz; exact hy h0 h1, h.new, h.keep, h.range, h.cnt⟩
theorem AddOk.mark {n : Nat} {ys : List Int} {b b' : List Bool} {td td' : List Int} (h : AddOk n ys b td b' td') (y : Nat) (hn : y < n) (hl : y < b'.length) (hf : b'.getD y false = false) : AddOk n (ys ++ [(y : Int)]) b td (b'.set y true) (td' ++ [(y : Int)]) := by
  have hs : ∀ j, (b'.set y true).getD j false = true ↔ (b'.getD j false = true ∨ j = y) := by
    intro j
    by_cases e : j = y
    · subst e; simp [List.getD_eq_getElem?_getD, hl]
    · have : ¬ y = j := fun e2 => e e2.symm
      simp [List.getD_eq_getElem?_getD, List.getElem?_set_ne this, e]
  refine ⟨by simpa using h.len, fun j hj => (hs j).2 (.inl (h.mono j hj)), ?_, ?_, fun x hx => List.mem_append.2 (.inl (h.keep x hx)), ?_, ?_⟩
  · intro z hz h0 h1
    rw [hs]
    rcases List.mem_append.1 hz with hz | hz
    · exact .inl (h.ins z hz h0 h1)
    · simp at hz; subst hz; exact .inr (by simp)
  · intro j hj
    rcases (hs j).1 hj with hj | rfl
    · rcases h.new j hj with hj | hj
      · exact .inl hj
      · exact .inr (List.mem_append.2 (.inl hj))
    · exact .inr (by simp)
  · intro hr x hx
    rcases List.mem_append.1 hx with hx | hx
    · exact h.range hr x hx
    · simp at hx; subst hx; omega
  · have e : (b'.set y true).count false + 1 = b'.count false := by
      clear h hs
      induction b' generalizing y with
      | nil => simp at hl
      | cons x b' ih =>
        cases y with
        | zero => simp at hf; subst hf; simp
        | succ y => have := ih y (by omega) (by simpa using hl) (by simpa using hf); cases x <;> simp_all <;> omega
    have := h.cnt
    rw [List.length_append]
    simp
    omega
end Go.Proofs.Ytbkgnokoicmppaa
