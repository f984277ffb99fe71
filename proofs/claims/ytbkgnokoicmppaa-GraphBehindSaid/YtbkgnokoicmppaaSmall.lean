/- alibiref05.Small. -/
import Derived.Test.YtbkgnokoicmppaaAwakeA
namespace Go.Proofs.Ytbkgnokoicmppaa
open Go.RowKit
set_option linter.unusedVariables false
set_option linter.unusedSimpArgs false

def Prg.small (p : Prg) : Bool := decide (p.fs.length ≤ 40) && p.fs.all fun l => decide (l.length ≤ 100)
theorem Prg.small_sz {p : Prg} (h : p.small = true) : p.sz ∧ p.fs.length ≤ 40 ∧ ∀ l ∈ p.fs, l.length ≤ 100 := by
  unfold Prg.small at h
  simp at h
  exact ⟨⟨by omega, fun l hl => by have := h.2 l hl; omega⟩, h.1, h.2⟩
set_option maxHeartbeats 1000000 in
set_option maxRecDepth 100000 in
theorem Small_any (p : Prg) (A : Option Addr) (c : Nat) (w : World) (hp : FuncsAt w A p.fs) :
    Calls Try.prog 13 #[prgV p A c] w fun e w' => e = .returned (.bool p.small) ∧ Below w.heap.size w w' := by
  obtain ⟨R, hR⟩ : ∃ R, p.small = R := ⟨_, rfl⟩
  rw [hR]
  unfold Prg.small at hR
  unfold prgV
  have HR := Lib.hid hR
  have Hp := Lib.hid hp
  clear hR hp
  by_cases h40 : p.fs.length ≤ 40
  · have d1 : decide ((40 : Int) < (p.fs.length : Int)) = false := by rw [decide_eq_false_iff_not]; omega
    go_enter Try.func13, Try.ntmps13
    go_wp2
    clear d1
    go_loopw [3] (fun x wr => ∃ (k : Nat), x = .int .i64 k ∧ k ≤ p.fs.length ∧ Hid (∀ l ∈ p.fs.take k, l.length ≤ 100) ∧ Hid (wr.heap[w.heap.size]? = some (prgB p A c)) ∧ Hid (Below w.heap.size w wr)) (fun x _ => p.fs.length - (intOf x).toNat)
    case atStart => exact ⟨0, rfl, Nat.zero_le _, fun l hl => by simp at hl, blk_new _ _, bel1 _ _⟩
    case round =>
      obtain ⟨k, rfl, hk, Hl, Hbx, HB⟩ := hrel
      have hbx := Hbx.out
      unfold prgB at hbx
      have p3 : wr.cell? ⟨w.heap.size, 3, none⟩ = some (.slice A p.fs.length c) := by rw [cell_blk hbx]; rfl
      clear hbx
      by_cases hkl : k < p.fs.length
      · obtain ⟨b, o, A', c', rfl, hc, _, hN⟩ := FuncsAt.at (Hp.out.below HB.out) k hkl
        obtain ⟨l, hl⟩ : ∃ l, p.fs.getD k [] = l := ⟨_, rfl⟩
        rw [hl] at hc
        have hmem : l ∈ p.fs := hl ▸ getD_mem hkl
        by_cases h1 : l.length ≤ 100
        · have d1 : decide ((100 : Int) < (l.length : Int)) = false := by rw [decide_eq_false_iff_not]; omega
          have hl2 : ∀ x ∈ p.fs.take (k + 1), x.length ≤ 100 := by
            intro x hx
            rw [List.take_succ_eq_append_getElem hkl, List.mem_append, List.mem_singleton] at hx
            rcases hx with hx | rfl
            · exact Hl.out x hx
            · rw [List.getD_eq_getElem?_getD, List.getElem?_eq_getElem hkl] at hl
              have : p.fs[k] = l := hl
              rw [this]; exact h1
          have Hl2 := Lib.hid hl2
          clear hN hl hl2 hmem h1
          go_wp2
          go_roundw
          case rel => exact ⟨k + 1, by go_num, by omega, Hl2.out, Hbx.out, HB.out⟩
          case measure => simp [intOf]; omega
        · have d1 : decide ((100 : Int) < (l.length : Int)) = true := by rw [decide_eq_true_iff]; omega
          have hR : R = false := by
            rw [← HR.out, Bool.and_eq_false_iff]
            right
            rw [List.all_eq_false]
            exact ⟨l, hmem, by simpa using h1⟩
          subst hR
          clear hN hl hmem h1
          go_wp2
          go_ret
          exact ⟨rfl, HB.out⟩
      · have hke : k = p.fs.length := by omega
        have hR : R = true := by
          rw [← HR.out, decide_eq_true h40, Bool.true_and, List.all_eq_true]
          intro l hl
          have := Hl.out l (by rw [hke, List.take_length]; exact hl)
          simpa using this
        subst hR
        go_wp2
        go_ret
        exact ⟨rfl, HB.out⟩
  · have d1 : decide ((40 : Int) < (p.fs.length : Int)) = true := by rw [decide_eq_true_iff]; omega
    have hR : R = false := by rw [← HR.out, decide_eq_false h40]; rfl
    subst hR
    clear h40
    go_enter Try.func13, Try.ntmps13
    go_wp2
    go_ret
    exact ⟨rfl, bel1 _ _⟩
end Go.Proofs.Ytbkgnokoicmppaa
