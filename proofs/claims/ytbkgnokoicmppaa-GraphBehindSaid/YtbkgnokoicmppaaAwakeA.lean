/- alibilaw06.awake: the document's example. -/
import Derived.Test.YtbkgnokoicmppaaOrder
namespace Go.Proofs.Ytbkgnokoicmppaa
open Go.RowKit
set_option linter.unusedVariables false
set_option linter.unusedSimpArgs false

def exA : Prg := ⟨0, 0, 0, [[⟨7, 2, 1, 0⟩, ⟨7, 1, 2, 0⟩, ⟨9, 0, 0, 0⟩], [⟨9, 0, 0, 0⟩], [⟨9, 0, 0, 0⟩]]⟩
theorem exA_check : (checkF exA).2.2 = 0 := by kernel_rfl
theorem exA_order : orderOf countF hasF (calleesF exA) = [1, 2, 0] := by kernel_rfl
theorem exA_sz : exA.sz := ⟨by decide, by decide⟩

set_option maxHeartbeats 1000000 in
set_option maxRecDepth 100000 in
theorem awakeA (w : World) : Calls Try.prog 12 #[] w fun e w' => e = .returned (.bool true) ∧ Below w.heap.size w w' := by
  go_enter Try.func12, Try.ntmps12
  go_wp2_with fail
  obtain ⟨W, hW⟩ : ∃ W, ((w.alloc (.cells #[.int .i64 9, .int .i64 0, .int .i64 0, .int .i64 0] 34)).alloc (.cells #[.int .i64 7, .int .i64 2, .int .i64 1, .int .i64 0, .int .i64 7, .int .i64 1, .int .i64 2, .int .i64 0, .int .i64 9, .int .i64 0, .int .i64 0, .int .i64 0] 34)).alloc
      (.cells #[.slice (some ⟨w.heap.size + 1, 0, none⟩) 3 3, .slice (some ⟨w.heap.size, 0, none⟩) 1 1, .slice (some ⟨w.heap.size, 0, none⟩) 1 1] 32) = W := ⟨_, rfl⟩
  have hb0 : W.heap[w.heap.size]? = some (.cells #[.int .i64 9, .int .i64 0, .int .i64 0, .int .i64 0] 34) := by
    rw [← hW]; exact blk_alloc' (blk_alloc' (blk_new _ _) _) _
  have hb1 : W.heap[w.heap.size + 1]? = some (.cells #[.int .i64 7, .int .i64 2, .int .i64 1, .int .i64 0, .int .i64 7, .int .i64 1, .int .i64 2, .int .i64 0, .int .i64 9, .int .i64 0, .int .i64 0, .int .i64 0] 34) := by
    rw [← hW]; refine blk_alloc' ?_ _
    have := blk_new (w.alloc (.cells #[.int .i64 9, .int .i64 0, .int .i64 0, .int .i64 0] 34)) (.cells #[.int .i64 7, .int .i64 2, .int .i64 1, .int .i64 0, .int .i64 7, .int .i64 1, .int .i64 2, .int .i64 0, .int .i64 9, .int .i64 0, .int .i64 0, .int .i64 0] 34)
    simpa using this
  have hb2 : W.heap[w.heap.size + 1 + 1]? = some (.cells #[.slice (some ⟨w.heap.size + 1, 0, none⟩) 3 3, .slice (some ⟨w.heap.size, 0, none⟩) 1 1, .slice (some ⟨w.heap.size, 0, none⟩) 1 1] 32) := by
    rw [← hW]
    have := blk_new ((w.alloc (.cells #[.int .i64 9, .int .i64 0, .int .i64 0, .int .i64 0] 34)).alloc (.cells #[.int .i64 7, .int .i64 2, .int .i64 1, .int .i64 0, .int .i64 7, .int .i64 1, .int .i64 2, .int .i64 0, .int .i64 9, .int .i64 0, .int .i64 0, .int .i64 0] 34))
      (.cells #[.slice (some ⟨w.heap.size + 1, 0, none⟩) 3 3, .slice (some ⟨w.heap.size, 0, none⟩) 1 1, .slice (some ⟨w.heap.size, 0, none⟩) 1 1] 32)
    simpa using this
  have hBW : Below w.heap.size w W := by rw [← hW]; exact (bel2 _ _ _).alloc (by simp; omega) _
  have hF : FuncsAt W (some ⟨w.heap.size + 1 + 1, 0, none⟩) exA.fs := by
    refine FuncsAt.of_list _ [(some ⟨w.heap.size + 1, 0, none⟩, 3), (some ⟨w.heap.size, 0, none⟩, 1), (some ⟨w.heap.size, 0, none⟩, 1)] (Rd.of_blk hb2) rfl ?_
    intro i a l ha hl
    match i, ha, hl with
    | 0, ha, hl => injection ha with ha; injection hl with hl; subst ha hl; exact ⟨Nat.le_refl _, NodesAt.of_blk hb1 rfl⟩
    | 1, ha, hl => injection ha with ha; injection hl with hl; subst ha hl; exact ⟨Nat.le_refl _, NodesAt.of_blk hb0 rfl⟩
    | 2, ha, hl => injection ha with ha; injection hl with hl; subst ha hl; exact ⟨Nat.le_refl _, NodesAt.of_blk hb0 rfl⟩
    | i + 3, ha, hl => cases ha
  have hO := Order_any exA (some ⟨w.heap.size + 1 + 1, 0, none⟩) 3 W exA_sz hF exA_check
  rw [exA_order] at hO
  rw [hW]
  refine (show Calls Try.prog 14 #[.agg #[.int .i64 0, .int .i64 0, .int .i64 0, .slice (some ⟨w.heap.size + 1 + 1, 0, none⟩) 3 3]] W _ from hO).mono ?_
  rintro e w1 ⟨v, rfl, ho, hb⟩
  obtain ⟨g, cap, rfl, _⟩ := ho.form (by decide)
  have c0 : w1.cell? ⟨g, 0, none⟩ = some (.int .i64 1) := ho.cellAt 0 (by decide)
  have c1 : w1.cell? ⟨g, 1, none⟩ = some (.int .i64 2) := ho.cellAt 1 (by decide)
  have c2 : w1.cell? ⟨g, 2, none⟩ = some (.int .i64 0) := ho.cellAt 2 (by decide)
  have HB := Lib.hid (hBW.trans (hb.mono hBW.size))
  clear hb ho hO hF hBW hb0 hb1 hb2 hW
  go_wp2
  go_ret
  exact ⟨rfl, HB.out⟩
end Go.Proofs.Ytbkgnokoicmppaa
