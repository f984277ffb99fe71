/- alibilaw06.GraphReaches: the law's walk. -/
import Derived.Test.YtbkgnokoicmppaaDoorReachPure
import Derived.Test.YtbkgnokoicmppaaDoorSmall
namespace Go.Proofs.YtbkgnokoicmppaaDoor
open Go.RowKit
set_option linter.unusedVariables false
set_option linter.unusedSimpArgs false

set_option maxHeartbeats 4000000 in
set_option maxRecDepth 100000 in
theorem GraphReaches_walk (p : Prg) (A : Option Addr) (c : Nat) (a b : Nat) (ha : a < 4294967296) (hb : b < 4294967296) (w : World) (hp : FuncsAt w A p.fs) (hT : Tab w) :
    Calls Tryd.prog 3 #[prgV p A c, .int .u32 a, .int .u32 b] w fun e w' => e = .returned (.bool true) ∧ Below w.heap.size w w' := by
  have Haw := Lib.hid (fun W => awakeA W)
  have Hsm := Lib.hid (fun W h => Small_any p A c W h)
  have Hp := Lib.hid hp
  have HT := Lib.hid hT
  clear hp hT
  by_cases hok : p.small = true ∧ p.fs.length ≤ 32
  · obtain ⟨hs, h32⟩ := hok
    rw [hs] at Hsm
    obtain ⟨hsz, -, -⟩ := Prg.small_sz hs
    obtain ⟨cs, hcs⟩ : ∃ cs, calleesF p = cs := ⟨_, rfl⟩
    have hlc : cs.length = p.fs.length := by rw [← hcs]; exact calleesF_length p
    have hre := fun (m : Nat) (W : World) (hm : m < 4294967296) (hB : Below w.heap.size w W) => Reach_any p A c m hm W hsz (Hp.out.below hB) (HT.out.below hB)
    rw [hcs] at hre
    have d32 : decide ((32 : Int) < (p.fs.length : Int)) = false := by rw [decide_eq_false_iff_not]; omega
    -- the plain law
    obtain ⟨x, hx⟩ : ∃ x, reachM cs a = x := ⟨_, rfl⟩
    obtain ⟨y, hy⟩ : ∃ y, reachM cs b = y := ⟨_, rfl⟩
    have hxl : x < 4294967296 := hx ▸ reachM_lt cs a
    have hyl : y < 4294967296 := hy ▸ reachM_lt cs b
    have l1 := (reachM_spec cs a).1
    have l2 := reachM_has cs a
    have l3 := reachM_self cs a
    have l4 := reachM_or cs a b
    rw [hx] at l1 l2 l3 l4
    rw [hy] at l4
    have hall := allF_lt cs.length
    obtain ⟨al, hal⟩ : ∃ al, allF cs.length = al := ⟨_, rfl⟩
    rw [hal] at l1 l2 hall
    have he : IntKind.u64.wrap (IntKind.u64.wrap (2 ^ p.fs.length) - 1) % 4294967296 = (al : Int) := by
      rw [← hal, hlc]
      unfold allF
      rw [show min p.fs.length 32 = p.fs.length by omega]
      have hp : 2 ^ p.fs.length ≤ 2 ^ 32 := Nat.pow_le_pow_right (by omega) (by omega)
      have hp0 : 0 < 2 ^ p.fs.length := Nat.two_pow_pos _
      rw [show (2 : Int) ^ p.fs.length = ((2 ^ p.fs.length : Nat) : Int) by simp]
      rw [IntKind.wrap_u64, IntKind.wrap_u64]
      generalize 2 ^ p.fs.length = q at hp hp0 ⊢
      omega
    have He := Lib.hid he
    have f1 := u32_and_nat x al hxl hall
    have f2 := u32_and_nat a al ha hall
    have f3 := u32_andNot_nat (a &&& al) x (Nat.lt_of_le_of_lt (Nat.and_le_left) ha) hxl
    have f4 := u32_or_nat a b ha hb
    have f5 := u32_or_nat x y hxl hyl
    rw [l1] at f1
    rw [l2] at f3
    have F1 := Lib.hid f1
    have F2 := Lib.hid f2
    have F3 := Lib.hid f3
    have F4 := Lib.hid f4
    have F5 := Lib.hid f5
    clear he f1 f2 f3 f4 f5
    have Hr := Lib.hid hre
    have L1 := Lib.hid l1
    have L2 := Lib.hid l2
    have L3 := Lib.hid l3
    have L4 := Lib.hid l4
    have Hx := Lib.hid hx
    have Hy := Lib.hid hy
    have Hal := Lib.hid hal
    clear hre l1 l2 l3 l4 hx hy hal hcs hs hsz hlc
    unfold prgV at *
    go_enter Tryd.func3, Tryd.ntmps3
    go_wp2_with fail
    refine (Haw.out _).mono ?_
    rintro e w1 ⟨rfl, hb1⟩
    have hbx1 := below_blk hb1 (blk_new _ _)
    have hB1 := (bel1 _ _).trans (hb1.mono (by simp))
    have p0 : w1.cell? ⟨w.heap.size, 0, none⟩ = some (.int .i64 p.g) := by rw [cell_blk hbx1]; rfl
    have p1 : w1.cell? ⟨w.heap.size, 1, none⟩ = some (.int .i64 p.l) := by rw [cell_blk hbx1]; rfl
    have p2 : w1.cell? ⟨w.heap.size, 2, none⟩ = some (.int .i64 p.s) := by rw [cell_blk hbx1]; rfl
    have p3 : w1.cell? ⟨w.heap.size, 3, none⟩ = some (.slice A p.fs.length c) := by rw [cell_blk hbx1]; rfl
    have HB1 := Lib.hid hB1
    clear hb1 hbx1 hB1
    go_wp2_with fail
    refine (Hsm.out _ (Hp.out.below HB1.out)).mono ?_
    rintro e w2 ⟨rfl, hb2⟩
    have hB2 := HB1.out.trans (hb2.mono HB1.out.size)
    have q0 := below_cell hb2 p0
    have q1 := below_cell hb2 p1
    have q2 := below_cell hb2 p2
    have q3 := below_cell hb2 p3
    have HB2 := Lib.hid hB2
    clear hb2 hB2 p0 p1 p2 p3
    have hst : ∀ (m : Nat) (W : World), m < 4294967296 → W.cell? ⟨w.heap.size, 0, none⟩ = some (.int .i64 p.g) ∧ W.cell? ⟨w.heap.size, 1, none⟩ = some (.int .i64 p.l) ∧ W.cell? ⟨w.heap.size, 2, none⟩ = some (.int .i64 p.s) ∧ W.cell? ⟨w.heap.size, 3, none⟩ = some (.slice A p.fs.length c) ∧ Hid (Below w.heap.size w W) →
        Calls Tryd.prog 8 #[.agg #[.int .i64 p.g, .int .i64 p.l, .int .i64 p.s, .slice A p.fs.length c], .int .u32 m] W fun e w' => e = .returned (.int .u32 (reachM cs m : Nat)) ∧
          (w'.cell? ⟨w.heap.size, 0, none⟩ = some (.int .i64 p.g) ∧ w'.cell? ⟨w.heap.size, 1, none⟩ = some (.int .i64 p.l) ∧ w'.cell? ⟨w.heap.size, 2, none⟩ = some (.int .i64 p.s) ∧ w'.cell? ⟨w.heap.size, 3, none⟩ = some (.slice A p.fs.length c) ∧ Hid (Below w.heap.size w w')) := by
      intro m W hm hW
      refine (Hr.out m W hm hW.2.2.2.2.out).mono ?_
      rintro e w' ⟨rfl, hb⟩
      exact ⟨rfl, below_cell hb hW.1, below_cell hb hW.2.1, below_cell hb hW.2.2.1, below_cell hb hW.2.2.2.1, hW.2.2.2.2.out.trans (hb.mono hW.2.2.2.2.out.size)⟩
    have Hst := Lib.hid hst
    clear hst
    go_wp2_with fail
    go_region_held3 (fun W => W.cell? ⟨w.heap.size, 0, none⟩ = some (.int .i64 p.g) ∧ W.cell? ⟨w.heap.size, 1, none⟩ = some (.int .i64 p.l) ∧ W.cell? ⟨w.heap.size, 2, none⟩ = some (.int .i64 p.s) ∧ W.cell? ⟨w.heap.size, 3, none⟩ = some (.slice A p.fs.length c) ∧ Hid (Below w.heap.size w W))
      (first | exact ⟨q0, q1, q2, q3, HB2⟩ | exact ⟨q0, q1, q2, q3, HB2.out.drew⟩ | exact hq)
      ((go_at_call 8; refine (Hst.out _ _ (by assumption) (by assumption)).mono ?_; rintro e w3 ⟨rfl, hq⟩))
    have e0 := Hx.out
    have e1 := Hy.out
    have e2 := He.out
    have e3 := F1.out
    have e4 := F2.out
    have e5 := F3.out
    have e6 := F4.out
    go_wp2_with fail
    refine (Hst.out x _ hxl hq).mono ?_
    rintro e w4 ⟨rfl, hq4⟩
    have e7 := L3.out
    go_wp2_with fail
    refine (Hst.out (a ||| b) _ (or_lt _ _ ha hb) hq4).mono ?_
    rintro e w5 ⟨rfl, hq5⟩
    have e8 := L4.out
    go_wp2_with fail
    go_ret
    exact ⟨by simp [F5.out], hq5.2.2.2.2.out⟩
  · by_cases hs : p.small = true
    · have h32 : 32 < p.fs.length := by
        apply Decidable.byContradiction; intro h; exact hok ⟨hs, by omega⟩
      rw [hs] at Hsm
      have d32 : decide ((32 : Int) < (p.fs.length : Int)) = true := by rw [decide_eq_true_iff]; omega
      unfold prgV at *
      go_enter Tryd.func3, Tryd.ntmps3
      go_wp2_with fail
      refine (Haw.out _).mono ?_
      rintro e w1 ⟨rfl, hb1⟩
      have hbx1 := below_blk hb1 (blk_new _ _)
      have hB1 := (bel1 _ _).trans (hb1.mono (by simp))
      have p0 : w1.cell? ⟨w.heap.size, 0, none⟩ = some (.int .i64 p.g) := by rw [cell_blk hbx1]; rfl
      have p1 : w1.cell? ⟨w.heap.size, 1, none⟩ = some (.int .i64 p.l) := by rw [cell_blk hbx1]; rfl
      have p2 : w1.cell? ⟨w.heap.size, 2, none⟩ = some (.int .i64 p.s) := by rw [cell_blk hbx1]; rfl
      have p3 : w1.cell? ⟨w.heap.size, 3, none⟩ = some (.slice A p.fs.length c) := by rw [cell_blk hbx1]; rfl
      have HB1 := Lib.hid hB1
      clear hb1 hbx1 hB1
      go_wp2_with fail
      refine (Hsm.out _ (Hp.out.below HB1.out)).mono ?_
      rintro e w2 ⟨rfl, hb2⟩
      have hB2 := HB1.out.trans (hb2.mono HB1.out.size)
      have q3 := below_cell hb2 p3
      have HB2 := Lib.hid hB2
      clear hb2 hB2 p0 p1 p2 p3
      go_wp2_with fail
      refine (Haw.out _).mono ?_
      rintro e w3 ⟨rfl, hb3⟩
      have HB3 := Lib.hid (HB2.out.trans (hb3.mono HB2.out.size))
      clear hb3
      go_wp2_with fail
      go_ret
      exact ⟨rfl, HB3.out⟩
    · rw [show p.small = false by simpa using hs] at Hsm
      unfold prgV at *
      go_enter Tryd.func3, Tryd.ntmps3
      go_wp2_with fail
      refine (Haw.out _).mono ?_
      rintro e w1 ⟨rfl, hb1⟩
      have hbx1 := below_blk hb1 (blk_new _ _)
      have hB1 := (bel1 _ _).trans (hb1.mono (by simp))
      have p0 : w1.cell? ⟨w.heap.size, 0, none⟩ = some (.int .i64 p.g) := by rw [cell_blk hbx1]; rfl
      have p1 : w1.cell? ⟨w.heap.size, 1, none⟩ = some (.int .i64 p.l) := by rw [cell_blk hbx1]; rfl
      have p2 : w1.cell? ⟨w.heap.size, 2, none⟩ = some (.int .i64 p.s) := by rw [cell_blk hbx1]; rfl
      have p3 : w1.cell? ⟨w.heap.size, 3, none⟩ = some (.slice A p.fs.length c) := by rw [cell_blk hbx1]; rfl
      have HB1 := Lib.hid hB1
      clear hb1 hbx1 hB1
      go_wp2_with fail
      refine (Hsm.out _ (Hp.out.below HB1.out)).mono ?_
      rintro e w2 ⟨rfl, hb2⟩
      have hB2 := HB1.out.trans (hb2.mono HB1.out.size)
      have HB2 := Lib.hid hB2
      clear hb2 hB2 p0 p1 p2 p3
      go_wp2_with fail
      refine (Haw.out _).mono ?_
      rintro e w3 ⟨rfl, hb3⟩
      have HB3 := Lib.hid (HB2.out.trans (hb3.mono HB2.out.size))
      clear hb3
      go_wp2_with fail
      go_ret
      exact ⟨rfl, HB3.out⟩
end Go.Proofs.YtbkgnokoicmppaaDoor
