/- prog.Check: what is wrong with a program first. -/
import Derived.Test.YtbkgnokoicmppaaPgRound
namespace Go.Proofs.Ytbkgnokoicmppaa
open Go.RowKit
set_option linter.unusedVariables false
set_option linter.unusedSimpArgs false

def trV (r : Int × Int × Int) : Value := .tuple #[.int .i64 r.1, .int .i64 r.2.1, .int .i64 r.2.2]
theorem calls_of_may (p : Prg) (h : mayL p 0 p.fs = none) : p.calls := by
  intro i j hi hj h7
  have h1 := mayL_none p p.fs 0 h (p.fs.getD i []) (getD_mem hi)
  exact may_call (h1.2.2 _ (getD_mem hj)) h7

set_option maxHeartbeats 4000000 in
set_option maxRecDepth 100000 in
theorem Check_any (p : Prg) (A : Option Addr) (c : Nat) (w : World) (hsz : p.sz) (hp : FuncsAt w A p.fs) :
    Calls Try.prog 42 #[prgV p A c] w fun e w' => e = .returned (trV (checkF p)) ∧ Below w.heap.size w w' := by
  have hsz1 := hsz.1
  obtain ⟨R, hR⟩ : ∃ R, checkF p = R := ⟨_, rfl⟩
  rw [hR]
  unfold checkF at hR
  unfold prgV
  by_cases a1 : p.g < 0 ∨ p.l < 0 ∨ p.s < 0 ∨ p.fs.length = 0
  · rw [if_pos a1] at hR
    subst hR
    have hb : (p.g < 0) ∨ (¬ p.g < 0 ∧ p.l < 0) ∨ (¬ p.g < 0 ∧ ¬ p.l < 0 ∧ p.s < 0) ∨ (¬ p.g < 0 ∧ ¬ p.l < 0 ∧ ¬ p.s < 0 ∧ p.fs.length = 0) := by omega
    clear a1
    rcases hb with h1 | ⟨h1, h2⟩ | ⟨h1, h2, h3⟩ | ⟨h1, h2, h3, h4⟩
    · have d1 := decide_eq_true h1
      clear h1
      go_enter Try.func42, Try.ntmps42
      go_wp2
      go_ret3
      exact ⟨rfl, bel1 _ _⟩
    · have d1 := decide_eq_false h1
      have d2 := decide_eq_true h2
      clear h1 h2
      go_enter Try.func42, Try.ntmps42
      go_wp2
      go_ret3
      exact ⟨rfl, bel1 _ _⟩
    · have d1 := decide_eq_false h1
      have d2 := decide_eq_false h2
      have d3 := decide_eq_true h3
      clear h1 h2 h3
      go_enter Try.func42, Try.ntmps42
      go_wp2
      go_ret3
      exact ⟨rfl, bel1 _ _⟩
    · have d1 := decide_eq_false h1
      have d2 := decide_eq_false h2
      have d3 := decide_eq_false h3
      rw [h4]
      clear h1 h2 h3 hp hsz1
      go_enter Try.func42, Try.ntmps42
      go_wp2
      go_ret3
      exact ⟨rfl, bel1 _ _⟩
  rw [if_neg a1] at hR
  have d1 : decide (p.g < 0) = false := by rw [decide_eq_false_iff_not]; omega
  have d2 : decide (p.l < 0) = false := by rw [decide_eq_false_iff_not]; omega
  have d3 : decide (p.s < 0) = false := by rw [decide_eq_false_iff_not]; omega
  have d4 : ((p.fs.length : Int) == 0) = false := by rw [beq_eq_false_iff_ne]; omega
  by_cases a2 : 16 < p.g ∨ 16 < p.l ∨ 8 < p.s ∨ 16 < p.fs.length
  · rw [if_pos a2] at hR
    subst hR
    have hb : (16 < p.g) ∨ (¬ 16 < p.g ∧ 16 < p.l) ∨ (¬ 16 < p.g ∧ ¬ 16 < p.l ∧ 8 < p.s) ∨ (¬ 16 < p.g ∧ ¬ 16 < p.l ∧ ¬ 8 < p.s ∧ 16 < p.fs.length) := by omega
    clear a1 a2
    rcases hb with h1 | ⟨h1, h2⟩ | ⟨h1, h2, h3⟩ | ⟨h1, h2, h3, h4⟩
    · have e1 := decide_eq_true h1
      clear h1
      go_enter Try.func42, Try.ntmps42
      go_wp2
      go_ret3
      exact ⟨rfl, bel1 _ _⟩
    · have e1 := decide_eq_false h1
      have e2 := decide_eq_true h2
      clear h1 h2
      go_enter Try.func42, Try.ntmps42
      go_wp2
      go_ret3
      exact ⟨rfl, bel1 _ _⟩
    · have e1 := decide_eq_false h1
      have e2 := decide_eq_false h2
      have e3 := decide_eq_true h3
      clear h1 h2 h3
      go_enter Try.func42, Try.ntmps42
      go_wp2
      go_ret3
      exact ⟨rfl, bel1 _ _⟩
    · have e1 := decide_eq_false h1
      have e2 := decide_eq_false h2
      have e3 := decide_eq_false h3
      have e4 : decide ((16 : Int) < (p.fs.length : Int)) = true := by rw [decide_eq_true_iff]; omega
      clear h1 h2 h3 h4
      go_enter Try.func42, Try.ntmps42
      go_wp2
      go_ret3
      exact ⟨rfl, bel1 _ _⟩
  rw [if_neg a2] at hR
  have e1 : decide (16 < p.g) = false := by rw [decide_eq_false_iff_not]; omega
  have e2 : decide (16 < p.l) = false := by rw [decide_eq_false_iff_not]; omega
  have e3 : decide (8 < p.s) = false := by rw [decide_eq_false_iff_not]; omega
  have e4 : decide ((16 : Int) < (p.fs.length : Int)) = false := by rw [decide_eq_false_iff_not]; omega
  have HR := Lib.hid hR
  have Hsz := Lib.hid hsz
  have Hp := Lib.hid hp
  clear a1 a2 hR hsz hp
  go_enter Try.func42, Try.ntmps42
  go_wp2
  clear d1 d2 d3 d4 e1 e2 e3 e4
  go_loopw [53] (fun x wr => ∃ (f : Nat), x = .int .i64 f ∧ f ≤ p.fs.length ∧ Hid (mayL p f (p.fs.drop f) = mayL p 0 p.fs) ∧ Hid (wr.heap[w.heap.size]? = some (prgB p A c)) ∧ Hid (Below w.heap.size w wr)) (fun x _ => p.fs.length - (intOf x).toNat)
  case atStart => exact ⟨0, rfl, Nat.zero_le _, rfl, blk_new _ _, bel1 _ _⟩
  case round =>
    obtain ⟨f, rfl, hf, HM, Hbx, HB⟩ := hrel
    by_cases hfl : f < p.fs.length
    · obtain ⟨b, o, A', c', rfl, hc, _, hN⟩ := FuncsAt.at (Hp.out.below HB.out) f hfl
      obtain ⟨l, hl⟩ : ∃ l, p.fs.getD f [] = l := ⟨_, rfl⟩
      have hll : l.length ≤ 1000000 := hl ▸ Hsz.out.at f
      have hM := HM.out
      rw [drop_cons' _ _ hfl, hl, mayL_cons] at hM
      rw [hl] at hc hN
      by_cases l0 : l.length = 0
      · rw [if_pos l0] at hM
        have hR := HR.out
        rw [← hM] at hR
        dsimp only at hR
        rw [l0] at hc
        have HR2 := Lib.hid hR
        clear hN hl hR hM hll
        go_wp2
        rw [← HR2.out]
        go_ret3
        exact ⟨rfl, HB.out⟩
      rw [if_neg l0] at hM
      have g0 : ((l.length : Int) == 0) = false := by rw [beq_eq_false_iff_ne]; omega
      by_cases l1 : 64 < l.length
      · rw [if_pos l1] at hM
        have hR := HR.out
        rw [← hM] at hR
        dsimp only at hR
        have g1 : decide ((64 : Int) < (l.length : Int)) = true := by rw [decide_eq_true_iff]; omega
        have HR2 := Lib.hid hR
        clear hN hl hR hM l0 l1
        go_wp2
        rw [← HR2.out]
        go_ret3
        exact ⟨rfl, HB.out⟩
      rw [if_neg l1] at hM
      have g1 : decide ((64 : Int) < (l.length : Int)) = false := by rw [decide_eq_false_iff_not]; omega
      have HN := Lib.hid hN
      have Hl := Lib.hid hl
      have HM2 := Lib.hid hM
      clear hN hl hM l0 l1
      obtain ⟨wo, rfl⟩ : ∃ wo : World, wo = wr := ⟨_, rfl⟩
      go_wp2
      clear g0 g1
      go_loopw [70] (fun x wr => ∃ (i : Nat), x = .int .i64 i ∧ i ≤ l.length ∧ Hid (i ≤ l.findIdx (fun n => !mayF p n l.length)) ∧ Hid (wr.heap[w.heap.size]? = some (prgB p (some ⟨b, o, none⟩) c)) ∧ Hid (Below wo.heap.size wo wr)) (fun x _ => l.length - (intOf x).toNat)
      case atStart => exact ⟨0, rfl, Nat.zero_le _, Nat.zero_le _, Hbx.out, Below.refl _ _⟩
      case round =>
        obtain ⟨i, rfl, hi, Hi, Hbx, HB2⟩ := hrel
        by_cases hil : i < l.length
        · obtain ⟨b', o', rfl, k0, k1, k2, k3⟩ := NodesAt.at (Rd.below HN.out HB2.out) i hil
          obtain ⟨x, hx⟩ : ∃ x, l.getD i zNode = x := ⟨_, rfl⟩
          rw [hx] at k0 k1 k2 k3
          have hbx := Hbx.out
          unfold prgB at hbx
          have hlt : w.heap.size < wr.heap.size := (Array.getElem?_eq_some_iff.1 hbx).1
          have p0 : wr.cell? ⟨w.heap.size, 0, none⟩ = some (.int .i64 p.g) := by rw [cell_blk hbx]; rfl
          have p1 : wr.cell? ⟨w.heap.size, 1, none⟩ = some (.int .i64 p.l) := by rw [cell_blk hbx]; rfl
          have p2 : wr.cell? ⟨w.heap.size, 2, none⟩ = some (.int .i64 p.s) := by rw [cell_blk hbx]; rfl
          have p3 : wr.cell? ⟨w.heap.size, 3, none⟩ = some (.slice (some ⟨b, o, none⟩) p.fs.length c) := by rw [cell_blk hbx]; rfl
          have hm := fun W => May_any p (some ⟨b, o, none⟩) c x l.length W hsz1
          unfold prgV nodeV at hm
          have Hx := Lib.hid hx
          cases hmy : mayF p x l.length
          · rw [hmy] at hm
            have Hm := Lib.hid hm
            have hR := HR.out
            have hM := HM2.out
            rw [findIdx_eq l _ i Hi.out hil (by rw [Hx.out, hmy]; rfl), if_pos hil] at hM
            rw [← hM] at hR
            dsimp only at hR
            have HR2 := Lib.hid hR
            clear hm hmy hx hbx hR hM
            go_wp2_with fail
            refine (Hm.out _).mono ?_
            rintro e w1 ⟨rfl, hb⟩
            have HBf := Lib.hid (HB.out.trans ((HB2.out.trans (((Below.refl _ _).alloc HB2.out.size _).trans (hb.mono (by simp; have := HB2.out.size; omega)))).mono HB.out.size))
            clear hb p0 p1 p2 p3 k0 k1 k2 k3
            go_wp2
            rw [← HR2.out]
            go_ret3
            exact ⟨rfl, HBf.out⟩
          · rw [hmy] at hm
            have Hm := Lib.hid hm
            have Hi2 := Lib.hid (findIdx_ge l _ i Hi.out hil (by rw [Hx.out, hmy]; rfl))
            clear hm hmy hx hbx
            go_wp2_with fail
            refine (Hm.out _).mono ?_
            rintro e w1 ⟨rfl, hb⟩
            have HB3 := Lib.hid (HB2.out.trans (((Below.refl _ _).alloc HB2.out.size _).trans (hb.mono (by simp; have := HB2.out.size; omega))))
            have Hbx3 := Lib.hid (below_blk hb (blk_alloc' Hbx.out _))
            clear hb p0 p1 p2 p3 k0 k1 k2 k3
            go_wp2
            go_roundw
            case rel => exact ⟨i + 1, by go_num, by omega, Hi2.out, Hbx3.out, HB3.out⟩
            case measure => simp [intOf]; omega
        · have hie : i = l.length := by omega
          have hM := HM2.out
          rw [if_neg (by have := Hi.out; omega)] at hM
          have HM3 := Lib.hid hM
          clear hM
          go_wp2
          go_roundw
          case rel => exact ⟨f + 1, by go_num, by omega, HM3.out, Hbx.out, HB.out.trans (HB2.out.mono HB.out.size)⟩
          case measure => simp [intOf]; omega
    · have hfe : f = p.fs.length := by omega
      have hM := HM.out
      rw [hfe, List.drop_length, mayL_nil] at hM
      have hR := HR.out
      rw [← hM] at hR
      dsimp only at hR
      have hcl := calls_of_may p hM.symm
      have hbx := Hbx.out
      unfold prgB at hbx
      have p0 : wr.cell? ⟨w.heap.size, 0, none⟩ = some (.int .i64 p.g) := by rw [cell_blk hbx]; rfl
      have p1 : wr.cell? ⟨w.heap.size, 1, none⟩ = some (.int .i64 p.l) := by rw [cell_blk hbx]; rfl
      have p2 : wr.cell? ⟨w.heap.size, 2, none⟩ = some (.int .i64 p.s) := by rw [cell_blk hbx]; rfl
      have p3 : wr.cell? ⟨w.heap.size, 3, none⟩ = some (.slice A p.fs.length c) := by rw [cell_blk hbx]; rfl
      have hrd := round_any p A c wr Hsz.out hcl (Hp.out.below HB.out)
      unfold prgV at hrd
      cases hro : roundF p with
      | none =>
        rw [hro] at hrd hR
        dsimp only at hR
        unfold roundV at hrd
        have Hrd := Lib.hid hrd
        have HR2 := Lib.hid hR
        clear hrd hR hro hcl hM hbx hfe
        go_wp2_with fail
        refine (Hrd.out).mono ?_
        rintro e w1 ⟨rfl, hb⟩
        have HBf := Lib.hid (HB.out.trans (hb.mono HB.out.size))
        clear hb p0 p1 p2 p3
        go_wp2
        rw [← HR2.out]
        go_ret3
        exact ⟨rfl, HBf.out⟩
      | some r =>
        obtain ⟨rf, ri⟩ := r
        rw [hro] at hrd hR
        dsimp only at hR
        unfold roundV at hrd
        have Hrd := Lib.hid hrd
        have HR2 := Lib.hid hR
        clear hrd hR hro hcl hM hbx hfe
        go_wp2_with fail
        refine (Hrd.out).mono ?_
        rintro e w1 ⟨rfl, hb⟩
        have HBf := Lib.hid (HB.out.trans (hb.mono HB.out.size))
        clear hb p0 p1 p2 p3
        go_wp2
        rw [← HR2.out]
        go_ret3
        exact ⟨rfl, HBf.out⟩
end Go.Proofs.Ytbkgnokoicmppaa
