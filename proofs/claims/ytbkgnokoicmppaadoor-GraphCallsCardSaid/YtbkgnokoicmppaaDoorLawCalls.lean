/- alibilaw06.GraphCalls: the law's walk. -/
import Derived.Test.YtbkgnokoicmppaaDoorRef6P
import Derived.Test.YtbkgnokoicmppaaDoorSmall
namespace Go.Proofs.YtbkgnokoicmppaaDoor
open Go.RowKit
set_option linter.unusedVariables false
set_option linter.unusedSimpArgs false

theorem Mask_own (xs : List Int) (base : Nat) (v : Value) (W : World) (ho : W.ownsRow base 3 1 v xs.length (ints xs)) (hx : ∀ x ∈ xs, 0 ≤ x ∧ x < 32) (hl : xs.length ≤ 32) :
    Calls Tryd.prog 10 #[v] W fun e w' => e = .returned (.int .u32 ((maskS xs % 4294967296 : Nat) : Int)) ∧ W = w' := by
  obtain ⟨A, c, rfl⟩ := own_form' ho
  exact Mask_any xs A c W (Rd.of_own ho) hx hl
theorem idL_bound (q : Nat → Bool) (n : Nat) (h : n ≤ 32) : ∀ x ∈ idL q n, 0 ≤ x ∧ x < 32 := by
  intro x hx
  obtain ⟨i, rfl, h1, _⟩ := (mem_idL _ _ _).1 hx
  omega
theorem Mask_named (g : List Node) (kind : Int) (base : Nat) (v : Value) (W : World) (ho : W.ownsRow base 3 1 v (idL (named6 g kind) 32).length (ints (idL (named6 g kind) 32))) :
    Calls Tryd.prog 10 #[v] W fun e w' => e = .returned (.int .u32 ((namedF g kind : Nat) : Int)) ∧ W = w' := by
  rw [← mask_named]
  exact Mask_own _ base v W ho (idL_bound _ _ (Nat.le_refl _)) (idL_length _ _)
theorem first_drew {w w1 : World} (h : Below w.drew.heap.size w.drew w1) : Below w.heap.size w w1 := (Below.refl w.heap.size w).drew.trans h
theorem own_below {w w1 : World} {base : Nat} {e : TypeId} {size n : Nat} {v : Value} {xs : List Value} (h : w.ownsRow base e size v n xs) (hb : Below w.heap.size w w1) : w1.ownsRow base e size v n xs :=
  own_chg h (Chg.of_below hb (fun _ => False)) (fun _ _ h => h)

set_option maxHeartbeats 4000000 in
set_option maxRecDepth 100000 in
theorem GraphCalls_walk (p : Prg) (A : Option Addr) (c : Nat) (a : Nat) (ha : a < 4294967296) (w : World) (hp : FuncsAt w A p.fs) (hT : Tab w) :
    Calls Tryd.prog 4 #[prgV p A c, .int .u32 a] w fun e w' => e = .returned (.bool true) ∧ Below w.heap.size w w' := by
  have Haw := Lib.hid (fun W => awakeA W)
  have Hsm := Lib.hid (fun W h => Small_any p A c W h)
  have Hp := Lib.hid hp
  have HT := Lib.hid hT
  clear hp hT
  by_cases hok : p.small = true ∧ p.fs.length ≤ 32
  · obtain ⟨hs, h32⟩ := hok
    rw [hs] at Hsm
    obtain ⟨hsz, -, -⟩ := Prg.small_sz hs
    have hstB : ∀ W, (W.cell? ⟨w.heap.size, 0, none⟩ = some (.int .i64 p.g) ∧ W.cell? ⟨w.heap.size, 1, none⟩ = some (.int .i64 p.l) ∧ W.cell? ⟨w.heap.size, 2, none⟩ = some (.int .i64 p.s) ∧ W.cell? ⟨w.heap.size, 3, none⟩ = some (.slice A p.fs.length c) ∧ Hid (Below w.heap.size w W)) → Calls Tryd.prog 12 #[.agg #[.int .i64 p.g, .int .i64 p.l, .int .i64 p.s, .slice A p.fs.length c]] W fun e w' => e = .returned (.int .u32 (begunL p.fs 0 : Nat)) ∧ (w'.cell? ⟨w.heap.size, 0, none⟩ = some (.int .i64 p.g) ∧ w'.cell? ⟨w.heap.size, 1, none⟩ = some (.int .i64 p.l) ∧ w'.cell? ⟨w.heap.size, 2, none⟩ = some (.int .i64 p.s) ∧ w'.cell? ⟨w.heap.size, 3, none⟩ = some (.slice A p.fs.length c) ∧ Hid (Below w.heap.size w w')) := by
      intro W hW
      refine (Begun_any p A c W hsz (Hp.out.below hW.2.2.2.2.out)).mono ?_
      rintro e w' ⟨rfl, hb⟩
      exact ⟨rfl, below_cell hb hW.1, below_cell hb hW.2.1, below_cell hb hW.2.2.1, below_cell hb hW.2.2.2.1, hW.2.2.2.2.out.trans (hb.mono hW.2.2.2.2.out.size)⟩
    have hstR : ∀ W, (W.cell? ⟨w.heap.size, 0, none⟩ = some (.int .i64 p.g) ∧ W.cell? ⟨w.heap.size, 1, none⟩ = some (.int .i64 p.l) ∧ W.cell? ⟨w.heap.size, 2, none⟩ = some (.int .i64 p.s) ∧ W.cell? ⟨w.heap.size, 3, none⟩ = some (.slice A p.fs.length c) ∧ Hid (Below w.heap.size w W)) → Calls Tryd.prog 8 #[.agg #[.int .i64 p.g, .int .i64 p.l, .int .i64 p.s, .slice A p.fs.length c], .int .u32 a] W fun e w' => e = .returned (.int .u32 (reachM (calleesF p) a : Nat)) ∧ (w'.cell? ⟨w.heap.size, 0, none⟩ = some (.int .i64 p.g) ∧ w'.cell? ⟨w.heap.size, 1, none⟩ = some (.int .i64 p.l) ∧ w'.cell? ⟨w.heap.size, 2, none⟩ = some (.int .i64 p.s) ∧ w'.cell? ⟨w.heap.size, 3, none⟩ = some (.slice A p.fs.length c) ∧ Hid (Below w.heap.size w w')) ∧ Below W.heap.size W w' := by
      intro W hW
      refine (Reach_any p A c a ha W hsz (Hp.out.below hW.2.2.2.2.out) (HT.out.below hW.2.2.2.2.out)).mono ?_
      rintro e w' ⟨rfl, hb⟩
      exact ⟨rfl, ⟨below_cell hb hW.1, below_cell hb hW.2.1, below_cell hb hW.2.2.1, below_cell hb hW.2.2.2.1, hW.2.2.2.2.out.trans (hb.mono hW.2.2.2.2.out.size)⟩, hb⟩
    obtain ⟨L0, hL0⟩ : ∃ L, idL a.testBit 32 = L := ⟨_, rfl⟩
    have hL0b := idL_bound a.testBit 32 (Nat.le_refl _)
    have hL0l := idL_length a.testBit 32
    have hreq := reach_eq p a ha h32
    rw [hL0] at hL0b hL0l hreq
    obtain ⟨L1, hL1⟩ : ∃ L, idL (fun i => (reach6 p L0).getD i false) p.fs.length = L := ⟨_, rfl⟩
    have hL1b := idL_bound (fun i => (reach6 p L0).getD i false) p.fs.length h32
    have hL1l := idL_length (fun i => (reach6 p L0).getD i false) p.fs.length
    rw [hL1] at hL1b hL1l hreq
    have hstL : ∀ W, (W.cell? ⟨w.heap.size, 0, none⟩ = some (.int .i64 p.g) ∧ W.cell? ⟨w.heap.size, 1, none⟩ = some (.int .i64 p.l) ∧ W.cell? ⟨w.heap.size, 2, none⟩ = some (.int .i64 p.s) ∧ W.cell? ⟨w.heap.size, 3, none⟩ = some (.slice A p.fs.length c) ∧ Hid (Below w.heap.size w W)) → Calls Tryd.prog 14 #[.int .u32 a] W fun e w' => ∃ v, e = .returned v ∧ w'.ownsRow W.heap.size 3 1 v L0.length (ints L0) ∧ (w'.cell? ⟨w.heap.size, 0, none⟩ = some (.int .i64 p.g) ∧ w'.cell? ⟨w.heap.size, 1, none⟩ = some (.int .i64 p.l) ∧ w'.cell? ⟨w.heap.size, 2, none⟩ = some (.int .i64 p.s) ∧ w'.cell? ⟨w.heap.size, 3, none⟩ = some (.slice A p.fs.length c) ∧ Hid (Below w.heap.size w w')) ∧ Below W.heap.size W w' := by
      intro W hW
      refine (List3_any a ha W).mono ?_
      rw [hL0]
      rintro e w' ⟨v, rfl, ho, hb⟩
      exact ⟨v, rfl, ho, ⟨below_cell hb hW.1, below_cell hb hW.2.1, below_cell hb hW.2.2.1, below_cell hb hW.2.2.2.1, hW.2.2.2.2.out.trans (hb.mono hW.2.2.2.2.out.size)⟩, hb⟩
    have hstX : ∀ W base v, (W.cell? ⟨w.heap.size, 0, none⟩ = some (.int .i64 p.g) ∧ W.cell? ⟨w.heap.size, 1, none⟩ = some (.int .i64 p.l) ∧ W.cell? ⟨w.heap.size, 2, none⟩ = some (.int .i64 p.s) ∧ W.cell? ⟨w.heap.size, 3, none⟩ = some (.slice A p.fs.length c) ∧ Hid (Below w.heap.size w W)) → W.ownsRow base 3 1 v L0.length (ints L0) → Calls Tryd.prog 13 #[.agg #[.int .i64 p.g, .int .i64 p.l, .int .i64 p.s, .slice A p.fs.length c], v] W fun e w' => ∃ v, e = .returned v ∧ w'.ownsRow W.heap.size 3 1 v L1.length (ints L1) ∧ (w'.cell? ⟨w.heap.size, 0, none⟩ = some (.int .i64 p.g) ∧ w'.cell? ⟨w.heap.size, 1, none⟩ = some (.int .i64 p.l) ∧ w'.cell? ⟨w.heap.size, 2, none⟩ = some (.int .i64 p.s) ∧ w'.cell? ⟨w.heap.size, 3, none⟩ = some (.slice A p.fs.length c) ∧ Hid (Below w.heap.size w w')) ∧ Below W.heap.size W w' := by
      intro W base v hW ho
      obtain ⟨Al, cl, rfl⟩ := own_form' ho
      refine (Reach6_any p A c L0 Al cl W hsz h32 (Hp.out.below hW.2.2.2.2.out) (Rd.of_own ho) hL0b hL0l).mono ?_
      rw [hL1]
      rintro e w' ⟨v, rfl, ho, hb⟩
      exact ⟨v, rfl, ho, ⟨below_cell hb hW.1, below_cell hb hW.2.1, below_cell hb hW.2.2.1, below_cell hb hW.2.2.2.1, hW.2.2.2.2.out.trans (hb.mono hW.2.2.2.2.out.size)⟩, hb⟩
    have hstM : ∀ W base v, W.ownsRow base 3 1 v L1.length (ints L1) → Calls Tryd.prog 10 #[v] W fun e w' => e = .returned (.int .u32 (reachM (calleesF p) a : Nat)) ∧ W = w' := by
      intro W base v ho
      rw [← hreq]
      exact Mask_own L1 base v W ho hL1b (by omega)
    have hstC : ∀ W, Below w.heap.size w W → Calls Tryd.prog 9 #[.agg #[.int .i64 p.g, .int .i64 p.l, .int .i64 p.s, .slice A p.fs.length c]] W fun e w' => ∃ v, e = .returned v ∧ w'.ownsRow W.heap.size 25 1 v p.fs.length (u32s (calleesF p)) ∧ Below W.heap.size W w' :=
      fun W hW => Callees_any p A c W hsz (Hp.out.below hW)
    have Hnm := Lib.hid (fun l (hl : l.length ≤ 1000000) kind A' c' W (hN : NodesAt W A' l) => Named6_any l A' c' kind W hl hN)
    have HstB := Lib.hid hstB
    have HstR := Lib.hid hstR
    have HstL := Lib.hid hstL
    have HstX := Lib.hid hstX
    have HstM := Lib.hid hstM
    have HstC := Lib.hid hstC
    have Hsz := Lib.hid hsz
    have d32 : decide ((32 : Int) < (p.fs.length : Int)) = false := by rw [decide_eq_false_iff_not]; omega
    obtain ⟨bg, hbg⟩ : ∃ x, begunL p.fs 0 = x := ⟨_, rfl⟩
    obtain ⟨rc, hrc⟩ : ∃ x, reachM (calleesF p) a = x := ⟨_, rfl⟩
    rw [hbg] at HstB
    rw [hrc] at HstR HstM
    have Hbg := Lib.hid hbg
    clear hstB hstR hstL hstX hstM hstC hL0 hL0b hL0l hL1 hL1b hL1l hreq hs hsz hbg hrc
    have hlc := calleesF_length p
    have Hcs := Lib.hid (fun j h => calleesF_at p j h)
    obtain ⟨cs, hcs⟩ : ∃ cs, calleesF p = cs := ⟨_, rfl⟩
    rw [hcs] at hlc HstC Hcs
    have Hlc := Lib.hid hlc
    clear hcs hlc
    have hnb := fun l kind => namedF_lt l kind
    have Hnb := Lib.hid hnb
    clear hnb
    unfold prgV at *
    go_enter Tryd.func4, Tryd.ntmps4
    go_wp2_with fail
    refine (Haw.out _).mono ?_
    rintro e w1 ⟨rfl, hb1⟩
    have hbx1 := below_blk hb1 (blk_new _ _)
    have hB1 := (bel1 _ _).trans (hb1.mono (by simp))
    have p0 : w1.cell? ⟨w.heap.size, 0, none⟩ = some (.int .i64 p.g) := by rw [cell_blk hbx1]; rfl
    have p1 : w1.cell? ⟨w.heap.size, 1, none⟩ = some (.int .i64 p.l) := by rw [cell_blk hbx1]; rfl
    have p2 : w1.cell? ⟨w.heap.size, 2, none⟩ = some (.int .i64 p.s) := by rw [cell_blk hbx1]; rfl
    have p3 : w1.cell? ⟨w.heap.size, 3, none⟩ = some (.slice A p.fs.length c) := by rw [cell_blk hbx1]; rfl
    have HB1 := Lib.hid hB1
    clear hb1 hbx1 hB1
    go_wp2_with fail
    refine (Hsm.out _ (Hp.out.below HB1.out)).mono ?_
    rintro e w2 ⟨rfl, hb2⟩
    have hB2 := HB1.out.trans (hb2.mono HB1.out.size)
    have q0 := below_cell hb2 p0
    have q1 := below_cell hb2 p1
    have q2 := below_cell hb2 p2
    have q3 := below_cell hb2 p3
    have HB2 := Lib.hid hB2
    clear hb2 hB2 p0 p1 p2 p3
    go_wp2_with fail
    refine (HstC.out _ HB2.out).mono ?_
    rintro e w3 ⟨vc, rfl, hoc, hb3⟩
    obtain ⟨Ac, cc, rfl⟩ := own_form' hoc
    have HOc := Lib.hid hoc
    have hK3 : (w3.cell? ⟨w.heap.size, 0, none⟩ = some (.int .i64 p.g) ∧ w3.cell? ⟨w.heap.size, 1, none⟩ = some (.int .i64 p.l) ∧ w3.cell? ⟨w.heap.size, 2, none⟩ = some (.int .i64 p.s) ∧ w3.cell? ⟨w.heap.size, 3, none⟩ = some (.slice A p.fs.length c) ∧ Hid (Below w.heap.size w w3)) := ⟨below_cell hb3 q0, below_cell hb3 q1, below_cell hb3 q2, below_cell hb3 q3, HB2.out.trans (hb3.mono HB2.out.size)⟩
    have HK3 := Lib.hid hK3
    have k3 := hK3.2.2.2.1
    clear hK3 hb3 hoc q0 q1 q2 q3
    go_wp2
    clear k3
    go_loopw [6, 7] (fun s x wr => ∃ (k m : Nat), x = .int .i64 k ∧ s = .int .u32 (m : Int) ∧ k ≤ p.fs.length ∧ m < 4294967296 ∧ Hid (begunL (p.fs.drop k) m = bg) ∧ Hid ((wr.cell? ⟨w.heap.size, 0, none⟩ = some (.int .i64 p.g) ∧ wr.cell? ⟨w.heap.size, 1, none⟩ = some (.int .i64 p.l) ∧ wr.cell? ⟨w.heap.size, 2, none⟩ = some (.int .i64 p.s) ∧ wr.cell? ⟨w.heap.size, 3, none⟩ = some (.slice A p.fs.length c) ∧ Hid (Below w.heap.size w wr))) ∧ Hid (wr.ownsRow w2.heap.size 25 1 (.slice Ac p.fs.length cc) p.fs.length (u32s cs))) (fun _ x _ => p.fs.length - (intOf x).toNat)
    case atStart => exact ⟨0, 0, rfl, rfl, Nat.zero_le _, by omega, Hbg.out, HK3.out, HOc.out⟩
    case round =>
      obtain ⟨k, m, rfl, rfl, hk, hm, Hm, HK, HO⟩ := hrel
      by_cases hkl : k < p.fs.length
      · obtain ⟨gc, capc, hgc, _⟩ := HO.out.form (by omega)
        injection hgc with hc1 hc2 hc3
        subst hc1 hc3
        have hcc : wr.cell? ⟨gc, k, none⟩ = some (.int .u32 ((cs.getD k 0 : Nat) : Int)) := (HO.out.cellAt k (by omega)).trans (u32s_get cs k (by rw [Hlc.out]; exact hkl))
        rw [Hcs.out k hkl] at hcc
        obtain ⟨b, o, A', c', hAe, hc, _, hN⟩ := FuncsAt.at (Hp.out.below HK.out.2.2.2.2.out) k hkl
        obtain ⟨l, hl⟩ : ∃ l, p.fs.getD k [] = l := ⟨_, rfl⟩
        have hll : l.length ≤ 1000000 := hl ▸ Hsz.out.at k
        have hM := Hm.out
        rw [drop_cons' _ _ hkl, hl, begunL_cons] at hM
        rw [hl] at hc hN hcc
        have hk3 := HK.out.2.2.2.1
        rw [hAe] at hk3
        have hnk7 := fun W (hb : Below wr.heap.size wr W) => Hnm.out l hll 7 A' c' W (Rd.below hN hb)
        have hnk5 := fun W (hb : Below wr.heap.size wr W) => Hnm.out l hll 5 A' c' W (Rd.below hN hb)
        have hmk7 := fun W base v ho => Mask_named l 7 base v W ho
        have hmk5 := fun W base v ho => Mask_named l 5 base v W ho
        obtain ⟨l7, hl7⟩ : ∃ x, idL (named6 l 7) 32 = x := ⟨_, rfl⟩
        obtain ⟨l5, hl5⟩ : ∃ x, idL (named6 l 5) 32 = x := ⟨_, rfl⟩
        rw [hl7] at hnk7 hmk7
        rw [hl5] at hnk5 hmk5
        have hn5 := Hnb.out l 5
        obtain ⟨n7, hn7⟩ : ∃ x, namedF l 7 = x := ⟨_, rfl⟩
        obtain ⟨n5, hn5e⟩ : ∃ x, namedF l 5 = x := ⟨_, rfl⟩
        rw [hn7] at hmk7 hcc
        rw [hn5e] at hmk5 hM hn5
        have hor := u32_or_nat m n5 hm hn5
        have hlt := or_lt _ _ hm hn5
        have Hlt := Lib.hid hlt
        have Hk7 := Lib.hid hnk7
        have Hk5 := Lib.hid hnk5
        have Hm7 := Lib.hid hmk7
        have Hm5 := Lib.hid hmk5
        have Hm2 := Lib.hid hM
        have HAe := Lib.hid hAe
        clear hlt hnk7 hnk5 hmk7 hmk5 hM hl7 hl5 hn7 hn5e hN hl hAe
        go_wp2_with fail
        go_region_held3 (fun W => W.cell? ⟨gc, k, none⟩ = some (.int .u32 (n7 : Int)) ∧ W.cell? ⟨w.heap.size, 3, none⟩ = some (.slice (some ⟨b, o, none⟩) p.fs.length c) ∧ W.cell? ⟨b, o + k, none⟩ = some (.slice A' l.length c') ∧ Hid (Below wr.heap.size wr W))
          (first | exact ⟨hcc, hk3, hc, Below.refl _ _⟩ | exact ⟨hcc, hk3, hc, (Below.refl _ _).drew⟩ | exact hq)
          (first
            | (go_at_call 11; refine (Hk7.out _ ((Below.refl _ _).drew)).mono ?_; rintro e w4 ⟨v7, rfl, ho7, hb7⟩; have hb8 : Below wr.heap.size wr w4 := (first_drew hb7); have hq : w4.cell? ⟨gc, k, none⟩ = some (.int .u32 (n7 : Int)) ∧ w4.cell? ⟨w.heap.size, 3, none⟩ = some (.slice (some ⟨b, o, none⟩) p.fs.length c) ∧ w4.cell? ⟨b, o + k, none⟩ = some (.slice A' l.length c') ∧ Hid (Below wr.heap.size wr w4) := ⟨below_cell hb8 hcc, below_cell hb8 hk3, below_cell hb8 hc, hb8⟩)
            | (go_at_call 10; refine (Hm7.out _ _ _ (by assumption)).mono ?_; rintro e w5 ⟨rfl, rfl⟩))
        go_wp2_with fail
        refine (Hk5.out _ hb8).mono ?_
        rintro e w6 ⟨v5, rfl, ho5, hb6⟩
        go_wp2_with fail
        refine (Hm5.out _ _ _ ho5).mono ?_
        rintro e w7 ⟨rfl, rfl⟩
        have hB := hb8.trans (hb6.mono hb8.size)
        have HB := Lib.hid hB
        clear hB hb8 hb6 ho5 ho7 hq
        go_wp2
        go_roundw
        case rel => exact ⟨k + 1, m ||| n5, by go_num, rfl, by omega, Hlt.out, Hm2.out, ⟨below_cell HB.out HK.out.1, below_cell HB.out HK.out.2.1, below_cell HB.out HK.out.2.2.1, below_cell HB.out HK.out.2.2.2.1, HK.out.2.2.2.2.out.trans (HB.out.mono HK.out.2.2.2.2.out.size)⟩, own_below HO.out HB.out⟩
        case measure => simp [intOf]; omega
      · have hke : k = p.fs.length := by omega
        have hM := Hm.out
        rw [hke, List.drop_length, begunL_nil] at hM
        subst hM
        clear hke hk
        obtain ⟨h0, h1, h2, h3, hB⟩ := HK.out
        go_wp2_with fail
        go_region_held3 (fun W => (W.cell? ⟨w.heap.size, 0, none⟩ = some (.int .i64 p.g) ∧ W.cell? ⟨w.heap.size, 1, none⟩ = some (.int .i64 p.l) ∧ W.cell? ⟨w.heap.size, 2, none⟩ = some (.int .i64 p.s) ∧ W.cell? ⟨w.heap.size, 3, none⟩ = some (.slice A p.fs.length c) ∧ Hid (Below w.heap.size w W)))
          (first | exact ⟨h0, h1, h2, h3, hB⟩ | exact ⟨h0, h1, h2, h3, hB.out.drew⟩ | exact hq)
          (first
            | (go_at_call 12; refine (HstB.out _ (by assumption)).mono ?_; rintro e w4 ⟨rfl, hq⟩)
            | (go_at_call 8; refine (HstR.out _ (by assumption)).mono ?_; rintro e w4 ⟨rfl, hq, hbr⟩)
            | (go_at_call 14; refine (HstL.out _ (by assumption)).mono ?_; rintro e w4 ⟨vl, rfl, hol, hq, hbl⟩)
            | (go_at_call 13; refine (HstX.out _ _ _ (by assumption) (by first | assumption | exact own_below (by assumption) (by assumption))).mono ?_; rintro e w4 ⟨vx, rfl, hox, hq, hbx⟩)
            | (go_at_call 10; refine (HstM.out _ _ _ (by first | assumption | exact own_below (by assumption) (by assumption))).mono ?_; rintro e w4 ⟨rfl, rfl⟩))
        all_goals
          go_wp2_with fail
          go_ret
          exact ⟨by simp, hq.2.2.2.2.out⟩
  · by_cases hs : p.small = true
    · have h32 : 32 < p.fs.length := by
        apply Decidable.byContradiction; intro h; exact hok ⟨hs, by omega⟩
      rw [hs] at Hsm
      have d32 : decide ((32 : Int) < (p.fs.length : Int)) = true := by rw [decide_eq_true_iff]; omega
      unfold prgV at *
      go_enter Tryd.func4, Tryd.ntmps4
      go_wp2_with fail
      refine (Haw.out _).mono ?_
      rintro e w1 ⟨rfl, hb1⟩
      have hbx1 := below_blk hb1 (blk_new _ _)
      have hB1 := (bel1 _ _).trans (hb1.mono (by simp))
      have p0 : w1.cell? ⟨w.heap.size, 0, none⟩ = some (.int .i64 p.g) := by rw [cell_blk hbx1]; rfl
      have p1 : w1.cell? ⟨w.heap.size, 1, none⟩ = some (.int .i64 p.l) := by rw [cell_blk hbx1]; rfl
      have p2 : w1.cell? ⟨w.heap.size, 2, none⟩ = some (.int .i64 p.s) := by rw [cell_blk hbx1]; rfl
      have p3 : w1.cell? ⟨w.heap.size, 3, none⟩ = some (.slice A p.fs.length c) := by rw [cell_blk hbx1]; rfl
      have HB1 := Lib.hid hB1
      clear hb1 hbx1 hB1
      go_wp2_with fail
      refine (Hsm.out _ (Hp.out.below HB1.out)).mono ?_
      rintro e w2 ⟨rfl, hb2⟩
      have hB2 := HB1.out.trans (hb2.mono HB1.out.size)
      have q3 := below_cell hb2 p3
      have HB2 := Lib.hid hB2
      clear hb2 hB2 p0 p1 p2 p3
      go_wp2_with fail
      refine (Haw.out _).mono ?_
      rintro e w3 ⟨rfl, hb3⟩
      have HB3 := Lib.hid (HB2.out.trans (hb3.mono HB2.out.size))
      clear hb3
      go_wp2_with fail
      go_ret
      exact ⟨rfl, HB3.out⟩
    · rw [show p.small = false by simpa using hs] at Hsm
      unfold prgV at *
      go_enter Tryd.func4, Tryd.ntmps4
      go_wp2_with fail
      refine (Haw.out _).mono ?_
      rintro e w1 ⟨rfl, hb1⟩
      have hbx1 := below_blk hb1 (blk_new _ _)
      have hB1 := (bel1 _ _).trans (hb1.mono (by simp))
      have p0 : w1.cell? ⟨w.heap.size, 0, none⟩ = some (.int .i64 p.g) := by rw [cell_blk hbx1]; rfl
      have p1 : w1.cell? ⟨w.heap.size, 1, none⟩ = some (.int .i64 p.l) := by rw [cell_blk hbx1]; rfl
      have p2 : w1.cell? ⟨w.heap.size, 2, none⟩ = some (.int .i64 p.s) := by rw [cell_blk hbx1]; rfl
      have p3 : w1.cell? ⟨w.heap.size, 3, none⟩ = some (.slice A p.fs.length c) := by rw [cell_blk hbx1]; rfl
      have HB1 := Lib.hid hB1
      clear hb1 hbx1 hB1
      go_wp2_with fail
      refine (Hsm.out _ (Hp.out.below HB1.out)).mono ?_
      rintro e w2 ⟨rfl, hb2⟩
      have hB2 := HB1.out.trans (hb2.mono HB1.out.size)
      have HB2 := Lib.hid hB2
      clear hb2 hB2 p0 p1 p2 p3
      go_wp2_with fail
      refine (Haw.out _).mono ?_
      rintro e w3 ⟨rfl, hb3⟩
      have HB3 := Lib.hid (HB2.out.trans (hb3.mono HB2.out.size))
      clear hb3
      go_wp2_with fail
      go_ret
      exact ⟨rfl, HB3.out⟩
end Go.Proofs.YtbkgnokoicmppaaDoor
