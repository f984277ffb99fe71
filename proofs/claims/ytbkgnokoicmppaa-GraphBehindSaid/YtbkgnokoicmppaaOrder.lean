/- graph.Order: the walk. -/
import Derived.Test.YtbkgnokoicmppaaOrderPure
import Derived.Test.YtbkgnokoicmppaaIds
import Derived.Test.YtbkgnokoicmppaaPgCheck
import Derived.Test.YtbkgnokoicmppaaGraphA
namespace Go.Proofs.Ytbkgnokoicmppaa
open Go.RowKit
set_option linter.unusedVariables false
set_option linter.unusedSimpArgs false

theorem IdsAt.chg {B : Nat} {w w' : World} {Q Q2 : Nat → Prop} {xs : List Int} (h : IdsAt B w Q xs) (hc : Chg Q2 w w') (hq : ∀ k, Q k → ¬ Q2 k) : IdsAt B w' Q xs := by
  obtain ⟨v, hb, ho, hQ, hv, hlt, hl⟩ := h
  exact ⟨v, (hc.block B (hlt B hQ) (hq B hQ)).trans hb, own_chg ho hc (fun k hk => hq k (hv k hk)), hQ, hv, fun k hk => Nat.lt_of_lt_of_le (hlt k hk) hc.size, hl⟩
theorem IdsAt.val {B : Nat} {w : World} {Q : Nat → Prop} {xs : List Int} (h : IdsAt B w Q xs) : ∃ A c, w.cell? ⟨B, 0, none⟩ = some (.slice A xs.length c) := by
  obtain ⟨v, hb, ho, _⟩ := h
  rcases ho.2 with ⟨rfl, h0⟩ | ⟨g, cap, cur, rfl, _⟩
  · exact ⟨none, 0, by rw [cell_blk hb, h0]; rfl⟩
  · exact ⟨_, cap, by rw [cell_blk hb]; rfl⟩
theorem IdsAt.lt {B : Nat} {w : World} {Q : Nat → Prop} {xs : List Int} (h : IdsAt B w Q xs) : ∀ k, Q k → k < w.heap.size := by
  obtain ⟨v, hb, ho, hQ, hv, hlt, hl⟩ := h
  exact hlt
theorem IdsAt.self {B : Nat} {w : World} {Q : Nat → Prop} {xs : List Int} (h : IdsAt B w Q xs) : Q B := by
  obtain ⟨v, hb, ho, hQ, hv, hlt, hl⟩ := h
  exact hQ

/-- What lies where in Order: the queue at B, the counts at gw, whom functions call at vc. -/
structure OrdSt (w wr : World) (B gw : Nat) (vc : Value) (cs : List Nat) (Q : Nat → Prop) (wt xs : List Int) : Prop where
  ids : IdsAt B wr Q xs
  wait : wr.heap[gw]? = some (.cells (ints wt).toArray 3 (0, 0))
  calls : wr.ownsRow w.heap.size 51 1 vc cs.length (u32s cs)
  nq : ¬ Q gw
  nc : ∀ k, vc.ownBlock = some k → ¬ Q k
  base : ∀ k, Q k → w.heap.size ≤ k
  gbase : w.heap.size ≤ gw
  below : Below w.heap.size w wr
theorem vc_ne {w wr : World} {B gw : Nat} {vc : Value} {cs : List Nat} {Q : Nat → Prop} {wt xs : List Int} (h : OrdSt w wr B gw vc cs Q wt xs) : ∀ k, vc.ownBlock = some k → k ≠ gw := by
  intro k hk e
  subst e
  obtain ⟨cells, hc⟩ := own_typed' h.calls k hk
  have := h.wait
  rw [hc] at this
  injection this with this
  injection this with _ this
  exact absurd this (by decide)
section
variable {w wr w1 : World} {B gw : Nat} {vc : Value} {cs : List Nat} {Q : Nat → Prop} {wt xs : List Int}
theorem OrdSt.glt (h : OrdSt w wr B gw vc cs Q wt xs) : gw < wr.heap.size := (Array.getElem?_eq_some_iff.1 h.wait).1
/-- The queue has changed. -/
theorem OrdSt.queue (h : OrdSt w wr B gw vc cs Q wt xs) {Q' : Nat → Prop} {xs' : List Int} (hi : IdsAt B w1 Q' xs') (hc : Chg Q wr w1) (hq : ∀ k, Q' k → Q k ∨ wr.heap.size ≤ k) : OrdSt w w1 B gw vc cs Q' wt xs' :=
  ⟨hi, (hc.block gw h.glt h.nq).trans h.wait, own_chg h.calls hc h.nc, fun k => by
    rcases hq _ k with k | k
    · exact h.nq k
    · have := h.glt; omega, fun k hk q => by
    rcases hq _ q with q | q
    · exact h.nc k hk q
    · have := (own_lt' h.calls k hk).2; omega, fun k hk => by
    rcases hq _ hk with q | q
    · exact h.base k q
    · have := h.below.size; omega, h.gbase, hc.below h.below h.below.size h.base⟩
/-- Blocks that are none of these have changed. -/
theorem OrdSt.other (h : OrdSt w wr B gw vc cs Q wt xs) {Q2 : Nat → Prop} (hc : Chg Q2 wr w1) (h1 : ∀ k, Q2 k → w.heap.size ≤ k) (h2 : ∀ k, Q k → ¬ Q2 k) (h3 : ¬ Q2 gw) (h4 : ∀ k, vc.ownBlock = some k → ¬ Q2 k) : OrdSt w w1 B gw vc cs Q wt xs :=
  ⟨h.ids.chg hc h2, (hc.block gw h.glt h3).trans h.wait, own_chg h.calls hc h4, h.nq, h.nc, h.base, h.gbase, hc.below h.below h.below.size h1⟩
theorem OrdSt.bel (h : OrdSt w wr B gw vc cs Q wt xs) (hb : Below wr.heap.size wr w1) : OrdSt w w1 B gw vc cs Q wt xs :=
  h.other (Chg.of_below hb (fun _ => False)) (fun _ h => h.elim) (fun _ _ h => h) (fun h => h) (fun _ _ h => h)
/-- A count is stored. -/
theorem OrdSt.store (h : OrdSt w wr B gw vc cs Q wt xs) (i : Nat) (x : Int) : OrdSt w (wr.setCell ⟨gw, i, none⟩ (.int .i64 x)) B gw vc cs Q (wt.set i x) xs := by
  have hc : Chg (fun k => k = gw) wr (wr.setCell ⟨gw, i, none⟩ (.int .i64 x)) := Chg.of_setCell wr ⟨gw, i, none⟩ _
  refine ⟨h.ids.chg hc (fun k hk e => h.nq (e ▸ hk)), by rw [ints_set]; exact blk_set h.wait i _, own_chg h.calls hc (fun k hk e => vc_ne h k hk e), h.nq, h.nc, h.base, h.gbase, hc.below h.below h.below.size (fun k e => e ▸ h.gbase)⟩
theorem OrdSt.count (h : OrdSt w wr B gw vc cs Q wt xs) (i : Nat) (hi : i < wt.length) : wr.cell? ⟨gw, i, none⟩ = some (.int .i64 (wt.getD i 0)) ∧ wr.frozen? ⟨gw, i, none⟩ = false := by
  refine ⟨?_, frozen_blk h.wait i⟩
  rw [cell_blk h.wait]
  simpa using ints_get wt i hi
end
set_option maxHeartbeats 4000000 in
set_option maxRecDepth 100000 in
theorem Order_any (p : Prg) (A : Option Addr) (c : Nat) (w : World) (hsz : p.sz) (hp : FuncsAt w A p.fs) (hok : (checkF p).2.2 = 0) :
    Calls Try.prog 14 #[prgV p A c] w fun e w' => ∃ v, e = .returned (.tuple #[v, .int .i64 0]) ∧ w'.ownsRow w.heap.size 3 1 v (orderOf countF hasF (calleesF p)).length (ints (orderOf countF hasF (calleesF p))) ∧ Below w.heap.size w w' := by
  have hck := Check_any p A c
  obtain ⟨⟨k1, k2, k3⟩, hk⟩ : ∃ r, checkF p = r := ⟨_, rfl⟩
  rw [hk] at hok
  dsimp only at hok
  subst hok
  simp only [hk] at hck
  unfold trV at hck
  dsimp only at hck
  have hOk := checkF_ok (p := p) (by rw [hk])
  have hn16 := hOk.n1
  have hn0 := hOk.n0
  clear hOk
  have hcl := Callees_any p A c
  unfold prgV at *
  obtain ⟨R, hR⟩ : ∃ R, orderOf countF hasF (calleesF p) = R := ⟨_, rfl⟩
  rw [hR]
  unfold orderOf at hR
  have HR := Lib.hid hR
  clear hR
  have Hck := Lib.hid (fun W h => hck W hsz h)
  have Hcl := Lib.hid (fun W h => hcl W hsz h)
  have Hp := Lib.hid hp
  clear hck hcl hk hsz hp
  go_enter Try.func14, Try.ntmps14
  go_wp2_with fail
  refine (Hck.out _ (Hp.out.below (bel1 _ _))).mono ?_
  rintro e w1 ⟨rfl, hb⟩
  have hB1 := (bel1 _ _).trans (hb.mono (by simp))
  have hbx := below_blk hb (blk_new _ _)
  have hlt : w.heap.size < w1.heap.size := (Array.getElem?_eq_some_iff.1 hbx).1
  have p0 : w1.cell? ⟨w.heap.size, 0, none⟩ = some (.int .i64 p.g) := by rw [cell_blk hbx]; rfl
  have p1 : w1.cell? ⟨w.heap.size, 1, none⟩ = some (.int .i64 p.l) := by rw [cell_blk hbx]; rfl
  have p2 : w1.cell? ⟨w.heap.size, 2, none⟩ = some (.int .i64 p.s) := by rw [cell_blk hbx]; rfl
  have p3 : w1.cell? ⟨w.heap.size, 3, none⟩ = some (.slice A p.fs.length c) := by rw [cell_blk hbx]; rfl
  have HB1 := Lib.hid hB1
  clear hb hB1 hbx
  go_wp2_with fail
  refine (Hcl.out _ (Hp.out.below HB1.out)).mono ?_
  rintro e w2 ⟨vc, rfl, ho, hb⟩
  clear p0 p1 p2 p3
  have hlc : (calleesF p).length = p.fs.length := calleesF_length p
  have hm32 : ∀ i, (calleesF p).getD i 0 < 4294967296 := by
    intro i
    rcases Nat.lt_or_ge i (calleesF p).length with h | h
    · rw [List.getD_eq_getElem?_getD, List.getElem?_eq_getElem h]
      simp only [calleesF, List.getElem_map, Option.getD_some]
      exact namedF_lt _ _
    · rw [List.getD_eq_getElem?_getD, List.getElem?_eq_none h]; decide
  have hB2 := HB1.out.trans (hb.mono HB1.out.size)
  rw [← hlc] at ho
  have ho2 : w2.ownsRow w.heap.size 51 1 vc (calleesF p).length (u32s (calleesF p)) := own_lower ho HB1.out.size
  obtain ⟨gc, capc, rfl, _⟩ := ho2.form (by omega)
  obtain ⟨cs, hcs⟩ : ∃ cs, calleesF p = cs := ⟨_, rfl⟩
  rw [hcs] at ho2 hlc hm32 ⊢
  obtain ⟨n, hn⟩ : ∃ n, p.fs.length = n := ⟨_, rfl⟩
  rw [hn] at hlc hn16 hn0
  rw [hlc]
  have hmk : ∀ W, (Instr.makeSlice 25 (.int .i64 (n : Int)) (.int .i64 (n : Int))).run Try.prog W = .ok (.slice (some ⟨W.heap.size, 0, none⟩) n n) (W.alloc (.cells (madeCells #[.int .i64 0] n) 3)) :=
    fun W => run_make_row' 25 3 (.int .i64 0) 8 Try.underlying25 info_int rfl .i64 .i64 n (by omega) (by omega) W
  obtain ⟨gw, hgw⟩ : ∃ gw, w2.heap.size = gw := ⟨_, rfl⟩
  have hst : OrdSt w ((w2.alloc (.cells (madeCells #[.int .i64 0] n) 3)).alloc (.cells #[.slice none 0 0] 89)) (gw + 1) gw (.slice (some ⟨gc, 0, none⟩) cs.length capc) cs (fun k => k = gw + 1) (List.replicate n 0) [] := by
    have hsz2 : (w2.alloc (.cells (madeCells #[.int .i64 0] n) 3)).heap.size = gw + 1 := by simp [hgw]
    refine ⟨⟨.slice none 0 0, by rw [← hsz2]; exact blk_new _ _, World.ownsRow_nil _ _ _ _, rfl, fun k hk => by simp [Value.ownBlock] at hk, fun k hk => by subst hk; simp [hgw], by simp⟩, ?_, ?_, by omega, fun k hk => ?_, fun k hk => ?_, ?_, ?_⟩
    · refine blk_alloc' ?_ _
      rw [← hgw, blk_new, toList_made]
      simp [ints]
    · exact own_chg ho2 ((Chg.of_alloc (fun _ => False) _ _).trans (Chg.of_alloc (fun _ => False) _ _) (fun _ _ h => h)) (fun _ _ h => h)
    · have := (own_lt' ho2 k hk).2; omega
    · have := hB2.size; omega
    · have := hB2.size; omega
    · exact (hB2.alloc hB2.size _).alloc (by simp; have := hB2.size; omega) _
  have hB2s : w.heap.size ≤ gw := by have := hB2.size; omega
  rw [hlc] at hst
  obtain ⟨X0, hX0⟩ : ∃ X, initL countF 0 cs [] = X := ⟨_, rfl⟩
  obtain ⟨W0, hW0⟩ : ∃ X, cs.map (fun m => (countF m : Int)) = X := ⟨_, rfl⟩
  have hW0l : W0.length = n := by rw [← hW0]; simp [hlc]
  have HX0 := Lib.hid hX0
  have HW0 := Lib.hid hW0
  have Hst := Lib.hid hst
  have Hm32 := Lib.hid hm32
  have Hlc := Lib.hid hlc
  have Hn := Lib.hid hn
  have Hcs := Lib.hid hcs
  have Hgw := Lib.hid hgw
  have HW0l := Lib.hid hW0l
  have Hmk := Lib.hid hmk
  clear hX0 hW0 hst hm32 hlc hcs ho ho2 hb hB2 hW0l
  have hmk := Hmk.out
  rw [hn]
  clear hn
  clear hmk
  have hmk := Hmk.out
  go_wp2
  clear hmk hgw
  go_loopw [32] (fun x wr => ∃ (f : Nat) (wt xs : List Int) (Q : Nat → Prop), x = .int .i64 f ∧ f ≤ n ∧ Hid (OrdSt w wr (gw + 1) gw (.slice (some ⟨gc, 0, none⟩) n capc) cs Q wt xs) ∧ Hid (wt.length = n) ∧ Hid (initL countF f (cs.drop f) xs = X0) ∧ Hid (wt.take f = W0.take f) ∧
    Hid (pos (W0.take f) + xs.length = f) ∧ Hid (∀ x ∈ xs, 0 ≤ x ∧ x < (n : Int))) (fun x _ => n - (intOf x).toNat)
  case atStart =>
    refine ⟨0, List.replicate n 0, [], _, rfl, Nat.zero_le _, Hst.out, by simp [Hid], HX0.out, rfl, by simp [Hid, pos], fun x hx => by cases hx⟩
  case round =>
    obtain ⟨f, wt, xs, Q, rfl, hf, HS, Hwl, HX, HT, Hp1, Hr⟩ := hrel
    by_cases hfn : f < n
    · obtain ⟨m, hm⟩ : ∃ m, cs.getD f 0 = m := ⟨_, rfl⟩
      have hm32 : m < 4294967296 := hm ▸ Hm32.out f
      have hc0 : wr.cell? ⟨gc, f, none⟩ = some (.int .u32 (m : Int)) := by
        have h1 := HS.out.calls
        rw [Hlc.out] at h1
        rw [h1.cellAt f (by omega), u32s_get cs f (by rw [Hlc.out]; exact hfn), hm]
      have hcnt := Count_any m hm32 wr
      obtain ⟨cm, hcm⟩ : ∃ x, countF m = x := ⟨_, rfl⟩
      rw [hcm] at hcnt
      have hcount := Lib.hid hcnt
      clear hcnt
      have hlx : xs.length ≤ f := by have := Hp1.out; omega
      have hX := HX.out
      rw [List.drop_eq_getElem_cons (by rw [Hlc.out]; exact hfn)] at hX
      have hme : cs[f]'(by rw [Hlc.out]; exact hfn) = m := by rw [← hm, List.getD_eq_getElem?_getD, List.getElem?_eq_getElem (by rw [Hlc.out]; exact hfn)]; rfl
      rw [hme] at hX
      unfold initL at hX
      rw [hcm] at hX
      have HX1 := Lib.hid hX
      have hWf : W0.take (f + 1) = W0.take f ++ [(cm : Int)] := by
        rw [List.take_succ_eq_append_getElem (by rw [HW0l.out]; exact hfn)]
        congr 2
        have := HW0.out
        subst this
        simp [hme, hcm]
      have hwl : (wt.set f (cm : Int)).length = n := by rw [List.length_set]; exact Hwl.out
      have htk : (wt.set f (cm : Int)).take (f + 1) = W0.take (f + 1) := by
        rw [take_set_succ wt f _ (by rw [Hwl.out]; exact hfn), hWf, HT.out]
      have Hwl2 := Lib.hid hwl
      have Htk2 := Lib.hid htk
      have HWf := Lib.hid hWf
      go_wp2_with fail
      refine (hcount.out).mono ?_
      rintro e w4 ⟨rfl, hS⟩
      have hst4 := HS.out.bel (hS.below)
      obtain ⟨hcw, hfw⟩ := hst4.count f (by rw [Hwl.out]; exact hfn)
      have hst5 := hst4.store f (cm : Int)
      obtain ⟨hcw5, -⟩ := hst5.count f (by rw [List.length_set, Hwl.out]; exact hfn)
      rw [List.getD_eq_getElem?_getD, List.getElem?_set_self (by rw [Hwl.out]; exact hfn), Option.getD_some] at hcw5
      have Hst5 := Lib.hid hst5
      clear hst4 hst5 hS hcount hX hWf hwl htk hme hc0 hm hm32
      clear hcm
      have htyp : ∀ W, (Instr.makeInterface 92 (.pointer (some ⟨gw + 1, 0, none⟩))).run Try.prog W = .ok (.iface 92 (.pointer (some ⟨gw + 1, 0, none⟩))) W := fun _ => by kernel_rfl
      by_cases hz : cm = 0
      · subst hz
        have hX := HX1.out
        rw [if_pos rfl] at hX
        have hpu := heap_Push (ids_heap (gw + 1)) _ Q xs f Hst5.out.ids (by omega)
        have Hpu := Lib.hid hpu
        have HX2 := Lib.hid hX
        clear hX hpu
        go_wp2_with fail
        refine (Hpu.out).mono ?_
        rintro e w5 ⟨rfl, Q', hI, hC, hQ⟩
        have Hst6 := Lib.hid (Hst5.out.queue hI hC hQ)
        clear hI hC hQ hcw hfw hcw5 htyp
        go_wp2
        go_roundw
        case rel =>
          refine ⟨f + 1, _, _, Q', by go_num, by omega, Hst6.out, Hwl2.out, HX2.out, Htk2.out, ?_, ?_⟩
          · show pos (W0.take (f + 1)) + (pushF xs f).length = f + 1
            rw [HWf.out, pos_append, pushF_length, pos_one, if_neg (by omega)]
            have := Hp1.out
            omega
          · intro x hx
            rcases List.mem_cons.1 ((pushF_perm xs (f : Int)).mem_iff.1 hx) with rfl | h2
            · omega
            · exact Hr.out x h2
        case measure => simp [intOf]; omega
      · have hX := HX1.out
        rw [if_neg hz] at hX
        have HX2 := Lib.hid hX
        have hzb : ((cm : Int) == 0) = false := by rw [beq_eq_false_iff_ne]; omega
        clear hX
        go_wp2
        go_roundw
        case rel =>
          refine ⟨f + 1, _, _, Q, by go_num, by omega, Hst5.out, Hwl2.out, HX2.out, Htk2.out, ?_, Hr.out⟩
          show pos (W0.take (f + 1)) + xs.length = f + 1
          rw [HWf.out, pos_append, pos_one, if_pos (by omega)]
          have := Hp1.out
          omega
        case measure => simp [intOf]; omega
    · have hfe : f = n := by omega
      subst hfe
      have hwt : wt = W0 := by
        have h1 := HT.out
        rw [List.take_of_length_le (by rw [Hwl.out]; exact Nat.le_refl _), List.take_of_length_le (by rw [HW0l.out]; exact Nat.le_refl _)] at h1
        exact h1
      have hxs : xs = X0 := by
        have h1 := HX.out
        rw [List.drop_eq_nil_of_le (by rw [Hlc.out]; exact Nat.le_refl _)] at h1
        exact h1
      have hps : pos W0 + X0.length = f := by
        have h1 := Hp1.out
        rw [List.take_of_length_le (by rw [HW0l.out]; exact Nat.le_refl _), hxs] at h1
        exact h1
      have hwr : ∀ g, -1 * (0 : Int) ≤ W0.getD g 0 ∧ W0.getD g 0 ≤ 32 := by
        intro g
        have := HW0.out
        subst this
        rw [List.getD_eq_getElem?_getD, List.getElem?_map]
        cases h : cs[g]? with
        | none => simp
        | some m =>
          simp only [Option.map_some, Option.getD_some]
          have := countF_le m
          omega
      rw [hwt, hxs] at HS
      rw [hxs] at Hr
      have hR := HR.out
      rw [Hcs.out, HW0.out, HX0.out, Hlc.out] at hR
      have HR := Lib.hid hR
      have Hps := Lib.hid hps
      have Hwr := Lib.hid hwr
      clear hwt hxs hps hwr hR Hwl HX HT Hp1
      obtain ⟨wo, rfl⟩ : ∃ wo : World, wo = wr := ⟨_, rfl⟩
      go_wp2
      go_loopw [12] (fun v wr => ∃ (k : Nat) (wt xs : List Int) (out : List Int) (Q : Nat → Prop), Hid (OrdSt w wr (gw + 1) gw (.slice (some ⟨gc, 0, none⟩) f capc) cs Q wt xs) ∧ Hid (wt.length = f) ∧ Hid (orderL hasF cs k wt xs out = R) ∧
          Hid (out.length + pos wt + xs.length = f ∧ f < k + out.length) ∧ Hid (∀ x ∈ xs, 0 ≤ x ∧ x < (f : Int)) ∧ Hid (∀ g, -1 * (out.length : Int) ≤ wt.getD g 0 ∧ wt.getD g 0 ≤ 32) ∧
          Hid (wr.ownsRow w.heap.size 3 1 v out.length (ints out)) ∧ Hid (∀ b, v.ownBlock = some b → ¬ Q b ∧ b ≠ gw)) (fun v _ => f + 1 - (match v with | .slice _ n _ => n | _ => 0))
      case atStart =>
        exact ⟨f + 1, W0, X0, [], Q, HS.out, HW0l.out, HR.out, ⟨by have := Hps.out; simp; omega, by simp⟩, Hr.out, fun g => by have := Hwr.out g; simpa using this, World.ownsRow_nil _ _ _ _, fun b hb => by simp [Value.ownBlock] at hb⟩
      case round =>
        obtain ⟨k, wt, xs, out, Q, HS, Hwl, HR, Hsum, Hr, Hwr, HO, Hnq⟩ := hrel
        obtain ⟨Av, cv, rfl⟩ := own_form' HO.out
        obtain ⟨Aq, cq, hcq⟩ := HS.out.ids.val
        by_cases hx : xs = []
        · subst hx
          have hR : out = R := by
            have := HR.out
            cases k with
            | zero => exact this
            | succ k => unfold orderL at this; rw [if_pos rfl] at this; exact this
          have hlen := Lib.hid (ids_Len Aq 0 cq wr)
          have HR2 := Lib.hid hR
          rw [List.length_nil] at hcq
          clear hR
          go_wp2_with fail
          refine (hlen.out).mono ?_
          rintro e w3 ⟨rfl, rfl⟩
          clear hlen
          go_wp2
          go_ret2
          refine ⟨_, rfl, ?_, HS.out.below⟩
          rw [← HR2.out]
          exact HO.out
        · have hxl : 0 < xs.length := List.length_pos_iff.2 hx
          have hxb : decide (0 < (xs.length : Int)) = true := by rw [decide_eq_true_iff]; omega
          have hlen := Lib.hid (ids_Len Aq xs.length cq wr)
          have hou : out.length < f := by have := Hsum.out.1; omega
          obtain ⟨k, rfl⟩ : ∃ k', k = k' + 1 := ⟨k - 1, by have := Hsum.out.2; omega⟩
          have hpop := heap_Pop (ids_heap (gw + 1)) wr Q xs hx HS.out.ids
          rw [← lastD_eq] at hpop
          have hR := HR.out
          unfold orderL at hR
          rw [if_neg hx] at hR
          have hlr : 0 ≤ lastD (popF xs) ∧ lastD (popF xs) < (f : Int) := by
            refine Hr.out _ ((popF_perm xs hx).mem_iff.1 ?_)
            rw [lastD_eq _ (popF_ne xs hx)]
            exact List.getLast_mem _
          have hr1 : ∀ x ∈ (popF xs).dropLast, 0 ≤ x ∧ x < (f : Int) := fun x h => Hr.out x ((popF_perm xs hx).mem_iff.1 (List.dropLast_subset _ h))
          have hl1 : (popF xs).dropLast.length + 1 = xs.length := by rw [List.length_dropLast, popF_length]; omega
          obtain ⟨x, hxe⟩ : ∃ x, lastD (popF xs) = x := ⟨_, rfl⟩
          obtain ⟨xs1, hxs1⟩ : ∃ x, (popF xs).dropLast = x := ⟨_, rfl⟩
          rw [hxe, hxs1] at hR hpop
          rw [hxe] at hlr
          rw [hxs1] at hr1 hl1
          obtain ⟨I0, hI0⟩ : ∃ I, innerL hasF x 0 cs wt xs1 = I := ⟨_, rfl⟩
          rw [hI0] at hR
          have HI0 := Lib.hid hI0
          have Hpop := Lib.hid hpop
          have HR2 := Lib.hid hR
          have Hr1 := Lib.hid hr1
          have htyp : ∀ W, (Instr.makeInterface 92 (.pointer (some ⟨gw + 1, 0, none⟩))).run Try.prog W = .ok (.iface 92 (.pointer (some ⟨gw + 1, 0, none⟩))) W := fun _ => by kernel_rfl
          have hta : ∀ W, (Instr.typeAssert (Value.iface 3 (.int .i64 x)) 20 3 false).run Try.prog W = .ok (.int .i64 x) W := fun _ => by kernel_rfl
          have Hta := Lib.hid hta
          clear hpop hR hr1 hxe hxs1 hta hI0
          obtain ⟨hlr0, hlr1⟩ := hlr
          go_wp2_with fail
          refine (hlen.out).mono ?_
          rintro e w3 ⟨rfl, rfl⟩
          clear hlen hcq
          go_wp2_with fail
          refine (Hpop.out).mono ?_
          rintro e w3 ⟨rfl, hI, hC⟩
          have hst3 := HS.out.queue hI hC (fun k h => .inl h)
          have ho3 := own_chg HO.out hC (fun b hb => (Hnq.out b hb).1)
          have hvne : ∀ b, (Value.slice (some ⟨gc, 0, none⟩) f capc).ownBlock = some b → ¬ (Value.slice Av out.length cv).ownBlock = some b := by
            intro b hb1 hb2
            obtain ⟨_, h1⟩ := own_typed' hst3.calls b hb1
            obtain ⟨_, h2⟩ := own_typed' ho3 b hb2
            rw [h1] at h2
            injection h2 with h2
            injection h2 with _ h2
            exact absurd h2 (by decide)
          obtain ⟨g2, cap2, w4, hr, h2, h3, h4, h5, h6⟩ := app_run (ty := 25) Try.underlying25 info_int rfl (by decide) (by decide) w3 (w3.alloc (.cells #[.int .i64 x] 3)) rfl rfl rfl rfl ho3 (news := [.int .i64 x]) rfl (by intro u hu; simp at hu; subst hu; rfl) (by omega) hst3.below.size
          have hst4 := hst3.other h3 (fun b hb => (own_lt' ho3 b hb).1) (fun b hb e => (Hnq.out b e).1 hb) (fun e => (Hnq.out _ e).2 rfl) hvne
          have hg2 : ¬ Q g2 ∧ g2 ≠ gw := by
            rcases h4 with h4 | h4
            · exact Hnq.out _ h4
            · subst h4
              exact ⟨fun hq => by have := hst3.ids.lt _ hq; omega, by have := hst3.glt; omega⟩
          have ho4 : w4.ownsRow w.heap.size 3 1 (.slice (some ⟨g2, 0, none⟩) (out.length + 1) cap2) (out ++ [x]).length (ints (out ++ [x])) := by
            rw [List.length_append, ints_append]
            exact h2
          have Hr4 := Lib.hid hr
          have Hst4 := Lib.hid hst4
          have Ho4 := Lib.hid ho4
          have Hg2 := Lib.hid hg2
          have hta := Hta.out
          clear hI hC hst3 ho3 hvne hr h2 h3 h4 h5 h6 hst4 ho4 hg2 htyp
          go_wp2_with (at_builtin; refine list_app rfl (.tmp 58) (.tmp 60) 25 rfl rfl rfl Hr4.out ?_)
          clear hta
          have hS0 : pos wt + xs1.length + 1 + out.length = f := by have := Hsum.out.1; omega
          have Hk := Lib.hid (show f < k + (out.length + 1) from by have := Hsum.out.2; omega)
          clear Hsum HR HO HS Hnq Hr
          obtain ⟨w5, rfl⟩ : ∃ w5 : World, w5 = w4 := ⟨_, rfl⟩
          go_loopw [64] (fun s wr => ∃ (g : Nat) (wt' xs' : List Int) (Q' : Nat → Prop), s = .int .i64 g ∧ g ≤ f ∧ Hid (OrdSt w wr (gw + 1) gw (.slice (some ⟨gc, 0, none⟩) f capc) cs Q' wt' xs') ∧ Hid (wt'.length = f) ∧ Hid (innerL hasF x g (cs.drop g) wt' xs' = I0) ∧
              Hid (pos wt' + xs'.length = pos wt + xs1.length) ∧ Hid (∀ x ∈ xs', 0 ≤ x ∧ x < (f : Int)) ∧ Hid (∀ j, -1 * ((out.length : Int) + 1) ≤ wt'.getD j 0 ∧ wt'.getD j 0 ≤ 32) ∧ Hid (∀ j, g ≤ j → -1 * (out.length : Int) ≤ wt'.getD j 0) ∧
              Hid (wr.ownsRow w.heap.size 3 1 (.slice (some ⟨g2, 0, none⟩) (out.length + 1) cap2) (out ++ [x]).length (ints (out ++ [x]))) ∧ Hid (¬ Q' g2)) (fun s _ => f - (intOf s).toNat)
          case atStart =>
            exact ⟨0, wt, xs1, Q, rfl, Nat.zero_le _, Hst4.out, Hwl.out, HI0.out, rfl, Hr1.out, fun j => by have := Hwr.out j; omega, fun j _ => (Hwr.out j).1, Ho4.out, Hg2.out.1⟩
          case round =>
            clear Hst4 Hr1 Hwr Ho4 Hr4 Hpop Hta
            obtain ⟨g, wt', xs', Q', rfl, hg, HS, Hwl', HI, Hsum, Hr, Hb, Hb2, HO, Hq⟩ := hrel
            by_cases hgf : g < f
            · obtain ⟨m, hm⟩ : ∃ m, cs.getD g 0 = m := ⟨_, rfl⟩
              have hm32 : m < 4294967296 := hm ▸ Hm32.out g
              have hc0 : wr.cell? ⟨gc, g, none⟩ = some (.int .u32 (m : Int)) := by
                have h1 := HS.out.calls
                rw [Hlc.out] at h1
                rw [h1.cellAt g (by omega), u32s_get cs g (by rw [Hlc.out]; exact hgf), hm]
              have hI := HI.out
              rw [drop_consN _ _ (by rw [Hlc.out]; exact hgf), hm, innerL_cons] at hI
              have hhas := Has_any m hm32 x wr
              cases hb : hasF m x
              · rw [hb] at hhas hI
                rw [if_neg (by simp)] at hI
                have Hhas := Lib.hid hhas
                have HI2 := Lib.hid hI
                clear hhas hI hm hb
                go_wp2_with fail
                refine (Hhas.out).mono ?_
                rintro e w6 ⟨rfl, rfl⟩
                go_wp2
                go_roundw
                case rel => exact ⟨g + 1, wt', xs', Q', by go_num, by omega, HS.out, Hwl'.out, HI2.out, Hsum.out, Hr.out, Hb.out, fun j hj => Hb2.out j (by omega), HO.out, Hq.out⟩
                case measure => simp [intOf]; omega
              · rw [hb] at hhas hI
                rw [if_pos rfl] at hI
                have Hhas := Lib.hid hhas
                obtain ⟨q, hq⟩ : ∃ q, wt'.getD g 0 = q := ⟨_, rfl⟩
                have hq0 : -16 ≤ q := by have := Hb2.out g (Nat.le_refl _); rw [hq] at this; omega
                have hq1 : q ≤ 32 := by have := (Hb.out g).2; rw [hq] at this; omega
                obtain ⟨hcw, hfw⟩ := HS.out.count g (by rw [Hwl'.out]; exact hgf)
                have hst5 := HS.out.store g (q - 1)
                obtain ⟨hcw5, -⟩ := hst5.count g (by rw [List.length_set, Hwl'.out]; exact hgf)
                rw [getD_set_self' _ _ _ (by rw [Hwl'.out]; exact hgf)] at hcw5
                rw [hq] at hcw hI
                have hps := pos_set wt' g (q - 1) (by rw [Hwl'.out]; exact hgf)
                rw [hq] at hps
                have ho5 : (wr.setCell ⟨gw, g, none⟩ (.int .i64 (q - 1))).ownsRow w.heap.size 3 1 (.slice (some ⟨g2, 0, none⟩) (out.length + 1) cap2) (out ++ [x]).length (ints (out ++ [x])) :=
                  own_chg HO.out (Chg.of_setCell wr ⟨gw, g, none⟩ _) (fun b hb e => Hg2.out.2 ((Option.some.inj (show some g2 = some b from hb)).trans e))
                have hb5 : ∀ j, -1 * ((out.length : Int) + 1) ≤ (wt'.set g (q - 1)).getD j 0 ∧ (wt'.set g (q - 1)).getD j 0 ≤ 32 := by
                  intro j
                  by_cases hj : g = j
                  · subst hj
                    rw [getD_set_self' _ _ _ (by rw [Hwl'.out]; exact hgf)]
                    have := Hb2.out g (Nat.le_refl _)
                    rw [hq] at this
                    omega
                  · rw [getD_set_ne' _ _ _ _ hj]
                    exact Hb.out j
                have hb6 : ∀ j, g + 1 ≤ j → -1 * (out.length : Int) ≤ (wt'.set g (q - 1)).getD j 0 := by
                  intro j hj
                  rw [getD_set_ne' _ _ _ _ (by omega)]
                  exact Hb2.out j (by omega)
                have Hst5 := Lib.hid hst5
                have Ho5 := Lib.hid ho5
                have Hb5 := Lib.hid hb5
                have Hb6 := Lib.hid hb6
                have HI2 := Lib.hid hI
                have Hps := Lib.hid hps
                have Hwl5 := Lib.hid (show (wt'.set g (q - 1)).length = f by rw [List.length_set]; exact Hwl'.out)
                clear hhas hI hm hb hst5 ho5 hb5 hb6 hps hq Hb Hb2 HO HS
                by_cases hz : q - 1 = 0
                · have hI := HI2.out
                  rw [if_pos hz] at hI
                  have hpu := heap_Push (ids_heap (gw + 1)) _ Q' xs' g Hst5.out.ids (by have := Hst5.out.ids; obtain ⟨_, _, _, _, _, _, hh⟩ := this; have := Hsum.out; omega)
                  have hzb : (q - 1 == 0) = true := by rw [beq_iff_eq]; exact hz
                  have htyp : ∀ W, (Instr.makeInterface 92 (.pointer (some ⟨gw + 1, 0, none⟩))).run Try.prog W = .ok (.iface 92 (.pointer (some ⟨gw + 1, 0, none⟩))) W := fun _ => by kernel_rfl
                  have Hpu := Lib.hid hpu
                  have HI3 := Lib.hid hI
                  have Hz := Lib.hid hz
                  clear hpu hI hz
                  go_wp2_with fail
                  refine (Hhas.out).mono ?_
                  rintro e w6 ⟨rfl, rfl⟩
                  go_wp2_with fail
                  refine (Hpu.out).mono ?_
                  rintro e w7 ⟨rfl, Q2, hI, hC, hQ⟩
                  have Hst6 := Lib.hid (Hst5.out.queue hI hC hQ)
                  have ho6 := own_chg Ho5.out hC (fun b hb => by
                    rw [← Option.some.inj (show some g2 = some b from hb)]
                    exact Hq.out)
                  have Ho6 := Lib.hid ho6
                  have hq6 : ¬ Q2 g2 := fun h => by
                    rcases hQ _ h with h | h
                    · exact Hq.out h
                    · have := (own_lt' Ho5.out g2 rfl).2; omega
                  have Hq6 := Lib.hid hq6
                  clear hI hC hQ ho6 hq6 hcw hfw hcw5 htyp hzb
                  go_wp2
                  go_roundw
                  case rel =>
                    refine ⟨g + 1, _, _, Q2, by go_num, by omega, Hst6.out, Hwl5.out, HI3.out, ?_, ?_, Hb5.out, Hb6.out, Ho6.out, Hq6.out⟩
                    · show pos (wt'.set g (q - 1)) + (pushF xs' g).length = pos wt + xs1.length
                      rw [pushF_length]
                      have h1 := Hps.out
                      rw [if_pos (by have := Hz.out; omega), if_neg (by have := Hz.out; omega)] at h1
                      have := Hsum.out
                      omega
                    · intro y hy
                      rcases List.mem_cons.1 ((pushF_perm xs' (g : Int)).mem_iff.1 hy) with rfl | h2
                      · omega
                      · exact Hr.out y h2
                  case measure => simp [intOf]; omega
                · have hI := HI2.out
                  rw [if_neg hz] at hI
                  have hzb : (q - 1 == 0) = false := by rw [beq_eq_false_iff_ne]; exact hz
                  have HI3 := Lib.hid hI
                  have Hz := Lib.hid hz
                  clear hI hz
                  go_wp2_with fail
                  refine (Hhas.out).mono ?_
                  rintro e w6 ⟨rfl, rfl⟩
                  go_wp2
                  go_roundw
                  case rel =>
                    refine ⟨g + 1, _, _, Q', by go_num, by omega, Hst5.out, Hwl5.out, HI3.out, ?_, Hr.out, Hb5.out, Hb6.out, Ho5.out, Hq.out⟩
                    show pos (wt'.set g (q - 1)) + xs'.length = pos wt + xs1.length
                    have h1 := Hps.out
                    have := Hsum.out
                    by_cases h0 : 0 < q
                    · rw [if_pos h0, if_pos (by have := Hz.out; omega)] at h1; omega
                    · rw [if_neg h0, if_neg (by omega)] at h1; omega
                  case measure => simp [intOf]; omega
            · have hge : g = f := by omega
              have hI := HI.out
              rw [hge, List.drop_eq_nil_of_le (by rw [Hlc.out]; exact Nat.le_refl _), innerL_nil] at hI
              have hR := HR2.out
              rw [← hI] at hR
              have HR3 := Lib.hid hR
              clear hI hR
              go_wp2
              go_roundw
              case rel =>
                refine ⟨k, wt', xs', out ++ [x], Q', HS.out, Hwl'.out, HR3.out, ?_, Hr.out, ?_, HO.out, ?_⟩
                · have := Hsum.out
                  have := Hk.out
                  simp only [Hid, List.length_append, List.length_singleton]
                  omega
                · intro j
                  have := Hb.out j
                  simp only [List.length_append, List.length_singleton]
                  omega
                · intro b hb
                  rw [← Option.some.inj (show some g2 = some b from hb)]
                  exact ⟨Hq.out, Hg2.out.2⟩
              case measure => simp; omega

set_option maxHeartbeats 1000000 in
set_option maxRecDepth 100000 in
theorem Order_err (p : Prg) (A : Option Addr) (c : Nat) (w : World) (hsz : p.sz) (hp : FuncsAt w A p.fs) (hok : (checkF p).2.2 ≠ 0) :
    Calls Try.prog 14 #[prgV p A c] w fun e w' => e = .returned (.tuple #[.slice none 0 0, .int .i64 (checkF p).2.2]) ∧ Below w.heap.size w w' := by
  have hck := Check_any p A c
  obtain ⟨⟨k1, k2, k3⟩, hk⟩ : ∃ r, checkF p = r := ⟨_, rfl⟩
  rw [hk] at hok
  dsimp only at hok
  simp only [hk] at hck ⊢
  unfold trV at hck
  dsimp only at hck
  unfold prgV at *
  have Hck := Lib.hid (fun W h => hck W hsz h)
  have Hp := Lib.hid hp
  have hb0 : (k3 != 0) = true := by rw [bne_iff_ne]; exact hok
  clear hck hk hsz hp hok
  go_enter Try.func14, Try.ntmps14
  go_wp2_with fail
  refine (Hck.out _ (Hp.out.below (bel1 _ _))).mono ?_
  rintro e w1 ⟨rfl, hb⟩
  have hB1 := Lib.hid ((bel1 _ _).trans (hb.mono (by simp)))
  clear hb
  go_wp2
  go_ret2
  exact ⟨rfl, hB1.out⟩
end Go.Proofs.Ytbkgnokoicmppaa
