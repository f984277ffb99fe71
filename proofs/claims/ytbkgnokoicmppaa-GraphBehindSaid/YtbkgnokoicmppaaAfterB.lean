/- graph.After: its closure, walked. -/
import Derived.Test.YtbkgnokoicmppaaAfter
namespace Go.Proofs.Ytbkgnokoicmppaa
open Go.RowKit
set_option linter.unusedVariables false
set_option linter.unusedSimpArgs false

def ysAt (l : List Node) (i : Int) : List Int := if 0 ≤ i ∧ i < l.length then succF (l.getD i.toNat zNode) else []
theorem take_succI (s : List Int) (k : Nat) (h : k < s.length) : s.take (k + 1) = s.take k ++ [s.getD k 0] := by
  rw [List.take_succ_eq_append_getElem h, List.getD_eq_getElem?_getD, List.getElem?_eq_getElem h]; rfl

set_option maxHeartbeats 4000000 in
set_option maxRecDepth 100000 in
theorem Add_any (l : List Node) (A : Option Addr) (c : Nat) (w : World) (i : Int) (b : List Bool) (td : List Int) (v : Value) (w0 : World) (hst : AftSt l A c w b td v w0) (hN : NodesAt w A l) (hl : l.length ≤ 1000000) (hb : b.count false + td.length ≤ 3000000) :
    Calls Try.prog 49 #[.int .i64 i, .pointer (some ⟨w.heap.size, 0, none⟩), .pointer (some ⟨w.heap.size + 2, 0, none⟩), .pointer (some ⟨w.heap.size + 3, 0, none⟩)] w0 fun e w' => e = .returned (.tuple #[]) ∧
      ∃ b' td' v', AftSt l A c w b' td' v' w' ∧ AddOk l.length (ysAt l i) b td b' td' := by
  have Hst := Lib.hid hst
  have HN := Lib.hid hN
  have c0 : w0.cell? ⟨w.heap.size, 0, none⟩ = some (.slice A l.length c) := by rw [cell_blk hst.lbox]; rfl
  clear hst hN
  by_cases h0 : i < 0
  · have hy : ysAt l i = [] := by unfold ysAt; rw [if_neg (by omega)]
    rw [hy]
    have d0 : decide (i < 0) = true := by rw [decide_eq_true_iff]; exact h0
    clear hy
    go_enter Try.func49, Try.ntmps49
    go_wp2
    refine bodyPost_ret (results_none rfl _ _ _) rfl ?_
    exact ⟨rfl, _, _, _, Hst.out, AddOk.refl _ _ _⟩
  · have d0 : decide (i < 0) = false := by rw [decide_eq_false_iff_not]; exact h0
    by_cases h1 : i < l.length
    · obtain ⟨k, rfl⟩ := Int.eq_ofNat_of_zero_le (show 0 ≤ i by omega)
      have hk : k < l.length := by omega
      have d1 : decide ((l.length : Int) ≤ (k : Int)) = false := by rw [decide_eq_false_iff_not]; omega
      obtain ⟨b', o', rfl, k0, k1, k2, k3⟩ := NodesAt.at (Rd.below HN.out Hst.out.bel) k hk
      obtain ⟨x, hx⟩ : ∃ x, l.getD k zNode = x := ⟨_, rfl⟩
      rw [hx] at k0 k1 k2 k3
      have hys : ysAt l (k : Int) = succF x := by unfold ysAt; rw [if_pos (by omega), Int.toNat_natCast, hx]
      rw [hys]
      have hs := Succ_any x w0
      unfold nodeV at hs
      obtain ⟨s, hse⟩ : ∃ s, succF x = s := ⟨_, rfl⟩
      have hsl : s.length ≤ 2 := hse ▸ succF_length x
      rw [hse] at hs ⊢
      have Hs := Lib.hid hs
      clear hys hse hs hx h0 h1
      go_enter Try.func49, Try.ntmps49
      go_wp2_with fail
      refine (Hs.out).mono ?_
      rintro e w1 ⟨vs, rfl, hos, hbs⟩
      obtain ⟨As, cs, rfl⟩ := own_form' hos
      have Hst1 := Lib.hid (Hst.out.below hbs)
      have hne : ∀ k, v.ownBlock = some k → (Value.slice As s.length cs).ownBlock ≠ some k := fun k hk he => by
        have h1 := (own_lt' Hst.out.todo k hk).2
        have h2 := (own_lt' hos k he).1
        omega
      have hlt0 := Hst.out.lt
      have HOs := Lib.hid hos
      have Hne := Lib.hid hne
      clear hos hbs hne k0 k1 k2 k3 c0 Hs
      go_wp2
      go_loopw [21] (fun y wq => ∃ (k : Nat) (b2 : List Bool) (td2 : List Int) (v2 : Value), y = .int .i64 k ∧ k ≤ s.length ∧ Hid (AftSt l (some ⟨b', o', none⟩) c w b2 td2 v2 wq) ∧ Hid (AddOk l.length (s.take k) b td b2 td2) ∧ Hid (wq.ownsRow w0.heap.size 3 1 (.slice As s.length cs) s.length (ints s)) ∧ Hid (∀ k, v2.ownBlock = some k → (Value.slice As s.length cs).ownBlock ≠ some k)) (fun y _ => s.length - (intOf y).toNat)
      case atStart => exact ⟨0, b, td, v, rfl, Nat.zero_le _, Hst1.out, AddOk.refl _ _ _, HOs.out, Hne.out⟩
      case round =>
        obtain ⟨j, b2, td2, v2, rfl, hj, HS, HA, HO, HD⟩ := hrel
        obtain ⟨Av, cv, rfl⟩ := own_form' HS.out.todo
        by_cases hjl : j < s.length
        · obtain ⟨gs, caps, hgs, _⟩ := HO.out.form (by omega)
          injection hgs with hg1 hg2 hg3
          subst hg1 hg3
          have hcs := (HO.out.cellAt j (by omega)).trans (ints_get s j hjl)
          obtain ⟨y, hy⟩ : ∃ y, s.getD j 0 = y := ⟨_, rfl⟩
          rw [hy] at hcs
          have Htk := Lib.hid (show s.take (j + 1) = s.take j ++ [y] by rw [take_succI s j hjl, hy])
          have c0 : wr.cell? ⟨w.heap.size, 0, none⟩ = some (.slice (some ⟨b', o', none⟩) l.length c) := by rw [cell_blk HS.out.lbox]; rfl
          have c2 : wr.cell? ⟨w.heap.size + 2, 0, none⟩ = some (.slice (some ⟨w.heap.size + 1, 0, none⟩) l.length l.length) := by rw [cell_blk HS.out.obox]; rfl
          clear hy
          by_cases hy0 : 0 ≤ y
          · obtain ⟨y, rfl⟩ := Int.eq_ofNat_of_zero_le hy0
            by_cases hyn : y < l.length
            · have cy : wr.cell? ⟨w.heap.size + 1, y, none⟩ = some (.bool (b2.getD y false)) := by
                rw [cell_blk HS.out.row]; simpa using bools_get b2 y (by rw [HS.out.len]; exact hyn)
              cases hby : b2.getD y false
              · rw [hby] at cy
                have HA2 := Lib.hid (HA.out.mark y hyn (by rw [HS.out.len]; exact hyn) hby)
                have hfy : wr.frozen? ⟨w.heap.size + 1, y, none⟩ = false := frozen_blk HS.out.row y
                have st1 := HS.out.set y
                have c3 : wr.cell? ⟨w.heap.size + 3, 0, none⟩ = some (.slice Av td2.length cv) := by rw [cell_blk HS.out.tbox]; rfl
                have f3 : wr.frozen? ⟨w.heap.size + 3, 0, none⟩ = false := frozen_blk HS.out.tbox 0
                have hcnt := HA.out.cnt
                have hlt1 := st1.lt
                have hsz1 : (wr.setCell ⟨w.heap.size + 1, y, none⟩ (.bool true)).heap.size = wr.heap.size := by simp [World.setCell]
                obtain ⟨g, cap, w2, hr, h2, h3, h4, h5, h6⟩ := app_run (ty := 25) Try.underlying25 info_int rfl (by decide) (by decide) (wr.setCell ⟨w.heap.size + 1, y, none⟩ (.bool true)) ((wr.setCell ⟨w.heap.size + 1, y, none⟩ (.bool true)).alloc (.cells #[.int .i64 (y : Nat)] 3)) rfl rfl rfl rfl st1.todo (news := [.int .i64 (y : Nat)]) rfl (by intro u hu; simp at hu; subst hu; rfl) (by omega) (by omega)
                have h2' : w2.ownsRow (w.heap.size + 4) 3 1 (.slice (some ⟨g, 0, none⟩) (td2.length + 1) cap) (td2 ++ [(y : Int)]).length (ints (td2 ++ [(y : Int)])) := by
                  rw [List.length_append, ints_append]; exact h2
                have st2 := st1.put h3 h2'
                have hb3 : w2.heap[w.heap.size + 3]? = some (.cells #[.slice Av td2.length cv] 25 (0, 0)) := (h3.block _ (by omega) (fun hv => by have := (own_lt' st1.todo _ hv).1; omega)).trans st1.tbox
                have c3w : w2.cell? ⟨w.heap.size + 3, 0, none⟩ = some (.slice Av td2.length cv) := by rw [cell_blk hb3]; rfl
                have f3w : w2.frozen? ⟨w.heap.size + 3, 0, none⟩ = false := frozen_blk hb3 0
                have hC1 := Chg.of_setCell wr ⟨w.heap.size + 1, y, none⟩ (.bool true)
                have hC3 := Chg.of_setCell w2 ⟨w.heap.size + 3, 0, none⟩ (.slice (some ⟨g, 0, none⟩) (td2.length + 1) cap)
                have hw0 : ∀ k, (Value.slice (some ⟨gs, 0, none⟩) s.length cs).ownBlock = some k → w0.heap.size ≤ k ∧ k < wr.heap.size := fun k hk => own_lt' HO.out k hk
                have ho1 := own_chg HO.out hC1 (fun k hk => by have := (hw0 k hk).1; show ¬ k = w.heap.size + 1; omega)
                have ho2 := own_chg ho1 h3 (fun k hk hv => HD.out k hv hk)
                have ho3 := own_chg ho2 hC3 (fun k hk => by have := (hw0 k hk).1; show ¬ k = w.heap.size + 3; omega)
                have hd2 : ∀ k, (Value.slice (some ⟨g, 0, none⟩) (td2.length + 1) cap).ownBlock = some k → (Value.slice (some ⟨gs, 0, none⟩) s.length cs).ownBlock ≠ some k := by
                  intro k hk he
                  have e : g = k := Option.some.inj hk
                  have h7 := (hw0 k he).2
                  rcases h4 with h4 | h4
                  · exact HD.out k (e ▸ h4) he
                  · have h8 : g = wr.heap.size + 1 := h4.trans (by rw [hsz1])
                    omega
                rw [hsz1] at hr
                have Hr := Lib.hid hr
                have HS2 := Lib.hid st2
                have HO2 := Lib.hid ho3
                have HD2 := Lib.hid hd2
                clear hb3 hr st1 st2 h2 h2' h3 h4 h5 h6 hC1 hC3 ho1 ho2 ho3 hd2 hby hy0 hcnt hw0 hsz1
                go_wp2_with (at_builtin; refine list_app rfl (.tmp 43) (.tmp 45) 25 rfl rfl rfl Hr.out ?_)
                go_roundw
                case rel => exact ⟨j + 1, _, _, _, by go_num, by omega, HS2.out, (by rw [Htk.out]; exact HA2.out : AddOk _ _ _ _ _ _), HO2.out, HD2.out⟩
                case measure => simp [intOf]; omega
              · rw [hby] at cy
                have HA2 := Lib.hid (HA.out.skip (y : Int) (fun _ _ => by rw [Int.toNat_natCast]; exact hby))
                clear hby hy0
                go_wp2
                go_roundw
                case rel => exact ⟨j + 1, b2, td2, _, by go_num, by omega, HS.out, (by rw [Htk.out]; exact HA2.out : AddOk _ _ _ _ _ _), HO.out, HD.out⟩
                case measure => simp [intOf]; omega
            · have HA2 := Lib.hid (HA.out.skip (y : Int) (fun _ h => by omega))
              clear hy0
              go_wp2
              go_roundw
              case rel => exact ⟨j + 1, b2, td2, _, by go_num, by omega, HS.out, (by rw [Htk.out]; exact HA2.out : AddOk _ _ _ _ _ _), HO.out, HD.out⟩
              case measure => simp [intOf]; omega
          · have HA2 := Lib.hid (HA.out.skip y (fun h _ => by omega))
            have dy : decide (0 ≤ y) = false := by rw [decide_eq_false_iff_not]; exact hy0
            clear hy0
            go_wp2
            go_roundw
            case rel => exact ⟨j + 1, b2, td2, _, by go_num, by omega, HS.out, (by rw [Htk.out]; exact HA2.out : AddOk _ _ _ _ _ _), HO.out, HD.out⟩
            case measure => simp [intOf]; omega
        · have hje : j = s.length := by omega
          have ha := HA.out
          rw [hje, List.take_length] at ha
          have HA2 := Lib.hid ha
          clear ha hje
          go_wp2
          go_end0
          exact ⟨rfl, _, _, _, HS.out, HA2.out⟩
    · have hy : ysAt l i = [] := by unfold ysAt; rw [if_neg (by omega)]
      rw [hy]
      have d1 : decide ((l.length : Int) ≤ i) = true := by rw [decide_eq_true_iff]; omega
      clear hy
      go_enter Try.func49, Try.ntmps49
      go_wp2
      refine bodyPost_ret (results_none rfl _ _ _) rfl ?_
      exact ⟨rfl, b, td, ⟨v, Hst.out⟩, AddOk.refl _ _ _⟩
end Go.Proofs.Ytbkgnokoicmppaa
