/- prog.reaches: a function that calls itself and writes into a row of bools. -/
import Derived.Test.YtbkgnokoicmppaaPgMay
namespace Go.Proofs.Ytbkgnokoicmppaa
open Go.RowKit
set_option linter.unusedVariables false
set_option linter.unusedSimpArgs false

/-- All calls name functions that there are. -/
def Prg.calls (p : Prg) : Prop := ∀ i j : Nat, i < p.fs.length → j < (p.fs.getD i []).length → ((p.fs.getD i []).getD j zNode).kind = 7 → 0 ≤ ((p.fs.getD i []).getD j zNode).arg ∧ ((p.fs.getD i []).getD j zNode).arg < p.fs.length


set_option maxHeartbeats 2000000 in
set_option maxRecDepth 100000 in
theorem reaches_any (p : Prg) (A : Option Addr) (c : Nat) (tgt : Nat) (g : Nat) (w0 : World) (hsz : p.sz) (hcl : p.calls) (hp : FuncsAt w0 A p.fs) (hg : w0.heap.size ≤ g) :
    ∀ (n : Nat) (fr : Nat) (s : List Bool) (w : World), Below w0.heap.size w0 w → w.heap[g]? = some (.cells (bools s).toArray 4 (0, 0)) → s.length = p.fs.length → fr < p.fs.length → s.count false < n →
    Calls Try.prog 120 #[prgV p A c, .int .i64 fr, .int .i64 tgt, .slice (some ⟨g, 0, none⟩) p.fs.length p.fs.length] w fun e w' => e = .returned (.bool (reachF n p tgt fr s).1) ∧
      w'.heap[g]? = some (.cells (bools (reachF n p tgt fr s).2).toArray 4 (0, 0)) ∧ Chg (fun k => k = g) w w' := by
  intro n
  induction n with
  | zero => intro fr s w _ _ _ _ h; omega
  | succ n ih =>
    intro fr s w hB hgb hs hfr hn
    have hsz1 := hsz.1
    obtain ⟨R, hR⟩ : ∃ R, R = reachF (n + 1) p tgt fr s := ⟨_, rfl⟩
    rw [← hR]
    unfold reachF at hR
    have hgl : g < w.heap.size := (Array.getElem?_eq_some_iff.1 hgb).1
    unfold prgV at *
    by_cases h1 : fr = tgt
    · rw [if_pos h1] at hR
      subst hR
      subst h1
      go_enter Try.func120, Try.ntmps120
      go_wp2
      go_ret
      exact ⟨rfl, blk_alloc' hgb _, Chg.of_alloc _ _ _⟩
    rw [if_neg h1] at hR
    have h1b : ((fr : Int) == (tgt : Int)) = false := by rw [beq_eq_false_iff_ne]; omega
    have hcf : w.cell? ⟨g, fr, none⟩ = some (.bool (s.getD fr false)) := by rw [cell_blk hgb]; simpa using bools_get s fr (by omega)
    have hff : w.frozen? ⟨g, fr, none⟩ = false := frozen_blk hgb fr
    by_cases h2 : s.getD fr false = true
    · rw [if_pos h2] at hR
      rw [h2] at hcf
      subst hR
      clear ih h1 h2
      go_enter Try.func120, Try.ntmps120
      go_wp2
      go_ret
      exact ⟨rfl, blk_alloc' hgb _, Chg.of_alloc _ _ _⟩
    · rw [if_neg h2] at hR
      rw [Bool.eq_false_iff.mpr h2] at hcf
      obtain ⟨l, hl⟩ : ∃ l, p.fs.getD fr [] = l := ⟨_, rfl⟩
      have hll : l.length ≤ 1000000 := hl ▸ hsz.at fr
      obtain ⟨b, o, A', c', rfl, hc, hc', hN⟩ := FuncsAt.at (hp.below hB) fr hfr
      have hN0 : NodesAt w0 A' l := by
        obtain ⟨b2, o2, A2, c2, e2, hc2, _, hN2⟩ := FuncsAt.at hp fr hfr
        injection e2 with e2
        injection e2 with e3 e4
        subst e3 e4
        have := hB.cell (p := ⟨b, o + fr, none⟩) (lt_of_cell hc2)
        rw [hc, hc2] at this
        injection this with this
        injection this with e5
        rw [← hl, e5]
        exact hN2
      rw [hl] at hR hc
      have hbl : b ≠ g := by
        intro e
        subst e
        rw [hl] at hN
        have h3 : w.cell? ⟨b, o + fr, none⟩ = (bools s).toArray[o + fr]? := cell_blk hgb _
        rw [hc] at h3
        have h4 := h3.symm
        simp [bools] at h4
      have hcS : (w.setCell ⟨g, fr, none⟩ (.bool true)).cell? ⟨b, o + fr, none⟩ = some (.slice A' l.length c') :=
        ((Chg.of_setCell w ⟨g, fr, none⟩ (.bool true)).cell (a := ⟨b, o + fr, none⟩) (lt_of_cell hc) hbl).trans hc
      have hbw : b < w.heap.size := lt_of_cell hc
      have hcA : ∀ o1, ((w.setCell ⟨g, fr, none⟩ (.bool true)).alloc o1).cell? ⟨b, o + fr, none⟩ = some (.slice A' l.length c') := fun o1 => (World.cell?_of_block (Below.heap_alloc _ o1 b (by simpa [World.setCell] using hbw))).trans hcS
      have hgS := blk_set hgb fr (.bool true)
      rw [← bools_set] at hgS
      have hCS : Chg (fun k => k = g) w (w.setCell ⟨g, fr, none⟩ (.bool true)) := Chg.of_setCell w ⟨g, fr, none⟩ (.bool true)
      have hszS : (w.setCell ⟨g, fr, none⟩ (.bool true)).heap.size = w.heap.size := by simp [World.setCell]
      have hcnt : (s.set fr true).count false < n := by have := count_set_lt s fr (by omega) (Bool.eq_false_iff.mpr h2); omega
      have hsS : (s.set fr true).length = p.fs.length := by simpa using hs
      generalize hss : s.set fr true = s' at *
      have HR := Lib.hid hR
      have HB := Lib.hid hB
      have HN := Lib.hid hN0
      have Hcl := Lib.hid hcl
      have Hih := Lib.hid ih
      have Hl := Lib.hid hl
      have HgS := Lib.hid hgS
      have HCS := Lib.hid hCS
      have HsS := Lib.hid hszS
      have Hsl := Lib.hid hsS
      clear hR hB hgb hN hN0 hcl ih hl h1 h2 hp hsz hgS hCS hszS hs hss hc hsS hc' hbl hn
      go_enter Try.func120, Try.ntmps120
      go_wp2
      go_loopw [27] (fun x wr => ∃ (k : Nat) (ss : List Bool), x = .int .i64 k ∧ k ≤ l.length ∧ Hid (ss.length = p.fs.length) ∧ ss.count false < n ∧ Hid (reachL (reachF n p tgt) (l.drop k) ss = R) ∧ Hid (wr.heap[g]? = some (.cells (bools ss).toArray 4 (0, 0))) ∧
        Hid (wr.heap[w.heap.size]? = some (prgB p (some ⟨b, o, none⟩) c)) ∧ Hid (Chg (fun k => k = g) w wr)) (fun x _ => l.length - (intOf x).toNat)
      case atStart => exact ⟨0, s', rfl, Nat.zero_le _, Hsl, hcnt, HR.out.symm, blk_alloc' HgS.out _, by rw [← HsS.out]; exact blk_new _ _, HCS.out.trans (Chg.of_alloc (fun k => k = g) _ _) (fun _ _ h => h)⟩
      case round =>
        obtain ⟨k, ss, rfl, hk, Hss, hcnt, HR, Hg, Hbx, HC⟩ := hrel
        have hBr : Below w0.heap.size w0 wr := HC.out.below HB.out HB.out.size (fun k hk => hk ▸ hg)
        by_cases hkl : k < l.length
        · obtain ⟨b', o', rfl, k0, k1, k2, k3⟩ := NodesAt.at (Rd.below HN.out hBr) k hkl
          obtain ⟨x, hx⟩ : ∃ x, l.getD k zNode = x := ⟨_, rfl⟩
          rw [hx] at k0 k1 k2 k3
          have hR := HR.out
          rw [drop_cons l k hkl, hx] at hR
          unfold reachL at hR
          by_cases h7 : x.kind = 7
          · rw [if_pos h7] at hR
            rw [h7] at k0
            have hca := Hcl.out fr k hfr (by rw [Hl.out]; exact hkl) (by rw [Hl.out, hx]; exact h7)
            rw [Hl.out, hx] at hca
            obtain ⟨a, ha⟩ := Int.eq_ofNat_of_zero_le hca.1
            rw [ha] at k1 hR hca
            rw [Int.toNat_natCast] at hR
            have hbx := Hbx.out
            unfold prgB at hbx
            have hlt : w.heap.size < wr.heap.size := (Array.getElem?_eq_some_iff.1 hbx).1
            have p0 : wr.cell? ⟨w.heap.size, 0, none⟩ = some (.int .i64 p.g) := by rw [cell_blk hbx]; rfl
            have p1 : wr.cell? ⟨w.heap.size, 1, none⟩ = some (.int .i64 p.l) := by rw [cell_blk hbx]; rfl
            have p2 : wr.cell? ⟨w.heap.size, 2, none⟩ = some (.int .i64 p.s) := by rw [cell_blk hbx]; rfl
            have p3 : wr.cell? ⟨w.heap.size, 3, none⟩ = some (.slice (some ⟨b, o, none⟩) p.fs.length c) := by rw [cell_blk hbx]; rfl
            have hih := Hih.out a ss (wr.alloc (.cells #[.int .i64 7, .int .i64 a, .int .i64 x.next, .int .i64 x.alt] 34)) (hBr.alloc hBr.size _) (blk_alloc' Hg.out _) Hss.out (by omega) hcnt
            have hmo := reachF_mono n p tgt a ss
            obtain ⟨⟨rb, rs⟩, hrr⟩ : ∃ r, reachF n p tgt a ss = r := ⟨_, rfl⟩
            rw [hrr] at hih hR hmo
            have Hi := Lib.hid hih
            have Hm := Lib.hid hmo
            clear hih hrr hx ha hmo hbx
            cases rb
            · rw [if_neg (by simp)] at hR
              have HR2 := Lib.hid hR
              clear hR
              go_wp2_with fail
              refine (Hi.out).mono ?_
              rintro e w2 ⟨rfl, hg2, hC2⟩
              have hCa : Chg (fun k => k = g) w w2 := (HC.out.trans (Chg.of_alloc (fun k => k = g) _ _) (fun _ _ h => h)).trans hC2 (fun _ _ h => h)
              have hbx2 : w2.heap[w.heap.size]? = some (prgB p (some ⟨b, o, none⟩) c) := (hC2.block _ (by have := HC.out.size; simp; omega) (by have := hg; have := HB.out.size; omega)).trans (blk_alloc' Hbx.out _)
              have Hg2 := Lib.hid hg2
              have HCa := Lib.hid hCa
              have Hbx2 := Lib.hid hbx2
              clear hg2 hC2 hCa hbx2 p0 p1 p2 p3 k0 k1 k2 k3
              go_wp2
              go_roundw
              case rel => exact ⟨k + 1, rs, by go_num, by omega, Hm.out.1.trans Hss.out, by have := Hm.out.2; omega, HR2.out, Hg2.out, Hbx2.out, HCa.out⟩
              case measure => simp [intOf]; omega
            · rw [if_pos rfl] at hR
              have HR2 := Lib.hid hR
              clear hR
              go_wp2_with fail
              refine (Hi.out).mono ?_
              rintro e w2 ⟨rfl, hg2, hC2⟩
              have hCa : Chg (fun k => k = g) w w2 := (HC.out.trans (Chg.of_alloc (fun k => k = g) _ _) (fun _ _ h => h)).trans hC2 (fun _ _ h => h)
              have Hg2 := Lib.hid hg2
              have HCa := Lib.hid hCa
              clear hg2 hC2 hCa p0 p1 p2 p3 k0 k1 k2 k3
              go_wp2
              go_ret
              rw [← HR2.out]
              exact ⟨rfl, Hg2.out, HCa.out⟩
          · rw [if_neg h7] at hR
            have HR2 := Lib.hid hR
            have h7b : (x.kind == 7) = false := by rw [beq_eq_false_iff_ne]; exact h7
            clear hR hx h7
            go_wp2
            go_roundw
            case rel => exact ⟨k + 1, ss, by go_num, by omega, Hss.out, hcnt, HR2.out, blk_alloc' Hg.out _, blk_alloc' Hbx.out _, HC.out.trans (Chg.of_alloc (fun k => k = g) _ _) (fun _ _ h => h)⟩
            case measure => simp [intOf]; omega
        · have hke : k = l.length := by omega
          subst hke
          have hR := HR.out
          rw [List.drop_length] at hR
          unfold reachL at hR
          have HR2 := Lib.hid hR
          clear hR
          go_wp2
          go_ret
          rw [← HR2.out]
          exact ⟨rfl, Hg.out, HC.out⟩
end Go.Proofs.Ytbkgnokoicmppaa
