/- container/heap's four functions, over whatever receiver whose five methods keep a row of whole numbers. -/
import Derived.Test.YtbkgnokoicmppaaBase
namespace Go.Proofs.Ytbkgnokoicmppaa
open Go.RowKit

def Enters1 (f : FuncId) : Prop := ∀ (args : Array Value) (w : World), (callFunc f args).run Try.prog w = .ok (.enter f args) w
/-- A value of dynamic type T that keeps a row of whole numbers: I w Q xs says that it does, in the blocks Q; its methods Len, Less, Swap, Push, Pop are the functions f0 to f4. -/
structure HeapI (T : TypeId) (v : Value) (I : World → (Nat → Prop) → List Int → Prop) (f0 f1 f2 f3 f4 : FuncId) : Prop where
  e0 : Enters1 f0
  e1 : Enters1 f1
  e2 : Enters1 f2
  e3 : Enters1 f3
  e4 : Enters1 f4
  len : ∀ w Q xs, I w Q xs → ∃ r, (method 304 T v "Len").run Try.prog w = .ok (f0, r) w ∧ Calls Try.prog f0 #[r] w fun e w' => e = .returned (.int .i64 xs.length) ∧ w = w'
  less : ∀ w Q xs (i j : Int), I w Q xs → 0 ≤ i → i < xs.length → 0 ≤ j → j < xs.length → ∃ r, (method 304 T v "Less").run Try.prog w = .ok (f1, r) w ∧
    Calls Try.prog f1 #[r, .int .i64 i, .int .i64 j] w fun e w' => e = .returned (.bool (decide (xs.getD i.toNat 0 < xs.getD j.toNat 0))) ∧ Sm w w'
  swap : ∀ w Q xs (i j : Int), I w Q xs → 0 ≤ i → i < xs.length → 0 ≤ j → j < xs.length → ∃ r, (method 304 T v "Swap").run Try.prog w = .ok (f2, r) w ∧
    Calls Try.prog f2 #[r, .int .i64 i, .int .i64 j] w fun e w' => e = .returned (.tuple #[]) ∧ I w' Q (swp xs i.toNat j.toNat) ∧ Chg Q w w'
  push : ∀ w Q xs (x : Int), I w Q xs → xs.length < 1000000 → ∃ r, (method 304 T v "Push").run Try.prog w = .ok (f3, r) w ∧
    Calls Try.prog f3 #[r, .iface 3 (.int .i64 x)] w fun e w' => e = .returned (.tuple #[]) ∧ ∃ Q', I w' Q' (xs ++ [x]) ∧ Chg Q w w' ∧ ∀ k, Q' k → Q k ∨ w.heap.size ≤ k
  pop : ∀ w Q xs (h : xs ≠ []), I w Q xs → ∃ r, (method 304 T v "Pop").run Try.prog w = .ok (f4, r) w ∧
    Calls Try.prog f4 #[r] w fun e w' => e = .returned (.iface 3 (.int .i64 (xs.getLast h))) ∧ I w' Q xs.dropLast ∧ Chg Q w w'
  same : ∀ w w' Q xs, Sm w w' → I w Q xs → I w' Q xs
  small : ∀ w Q xs, I w Q xs → xs.length ≤ 17592186044416

section
variable {T : TypeId} {v : Value} {I : World → (Nat → Prop) → List Int → Prop} {f0 f1 f2 f3 f4 : FuncId}

set_option maxHeartbeats 1000000 in
set_option maxRecDepth 10000 in
theorem heap_up (H : HeapI T v I f0 f1 f2 f3 f4) (w : World) (Q : Nat → Prop) (xs : List Int) (j : Nat) (hI : I w Q xs) (hj : j < xs.length) :
    Calls Try.prog 95 #[.iface T v, .int .i64 j] w fun e w' => e = .returned (.tuple #[]) ∧ I w' Q (upF j xs j) ∧ Chg Q w w' := by
  have hsm := H.small _ _ _ hI
  obtain ⟨R, hR⟩ : ∃ R, R = upF j xs j := ⟨_, rfl⟩
  have HR := Lib.hid hR
  clear hR
  go_enter Try.func95, Try.ntmps95
  go_wp2
  go_loopw [1] (fun s wr => ∃ (n : Nat) (ys : List Int) (k : Nat), s = .int .i64 k ∧ k ≤ n ∧ k < ys.length ∧ ys.length ≤ 17592186044416 ∧ Hid (upF n ys k = R) ∧ Hid (I wr Q ys) ∧ Hid (Chg Q w wr)) (fun s _ => (intOf s).toNat)
  case atStart => exact ⟨j, xs, j, rfl, Nat.le_refl _, hj, hsm, HR.out.symm, hI, Chg.refl _ _⟩
  case round =>
    obtain ⟨n, ys, k, rfl, hkn, hk, hl, hR', hIw, hC⟩ := hrel
    by_cases h0 : k = 0
    · subst h0
      go_wp2
      go_end0
      have := hR'.out
      rw [upF_zero] at this
      exact ⟨rfl, by rw [← HR.out, ← this]; exact hIw.out, hC.out⟩
    · obtain ⟨m, rfl⟩ : ∃ m : Nat, k = m + 1 := ⟨k - 1, by omega⟩
      obtain ⟨n, rfl⟩ : ∃ m : Nat, n = m + 1 := ⟨n - 1, by omega⟩
      have en := H.e1
      have en2 := H.e2
      unfold Enters1 at en en2
      have hg : ((m : Int) / 2 == (m : Int) + 1) = false := by rw [beq_eq_false_iff_ne]; omega
      have t1 : ((m : Int) + 1).toNat = m + 1 := by omega
      have t2 : ((m : Int) / 2).toNat = m / 2 := by omega
      obtain ⟨r, hm, hc⟩ := H.less _ _ _ ((m : Int) + 1) ((m : Int) / 2) hIw.out (by omega) (by omega) (by omega) (by omega)
      rw [t1, t2] at hc
      have hstep := hR'.out
      unfold upF at hstep
      rw [if_neg (by omega), show m + 1 - 1 = m by omega] at hstep
      by_cases hlt : ys.getD (m + 1) 0 < ys.getD (m / 2) 0
      · rw [decide_eq_true hlt] at hc
        rw [if_pos hlt] at hstep
        have Hc := Lib.hid hc
        have Hs := Lib.hid hstep
        clear hc hstep hlt t1 t2
        go_wp2_with fail
        refine (Hc.out).mono ?_
        rintro e w1 ⟨rfl, hS⟩
        clear hm
        have hI2 := H.same _ _ _ _ hS hIw.out
        have HC2 := Lib.hid (hC.out.same hS)
        clear hS
        obtain ⟨r2, hm2, hc2⟩ := H.swap _ _ _ ((m : Int) / 2) ((m : Int) + 1) hI2 (by omega) (by omega) (by omega) (by omega)
        have Hc2 := Lib.hid hc2
        have HI2 := Lib.hid hI2
        clear hc2 hI2
        go_wp2_with fail
        refine (Hc2.out).mono ?_
        rintro e w2 ⟨rfl, hI3, hC3⟩
        have t1 : ((m : Int) + 1).toNat = m + 1 := by omega
        have t2 : ((m : Int) / 2).toNat = m / 2 := by omega
        rw [t1, t2] at hI3
        have HI3 := Lib.hid hI3
        have HC3 := Lib.hid hC3
        clear hI3 hC3 t1 t2 hm2
        go_wp2
        go_roundw
        case rel => exact ⟨n, _, m / 2, by go_num, by omega, by rw [swp_length]; omega, by rw [swp_length]; exact hl, Hs.out, HI3.out, HC2.out.trans HC3.out (fun _ _ h => h)⟩
        case measure => simp [intOf]; omega
      · rw [decide_eq_false hlt] at hc
        rw [if_neg hlt] at hstep
        have Hc := Lib.hid hc
        have Hs := Lib.hid hstep
        clear hc hstep hlt t1 t2
        go_wp2_with fail
        refine (Hc.out).mono ?_
        rintro e w1 ⟨rfl, hS⟩
        have HIw := Lib.hid (H.same _ _ _ _ hS hIw.out)
        have HC2 := Lib.hid (hC.out.same hS)
        clear hm hS
        go_wp2
        go_end0
        exact ⟨rfl, by rw [← HR.out, ← Hs.out]; exact HIw.out, HC2.out⟩

set_option maxHeartbeats 1000000 in
set_option maxRecDepth 10000 in
theorem heap_down (H : HeapI T v I f0 f1 f2 f3 f4) (w : World) (Q : Nat → Prop) (xs : List Int) (n : Nat) (hI : I w Q xs) (hn : n ≤ xs.length) (h1 : 0 < xs.length) :
    Calls Try.prog 96 #[.iface T v, .int .i64 0, .int .i64 n] w fun e w' => (∃ b, e = .returned (.bool b)) ∧ I w' Q (dnF xs.length xs 0 n) ∧ Chg Q w w' := by
  have hsm := H.small _ _ _ hI
  obtain ⟨R, hR⟩ : ∃ R, R = dnF xs.length xs 0 n := ⟨_, rfl⟩
  have HR := Lib.hid hR
  clear hR
  have en := H.e1
  have en2 := H.e2
  unfold Enters1 at en en2
  have En := Lib.hid en
  have En2 := Lib.hid en2
  clear en en2
  go_enter Try.func96, Try.ntmps96
  go_wp2
  go_loopw [7] (fun s wr => ∃ (f : Nat) (ys : List Int) (k : Nat), s = .int .i64 k ∧ n ≤ k + f ∧ k < ys.length ∧ n ≤ ys.length ∧ ys.length ≤ 17592186044416 ∧ Hid (dnF f ys k n = R) ∧ Hid (I wr Q ys) ∧ Hid (Chg Q w wr)) (fun s _ => n - (intOf s).toNat)
  case atStart => exact ⟨xs.length, xs, 0, rfl, by omega, h1, hn, hsm, HR.out.symm, hI, Chg.refl _ _⟩
  case round =>
    obtain ⟨f, ys, k, rfl, hf, hk, hny, hl, hR', hIw, hC⟩ := hrel
    by_cases hx : n ≤ 2 * k + 1
    · have hg : decide ((n : Int) ≤ 2 * (k : Int) + 1) = true := by rw [decide_eq_true_iff]; omega
      have hstep : ys = R := by
        have := hR'.out
        cases f with
        | zero => exact this
        | succ f => unfold dnF at this; rw [if_pos hx] at this; exact this
      have Hs := Lib.hid hstep
      clear hstep
      go_wp2
      go_ret
      exact ⟨⟨_, rfl⟩, by rw [← HR.out, ← Hs.out]; exact hIw.out, hC.out⟩
    · obtain ⟨f, rfl⟩ : ∃ m : Nat, f = m + 1 := ⟨f - 1, by omega⟩
      have hg1 : decide ((n : Int) ≤ 2 * (k : Int) + 1) = false := by rw [decide_eq_false_iff_not]; omega
      have hg2 : decide (2 * (k : Int) + 1 < 0) = false := by rw [decide_eq_false_iff_not]; omega
      have hstep := hR'.out
      unfold dnF at hstep
      rw [if_neg hx] at hstep
      have hkd : 2 * k + 2 < n ∧ ys.getD (2 * k + 2) 0 < ys.getD (2 * k + 1) 0 ∧ kid ys k n = 2 * k + 2 ∨ 2 * k + 2 < n ∧ ¬ ys.getD (2 * k + 2) 0 < ys.getD (2 * k + 1) 0 ∧ kid ys k n = 2 * k + 1 ∨ ¬ 2 * k + 2 < n ∧ kid ys k n = 2 * k + 1 := by
        unfold kid
        by_cases a1 : 2 * k + 2 < n
        · by_cases a2 : ys.getD (2 * k + 2) 0 < ys.getD (2 * k + 1) 0
          · left; exact ⟨a1, a2, by rw [if_pos a1, if_pos a2]⟩
          · right; left; exact ⟨a1, a2, by rw [if_pos a1, if_neg a2]⟩
        · right; right; exact ⟨a1, by rw [if_neg a1]⟩
      have Hs := Lib.hid hstep
      clear hstep
      obtain ⟨kd, hke⟩ : ∃ kd, kid ys k n = kd := ⟨_, rfl⟩
      have hkl : kd < n := hke ▸ kid_lt ys k n (by omega)
      have hkg : k < kd := hke ▸ kid_gt ys k n
      have Hke := Lib.hid hke
      rw [hke] at hkd
      clear hke
      have t2 : (2 * (k : Int) + 1 + 1).toNat = 2 * k + 2 := by omega
      have t1 : (2 * (k : Int) + 1).toNat = 2 * k + 1 := by omega
      rcases hkd with ⟨a1, a2, rfl⟩ | ⟨a1, a2, rfl⟩ | ⟨a1, rfl⟩
      · obtain ⟨r, hm, hc⟩ := H.less _ _ _ (2 * (k : Int) + 1 + 1) (2 * (k : Int) + 1) hIw.out (by omega) (by omega) (by omega) (by omega)
        rw [t2, t1, decide_eq_true a2] at hc
        have Hc := Lib.hid hc
        clear hc a2 t1 t2
        have hg3 : decide (2 * (k : Int) + 1 + 1 < (n : Int)) = true := by rw [decide_eq_true_iff]; omega
        have en := En.out
        go_wp2_with fail
        refine (Hc.out).mono ?_
        rintro e w1 ⟨rfl, hS⟩
        clear hm en hg3
        have HI2 := Lib.hid (H.same _ _ _ _ hS hIw.out)
        have HC2 := Lib.hid (hC.out.same hS)
        clear hS
        have Hkn := Lib.hid (show (2 * (k : Int) + 1 + 1).toNat = 2 * k + 2 by omega)
        obtain ⟨r, hm, hc⟩ := H.less _ _ _ (2 * (k : Int) + 1 + 1) (k : Int) HI2.out (by omega) (by omega) (by omega) (by omega)
        rw [Hkn.out, Int.toNat_natCast] at hc
        have en := En.out
        by_cases a3 : ys.getD (2 * k + 2) 0 < ys.getD k 0
        · rw [decide_eq_true a3] at hc
          have hs := Hs.out
          rw [Hke.out, if_pos a3] at hs
          have Hc := Lib.hid hc
          have Hs2 := Lib.hid hs
          clear hc hs a3
          go_wp2_with fail
          refine (Hc.out).mono ?_
          rintro e W2 ⟨rfl, hS2⟩
          have HS2 := Lib.hid hS2
          clear hS2
          clear hm en
          have HI3 := Lib.hid (H.same _ _ _ _ HS2.out HI2.out)
          obtain ⟨r2, hm2, hc2⟩ := H.swap _ _ _ (k : Int) (2 * (k : Int) + 1 + 1) HI3.out (by omega) (by omega) (by omega) (by omega)
          rw [Hkn.out, Int.toNat_natCast] at hc2
          have en2 := En2.out
          have Hc2 := Lib.hid hc2
          clear hc2
          go_wp2_with fail
          refine (Hc2.out).mono ?_
          rintro e w2 ⟨rfl, hI3, hC3⟩
          have HI4 := Lib.hid hI3
          have HC4 := Lib.hid hC3
          clear hI3 hC3 hm2 en2
          go_wp2
          go_roundw
          case rel => exact ⟨f, _, 2 * k + 2, by go_num, by omega, by rw [swp_length]; omega, by rw [swp_length]; exact hny, by rw [swp_length]; exact hl, Hs2.out, HI4.out, (HC2.out.same HS2.out).trans HC4.out (fun _ _ h => h)⟩
          case measure => simp [intOf]; omega
        · rw [decide_eq_false a3] at hc
          have hs := Hs.out
          rw [Hke.out, if_neg a3] at hs
          have Hc := Lib.hid hc
          have Hs2 := Lib.hid hs
          clear hc hs a3
          go_wp2_with fail
          refine (Hc.out).mono ?_
          rintro e W2 ⟨rfl, hS2⟩
          have HS2 := Lib.hid hS2
          clear hS2
          clear hm en
          go_wp2
          go_ret
          exact ⟨⟨_, rfl⟩, by rw [← HR.out, ← Hs2.out]; exact H.same _ _ _ _ HS2.out HI2.out, HC2.out.same HS2.out⟩
      · obtain ⟨r, hm, hc⟩ := H.less _ _ _ (2 * (k : Int) + 1 + 1) (2 * (k : Int) + 1) hIw.out (by omega) (by omega) (by omega) (by omega)
        rw [t2, t1, decide_eq_false a2] at hc
        have Hc := Lib.hid hc
        clear hc a2 t1 t2
        have hg3 : decide (2 * (k : Int) + 1 + 1 < (n : Int)) = true := by rw [decide_eq_true_iff]; omega
        have en := En.out
        go_wp2_with fail
        refine (Hc.out).mono ?_
        rintro e w1 ⟨rfl, hS⟩
        clear hm en hg3
        have HI2 := Lib.hid (H.same _ _ _ _ hS hIw.out)
        have HC2 := Lib.hid (hC.out.same hS)
        clear hS
        have Hkn := Lib.hid (show (2 * (k : Int) + 1).toNat = 2 * k + 1 by omega)
        obtain ⟨r, hm, hc⟩ := H.less _ _ _ (2 * (k : Int) + 1) (k : Int) HI2.out (by omega) (by omega) (by omega) (by omega)
        rw [Hkn.out, Int.toNat_natCast] at hc
        have en := En.out
        by_cases a3 : ys.getD (2 * k + 1) 0 < ys.getD k 0
        · rw [decide_eq_true a3] at hc
          have hs := Hs.out
          rw [Hke.out, if_pos a3] at hs
          have Hc := Lib.hid hc
          have Hs2 := Lib.hid hs
          clear hc hs a3
          go_wp2_with fail
          refine (Hc.out).mono ?_
          rintro e W2 ⟨rfl, hS2⟩
          have HS2 := Lib.hid hS2
          clear hS2
          clear hm en
          have HI3 := Lib.hid (H.same _ _ _ _ HS2.out HI2.out)
          obtain ⟨r2, hm2, hc2⟩ := H.swap _ _ _ (k : Int) (2 * (k : Int) + 1) HI3.out (by omega) (by omega) (by omega) (by omega)
          rw [Hkn.out, Int.toNat_natCast] at hc2
          have en2 := En2.out
          have Hc2 := Lib.hid hc2
          clear hc2
          go_wp2_with fail
          refine (Hc2.out).mono ?_
          rintro e w2 ⟨rfl, hI3, hC3⟩
          have HI4 := Lib.hid hI3
          have HC4 := Lib.hid hC3
          clear hI3 hC3 hm2 en2
          go_wp2
          go_roundw
          case rel => exact ⟨f, _, 2 * k + 1, by go_num, by omega, by rw [swp_length]; omega, by rw [swp_length]; exact hny, by rw [swp_length]; exact hl, Hs2.out, HI4.out, (HC2.out.same HS2.out).trans HC4.out (fun _ _ h => h)⟩
          case measure => simp [intOf]; omega
        · rw [decide_eq_false a3] at hc
          have hs := Hs.out
          rw [Hke.out, if_neg a3] at hs
          have Hc := Lib.hid hc
          have Hs2 := Lib.hid hs
          clear hc hs a3
          go_wp2_with fail
          refine (Hc.out).mono ?_
          rintro e W2 ⟨rfl, hS2⟩
          have HS2 := Lib.hid hS2
          clear hS2
          clear hm en
          go_wp2
          go_ret
          exact ⟨⟨_, rfl⟩, by rw [← HR.out, ← Hs2.out]; exact H.same _ _ _ _ HS2.out HI2.out, HC2.out.same HS2.out⟩
      · clear t1 t2
        have hg3 : decide (2 * (k : Int) + 1 + 1 < (n : Int)) = false := by rw [decide_eq_false_iff_not]; omega
        have HI2 := hIw
        have HC2 := hC
        have Hkn := Lib.hid (show (2 * (k : Int) + 1).toNat = 2 * k + 1 by omega)
        obtain ⟨r, hm, hc⟩ := H.less _ _ _ (2 * (k : Int) + 1) (k : Int) HI2.out (by omega) (by omega) (by omega) (by omega)
        rw [Hkn.out, Int.toNat_natCast] at hc
        have en := En.out
        by_cases a3 : ys.getD (2 * k + 1) 0 < ys.getD k 0
        · rw [decide_eq_true a3] at hc
          have hs := Hs.out
          rw [Hke.out, if_pos a3] at hs
          have Hc := Lib.hid hc
          have Hs2 := Lib.hid hs
          clear hc hs a3
          go_wp2_with fail
          refine (Hc.out).mono ?_
          rintro e W2 ⟨rfl, hS2⟩
          have HS2 := Lib.hid hS2
          clear hS2
          clear hm en
          have HI3 := Lib.hid (H.same _ _ _ _ HS2.out HI2.out)
          obtain ⟨r2, hm2, hc2⟩ := H.swap _ _ _ (k : Int) (2 * (k : Int) + 1) HI3.out (by omega) (by omega) (by omega) (by omega)
          rw [Hkn.out, Int.toNat_natCast] at hc2
          have en2 := En2.out
          have Hc2 := Lib.hid hc2
          clear hc2
          go_wp2_with fail
          refine (Hc2.out).mono ?_
          rintro e w2 ⟨rfl, hI3, hC3⟩
          have HI4 := Lib.hid hI3
          have HC4 := Lib.hid hC3
          clear hI3 hC3 hm2 en2
          go_wp2
          go_roundw
          case rel => exact ⟨f, _, 2 * k + 1, by go_num, by omega, by rw [swp_length]; omega, by rw [swp_length]; exact hny, by rw [swp_length]; exact hl, Hs2.out, HI4.out, (HC2.out.same HS2.out).trans HC4.out (fun _ _ h => h)⟩
          case measure => simp [intOf]; omega
        · rw [decide_eq_false a3] at hc
          have hs := Hs.out
          rw [Hke.out, if_neg a3] at hs
          have Hc := Lib.hid hc
          have Hs2 := Lib.hid hs
          clear hc hs a3
          go_wp2_with fail
          refine (Hc.out).mono ?_
          rintro e W2 ⟨rfl, hS2⟩
          have HS2 := Lib.hid hS2
          clear hS2
          clear hm en
          go_wp2
          go_ret
          exact ⟨⟨_, rfl⟩, by rw [← HR.out, ← Hs2.out]; exact H.same _ _ _ _ HS2.out HI2.out, HC2.out.same HS2.out⟩

set_option maxHeartbeats 1000000 in
set_option maxRecDepth 10000 in
theorem heap_Push (H : HeapI T v I f0 f1 f2 f3 f4) (w : World) (Q : Nat → Prop) (xs : List Int) (x : Int) (hI : I w Q xs) (hl : xs.length < 1000000) :
    Calls Try.prog 45 #[.iface T v, .iface 3 (.int .i64 x)] w fun e w' => e = .returned (.tuple #[]) ∧ ∃ Q', I w' Q' (pushF xs x) ∧ Chg Q w w' ∧ ∀ k, Q' k → Q k ∨ w.heap.size ≤ k := by
  have en0 := H.e0
  have en3 := H.e3
  unfold Enters1 at en0 en3
  obtain ⟨r, hm, hc⟩ := H.push _ _ _ x hI hl
  have Hc := Lib.hid hc
  clear hc
  go_enter Try.func45, Try.ntmps45
  go_wp2_with fail
  refine (Hc.out).mono ?_
  rintro e w1 ⟨rfl, Q', hI1, hC1, hQ1⟩
  obtain ⟨r2, hm2, hc2⟩ := H.len _ _ _ hI1
  rw [List.length_append, List.length_singleton] at hc2
  have Hc2 := Lib.hid hc2
  have HI1 := Lib.hid hI1
  have HC1 := Lib.hid hC1
  have HQ1 := Lib.hid hQ1
  clear hc2 hI1 hC1 hQ1 hm en3
  go_wp2_with fail
  refine (Hc2.out).mono ?_
  rintro e w2 ⟨rfl, rfl⟩
  have hu := heap_up H w1 Q' (xs ++ [x]) xs.length HI1.out (by simp)
  have Hu := Lib.hid hu
  clear hu hm2 en0
  go_wp2_with fail
  refine (Hu.out).mono ?_
  rintro e w3 ⟨rfl, hI3, hC3⟩
  have HI3 := Lib.hid hI3
  have HC3 := Lib.hid hC3
  clear hI3 hC3
  go_wp2
  go_end0
  exact ⟨rfl, Q', HI3.out, HC1.out.trans HC3.out (fun k hk hq => (HQ1.out k hq).resolve_right (by omega)), HQ1.out⟩

set_option maxHeartbeats 1000000 in
set_option maxRecDepth 10000 in
theorem heap_Pop (H : HeapI T v I f0 f1 f2 f3 f4) (w : World) (Q : Nat → Prop) (xs : List Int) (h : xs ≠ []) (hI : I w Q xs) :
    Calls Try.prog 47 #[.iface T v] w fun e w' => e = .returned (.iface 3 (.int .i64 ((popF xs).getLast (popF_ne xs h)))) ∧ I w' Q (popF xs).dropLast ∧ Chg Q w w' := by
  have hp : 0 < xs.length := List.length_pos_iff.2 h
  have hsm := H.small _ _ _ hI
  have en0 := H.e0
  have en2 := H.e2
  have en4 := H.e4
  unfold Enters1 at en0 en2 en4
  have En2 := Lib.hid en2
  have En4 := Lib.hid en4
  clear en2 en4
  obtain ⟨r, hm, hc⟩ := H.len _ _ _ hI
  have Hc := Lib.hid hc
  clear hc
  go_enter Try.func47, Try.ntmps47
  go_wp2_with fail
  refine (Hc.out).mono ?_
  rintro e w1 ⟨rfl, rfl⟩
  clear hm en0
  obtain ⟨n, hn⟩ : ∃ n, xs.length = n + 1 := ⟨xs.length - 1, by omega⟩
  obtain ⟨r2, hm2, hc2⟩ := H.swap _ _ _ 0 ((xs.length : Int) - 1) hI (by omega) (by omega) (by omega) (by omega)
  rw [show ((xs.length : Int) - 1).toNat = xs.length - 1 by omega, Int.toNat_zero] at hc2
  have Hc2 := Lib.hid hc2
  have Hn := Lib.hid hn
  clear hc2 hn
  have en2 := En2.out
  go_wp2_with fail
  refine (Hc2.out).mono ?_
  rintro e w2 ⟨rfl, hI3, hC3⟩
  have HI3 := Lib.hid hI3
  have HC3 := Lib.hid hC3
  have hu := heap_down H w2 Q (swp xs 0 (xs.length - 1)) (xs.length - 1) HI3.out (by rw [swp_length]; omega) (by rw [swp_length]; omega)
  rw [swp_length, show ((xs.length - 1 : Nat) : Int) = (xs.length : Int) - 1 by omega] at hu
  have Hu := Lib.hid hu
  clear hu hm2 en2 hI3 hC3
  go_wp2_with fail
  refine (Hu.out).mono ?_
  rintro e w3 ⟨⟨b, rfl⟩, hI4, hC4⟩
  obtain ⟨r4, hm4, hc4⟩ := H.pop _ _ _ (popF_ne xs h) hI4
  have Hc4 := Lib.hid hc4
  have HI4 := Lib.hid hI4
  have HC4 := Lib.hid hC4
  clear hc4 hI4 hC4
  have en4 := En4.out
  go_wp2_with fail
  refine (Hc4.out).mono ?_
  rintro e w4 ⟨rfl, hI5, hC5⟩
  have HI5 := Lib.hid hI5
  have HC5 := Lib.hid hC5
  clear hI5 hC5
  go_wp2
  go_ret
  exact ⟨rfl, HI5.out, (HC3.out.trans HC4.out (fun _ _ h => h)).trans HC5.out (fun _ _ h => h)⟩
end
end Go.Proofs.Ytbkgnokoicmppaa
