/- Package sets: One, Has, Count, All, Within; sets as natural numbers below 2^32. -/
import Derived.Test.YtbkgnokoicmppaaData
import Derived.Laws.BitsAllLaws
namespace Go.Proofs.Ytbkgnokoicmppaa
open Go.RowKit
attribute [local go_sem] max2_i max_i2 min2_i min_i2
set_option linter.unusedVariables false
set_option linter.unusedSimpArgs false

/-- math/bits' table of how many bits the bytes have. -/
def popLit : ByteArray := { data := (([0, 1, 1, 2, 1, 2, 2, 3, 1, 2, 2, 3, 2, 3, 3, 4, 1, 2, 2, 3, 2, 3, 3, 4, 2, 3, 3, 4, 3, 4, 4, 5, 1, 2, 2, 3, 2, 3, 3, 4, 2, 3, 3, 4, 3, 4, 4, 5, 2, 3, 3, 4, 3, 4, 4, 5, 3, 4, 4, 5, 4, 5, 
  5, 6].append [1, 2, 2, 3, 2, 3, 3, 4, 2, 3, 3, 4, 3, 4, 4, 5, 2, 3, 3, 4, 3, 4, 4, 5, 3, 4, 4, 5, 4, 5, 5, 6, 2, 3, 3, 4, 3, 4, 4, 5, 3, 4, 4, 5, 4, 5, 5, 6, 3, 4, 4, 5, 4, 5, 5, 6, 4, 5, 5, 6, 5, 6, 
  6, 7]).append ([1, 2, 2, 3, 2, 3, 3, 4, 2, 3, 3, 4, 3, 4, 4, 5, 2, 3, 3, 4, 3, 4, 4, 5, 3, 4, 4, 5, 4, 5, 5, 6, 2, 3, 3, 4, 3, 4, 4, 5, 3, 4, 4, 5, 4, 5, 5, 6, 3, 4, 4, 5, 4, 5, 5, 6, 4, 5, 5, 6, 5, 
  6, 6, 7].append [2, 3, 3, 4, 3, 4, 4, 5, 3, 4, 4, 5, 4, 5, 5, 6, 3, 4, 4, 5, 4, 5, 5, 6, 4, 5, 5, 6, 5, 6, 6, 7, 3, 4, 4, 5, 4, 5, 5, 6, 4, 5, 5, 6, 5, 6, 6, 7, 4, 5, 5, 6, 5, 6, 6, 7, 5, 6, 6, 7, 6, 
  7, 7, 8])).toArray }
def pop8 (i : Nat) : Nat := (List.range 8).countP fun k => i.testBit k
theorem popLit_size : popLit.size = 256 := by decide +kernel
theorem popLit_get : ∀ i : Fin 256, (popLit.data[i.val]?.map (·.toNat)) = some (pop8 i.val) := by decide +kernel
def countF (m : Nat) : Nat := pop8 (m / 16777216) + pop8 (m / 65536 % 256) + pop8 (m / 256 % 256) + pop8 (m % 256)
theorem pop8_le (i : Nat) : pop8 i ≤ 8 := by unfold pop8; exact Nat.le_trans List.countP_le_length (by simp)

theorem index_T (T : ByteArray) (hT : T = popLit) (i : Nat) (hi : i < 256) (w : World) : (Instr.index 9 (.string T) (.int .u32 (i : Int))).run Try.prog w = .ok (.int .u8 ((pop8 i : Nat) : Int)) w := by
  subst hT
  have hs : popLit.data.size = 256 := popLit_size
  have hg := popLit_get ⟨i, hi⟩
  rw [run_index_string w 9 popLit .u32 i Try.underlying9, dif_pos ⟨by omega, by rw [popLit_size]; omega⟩]
  simp only [Int.toNat_natCast]
  rw [Array.getElem?_eq_getElem (by omega)] at hg
  simp only [Option.map_some, Option.some.injEq] at hg
  rw [← hg]
  rfl
set_option maxHeartbeats 1000000 in
set_option maxRecDepth 100000 in
theorem ones_any (m : Nat) (hm : m < 4294967296) (w : World) :
    Calls Try.prog 94 #[.int .u32 m] w fun e w' => e = .returned (.int .i64 (countF m)) ∧ Sm w w' := by
  go_enter Try.func94, Try.ntmps94
  have hT : popLit = popLit := rfl
  conv at hT => lhs; unfold popLit
  generalize ({ data := _ } : ByteArray) = T at hT
  have e1 : bits .and .u32 ((m : Int) / 65536) 255 = ((m / 65536 % 256 : Nat) : Int) := by
    have := u32_and_nat (m / 65536) 255 (by omega) (by omega)
    rw [show (255 : Nat) = 2 ^ 8 - 1 from rfl, Nat.and_two_pow_sub_one_eq_mod] at this
    simpa using this
  have e2 : bits .and .u32 ((m : Int) / 256) 255 = ((m / 256 % 256 : Nat) : Int) := by
    have := u32_and_nat (m / 256) 255 (by omega) (by omega)
    rw [show (255 : Nat) = 2 ^ 8 - 1 from rfl, Nat.and_two_pow_sub_one_eq_mod] at this
    simpa using this
  have e3 : bits .and .u32 (m : Int) 255 = ((m % 256 : Nat) : Int) := by
    have := u32_and_nat m 255 (by omega) (by omega)
    rw [show (255 : Nat) = 2 ^ 8 - 1 from rfl, Nat.and_two_pow_sub_one_eq_mod] at this
    simpa using this
  have i0 : ∀ w, (Instr.index 9 (.string T) (.int .u32 ((m : Int) / 16777216))).run Try.prog w = .ok (.int .u8 ((pop8 (m / 16777216) : Nat) : Int)) w := by
    have := index_T T hT (m / 16777216) (by omega)
    simpa using this
  have i1 := index_T T hT (m / 65536 % 256) (by omega)
  have i2 := index_T T hT (m / 256 % 256) (by omega)
  have i3 := index_T T hT (m % 256) (by omega)
  have b0 := pop8_le (m / 16777216)
  have b1 := pop8_le (m / 65536 % 256)
  have b2 := pop8_le (m / 256 % 256)
  have b3 := pop8_le (m % 256)
  unfold countF
  clear hT
  generalize pop8 (m / 16777216) = q0 at *
  generalize pop8 (m / 65536 % 256) = q1 at *
  generalize pop8 (m / 256 % 256) = q2 at *
  generalize pop8 (m % 256) = q3 at *
  generalize m / 65536 % 256 = j1 at *
  generalize m / 256 % 256 = j2 at *
  generalize m % 256 = j3 at *
  go_wp2
  go_quiet (fail)
  go_wp2
  go_ret
  exact ⟨by simp, Sm.drewN _ _⟩

theorem countF_le (m : Nat) : countF m ≤ 32 := by
  have b0 := pop8_le (m / 16777216)
  have b1 := pop8_le (m / 65536 % 256)
  have b2 := pop8_le (m / 256 % 256)
  have b3 := pop8_le (m % 256)
  unfold countF
  omega
theorem countF_zero (m : Nat) (hm : m < 4294967296) : countF m = 0 ↔ m = 0 := by
  have key : ∀ i : Nat, i < 256 → (pop8 i = 0 ↔ i = 0) := by
    have h : ∀ i : Fin 256, (pop8 i.val = 0 ↔ i.val = 0) := by decide +kernel
    exact fun i hi => h ⟨i, hi⟩
  have k0 := key (m / 16777216) (by omega)
  have k1 := key (m / 65536 % 256) (by omega)
  have k2 := key (m / 256 % 256) (by omega)
  have k3 := key (m % 256) (by omega)
  unfold countF
  omega

set_option maxHeartbeats 400000 in
set_option maxRecDepth 100000 in
theorem Count_any (m : Nat) (hm : m < 4294967296) (w : World) :
    Calls Try.prog 44 #[.int .u32 m] w fun e w' => e = .returned (.int .i64 (countF m)) ∧ Sm w w' := by
  have h := Lib.hid (ones_any m hm w)
  go_enter Try.func44, Try.ntmps44
  go_wp2_with fail
  refine (h.out).mono ?_
  rintro e w1 ⟨rfl, hS⟩
  go_wp2
  go_ret
  exact ⟨rfl, hS⟩

/-- The set of an id. -/
def oneF (x : Int) : Nat := if 0 ≤ x ∧ x < 32 then 2 ^ x.toNat else 0
theorem oneF_lt (x : Int) : oneF x < 4294967296 := by
  unfold oneF
  split
  · rename_i h
    have : 2 ^ x.toNat ≤ 2 ^ 31 := Nat.pow_le_pow_right (by omega) (by omega)
    omega
  · omega
set_option maxHeartbeats 400000 in
set_option maxRecDepth 100000 in
theorem One_any (x : Int) (w : World) : Calls Try.prog 62 #[.int .i64 x] w fun e w' => e = .returned (.int .u32 (oneF x : Nat)) ∧ w = w' := by
  by_cases h0 : 0 ≤ x
  · by_cases h1 : x < 32
    · have hl := oneF_lt x
      have e : oneF x = 2 ^ x.toNat := by unfold oneF; rw [if_pos ⟨h0, h1⟩]
      have e2 : (2 : Int) ^ x.toNat % 4294967296 = (oneF x : Nat) := by
        rw [e] at hl ⊢
        have h2 : ((2 ^ x.toNat % 4294967296 : Nat) : Int) = (2 : Int) ^ x.toNat % 4294967296 := by simp
        rw [← h2, Nat.mod_eq_of_lt hl]
      have E2 := Lib.hid e2
      clear e2 e
      go_enter Try.func62, Try.ntmps62
      go_wp2
      go_ret
      exact ⟨by rw [← E2.out]; rfl, rfl⟩
    · have e : oneF x = 0 := by unfold oneF; rw [if_neg (by omega)]
      rw [e]
      have d1 : decide (x < 0) = false := by rw [decide_eq_false_iff_not]; omega
      have d2 : decide (32 ≤ x) = true := by rw [decide_eq_true_iff]; omega
      go_enter Try.func62, Try.ntmps62
      go_wp2
      go_ret
      exact ⟨rfl, rfl⟩
  · have e : oneF x = 0 := by unfold oneF; rw [if_neg (by omega)]
    rw [e]
    have d1 : decide (x < 0) = true := by rw [decide_eq_true_iff]; omega
    go_enter Try.func62, Try.ntmps62
    go_wp2
    go_ret
    exact ⟨rfl, rfl⟩

/-- Is an id in a set? -/
def hasF (m : Nat) (x : Int) : Bool := decide (0 ≤ x) && decide (x < 32) && m.testBit x.toNat
theorem and_one (m : Nat) : m &&& 1 = m % 2 := Nat.and_one_is_mod m
set_option maxHeartbeats 400000 in
set_option maxRecDepth 100000 in
theorem Has_any (m : Nat) (hm : m < 4294967296) (x : Int) (w : World) : Calls Try.prog 48 #[.int .u32 m, .int .i64 x] w fun e w' => e = .returned (.bool (hasF m x)) ∧ w = w' := by
  by_cases h0 : 0 ≤ x
  · by_cases h1 : x < 32
    · have hd : (m / 2 ^ x.toNat) < 4294967296 := Nat.lt_of_le_of_lt (Nat.div_le_self _ _) hm
      have e2 : (bits .and .u32 ((m : Int) / 2 ^ x.toNat) 1 == 1) = hasF m x := by
        have e3 := u32_and_nat (m / 2 ^ x.toNat) 1 hd (by omega)
        rw [and_one] at e3
        have e4 : ((m / 2 ^ x.toNat : Nat) : Int) = (m : Int) / 2 ^ x.toNat := by simp
        rw [← e4, show (1 : Int) = ((1 : Nat) : Int) from rfl, e3]
        unfold hasF
        rw [decide_eq_true h0, decide_eq_true h1, Bool.true_and, Bool.true_and, Nat.testBit_eq_decide_div_mod_eq]
        rw [Bool.eq_iff_iff]
        simp only [beq_iff_eq, decide_eq_true_eq]
        omega
      have E2 := Lib.hid e2
      clear e2
      go_enter Try.func48, Try.ntmps48
      go_wp2
      go_ret
      exact ⟨by rw [← E2.out]; rfl, rfl⟩
    · have e : hasF m x = false := by unfold hasF; simp [h1]
      rw [e]
      have d2 : decide (x < 32) = false := by rw [decide_eq_false_iff_not]; omega
      go_enter Try.func48, Try.ntmps48
      go_wp2
      go_ret
      exact ⟨rfl, rfl⟩
  · have e : hasF m x = false := by unfold hasF; simp [h0]
    rw [e]
    have d2 : decide (0 ≤ x) = false := by rw [decide_eq_false_iff_not]; omega
    go_enter Try.func48, Try.ntmps48
    go_wp2
    go_ret
    exact ⟨rfl, rfl⟩
end Go.Proofs.Ytbkgnokoicmppaa
