/- math/bits.TrailingZeros32 over its table; package sets: Least, List, All. -/
import Derived.Test.YtbkgnokoicmppaaDoorGraphA
import Derived.Lib.TrailingZeros
namespace Go.Proofs.YtbkgnokoicmppaaDoor
open Go.RowKit
attribute [local go_sem] max2_i max_i2 min2_i min_i2
set_option linter.unusedVariables false
set_option linter.unusedSimpArgs false

/-- math/bits' table lies in its variable. -/
def Tab (w : World) : Prop := ∀ j, j < 32 → w.cell? ⟨0, j, none⟩ = some (.int .u8 (Lib.deBruijn32tab.getD j 0))
theorem Tab.lt {w : World} (h : Tab w) : 0 < w.heap.size := lt_of_cell (h 0 (by omega))
theorem Tab.below {w w' : World} (h : Tab w) (hb : Below w.heap.size w w') : Tab w' := fun j hj => below_cell hb (h j hj)
theorem tz_key (x a : Nat) (hx : x < 4294967296) (hx0 : x ≠ 0) (hlow : x &&& (4294967296 - x) = a) :
    bits BinOp.and IntKind.u32 (x : Int) (-(x : Int) % 4294967296) * 125613361 % 4294967296 / 134217728 = ((a * 125613361 % 4294967296 / 134217728 : Nat) : Int) := by
  have e1 : -(x : Int) % 4294967296 = ((4294967296 - x : Nat) : Int) := by omega
  rw [e1, u32_and_nat x _ hx (by omega), hlow]
  omega
set_option maxHeartbeats 1000000 in
set_option maxRecDepth 100000 in
theorem tz_core (x k idx : Nat) (w : World) (hx0 : ((x : Int) == 0) = false)
    (key : bits BinOp.and IntKind.u32 (x : Int) (-(x : Int) % 4294967296) * 125613361 % 4294967296 / 134217728 = (idx : Int))
    (hi : idx < 32) (hk : k < 32) (hcell : w.cell? ⟨0, idx, none⟩ = some (.int .u8 k)) :
    Calls Tryd.prog 55 #[.int .u32 x] w fun e w' => e = .returned (.int .i64 k) ∧ w = w' := by
  go_enter Tryd.func55, Tryd.ntmps55
  go_wp2_with (simp only [key])
  go_ret
  exact ⟨rfl, rfl⟩
theorem tz_any (x : Nat) (hx : x < 4294967296) (hx0 : x ≠ 0) (w : World) (hT : Tab w) :
    Calls Tryd.prog 55 #[.int .u32 x] w fun e w' => e = .returned (.int .i64 (Lib.ctz 32 x)) ∧ w = w' := by
  obtain ⟨hlow, hk⟩ := Lib.lowest_bit 32 x hx0 hx
  obtain ⟨hi, htab⟩ := Lib.deBruijn32_at _ hk
  have hcell := hT _ hi
  rw [htab] at hcell
  exact tz_core x _ _ w (by rw [beq_eq_false_iff_ne]; omega) (tz_key x _ hx hx0 hlow) hi hk hcell
set_option maxHeartbeats 1000000 in
set_option maxRecDepth 100000 in
theorem Least_any (x : Nat) (hx : x < 4294967296) (hx0 : x ≠ 0) (w : World) (hT : Tab w) :
    Calls Tryd.prog 44 #[.int .u32 x] w fun e w' => e = .returned (.int .i64 (Lib.ctz 32 x)) ∧ w = w' := by
  have h := Lib.hid (tz_any x hx hx0 w hT)
  have hb : ((x : Int) == 0) = false := by rw [beq_eq_false_iff_ne]; omega
  clear hT
  go_enter Tryd.func44, Tryd.ntmps44
  go_wp2_with fail
  refine (h.out).mono ?_
  rintro e w1 ⟨rfl, rfl⟩
  go_wp2
  go_ret
  exact ⟨rfl, rfl⟩

/-- The ids of a set, rising. -/
def listG : Nat → Nat → List Int
  | 0, _ => []
  | k + 1, m => if m = 0 then [] else (Lib.ctz 32 m : Int) :: listG k (m &&& (m - 1))
def listF (m : Nat) : List Int := listG (m + 1) m
theorem and_pred_lt (m : Nat) (h : m ≠ 0) : m &&& (m - 1) < m := by have : m &&& (m - 1) ≤ m - 1 := Nat.and_le_right; omega
theorem clear_low (m i : Nat) (h0 : m ≠ 0) (h : m < 4294967296) : (m &&& (m - 1)).testBit i = (m.testBit i && decide (i ≠ Lib.ctz 32 m)) := by
  have e : Lib.ctz 32 m = Lib.ctzFrom 32 m := by simp [Lib.ctz, h0]
  rw [e]
  obtain ⟨q, hq, hk⟩ := Lib.ctzFrom_spec 32 m (by omega) h
  generalize Lib.ctzFrom 32 m = k at hq hk
  have hp : 0 < 2 ^ k := Nat.two_pow_pos k
  have h1 : m = 2 ^ k * (2 * q + 1) + 0 := by omega
  have h2 : m - 1 = 2 ^ k * (2 * q) + (2 ^ k - 1) := by
    have : 2 ^ k * (2 * q + 1) = 2 ^ k * (2 * q) + 2 ^ k := by rw [Nat.mul_add, Nat.mul_one]
    omega
  have t1 : m.testBit i = if i < k then (0 : Nat).testBit i else (2 * q + 1).testBit (i - k) := by
    conv => lhs; rw [h1]
    exact Nat.testBit_two_pow_mul_add _ hp _
  have t2 : (m - 1).testBit i = if i < k then (2 ^ k - 1).testBit i else (2 * q).testBit (i - k) := by
    rw [h2]
    exact Nat.testBit_two_pow_mul_add _ (by omega) _
  rw [Nat.testBit_and, t1, t2]
  by_cases hik : i < k
  · simp [hik]
  · rw [if_neg hik, if_neg hik]
    by_cases hie : i = k
    · subst hie
      simp
    · obtain ⟨n, hn⟩ : ∃ n, i - k = n + 1 := ⟨i - k - 1, by omega⟩
      rw [hn, Nat.testBit_succ, Nat.testBit_succ]
      have e1 : (2 * q + 1) / 2 = q := by omega
      have e2 : 2 * q / 2 = q := by omega
      rw [e1, e2]
      simp [hie]
theorem low_bit (m : Nat) (h0 : m ≠ 0) (h : m < 4294967296) : m.testBit (Lib.ctz 32 m) = true ∧ Lib.ctz 32 m < 32 := by
  have e : Lib.ctz 32 m = Lib.ctzFrom 32 m := by simp [Lib.ctz, h0]
  rw [e]
  obtain ⟨q, hq, hk⟩ := Lib.ctzFrom_spec 32 m (by omega) h
  generalize Lib.ctzFrom 32 m = k at hq hk
  refine ⟨?_, hk⟩
  have h1 : m = 2 ^ k * (2 * q + 1) + 0 := by omega
  rw [h1, Nat.testBit_two_pow_mul_add _ (Nat.two_pow_pos k)]
  simp
theorem mem_listG : ∀ (k m : Nat), m < k → m < 4294967296 → ∀ x, x ∈ listG k m ↔ ∃ i : Nat, x = (i : Int) ∧ i < 32 ∧ m.testBit i = true := by
  intro k
  induction k with
  | zero => intro m h; omega
  | succ k ih =>
    intro m hk hm x
    unfold listG
    by_cases h0 : m = 0
    · subst h0; simp
    · rw [if_neg h0, List.mem_cons, ih _ (by have := and_pred_lt m h0; omega) (by have := and_pred_lt m h0; omega)]
      obtain ⟨lb, lk⟩ := low_bit m h0 hm
      constructor
      · rintro (rfl | ⟨i, rfl, hi, hb⟩)
        · exact ⟨_, rfl, lk, lb⟩
        · rw [clear_low m i h0 hm] at hb
          simp at hb
          exact ⟨i, rfl, hi, hb.1⟩
      · rintro ⟨i, rfl, hi, hb⟩
        by_cases he : i = Lib.ctz 32 m
        · left; rw [he]
        · right; exact ⟨i, rfl, hi, by rw [clear_low m i h0 hm]; simp [hb, he]⟩
theorem listG_length : ∀ (k m : Nat), (listG k m).length ≤ m := by
  intro k
  induction k with
  | zero => intro m; simp [listG]
  | succ k ih =>
    intro m
    unfold listG
    split
    · simp
    · rename_i h
      have := ih (m &&& (m - 1))
      have := and_pred_lt m h
      rw [List.length_cons]
      omega
theorem mem_listF (m : Nat) (hm : m < 4294967296) (x : Int) : x ∈ listF m ↔ ∃ i : Nat, x = (i : Int) ∧ i < 32 ∧ m.testBit i = true := mem_listG _ _ (by omega) hm x

set_option maxHeartbeats 1000000 in
set_option maxRecDepth 100000 in
theorem List_any (m0 : Nat) (hm0 : m0 < 4294967296) (w : World) (hT : Tab w) :
    Calls Tryd.prog 24 #[.int .u32 m0] w fun e w' => ∃ v, e = .returned v ∧ w'.ownsRow w.heap.size 3 1 v (listF m0).length (ints (listF m0)) ∧ Below w.heap.size w w' := by
  obtain ⟨X, hX⟩ : ∃ X, listF m0 = X := ⟨_, rfl⟩
  rw [hX]
  have HX := Lib.hid hX
  have HT := Lib.hid hT
  clear hX hT
  go_enter Tryd.func24, Tryd.ntmps24
  go_wp2
  go_loopw [0, 3] (fun s v wr => ∃ (m k : Nat) (out : List Int), s = .int .u32 (m : Int) ∧ m < 4294967296 ∧ m < k ∧ Hid (out ++ listG k m = X) ∧ out.length + m ≤ m0 ∧ Hid (wr.ownsRow w.heap.size 3 1 v out.length (ints out)) ∧ Hid (Below w.heap.size w wr)) (fun s _ _ => (intOf s).toNat)
  case atStart => exact ⟨m0, m0 + 1, [], rfl, hm0, by omega, HX.out, by simp, World.ownsRow_nil _ _ _ _, Below.refl _ _⟩
  case round =>
    obtain ⟨m, k, out, rfl, hm, hmk, HX, hol, HO, HB⟩ := hrel
    obtain ⟨k, rfl⟩ : ∃ j, k = j + 1 := ⟨k - 1, by omega⟩
    have hX := HX.out
    unfold listG at hX
    by_cases h0 : m = 0
    · subst h0
      rw [if_pos rfl, List.append_nil] at hX
      subst hX
      go_wp2
      go_ret
      exact ⟨_, rfl, HO.out, HB.out⟩
    · rw [if_neg h0] at hX
      have hb : ((m : Int) != 0) = true := by rw [bne_iff_ne]; omega
      have hle := Lib.hid (Least_any m hm h0 wr (HT.out.below HB.out))
      have hlt := and_pred_lt m h0
      have hand := u32_and_nat m (m - 1) hm (by omega)
      rw [show ((m - 1 : Nat) : Int) = (m : Int) - 1 by omega] at hand
      have hdec : out.length + 1 + (m &&& (m - 1)) ≤ m0 := by omega
      obtain ⟨g, cap, w2, hr, h2, h3, h4, h5, h6⟩ := app_run (ty := 34) Tryd.underlying34 info_int rfl (by decide) (by decide) wr (wr.alloc (.cells #[.int .i64 (Lib.ctz 32 m)] 3)) rfl rfl rfl rfl HO.out (news := [.int .i64 (Lib.ctz 32 m)]) rfl (by intro u hu; simp at hu; subst hu; rfl) (by omega) HB.out.size
      have hB2 : Below w.heap.size w w2 := h3.below HB.out HB.out.size (fun k hk => (own_lt' HO.out k hk).1)
      have Hr := Lib.hid hr
      have H2 := Lib.hid h2
      have HB2 := Lib.hid hB2
      have HX2 := Lib.hid hX
      have h0' : (0 : Int) ≤ (m : Int) - 1 := by omega
      clear hr h2 h3 h4 hB2 hX h5 h6
      go_wp2_with fail
      refine (hle.out).mono ?_
      rintro e w3 ⟨rfl, rfl⟩
      go_wp2_with (at_builtin; refine list_app rfl (.tmp 10) (.tmp 13) 34 rfl rfl rfl Hr.out ?_)
      go_roundw
      case rel => exact ⟨m &&& (m - 1), k, out ++ [(Lib.ctz 32 m : Int)], rfl, by omega, by omega, (by rw [List.append_assoc]; exact HX2.out : _ = X), by simp; omega, (by rw [List.length_append, ints_append]; exact H2.out : World.ownsRow _ _ _ _ _ _ _), HB2.out⟩
      case measure => simp [intOf]; omega

/-- The set of the first n ids. -/
def allF (n : Nat) : Nat := 2 ^ (min n 32) - 1
set_option maxHeartbeats 1000000 in
set_option maxRecDepth 100000 in
theorem All_any (n : Nat) (w : World) : Calls Tryd.prog 23 #[.int .i64 n] w fun e w' => e = .returned (.int .u32 (allF n : Nat)) ∧ w = w' := by
  have hp : 2 ^ (min n 32) ≤ 2 ^ 32 := Nat.pow_le_pow_right (by omega) (by omega)
  have hp0 : 0 < 2 ^ (min n 32) := Nat.two_pow_pos _
  have e : IntKind.u64.wrap (IntKind.u64.wrap (2 ^ (max (min (n : Int) 32) 0).toNat) - 1) % 4294967296 = ((allF n : Nat) : Int) := by
    rw [show (max (min (n : Int) 32) 0).toNat = min n 32 by omega]
    rw [show (2 : Int) ^ (min n 32) = ((2 ^ (min n 32) : Nat) : Int) by simp]
    unfold allF
    rw [IntKind.wrap_u64, IntKind.wrap_u64]
    generalize 2 ^ (min n 32) = q at hp hp0 ⊢
    omega
  have E := Lib.hid e
  clear e hp hp0
  go_enter Tryd.func23, Tryd.ntmps23
  go_wp2
  go_ret
  exact ⟨by rw [← E.out]; rfl, rfl⟩
theorem allF_lt (n : Nat) : allF n < 4294967296 := by
  have hp : 2 ^ (min n 32) ≤ 2 ^ 32 := Nat.pow_le_pow_right (by omega) (by omega)
  have hp0 : 0 < 2 ^ (min n 32) := Nat.two_pow_pos _
  unfold allF
  omega
theorem allF_bit (n i : Nat) : (allF n).testBit i = decide (i < min n 32) := by unfold allF; exact Nat.testBit_two_pow_sub_one _ _
end Go.Proofs.YtbkgnokoicmppaaDoor
