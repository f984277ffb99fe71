/- Package alibiref03: Has, List, Mask; rising lists of ids. -/
import Derived.Test.YtbkgnokoicmppaaDoorReachPure
namespace Go.Proofs.YtbkgnokoicmppaaDoor
open Go.RowKit
set_option linter.unusedVariables false
set_option linter.unusedSimpArgs false

/-- The ids below n at which q holds, rising. -/
def idL (q : Nat → Bool) (n : Nat) : List Int := ((List.range n).filter q).map fun (i : Nat) => (i : Int)
theorem idL_zero (q : Nat → Bool) : idL q 0 = [] := rfl
theorem idL_succ (q : Nat → Bool) (n : Nat) : idL q (n + 1) = if q n = true then idL q n ++ [(n : Int)] else idL q n := by
  unfold idL
  rw [List.range_succ, List.filter_append, List.map_append]
  cases h : q n <;> simp [h]
theorem idL_length (q : Nat → Bool) (n : Nat) : (idL q n).length ≤ n := by
  unfold idL
  rw [List.length_map]
  exact Nat.le_trans (List.length_filter_le _ _) (by simp)
theorem mem_idL (q : Nat → Bool) (n : Nat) (x : Int) : x ∈ idL q n ↔ ∃ i : Nat, x = (i : Int) ∧ i < n ∧ q i = true := by
  unfold idL
  rw [List.mem_map]
  constructor
  · rintro ⟨i, hi, rfl⟩
    rw [List.mem_filter, List.mem_range] at hi
    exact ⟨i, rfl, hi.1, hi.2⟩
  · rintro ⟨i, rfl, h1, h2⟩
    exact ⟨i, by rw [List.mem_filter, List.mem_range]; exact ⟨h1, h2⟩, rfl⟩
def maskS : List Int → Nat
  | [] => 0
  | x :: l => 2 ^ x.toNat + maskS l
theorem maskS_nil : maskS [] = 0 := rfl
theorem maskS_cons (x : Int) (l : List Int) : maskS (x :: l) = 2 ^ x.toNat + maskS l := rfl
theorem maskS_append (xs ys : List Int) : maskS (xs ++ ys) = maskS xs + maskS ys := by
  induction xs with
  | nil => simp [maskS]
  | cons x l ih => rw [List.cons_append, maskS_cons, maskS_cons, ih, Nat.add_assoc]
def maskN (q : Nat → Bool) : Nat → Nat
  | 0 => 0
  | n + 1 => maskN q n + if q n = true then 2 ^ n else 0
theorem maskS_idL (q : Nat → Bool) (n : Nat) : maskS (idL q n) = maskN q n := by
  induction n with
  | zero => rfl
  | succ n ih =>
    rw [idL_succ]
    unfold maskN
    split
    · rw [maskS_append, ih]; simp [maskS]
    · rw [ih]; rfl
theorem maskN_lt (q : Nat → Bool) (n : Nat) : maskN q n < 2 ^ n := by
  induction n with
  | zero => simp [maskN]
  | succ n ih => unfold maskN; rw [Nat.pow_succ]; split <;> omega
theorem maskN_bit (q : Nat → Bool) (n i : Nat) : (maskN q n).testBit i = (decide (i < n) && q i) := by
  induction n with
  | zero => simp [maskN]
  | succ n ih =>
    have hlt := maskN_lt q n
    unfold maskN
    cases hq : q n
    · rw [if_neg (by simp), Nat.add_zero, ih]
      by_cases hi : i = n
      · subst hi; simp [hq]
      · have : decide (i < n) = decide (i < n + 1) := by rw [Bool.eq_iff_iff]; simp only [decide_eq_true_eq]; omega
        rw [this]
    · rw [if_pos rfl, show maskN q n + 2 ^ n = 2 ^ n * 1 + maskN q n by omega, Nat.testBit_two_pow_mul_add _ hlt]
      by_cases hi : i < n
      · rw [if_pos hi, ih]; simp [hi, show i < n + 1 by omega]
      · rw [if_neg hi]
        by_cases he : i = n
        · subst he; simp [hq]
        · obtain ⟨d, hd⟩ : ∃ d, i - n = d + 1 := ⟨i - n - 1, by omega⟩
          rw [hd, Nat.testBit_succ]
          simp [show ¬ i < n + 1 by omega]
theorem maskS_le (xs : List Int) (h : ∀ x ∈ xs, 0 ≤ x ∧ x < 32) : maskS xs ≤ xs.length * 2147483648 := by
  induction xs with
  | nil => simp [maskS]
  | cons x l ih =>
    rw [maskS_cons, List.length_cons]
    have h1 := h x List.mem_cons_self
    have h2 : 2 ^ x.toNat ≤ 2 ^ 31 := Nat.pow_le_pow_right (by omega) (by omega)
    have := ih (fun y hy => h y (List.mem_cons_of_mem _ hy))
    omega

set_option maxHeartbeats 1000000 in
set_option maxRecDepth 100000 in
theorem Has3_any (m : Nat) (hm : m < 4294967296) (x : Nat) (hx : x < 32) (w : World) :
    Calls Tryd.prog 26 #[.int .u32 m, .int .i64 x] w fun e w' => e = .returned (.bool (m.testBit x)) ∧ w = w' := by
  obtain ⟨R, hR⟩ : ∃ R, m.testBit x = R := ⟨_, rfl⟩
  rw [hR]
  rw [Nat.testBit_eq_decide_div_mod_eq] at hR
  have HR := Lib.hid hR
  clear hR
  go_enter Tryd.func26, Tryd.ntmps26
  go_wp2
  go_loopw [5, 6] (fun s y wr => ∃ (q i : Nat), y = .int .i64 i ∧ s = .int .u64 (q : Int) ∧ i ≤ x ∧ q < 4294967296 ∧ Hid (q = m / 2 ^ i) ∧ w = wr) (fun _ y _ => x - (intOf y).toNat)
  case atStart => exact ⟨m, 0, rfl, rfl, Nat.zero_le _, hm, by simp [Hid], rfl⟩
  case round =>
    obtain ⟨q, i, rfl, rfl, hi, hq, Hq, rfl⟩ := hrel
    by_cases hix : i < x
    · have hQ := Hq.out
      have hQ2 : q / 2 = m / 2 ^ (i + 1) := by rw [hQ, Nat.pow_succ, Nat.div_div_eq_div_mul]
      have HQ2 := Lib.hid hQ2
      clear hQ hQ2
      go_wp2
      go_roundw
      case rel => exact ⟨q / 2, i + 1, by go_num, by simp, by omega, by omega, HQ2.out, by first | rfl | trivial⟩
      case measure => simp [intOf]; omega
    · obtain rfl : i = x := by omega
      have hQ := HR.out
      rw [← Hq.out] at hQ
      have e : ((q : Int) % 2 == 1) = R := by
        rw [← hQ, Bool.eq_iff_iff]
        simp only [beq_iff_eq, decide_eq_true_eq]
        omega
      have E := Lib.hid e
      clear hQ e
      go_wp2
      go_ret
      exact ⟨by rw [← E.out]; rfl, rfl⟩

set_option maxHeartbeats 1000000 in
set_option maxRecDepth 100000 in
theorem List3_any (m : Nat) (hm : m < 4294967296) (w : World) :
    Calls Tryd.prog 14 #[.int .u32 m] w fun e w' => ∃ v, e = .returned v ∧ w'.ownsRow w.heap.size 3 1 v (idL m.testBit 32).length (ints (idL m.testBit 32)) ∧ Below w.heap.size w w' := by
  obtain ⟨q, hq⟩ : ∃ q, m.testBit = q := ⟨_, rfl⟩
  rw [hq]
  have Hh := Lib.hid (fun (i : Nat) (hi : i < 32) W => Has3_any m hm i hi W)
  have Hq := Lib.hid (fun i => congrFun hq i)
  clear hq
  go_enter Tryd.func14, Tryd.ntmps14
  go_wp2
  go_loopw [3, 4] (fun v x wr => ∃ (i : Nat), x = .int .i64 i ∧ i ≤ 32 ∧ Hid (wr.ownsRow w.heap.size 3 1 v (idL q i).length (ints (idL q i))) ∧ Hid (Below w.heap.size w wr)) (fun _ x _ => 32 - (intOf x).toNat)
  case atStart => exact ⟨0, rfl, Nat.zero_le _, World.ownsRow_nil _ _ _ _, Below.refl _ _⟩
  case round =>
    obtain ⟨i, rfl, hi, HO, HB⟩ := hrel
    by_cases hil : i < 32
    · have hh := Hh.out i hil wr
      rw [Hq.out i] at hh
      cases hqi : q i
      · rw [hqi] at hh
        have HH := Lib.hid hh
        have Hqi := Lib.hid hqi
        clear hh hqi
        go_wp2_with fail
        refine (HH.out).mono ?_
        rintro e w2 ⟨rfl, rfl⟩
        go_wp2
        go_roundw
        case rel => exact ⟨i + 1, by go_num, by omega, (by rw [idL_succ, Hqi.out, if_neg (by simp)]; exact HO.out : World.ownsRow _ _ _ _ _ _ _), HB.out⟩
        case measure => simp [intOf]; omega
      · rw [hqi] at hh
        have hlen := idL_length q i
        obtain ⟨g, cap, w2, hr, h2, h3, h4, h5, h6⟩ := app_run (ty := 34) Tryd.underlying34 info_int rfl (by decide) (by decide) wr (wr.alloc (.cells #[.int .i64 (i : Nat)] 3)) rfl rfl rfl rfl HO.out (news := [.int .i64 (i : Nat)]) rfl (by intro u hu; simp at hu; subst hu; rfl) (by omega) HB.out.size
        have hB2 : Below w.heap.size w w2 := h3.below HB.out HB.out.size (fun k hk => (own_lt' HO.out k hk).1)
        have Hr := Lib.hid hr
        have H2 := Lib.hid h2
        have HB2 := Lib.hid hB2
        have HH := Lib.hid hh
        have Hqi := Lib.hid hqi
        clear hh hqi hr h2 h3 h4 hB2 h5 h6
        go_wp2_with fail
        refine (HH.out).mono ?_
        rintro e w3 ⟨rfl, rfl⟩
        go_wp2_with (at_builtin; refine list_app rfl (.tmp 12) (.tmp 14) 34 rfl rfl rfl Hr.out ?_)
        go_roundw
        case rel => exact ⟨i + 1, by go_num, by omega, (by rw [idL_succ, Hqi.out, if_pos rfl, List.length_append, ints_append]; exact H2.out : World.ownsRow _ _ _ _ _ _ _), HB2.out⟩
        case measure => simp [intOf]; omega
    · obtain rfl : i = 32 := by omega
      go_wp2
      go_ret
      exact ⟨_, rfl, HO.out, HB.out⟩

set_option maxHeartbeats 1000000 in
set_option maxRecDepth 100000 in
theorem Mask_any (xs : List Int) (A : Option Addr) (c : Nat) (w : World) (hr : Rd w A (ints xs)) (hx : ∀ x ∈ xs, 0 ≤ x ∧ x < 32) (hl : xs.length ≤ 32) :
    Calls Tryd.prog 10 #[.slice A xs.length c] w fun e w' => e = .returned (.int .u32 ((maskS xs % 4294967296 : Nat) : Int)) ∧ w = w' := by
  obtain ⟨R, hR⟩ : ∃ R, maskS xs = R := ⟨_, rfl⟩
  have hRl := maskS_le xs hx
  rw [hR] at hRl ⊢
  have hRl : R ≤ 68719476736 := by omega
  have HR := Lib.hid hR
  have Hx := Lib.hid hx
  have Hrd := Lib.hid hr
  clear hR hx hr
  go_enter Tryd.func10, Tryd.ntmps10
  go_wp2
  go_loopw [3, 4] (fun s y wr => ∃ (m k : Nat), y = .int .i64 k ∧ s = .int .u64 (m : Int) ∧ k ≤ xs.length ∧ m ≤ R ∧ Hid (m + maskS (xs.drop k) = R) ∧ w = wr) (fun _ y _ => xs.length - (intOf y).toNat)
  case atStart => exact ⟨0, 0, rfl, rfl, Nat.zero_le _, Nat.zero_le _, by rw [Nat.zero_add]; exact HR.out, rfl⟩
  case round =>
    obtain ⟨m, k, rfl, rfl, hk, hm, HM, rfl⟩ := hrel
    by_cases hkl : k < xs.length
    · obtain ⟨b, o, rfl, hc⟩ := Hrd.out.at k (by rw [ints_length]; exact hkl)
      have hck := hc k _ (ints_get xs k hkl)
      have hx0 := Hx.out _ (getD_mem (z := 0) hkl)
      have hM := HM.out
      rw [drop_consI xs k hkl, maskS_cons] at hM
      obtain ⟨x, hxe⟩ := Int.eq_ofNat_of_zero_le hx0.1
      rw [hxe] at hck hx0 hM
      rw [Int.toNat_natCast] at hM
      have hx32 : x < 32 := by omega
      have HM2 := Lib.hid hM
      clear hc hM hxe hx0
      go_wp2
      go_loopw [5, 6] (fun s y wr => ∃ (q i : Nat), y = .int .i64 i ∧ s = .int .u64 (q : Int) ∧ i ≤ x ∧ Hid (q = 2 ^ i) ∧ w = wr) (fun _ y _ => x - (intOf y).toNat)
      case atStart => exact ⟨1, 0, rfl, rfl, Nat.zero_le _, rfl, rfl⟩
      case round =>
        obtain ⟨q, i, rfl, rfl, hi, Hq, rfl⟩ := hrel
        have hqb : q ≤ 2147483648 := by rw [Hq.out]; exact Nat.le_trans (Nat.pow_le_pow_right (by omega) (by omega : i ≤ 31)) (by decide)
        by_cases hix : i < x
        · have e : IntKind.u64.wrap ((q : Int) * 2) = ((q * 2 : Nat) : Int) := by rw [IntKind.wrap_u64]; omega
          have HQ2 := Lib.hid (show q * 2 = 2 ^ (i + 1) by rw [Nat.pow_succ, Hq.out])
          go_wp2
          go_roundw
          case rel => exact ⟨q * 2, i + 1, by go_num, by simp, by omega, HQ2.out, by first | rfl | trivial⟩
          case measure => simp [intOf]; omega
        · obtain rfl : i = x := by omega
          have hM := HM2.out
          rw [← Hq.out] at hM
          have e : IntKind.u64.wrap ((m : Int) + (q : Int)) = ((m + q : Nat) : Int) := by rw [IntKind.wrap_u64]; omega
          have HM3 := Lib.hid (show m + q + maskS (xs.drop (k + 1)) = R by omega)
          have hmq : m + q ≤ R := by omega
          clear hM
          go_wp2
          go_roundw
          case rel => exact ⟨m + q, k + 1, by go_num, by simp, by omega, hmq, HM3.out, by first | rfl | trivial⟩
          case measure => simp [intOf]; omega
    · have hke : k = xs.length := by omega
      have hM := HM.out
      rw [hke, List.drop_length, maskS_nil, Nat.add_zero] at hM
      subst hM
      have e : (m : Int) % 4294967296 = ((m % 4294967296 : Nat) : Int) := by omega
      have E := Lib.hid e
      clear e
      go_wp2
      go_ret
      exact ⟨by simp, rfl⟩
end Go.Proofs.YtbkgnokoicmppaaDoor
