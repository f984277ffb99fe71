/- graph.Begun; alibiref06.Reach. -/
import Derived.Test.YtbkgnokoicmppaaDoorRef6
import Derived.Test.YtbkgnokoicmppaaDoorPgRound
namespace Go.Proofs.YtbkgnokoicmppaaDoor
open Go.RowKit
set_option linter.unusedVariables false
set_option linter.unusedSimpArgs false

def begunL : List (List Node) → Nat → Nat
  | [], m => m
  | l :: fs, m => begunL fs (m ||| namedF l 5)
theorem begunL_nil (m : Nat) : begunL [] m = m := rfl
theorem begunL_cons (l : List Node) (fs : List (List Node)) (m : Nat) : begunL (l :: fs) m = begunL fs (m ||| namedF l 5) := rfl
set_option maxHeartbeats 2000000 in
set_option maxRecDepth 100000 in
theorem Begun_any (p : Prg) (A : Option Addr) (c : Nat) (w : World) (hsz : p.sz) (hp : FuncsAt w A p.fs) :
    Calls Tryd.prog 12 #[prgV p A c] w fun e w' => e = .returned (.int .u32 (begunL p.fs 0 : Nat)) ∧ Below w.heap.size w w' := by
  obtain ⟨R, hR⟩ : ∃ R, begunL p.fs 0 = R := ⟨_, rfl⟩
  rw [hR]
  have HR := Lib.hid hR
  have hsz1 := hsz.1
  have Hsz := Lib.hid hsz
  have Hp := Lib.hid hp
  clear hsz hp hR
  unfold prgV
  go_enter Tryd.func12, Tryd.ntmps12
  go_wp2
  go_loopw [3, 9] (fun s x wr => ∃ (k m : Nat), x = .int .i64 k ∧ s = .int .u32 (m : Int) ∧ k ≤ p.fs.length ∧ m < 4294967296 ∧ Hid (begunL (p.fs.drop k) m = R) ∧ Hid (Below w.heap.size w wr)) (fun _ x _ => p.fs.length - (intOf x).toNat)
  case atStart => exact ⟨0, 0, rfl, rfl, Nat.zero_le _, by omega, HR.out, bel1 _ _⟩
  case round =>
    obtain ⟨k, m, rfl, rfl, hk, hm, HR, HB⟩ := hrel
    by_cases hkl : k < p.fs.length
    · obtain ⟨b, o, A', c', rfl, hc, _, hN⟩ := FuncsAt.at (Hp.out.below HB.out) k hkl
      obtain ⟨l, hl⟩ : ∃ l, p.fs.getD k [] = l := ⟨_, rfl⟩
      have hll : l.length ≤ 1000000 := hl ▸ Hsz.out.at k
      have hR := HR.out
      rw [drop_cons' _ _ hkl, hl, begunL_cons] at hR
      rw [hl] at hc hN
      have Hn := Lib.hid (named_any l A' c' 5 _ hll hN)
      have hnl := namedF_lt l 5
      obtain ⟨y, hy⟩ : ∃ y, namedF l 5 = y := ⟨_, rfl⟩
      rw [hy] at Hn hR hnl
      have hor := u32_or_nat m y hm hnl
      have hlt := or_lt _ _ hm hnl
      have HR2 := Lib.hid hR
      have Hlt := Lib.hid hlt
      clear hN hl hR hlt hy
      go_wp2_with fail
      refine (Hn.out).mono ?_
      rintro e w1 ⟨rfl, hb⟩
      have HB2 := Lib.hid (HB.out.trans (hb.mono HB.out.size))
      clear hb hc
      go_wp2
      go_roundw
      case rel => exact ⟨k + 1, m ||| y, by go_num, rfl, by omega, Hlt.out, HR2.out, HB2.out⟩
      case measure => simp [intOf]; omega
    · have hke : k = p.fs.length := by omega
      have hR := HR.out
      rw [hke, List.drop_length, begunL_nil] at hR
      subst hR
      go_wp2
      go_ret
      exact ⟨rfl, HB.out⟩

/-! alibiref06.Reach -/
def put6 (n : Nat) : List Int → List Bool → List Bool
  | [], b => b
  | x :: l, b => put6 n l (if x < n then b.set x.toNat true else b)
theorem put6_nil (n : Nat) (b : List Bool) : put6 n [] b = b := rfl
theorem put6_cons (n : Nat) (x : Int) (l : List Int) (b : List Bool) : put6 n (x :: l) b = put6 n l (if x < n then b.set x.toNat true else b) := rfl
def set6 (n f : Nat) : List Int → List Bool → List Bool
  | [], b => b
  | x :: l, b => set6 n f l (if b.getD f false = true ∧ x < n then b.set x.toNat true else b)
theorem set6_nil (n f : Nat) (b : List Bool) : set6 n f [] b = b := rfl
theorem set6_cons (n f : Nat) (x : Int) (l : List Int) (b : List Bool) : set6 n f (x :: l) b = set6 n f l (if b.getD f false = true ∧ x < n then b.set x.toNat true else b) := rfl
def row6 (n : Nat) (ids : Nat → List Int) : Nat → Nat → List Bool → List Bool
  | 0, _, b => b
  | k + 1, f, b => row6 n ids k (f + 1) (set6 n f (ids f) b)
theorem row6_zero (n : Nat) (ids : Nat → List Int) (f : Nat) (b : List Bool) : row6 n ids 0 f b = b := rfl
theorem row6_succ (n : Nat) (ids : Nat → List Int) (k f : Nat) (b : List Bool) : row6 n ids (k + 1) f b = row6 n ids k (f + 1) (set6 n f (ids f) b) := rfl
def rnd6 (n : Nat) (ids : Nat → List Int) : Nat → List Bool → List Bool
  | 0, b => b
  | k + 1, b => rnd6 n ids k (row6 n ids n 0 b)
theorem rnd6_zero (n : Nat) (ids : Nat → List Int) (b : List Bool) : rnd6 n ids 0 b = b := rfl
theorem rnd6_succ (n : Nat) (ids : Nat → List Int) (k : Nat) (b : List Bool) : rnd6 n ids (k + 1) b = rnd6 n ids k (row6 n ids n 0 b) := rfl
def ids6 (p : Prg) (f : Nat) : List Int := idL (named6 (p.fs.getD f []) 7) 32
def reach6 (p : Prg) (xs : List Int) : List Bool := rnd6 p.fs.length (ids6 p) p.fs.length (put6 p.fs.length xs (List.replicate p.fs.length false))

/-- The row of bools and the program's box, while Reach runs. -/
structure St6 (p : Prg) (A : Option Addr) (c : Nat) (w : World) (b : List Bool) (wr : World) : Prop where
  row : wr.heap[w.heap.size + 1]? = some (.cells (bools b).toArray 4 (0, 0))
  box : wr.heap[w.heap.size]? = some (prgB p A c)
  bel : Below w.heap.size w wr
  len : b.length = p.fs.length
theorem St6.below {p : Prg} {A : Option Addr} {c : Nat} {w : World} {b : List Bool} {wr w' : World} (h : St6 p A c w b wr) (hb : Below wr.heap.size wr w') : St6 p A c w b w' :=
  ⟨below_blk hb h.row, below_blk hb h.box, h.bel.trans (hb.mono h.bel.size), h.len⟩
theorem St6.lt {p : Prg} {A : Option Addr} {c : Nat} {w : World} {b : List Bool} {wr : World} (h : St6 p A c w b wr) : w.heap.size + 1 < wr.heap.size := (Array.getElem?_eq_some_iff.1 h.row).1
theorem St6.set {p : Prg} {A : Option Addr} {c : Nat} {w : World} {b : List Bool} {wr : World} (h : St6 p A c w b wr) (i : Nat) : St6 p A c w (b.set i true) (wr.setCell ⟨w.heap.size + 1, i, none⟩ (.bool true)) := by
  have hC := Chg.of_setCell wr ⟨w.heap.size + 1, i, none⟩ (.bool true)
  have hlt := h.lt
  refine ⟨?_, (hC.block _ (by omega) (by show ¬ _ = w.heap.size + 1; omega)).trans h.box, hC.below h.bel h.bel.size (fun k hk => by rw [hk]; show w.heap.size ≤ w.heap.size + 1; omega), by simpa using h.len⟩
  have := blk_set h.row i (.bool true)
  rw [← bools_set] at this
  exact this
theorem St6.cell {p : Prg} {A : Option Addr} {c : Nat} {w : World} {b : List Bool} {wr : World} (h : St6 p A c w b wr) (i : Nat) (hi : i < p.fs.length) : wr.cell? ⟨w.heap.size + 1, i, none⟩ = some (.bool (b.getD i false)) := by
  rw [cell_blk h.row]; simpa using bools_get b i (by rw [h.len]; exact hi)
theorem St6.frozen {p : Prg} {A : Option Addr} {c : Nat} {w : World} {b : List Bool} {wr : World} (h : St6 p A c w b wr) (i : Nat) : wr.frozen? ⟨w.heap.size + 1, i, none⟩ = false := frozen_blk h.row i
theorem St6.p3 {p : Prg} {A : Option Addr} {c : Nat} {w : World} {b : List Bool} {wr : World} (h : St6 p A c w b wr) : wr.cell? ⟨w.heap.size, 3, none⟩ = some (.slice A p.fs.length c) := by
  have := h.box
  unfold prgB at this
  rw [cell_blk this]; rfl

set_option maxHeartbeats 4000000 in
set_option maxRecDepth 100000 in
theorem Reach6_any (p : Prg) (A : Option Addr) (c : Nat) (xs : List Int) (Ax : Option Addr) (cx : Nat) (w : World) (hsz : p.sz) (h32 : p.fs.length ≤ 32) (hp : FuncsAt w A p.fs) (hr : Rd w Ax (ints xs)) (hx : ∀ x ∈ xs, 0 ≤ x ∧ x < 32) (hxl : xs.length ≤ 32) :
    Calls Tryd.prog 13 #[prgV p A c, .slice Ax xs.length cx] w fun e w' => ∃ v, e = .returned v ∧
      w'.ownsRow w.heap.size 3 1 v (idL (fun i => (reach6 p xs).getD i false) p.fs.length).length (ints (idL (fun i => (reach6 p xs).getD i false) p.fs.length)) ∧ Below w.heap.size w w' := by
  obtain ⟨R, hR⟩ : ∃ R, reach6 p xs = R := ⟨_, rfl⟩
  rw [hR]
  obtain ⟨q, hq⟩ : ∃ q, (fun i => R.getD i false) = q := ⟨_, rfl⟩
  rw [hq]
  obtain ⟨L, hL⟩ : ∃ L, idL q p.fs.length = L := ⟨_, rfl⟩
  rw [hL]
  have Hq := Lib.hid (fun i => congrFun hq i)
  have HL := Lib.hid hL
  clear hq hL
  unfold reach6 at hR
  obtain ⟨M, hM⟩ : ∃ M, put6 p.fs.length xs (List.replicate p.fs.length false) = M := ⟨_, rfl⟩
  rw [hM] at hR
  have Hnm := Lib.hid (fun l (hl : l.length ≤ 1000000) A' c' W (hN : NodesAt W A' l) => Named6_any l A' c' 7 W hl hN)
  have hst0 : ∀ W, Sm ((w.alloc (prgB p A c)).alloc (.cells (madeCells #[.bool false] p.fs.length) 4)) W → St6 p A c w (List.replicate p.fs.length false) W := by
    intro W hS
    refine ⟨?_, ?_, ((bel1 _ _).alloc (by simp) _).trans hS.below, by simp⟩
    · rw [hS.heap]
      have e : (bools (List.replicate p.fs.length false)).toArray = madeCells #[.bool false] p.fs.length := by rw [toList_made]; simp [bools]
      rw [e, show w.heap.size + 1 = (w.alloc (prgB p A c)).heap.size by simp]
      exact blk_new _ _
    · rw [hS.heap]
      exact blk_alloc' (blk_new _ _) _
  have hmk : ∀ W, (Instr.makeSlice 41 (.int .i64 (p.fs.length : Int)) (.int .i64 (p.fs.length : Int))).run Tryd.prog W = .ok (.slice (some ⟨W.heap.size, 0, none⟩) p.fs.length p.fs.length) (W.alloc (.cells (madeCells #[.bool false] p.fs.length) 4)) :=
    fun W => run_make_row' 41 4 (.bool false) 1 Tryd.underlying41 info_bool rfl .i64 .i64 p.fs.length (by omega) (by omega) W
  have Hmk := Lib.hid hmk
  have Hst0 := Lib.hid hst0
  have HR := Lib.hid hR
  have HM := Lib.hid hM
  have Hsz := Lib.hid hsz
  have Hp := Lib.hid hp
  have Hrd := Lib.hid hr
  have Hx := Lib.hid hx
  have Hids := Lib.hid (show ∀ f, ids6 p f = idL (named6 (p.fs.getD f []) 7) 32 from fun _ => rfl)
  clear hR hM hsz hp hr hx hst0 hmk
  unfold prgV prgB at *
  have hmk := Hmk.out
  go_enter Tryd.func13, Tryd.ntmps13
  go_wp2
  clear hmk
  go_loopw [7] (fun x wr => ∃ (k : Nat) (b : List Bool), x = .int .i64 k ∧ k ≤ xs.length ∧ Hid (put6 p.fs.length (xs.drop k) b = M) ∧ Hid (St6 p A c w b wr)) (fun x _ => xs.length - (intOf x).toNat)
  case atStart => exact ⟨0, _, rfl, Nat.zero_le _, HM.out, Hst0.out _ ⟨rfl, rfl, rfl, rfl⟩⟩
  case round =>
    obtain ⟨k, b, rfl, hk, Hb, HS⟩ := hrel
    by_cases hkl : k < xs.length
    · obtain ⟨bx, ox, rfl, hc⟩ := (Hrd.out.below HS.out.bel).at k (by rw [ints_length]; exact hkl)
      have hck := hc k _ (ints_get xs k hkl)
      have hx0 := Hx.out _ (getD_mem (z := 0) hkl)
      have hb := Hb.out
      rw [drop_consI xs k hkl, put6_cons] at hb
      obtain ⟨x, hxe⟩ := Int.eq_ofNat_of_zero_le hx0.1
      rw [hxe] at hck hx0 hb
      rw [Int.toNat_natCast] at hb
      by_cases hxn : x < p.fs.length
      · rw [if_pos (by omega)] at hb
        have hfr := HS.out.frozen x
        have hcl := HS.out.cell x hxn
        have HS2 := Lib.hid (HS.out.set x)
        have Hb2 := Lib.hid hb
        clear hc hb hxe
        go_wp2
        go_roundw
        case rel => exact ⟨k + 1, _, by go_num, by omega, Hb2.out, HS2.out⟩
        case measure => simp [intOf]; omega
      · rw [if_neg (by omega)] at hb
        have Hb2 := Lib.hid hb
        clear hc hb hxe
        go_wp2
        go_roundw
        case rel => exact ⟨k + 1, _, by go_num, by omega, Hb2.out, HS.out⟩
        case measure => simp [intOf]; omega
    · have hke : k = xs.length := by omega
      have hb := Hb.out
      rw [hke, List.drop_length, put6_nil] at hb
      subst hb
      clear hke hk
      have HS0 := HS
      clear HS Hst0 Hmk
      obtain ⟨n, hn⟩ : ∃ n, p.fs.length = n := ⟨_, rfl⟩
      have Hn := Lib.hid hn
      have HR2 := HR.out
      rw [hn] at HR2
      have HR2 := Lib.hid HR2
      rw [hn] at h32
      go_wp2
      rw [hn]
      clear hn
      go_loopw [8] (fun x wr => ∃ (r : Nat) (b : List Bool), x = .int .i64 r ∧ r ≤ n ∧ Hid (rnd6 n (ids6 p) (n - r) b = R) ∧ Hid (St6 p A c w b wr)) (fun x _ => n - (intOf x).toNat)
      case atStart => exact ⟨0, _, rfl, Nat.zero_le _, HR2.out, HS0.out⟩
      case round =>
        obtain ⟨r, b1, rfl, hr, Hb1, HS1⟩ := hrel
        by_cases hrn : r < n
        · have hb1 := Hb1.out
          obtain ⟨d, hd⟩ : ∃ d, n - r = d + 1 := ⟨n - r - 1, by omega⟩
          rw [hd, rnd6_succ] at hb1
          obtain ⟨N1, hN1⟩ : ∃ N1, row6 n (ids6 p) n 0 b1 = N1 := ⟨_, rfl⟩
          rw [hN1] at hb1
          have HN1 := Lib.hid hN1
          have Hb2 := Lib.hid (show rnd6 n (ids6 p) (n - (r + 1)) N1 = R by rw [show n - (r + 1) = d by omega]; exact hb1)
          clear hb1 hN1 hd
          go_wp2
          go_loopw [9] (fun x wr => ∃ (f : Nat) (b : List Bool), x = .int .i64 f ∧ f ≤ n ∧ Hid (row6 n (ids6 p) (n - f) f b = N1) ∧ Hid (St6 p A c w b wr)) (fun x _ => n - (intOf x).toNat)
          case atStart => exact ⟨0, b1, rfl, Nat.zero_le _, HN1.out, HS1.out⟩
          case round =>
            obtain ⟨f, b2, rfl, hf, Hb3, HS2⟩ := hrel
            obtain ⟨wm, rfl⟩ : ∃ wm : World, wm = wr := ⟨_, rfl⟩
            by_cases hfn : f < n
            · have hb3 := Hb3.out
              obtain ⟨d, hd⟩ : ∃ d, n - f = d + 1 := ⟨n - f - 1, by omega⟩
              rw [hd, row6_succ] at hb3
              obtain ⟨l, hl⟩ : ∃ l, ids6 p f = l := ⟨_, rfl⟩
              rw [hl] at hb3
              obtain ⟨N2, hN2⟩ : ∃ N2, set6 n f l b2 = N2 := ⟨_, rfl⟩
              rw [hN2] at hb3
              have HN2 := Lib.hid hN2
              have Hb4 := Lib.hid (show row6 n (ids6 p) (n - (f + 1)) (f + 1) N2 = N1 by rw [show n - (f + 1) = d by omega]; exact hb3)
              obtain ⟨bf, off, A', c', hAe, hcf, _, hNf⟩ := FuncsAt.at (Hp.out.below HS2.out.bel) f (by rw [Hn.out]; exact hfn)
              have hp3 := HS2.out.p3
              rw [hAe, Hn.out] at hp3
              obtain ⟨g, hg⟩ : ∃ g, p.fs.getD f [] = g := ⟨_, rfl⟩
              rw [hg] at hcf hNf
              have hnm := Hnm.out g (hg ▸ Hsz.out.at f) A' c' wm hNf
              have hll := Hids.out f
              rw [hl, hg] at hll
              rw [← hll] at hnm
              have hlm : ∀ x ∈ l, ∃ i : Nat, x = (i : Int) ∧ i < 32 := by
                intro x hx
                rw [hll, mem_idL] at hx
                obtain ⟨i, rfl, h, _⟩ := hx
                exact ⟨i, rfl, h⟩
              have hl32 : l.length ≤ 32 := by rw [hll]; exact idL_length _ _
              have Hnm2 := Lib.hid hnm
              have Hlm := Lib.hid hlm
              have HAe := Lib.hid hAe
              clear hb3 hd hl hN2 hNf hg hnm hll hlm hAe
              go_wp2_with fail
              refine (Hnm2.out).mono ?_
              rintro e wo ⟨vl, rfl, hol, hbo⟩
              obtain ⟨Al, cl, rfl⟩ := own_form' hol
              have hlt := HS2.out.lt
              have HS3 := Lib.hid (HS2.out.below hbo)
              have HOl := Lib.hid hol
              clear hol hbo hp3 hcf Hnm2
              go_wp2
              go_loopw [11] (fun x wq => ∃ (k : Nat) (b : List Bool), x = .int .i64 k ∧ k ≤ l.length ∧ Hid (set6 n f (l.drop k) b = N2) ∧ Hid (St6 p A c w b wq) ∧ Hid (wq.ownsRow wm.heap.size 3 1 (.slice Al l.length cl) l.length (ints l))) (fun x _ => l.length - (intOf x).toNat)
              case atStart => exact ⟨0, b2, rfl, Nat.zero_le _, HN2.out, HS3.out, HOl.out⟩
              case round =>
                obtain ⟨k2, b3, rfl, hk2, Hb5, HS4, HO4⟩ := hrel
                by_cases hkl2 : k2 < l.length
                · obtain ⟨gl, capl, hgl, _⟩ := HO4.out.form (by omega)
                  injection hgl with hg1 hg2 hg3
                  subst hg1 hg3
                  obtain ⟨i, hi, hi32⟩ := Hlm.out (l.getD k2 0) (getD_mem hkl2)
                  have hcl : wr.cell? ⟨gl, k2, none⟩ = some (.int .i64 (i : Int)) := by
                    have h1 := (HO4.out.cellAt k2 (by omega)).trans (ints_get l k2 hkl2)
                    rw [hi] at h1
                    exact h1
                  have hgl := (own_lt' HO4.out gl rfl).1
                  have hb5 := Hb5.out
                  rw [drop_consI l k2 hkl2, hi, set6_cons, Int.toNat_natCast] at hb5
                  have hcf := HS4.out.cell f (by rw [Hn.out]; exact hfn)
                  cases hbf : b3.getD f false
                  · rw [hbf, if_neg (by simp)] at hb5
                    rw [hbf] at hcf
                    have Hb6 := Lib.hid hb5
                    clear hb5 hi hbf
                    go_wp2
                    go_roundw
                    case rel => exact ⟨k2 + 1, b3, by go_num, by omega, Hb6.out, HS4.out, HO4.out⟩
                    case measure => simp [intOf]; omega
                  · rw [hbf] at hcf
                    by_cases hin : i < n
                    · rw [hbf, if_pos ⟨rfl, by omega⟩] at hb5
                      have hfr := HS4.out.frozen i
                      have hci := HS4.out.cell i (by rw [Hn.out]; exact hin)
                      have Hb6 := Lib.hid hb5
                      have HS5 := Lib.hid (HS4.out.set i)
                      have HO5 := Lib.hid (own_chg HO4.out (Chg.of_setCell wr ⟨w.heap.size + 1, i, none⟩ (.bool true)) (fun k hk => by
                        have := (own_lt' HO4.out k hk).1
                        show ¬ k = w.heap.size + 1
                        omega))
                      clear hb5 hi hbf
                      go_wp2
                      go_roundw
                      case rel => exact ⟨k2 + 1, _, by go_num, by omega, Hb6.out, HS5.out, HO5.out⟩
                      case measure => simp [intOf]; omega
                    · rw [if_neg (by rintro ⟨_, h⟩; omega)] at hb5
                      have Hb6 := Lib.hid hb5
                      clear hb5 hi hbf
                      go_wp2
                      go_roundw
                      case rel => exact ⟨k2 + 1, b3, by go_num, by omega, Hb6.out, HS4.out, HO4.out⟩
                      case measure => simp [intOf]; omega
                · have hke : k2 = l.length := by omega
                  have hb5 := Hb5.out
                  rw [hke, List.drop_length, set6_nil] at hb5
                  subst hb5
                  clear hke
                  go_wp2
                  go_roundw
                  case rel => exact ⟨f + 1, _, by go_num, by omega, Hb4.out, HS4.out⟩
                  case measure => simp [intOf]; omega
            · have hfe : n - f = 0 := by omega
              have hb3 := Hb3.out
              rw [hfe, row6_zero] at hb3
              subst hb3
              go_wp2
              go_roundw
              case rel => exact ⟨r + 1, _, by go_num, by omega, Hb2.out, HS2.out⟩
              case measure => simp [intOf]; omega
        · have hre : n - r = 0 := by omega
          have hb1 := Hb1.out
          rw [hre, rnd6_zero] at hb1
          subst hb1
          obtain ⟨wz, rfl⟩ : ∃ wz : World, wz = wr := ⟨_, rfl⟩
          have hlt1 := HS1.out.lt
          have HB1 := Lib.hid HS1.out.bel
          go_wp2
          go_loopw [12, 13] (fun v x wq => ∃ (i : Nat), x = .int .i64 i ∧ i ≤ n ∧ Hid (wq.ownsRow wz.heap.size 3 1 v (idL q i).length (ints (idL q i))) ∧ Hid (Below wz.heap.size wz wq)) (fun _ x _ => n - (intOf x).toNat)
          case atStart => exact ⟨0, rfl, Nat.zero_le _, World.ownsRow_nil _ _ _ _, Below.refl _ _⟩
          case round =>
            obtain ⟨i, rfl, hi, HO, HB⟩ := hrel
            by_cases hil : i < n
            · have hcf := (HS1.out.below HB.out).cell i (by rw [Hn.out]; exact hil)
              have hqi := Hq.out i
              rw [hqi] at hcf
              have h32i : decide ((i : Int) < 32) = true := by rw [decide_eq_true_iff]; omega
              cases hqb : q i
              · rw [hqb] at hcf
                have Hqf := Lib.hid (show idL q (i + 1) = idL q i by rw [idL_succ, hqb, if_neg (by simp)])
                clear hqb hqi
                go_wp2
                go_roundw
                case rel => exact ⟨i + 1, by go_num, by omega, (by rw [Hqf.out]; exact HO.out : World.ownsRow _ _ _ _ _ _ _), HB.out⟩
                case measure => simp [intOf]; omega
              · rw [hqb] at hcf
                have Hqf := Lib.hid (show idL q (i + 1) = idL q i ++ [(i : Int)] by rw [idL_succ, hqb, if_pos rfl])
                have hlen := idL_length q i
                obtain ⟨g, cap, w2, hr, h2, h3, h4, h5, h6⟩ := app_run (ty := 34) Tryd.underlying34 info_int rfl (by decide) (by decide) wr (wr.alloc (.cells #[.int .i64 (i : Nat)] 3)) rfl rfl rfl rfl HO.out (news := [.int .i64 (i : Nat)]) rfl (by intro u hu; simp at hu; subst hu; rfl) (by omega) HB.out.size
                have hB2 : Below wz.heap.size wz w2 := h3.below HB.out HB.out.size (fun k hk => (own_lt' HO.out k hk).1)
                have Hrn := Lib.hid hr
                have H2 := Lib.hid h2
                have HB2 := Lib.hid hB2
                clear hr h2 h3 h4 hB2 h5 h6 hqb hqi
                go_wp2_with (at_builtin; refine list_app rfl (.tmp 90) (.tmp 92) 34 rfl rfl rfl Hrn.out ?_)
                go_roundw
                case rel => exact ⟨i + 1, by go_num, by omega, (by rw [Hqf.out, List.length_append, ints_append]; exact H2.out : World.ownsRow _ _ _ _ _ _ _), HB2.out⟩
                case measure => simp [intOf]; omega
            · obtain rfl : i = n := by omega
              have HF := Lib.hid (HB1.out.trans (HB.out.mono HB1.out.size))
              have hO2 := own_lower HO.out HB1.out.size
              have hL := HL.out
              rw [Hn.out] at hL
              rw [hL] at hO2
              have HOF := Lib.hid hO2
              clear hL hO2
              go_wp2
              go_ret
              exact ⟨_, rfl, HOF.out, HF.out⟩
end Go.Proofs.YtbkgnokoicmppaaDoor
