/- graph.Reach: the walk. -/
import Derived.Test.YtbkgnokoicmppaaDoorSetsD
namespace Go.Proofs.YtbkgnokoicmppaaDoor
open Go.RowKit
set_option linter.unusedVariables false
set_option linter.unusedSimpArgs false

def orL (cs : List Nat) (a : Nat) : List Int → Nat → Nat
  | [], m => m
  | f :: l, m => orL cs a l (m ||| (cs.getD f.toNat 0 &&& a))
theorem orL_nil (cs : List Nat) (a m : Nat) : orL cs a [] m = m := rfl
theorem orL_cons (cs : List Nat) (a : Nat) (f : Int) (l : List Int) (m : Nat) : orL cs a (f :: l) m = orL cs a l (m ||| (cs.getD f.toNat 0 &&& a)) := rfl
def reachG : Nat → List Nat → Nat → Nat → Nat
  | 0, _, _, m => m
  | k + 1, cs, a, m => if orL cs a (listF m) m = m then m else reachG k cs a (orL cs a (listF m) m)
def reachM (cs : List Nat) (m : Nat) : Nat := reachG (allF cs.length + 1) cs (allF cs.length) (m &&& allF cs.length)
theorem and_sub_or (m c a : Nat) (h : m &&& a = m) : (m ||| (c &&& a)) &&& a = m ||| (c &&& a) := by
  rw [Nat.and_or_distrib_right, h, Nat.and_assoc, Nat.and_self]
theorem orL_sub (cs : List Nat) (a : Nat) : ∀ (l : List Int) (m : Nat), m &&& a = m → orL cs a l m &&& a = orL cs a l m := by
  intro l
  induction l with
  | nil => intro m h; exact h
  | cons f l ih => intro m h; exact ih _ (and_sub_or m _ a h)
theorem orL_ge (cs : List Nat) (a : Nat) : ∀ (l : List Int) (m : Nat), m ≤ orL cs a l m := by
  intro l
  induction l with
  | nil => intro m; exact Nat.le_refl _
  | cons f l ih => intro m; exact Nat.le_trans Nat.left_le_or (ih _)
theorem sub_le (m a : Nat) (h : m &&& a = m) : m ≤ a := by rw [← h]; exact Nat.and_le_right
theorem drop_consI (l : List Int) (k : Nat) (h : k < l.length) : l.drop k = l.getD k 0 :: l.drop (k + 1) := by
  rw [List.drop_eq_getElem_cons h, List.getD_eq_getElem?_getD, List.getElem?_eq_getElem h]; rfl
theorem calleesF_lt (p : Prg) (i : Nat) : (calleesF p).getD i 0 < 4294967296 := by
  rcases Nat.lt_or_ge i (calleesF p).length with h | h
  · rw [List.getD_eq_getElem?_getD, List.getElem?_eq_getElem h]
    simp only [calleesF, List.getElem_map, Option.getD_some]
    exact namedF_lt _ _
  · rw [List.getD_eq_getElem?_getD, List.getElem?_eq_none h]; decide

set_option maxHeartbeats 4000000 in
set_option maxRecDepth 100000 in
theorem Reach_any (p : Prg) (A : Option Addr) (c : Nat) (m0 : Nat) (hm0 : m0 < 4294967296) (w : World) (hsz : p.sz) (hp : FuncsAt w A p.fs) (hT : Tab w) :
    Calls Tryd.prog 8 #[prgV p A c, .int .u32 m0] w fun e w' => e = .returned (.int .u32 (reachM (calleesF p) m0 : Nat)) ∧ Below w.heap.size w w' := by
  obtain ⟨R, hR⟩ : ∃ R, reachM (calleesF p) m0 = R := ⟨_, rfl⟩
  rw [hR]
  unfold reachM at hR
  have hcl := Lib.hid (Callees_any p A c (w.alloc (prgB p A c)) hsz (hp.below (bel1 _ _)))
  have hlc : (calleesF p).length = p.fs.length := calleesF_length p
  have hm32 := Lib.hid (calleesF_lt p)
  rw [hlc] at hR
  have hsz1 := hsz.1
  have HT := Lib.hid hT
  unfold prgV prgB at *
  clear hp hsz hT
  go_enter Tryd.func8, Tryd.ntmps8
  go_wp2_with fail
  refine (hcl.out).mono ?_
  rintro e w1 ⟨vc, rfl, ho, hb⟩
  have hB1 := (bel1 _ _).trans (hb.mono (by simp))
  obtain ⟨cs, hcs⟩ : ∃ cs, calleesF p = cs := ⟨_, rfl⟩
  obtain ⟨n, hn⟩ : ∃ n, p.fs.length = n := ⟨_, rfl⟩
  rw [hcs] at ho hlc hm32 hR
  rw [hn] at ho hlc hR hsz1
  obtain ⟨a, ha⟩ : ∃ a, allF n = a := ⟨_, rfl⟩
  have hal : a < 4294967296 := ha ▸ allF_lt n
  rw [ha] at hR
  obtain ⟨Ac, cc, rfl⟩ := own_form' ho
  have hAll := fun W => All_any n W
  rw [ha] at hAll
  have hab : ∀ i : Nat, a.testBit i = true → i < n := by
    intro i h
    rw [← ha, allF_bit] at h
    simp at h
    omega
  have HO := Lib.hid ho
  have HB1 := Lib.hid hB1
  have HR := Lib.hid hR
  have HAll := Lib.hid hAll
  have Hab := Lib.hid hab
  have Hlc := Lib.hid hlc
  have hand := u32_and_nat m0 a hm0 hal
  have hfa : (m0 &&& a) < 4294967296 := Nat.lt_of_le_of_lt Nat.and_le_left hm0
  have hfs := Lib.hid (show (m0 &&& a) &&& a = m0 &&& a by rw [Nat.and_assoc, Nat.and_self])
  clear hb hB1 ho hcs hlc hR ha hAll hab hcl hn
  go_wp2_with fail
  refine (HAll.out _).mono ?_
  rintro e w2 ⟨rfl, rfl⟩
  go_wp2_with fail
  clear hand
  generalize m0 &&& a = m1 at hfa hfs HR
  go_loopw [1] (fun s wr => ∃ (m k : Nat), s = .int .u32 (m : Int) ∧ m < 4294967296 ∧ Hid (m &&& a = m) ∧ a < k + m ∧ Hid (reachG k cs a m = R) ∧ Hid (Below w1.heap.size w1 wr)) (fun s _ => a + 1 - (intOf s).toNat)
  case atStart => exact ⟨m1, a + 1, rfl, hfa, hfs.out, by omega, HR.out, Below.refl _ _⟩
  case round =>
    obtain ⟨m, k, rfl, hm, Hs, hk, HR, HB⟩ := hrel
    have hma := sub_le m a Hs.out
    obtain ⟨k, rfl⟩ : ∃ j, k = j + 1 := ⟨k - 1, by omega⟩
    have hR := HR.out
    unfold reachG at hR
    obtain ⟨l, hl⟩ : ∃ l, listF m = l := ⟨_, rfl⟩
    have hll : l.length ≤ 4294967296 := by rw [← hl]; have := listG_length (m + 1) m; unfold listF; omega
    have hls := List_any m hm wr ((HT.out.below HB1.out).below HB.out)
    rw [hl] at hls hR
    obtain ⟨M, hM⟩ : ∃ M, orL cs a l m = M := ⟨_, rfl⟩
    have hMge : m ≤ M := hM ▸ orL_ge cs a l m
    rw [hM] at hR
    have HM := Lib.hid hM
    clear hM
    have hlb : ∀ x ∈ l, ∃ i : Nat, x = (i : Int) ∧ i < n := by
      intro x hx
      obtain ⟨i, rfl, hi, hb⟩ := (mem_listF m hm x).1 (hl ▸ hx)
      refine ⟨i, rfl, Hab.out i ?_⟩
      have := congrArg (fun z => z.testBit i) Hs.out
      simp only [Nat.testBit_and, hb, Bool.true_and] at this
      exact this
    have Hls := Lib.hid hls
    have HR2 := Lib.hid hR
    have Hlb := Lib.hid hlb
    clear hls hR hlb hl HR
    go_wp2_with fail
    refine (Hls.out).mono ?_
    rintro e w2 ⟨vl, rfl, hol, hb2⟩
    obtain ⟨Al, cl, rfl⟩ := own_form' hol
    have HB2 := Lib.hid (HB.out.trans (hb2.mono HB.out.size))
    have HOl := Lib.hid hol
    clear hol hb2 Hls HB
    go_wp2
    go_loopw [6, 20] (fun s x wr => ∃ (q j : Nat), x = .int .i64 j ∧ s = .int .u32 (q : Int) ∧ j ≤ l.length ∧ q < 4294967296 ∧ Hid (q &&& a = q) ∧ Hid (orL cs a (l.drop j) q = M) ∧ Hid (Below w2.heap.size w2 wr)) (fun _ x _ => l.length - (intOf x).toNat)
    case atStart => exact ⟨m, 0, rfl, rfl, Nat.zero_le _, hm, Hs.out, HM.out, Below.refl _ _⟩
    case round =>
      obtain ⟨q, j, rfl, rfl, hj, hq, Hqs, Hq, HB3⟩ := hrel
      by_cases hjl : j < l.length
      · obtain ⟨gl, capl, hgl, _⟩ := HOl.out.form (by omega)
        injection hgl with hg1 hg2 hg3
        subst hg1 hg3
        obtain ⟨i, hi, hin⟩ := Hlb.out (l.getD j 0) (getD_mem hjl)
        have hcl : wr.cell? ⟨gl, j, none⟩ = some (.int .i64 (i : Int)) := by
          have h1 := below_cell HB3.out ((HOl.out.cellAt j (by omega)).trans (ints_get l j hjl))
          rw [hi] at h1
          exact h1
        obtain ⟨gc, capc, hgc, _⟩ := HO.out.form (by omega)
        injection hgc with hc1 hc2 hc3
        subst hc1 hc3
        have hcc : wr.cell? ⟨gc, i, none⟩ = some (.int .u32 ((cs.getD i 0 : Nat) : Int)) :=
          below_cell HB3.out (below_cell (HB2.out) ((HO.out.cellAt i (by omega)).trans (u32s_get cs i (by rw [Hlc.out]; exact hin))))
        obtain ⟨y, hy⟩ : ∃ y, cs.getD i 0 = y := ⟨_, rfl⟩
        have hy32 : y < 4294967296 := hy ▸ hm32.out i
        rw [hy] at hcc
        have e1 := u32_and_nat y a hy32 hal
        have hya : (y &&& a) < 4294967296 := Nat.lt_of_le_of_lt Nat.and_le_left hy32
        have e2 := u32_or_nat q (y &&& a) hq hya
        have hor := or_lt _ _ hq hya
        have hQ := Hq.out
        rw [drop_consI l j hjl, hi, orL_cons] at hQ
        rw [Int.toNat_natCast, hy] at hQ
        have HQ := Lib.hid hQ
        have Hor := Lib.hid hor
        have Hqs2 := Lib.hid (and_sub_or q y a Hqs.out)
        clear hQ hor hy hi
        go_wp2
        go_quiet ((go_at_call 23; exact quietC (HAll.out _)))
        go_wp2
        go_roundw
        case rel => exact ⟨q ||| (y &&& a), j + 1, by go_num, rfl, by omega, Hor.out, Hqs2.out, HQ.out, below_drewN' HB3.out _⟩
        case measure => simp [intOf]; omega
      · have hje : j = l.length := by omega
        have hQ := Hq.out
        rw [hje, List.drop_length, orL_nil] at hQ
        have hR := HR2.out
        rw [← hQ] at hR
        have hge : m ≤ q := by rw [hQ]; exact hMge
        have hqa := sub_le q a Hqs.out
        by_cases he : q = m
        · subst he
          rw [if_pos rfl] at hR
          subst hR
          have HBf := Lib.hid (HB1.out.trans ((HB2.out.trans (HB3.out.mono HB2.out.size)).mono HB1.out.size))
          clear hQ
          go_wp2
          go_ret
          exact ⟨rfl, HBf.out⟩
        · rw [if_neg he] at hR
          have hb : ((q : Int) == (m : Int)) = false := by rw [beq_eq_false_iff_ne]; omega
          have HR3 := Lib.hid hR
          have HB4 := Lib.hid (HB2.out.trans (HB3.out.mono HB2.out.size))
          clear hQ hR
          go_wp2
          go_roundw
          case rel => exact ⟨q, k, rfl, by omega, Hqs.out, by omega, HR3.out, HB4.out⟩
          case measure => simp [intOf]; omega
end Go.Proofs.YtbkgnokoicmppaaDoor
