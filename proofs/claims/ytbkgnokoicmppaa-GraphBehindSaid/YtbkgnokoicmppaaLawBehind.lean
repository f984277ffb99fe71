/- alibilaw06.GraphBehind: the law's walk. -/
import Derived.Test.YtbkgnokoicmppaaBehindP
namespace Go.Proofs.Ytbkgnokoicmppaa
open Go.RowKit
set_option linter.unusedVariables false
set_option linter.unusedSimpArgs false

/-- What stays as it is: the program's box, the places, the order. -/
structure GbSt (p : Prg) (A : Option Addr) (c : Nat) (w : World) (B g cap : Nat) (o pl : List Int) (wr : World) : Prop where
  box : wr.heap[w.heap.size]? = some (prgB p A c)
  row : wr.heap[B]? = some (.cells (ints pl).toArray 31 (0, 0))
  own : wr.ownsRow w.heap.size 3 1 (.slice (some ⟨g, 0, none⟩) o.length cap) o.length (ints o)
  gB : g ≠ B
  Bw : w.heap.size < B
  bel : Below w.heap.size w wr
section
variable {p : Prg} {A : Option Addr} {c : Nat} {w : World} {B g cap : Nat} {o pl : List Int} {wr w' : World}
theorem GbSt.below (h : GbSt p A c w B g cap o pl wr) (hb : Below wr.heap.size wr w') : GbSt p A c w B g cap o pl w' :=
  ⟨below_blk hb h.box, below_blk hb h.row, own_chg h.own (Chg.of_below hb (fun _ => False)) (fun _ _ h => h), h.gB, h.Bw, h.bel.trans (hb.mono h.bel.size)⟩
theorem GbSt.same (h : GbSt p A c w B g cap o pl wr) (hb : Sm wr w') : GbSt p A c w B g cap o pl w' := h.below hb.below
theorem GbSt.store (h : GbSt p A c w B g cap o pl wr) (i : Nat) (x : Int) : GbSt p A c w B g cap o (pl.set i x) (wr.setCell ⟨B, i, none⟩ (.int .i64 x)) := by
  have hC := Chg.of_setCell wr ⟨B, i, none⟩ (.int .i64 x)
  refine ⟨(hC.block _ (Array.getElem?_eq_some_iff.1 h.box).1 (fun e => by have := h.Bw; have e : w.heap.size = B := e; omega)).trans h.box, ?_, own_chg h.own hC (fun k hk e => ?_), h.gB, h.Bw, hC.below h.bel h.bel.size (fun k hk => by have := h.Bw; have hk : k = B := hk; omega)⟩
  · have := blk_set (vs := ints pl) h.row i (.int .i64 x)
    rwa [← ints_set] at this
  · have : g = k := Option.some.inj hk
    have e : k = B := e
    exact h.gB (this.trans e)
theorem GbSt.at (h : GbSt p A c w B g cap o pl wr) (i : Nat) (hi : i < pl.length) : wr.cell? ⟨B, i, none⟩ = some (.int .i64 (pl.getD i 0)) ∧ wr.frozen? ⟨B, i, none⟩ = false :=
  ⟨by rw [cell_blk h.row]; simpa using ints_get pl i hi, frozen_blk h.row i⟩
theorem GbSt.ord (h : GbSt p A c w B g cap o pl wr) (i : Nat) (hi : i < o.length) : wr.cell? ⟨g, i, none⟩ = some (.int .i64 (o.getD i 0)) := (h.own.cellAt i (by omega)).trans (ints_get o i hi)
theorem GbSt.p3 (h : GbSt p A c w B g cap o pl wr) : wr.cell? ⟨w.heap.size, 3, none⟩ = some (.slice A p.fs.length c) := by rw [cell_blk h.box]; rfl
end

set_option maxHeartbeats 4000000 in
set_option maxRecDepth 100000 in
/-- The first loop: each stands once. -/
theorem behind_ok (p : Prg) (A : Option Addr) (c : Nat) (xs : List Int) (Ax : Option Addr) (cx : Nat) (w : World) (hsz : p.sz) (hp : FuncsAt w A p.fs) (hr : Rd w Ax (ints xs)) (hok : (checkF p).2.2 = 0) (hx : xs.length ≤ 100) (hs : p.small = true) :
    Calls Try.prog 3 #[prgV p A c, .slice Ax xs.length cx] w fun e w' => e = .returned (.bool true) ∧ Below w.heap.size w w' := by
  have Haw := Lib.hid (fun W => awakeA W)
  have hsm := fun W h => Small_any p A c W h
  rw [hs] at hsm
  have Hsm := Lib.hid hsm
  have hO := checkF_ok hok
  have hord := hO.ordered
  unfold orderP at hord
  obtain ⟨o, ho⟩ : ∃ o, orderOf countF hasF (calleesF p) = o := ⟨_, rfl⟩
  rw [ho] at hord
  have hor := fun W h => Order_any p A c W hsz h hok
  rw [ho] at hor
  have hn16 := hO.n1
  have hol := hord.len
  have Hor := Lib.hid hor
  have Hord := Lib.hid hord
  have HO := Lib.hid hO
  have Hp := Lib.hid hp
  have Hrd := Lib.hid hr
  have Hol := Lib.hid hol
  have d100 : decide ((100 : Int) < (xs.length : Int)) = false := by rw [decide_eq_false_iff_not]; omega
  clear hsm hor hp hr hord hO ho hol hok hs
  unfold prgV at *
  go_enter Try.func3, Try.ntmps3
  go_wp2_with fail
  refine (Haw.out _).mono ?_
  rintro e w1 ⟨rfl, hb1⟩
  have hbx1 := below_blk hb1 (blk_new _ _)
  have hB1 := (bel1 _ _).trans (hb1.mono (by simp))
  have p0 : w1.cell? ⟨w.heap.size, 0, none⟩ = some (.int .i64 p.g) := by rw [cell_blk hbx1]; rfl
  have p1 : w1.cell? ⟨w.heap.size, 1, none⟩ = some (.int .i64 p.l) := by rw [cell_blk hbx1]; rfl
  have p2 : w1.cell? ⟨w.heap.size, 2, none⟩ = some (.int .i64 p.s) := by rw [cell_blk hbx1]; rfl
  have p3 : w1.cell? ⟨w.heap.size, 3, none⟩ = some (.slice A p.fs.length c) := by rw [cell_blk hbx1]; rfl
  have HB1 := Lib.hid hB1
  have Hbx1 := Lib.hid hbx1
  clear hb1 hbx1 hB1
  go_wp2_with fail
  refine (Hsm.out _ (Hp.out.below HB1.out)).mono ?_
  rintro e w2 ⟨rfl, hb2⟩
  have hB2 := HB1.out.trans (hb2.mono HB1.out.size)
  have q0 := below_cell hb2 p0
  have q1 := below_cell hb2 p1
  have q2 := below_cell hb2 p2
  have q3 := below_cell hb2 p3
  have HB2 := Lib.hid hB2
  have Hbx2 := Lib.hid (below_blk hb2 Hbx1.out)
  clear hb2 hB2 p0 p1 p2 p3
  go_wp2_with fail
  refine (Hor.out _ (Hp.out.below HB2.out)).mono ?_
  rintro e w3 ⟨v, rfl, ho3, hb3⟩
  have hB3 := HB2.out.trans (hb3.mono HB2.out.size)
  have hn0 := HO.out.n0
  obtain ⟨g, cap, rfl, _⟩ := ho3.form (by rw [Hol.out]; exact hn0)
  have hst : ∀ W, Sm (w3.alloc (.cells #[.int .i64 0, .int .i64 0, .int .i64 0, .int .i64 0, .int .i64 0, .int .i64 0, .int .i64 0, .int .i64 0, .int .i64 0, .int .i64 0, .int .i64 0, .int .i64 0, .int .i64 0, .int .i64 0, .int .i64 0, .int .i64 0] 31)) W → GbSt p A c w w3.heap.size g cap o (placeF o 0) W := by
    intro W hS
    have hbl := below_blk hb3 Hbx2.out
    have hlt := (own_lt' ho3 g rfl).2
    refine GbSt.same ⟨blk_alloc' hbl _, ?_, own_lower (own_chg ho3 (Chg.of_alloc (fun _ => False) _ _) (fun _ _ h => h)) HB2.out.size, by omega, (Array.getElem?_eq_some_iff.1 hbl).1, hB3.alloc hB3.size _⟩ hS
    have e : (ints (placeF o 0)).toArray = #[.int .i64 0, .int .i64 0, .int .i64 0, .int .i64 0, .int .i64 0, .int .i64 0, .int .i64 0, .int .i64 0, .int .i64 0, .int .i64 0, .int .i64 0, .int .i64 0, .int .i64 0, .int .i64 0, .int .i64 0, .int .i64 0] := rfl
    rw [e]
    exact blk_new _ _
  have HB3 := Lib.hid hB3
  have Hst := Lib.hid hst
  clear hb3 ho3 hB3 hst q0 q1 q2 q3
  go_wp2
  go_loopw [8] (fun x wr => ∃ (k : Nat), x = .int .i64 k ∧ k ≤ o.length ∧ Hid (GbSt p A c w w3.heap.size g cap o (placeF o k) wr)) (fun x _ => o.length - (intOf x).toNat)
  case atStart => exact ⟨0, rfl, Nat.zero_le _, Hst.out _ ⟨rfl, rfl, rfl, rfl⟩⟩
  case round =>
    obtain ⟨k, rfl, hk, HS⟩ := hrel
    by_cases hkl : k < o.length
    · have hr0 := Hord.out.range _ (getD_mem (z := 0) hkl)
      have hc := HS.out.ord k hkl
      obtain ⟨x, hxe⟩ := Int.eq_ofNat_of_zero_le hr0.1
      have hnt : (x : Int) ∉ o.take k := by
        intro hm
        obtain ⟨j, hj, hje⟩ := List.getElem_of_mem hm
        rw [List.length_take] at hj
        rw [List.getElem_take] at hje
        have e : o[k] = (x : Int) := by rw [← hxe, List.getD_eq_getElem?_getD, List.getElem?_eq_getElem hkl]; rfl
        have := (List.getElem_inj Hord.out.nd).1 (hje.trans e.symm)
        omega
      have hz := placeF_none o x k hk (fun y hy => (Hord.out.range y hy).1) hnt
      have hat := HS.out.at x (by rw [placeF_length]; omega)
      rw [hz] at hat
      obtain ⟨c1, f1⟩ := hat
      have c2 := HS.out.p3
      have HS2 := Lib.hid (HS.out.store x ((k : Int) + 1))
      have e2 : (placeF o k).set x ((k : Int) + 1) = placeF o (k + 1) := by
        show _ = (placeF o k).set (o.getD k 0).toNat ((k : Int) + 1)
        rw [hxe, Int.toNat_natCast]
      rw [e2] at HS2
      rw [hxe] at hc hr0
      have d1 : decide ((x : Int) < 0) = false := by rw [decide_eq_false_iff_not]; omega
      have d2 : decide ((p.fs.length : Int) ≤ (x : Int)) = false := by rw [decide_eq_false_iff_not]; omega
      have d3 : decide (p.fs.length ≤ x) = false := by rw [decide_eq_false_iff_not]; omega
      have hx16 : x < 16 := by omega
      have i1 : 0 ≤ (k : Int) ∧ (k : Int) < (o.length : Int) := by omega
      have i2 : 0 ≤ (x : Int) ∧ (x : Int) < 16 := by omega
      have hk16 : k < 16 := by have := Hol.out; omega
      clear hxe hnt hz e2
      go_wp2
      go_quiet (fail)
      go_wp2
      go_roundw
      case rel => exact ⟨k + 1, by go_num, by omega, HS2.out.same ⟨rfl, rfl, rfl, rfl⟩⟩
      case measure => simp [intOf]; omega
    · have hke : k = o.length := by omega
      subst hke
      have HS0 := HS
      have hpl0 : ∀ f, f < p.fs.length → ∀ x ∈ p.fs.getD f [], x.kind = 7 → (placeF o o.length).getD x.arg.toNat 0 < (placeF o o.length).getD f 0 ∧ 0 ≤ x.arg ∧ x.arg < p.fs.length := by
        rw [Hol.out]
        exact fun f hf x hx h7 => placeF_lt Hord.out hn16 f hf x hx h7
      have Hpl := Lib.hid hpl0
      clear hpl0
      obtain ⟨pl, hpl⟩ : ∃ pl, placeF o o.length = pl := ⟨_, rfl⟩
      have hpl16 : pl.length = 16 := by rw [← hpl, placeF_length]
      rw [hpl] at HS0 Hpl
      have Hmay := Lib.hid (fun l (hl : l ∈ p.fs) => mayL_none p p.fs 0 HO.out.may l hl)
      clear HS Hst hpl hk hkl Hbx1 Hbx2 HB1 HB2 HB3
      go_wp2
      clear Hord HO
      go_loopw [9] (fun x wr => ∃ (f : Nat), x = .int .i64 f ∧ f ≤ p.fs.length ∧ Hid (GbSt p A c w w3.heap.size g cap o pl wr)) (fun x _ => p.fs.length - (intOf x).toNat)
      case atStart => exact ⟨0, rfl, Nat.zero_le _, HS0.out⟩
      case round =>
        obtain ⟨f, rfl, hf, HS⟩ := hrel
        have c3 := HS.out.p3
        by_cases hfl : f < p.fs.length
        · clear HS0
          obtain ⟨wo, rfl⟩ : ∃ wo : World, wo = wr := ⟨_, rfl⟩
          obtain ⟨l, hl⟩ : ∃ l, p.fs.getD f [] = l := ⟨_, rfl⟩
          have hmem : l ∈ p.fs := hl ▸ getD_mem hfl
          have hm := Hmay.out l hmem
          have hll0 : 0 < l.length := by omega
          have hll1 : l.length ≤ 64 := hm.2.1
          have Hml := Lib.hid hm.2.2
          have Hl := Lib.hid hl
          clear hm hmem hl
          go_wp2
          clear c3
          go_loopw [10] (fun x wr => ∃ (i : Nat), x = .int .i64 i ∧ i ≤ l.length ∧ Hid (GbSt p A c w w3.heap.size g cap o pl wr)) (fun x _ => l.length - (intOf x).toNat)
          case atStart => exact ⟨0, rfl, Nat.zero_le _, HS.out⟩
          case round =>
            obtain ⟨i, rfl, hi, HS2⟩ := hrel
            have c3 := HS2.out.p3
            obtain ⟨b, ob, A', c', rfl, hc, hcc, hN⟩ := FuncsAt.at (Hp.out.below HS2.out.bel) f hfl
            rw [Hl.out] at hc hcc hN
            by_cases hil : i < l.length
            · obtain ⟨b', o', rfl, k0, k1, k2, k3⟩ := NodesAt.at hN i hil
              obtain ⟨x, hx⟩ : ∃ x, l.getD i zNode = x := ⟨_, rfl⟩
              rw [hx] at k0 k1 k2 k3
              have HN := Lib.hid hN
              clear hN
              by_cases h7 : x.kind = 7
              · have hmx : x ∈ p.fs.getD f [] := by rw [Hl.out, ← hx]; exact getD_mem hil
                obtain ⟨q1, q2, q3⟩ := Hpl.out f hfl x hmx h7
                have h7b : (x.kind == 7) = true := beq_iff_eq.2 h7
                obtain ⟨c4, -⟩ := HS2.out.at f (by omega)
                obtain ⟨c5, -⟩ := HS2.out.at x.arg.toNat (by omega)
                obtain ⟨xa, hxa⟩ := Int.eq_ofNat_of_zero_le q2
                obtain ⟨z1, hz1⟩ : ∃ z, pl.getD f 0 = z := ⟨_, rfl⟩
                obtain ⟨z2, hz2⟩ : ∃ z, pl.getD x.arg.toNat 0 = z := ⟨_, rfl⟩
                rw [hz1] at c4
                rw [hz2, hxa, Int.toNat_natCast] at c5
                rw [hz1, hz2] at q1
                rw [hxa] at k1 q3
                have d1 : decide (z1 ≤ z2) = false := by rw [decide_eq_false_iff_not]; omega
                have i1 : 0 ≤ (xa : Int) ∧ (xa : Int) < 16 := by omega
                have i2 : 0 ≤ (f : Int) ∧ (f : Int) < 16 := by omega
                have hS3 := HS2.out.below (bel1 wr (.cells #[.int .i64 x.kind, .int .i64 (xa : Int), .int .i64 x.next, .int .i64 x.alt] 34))
                have HS3 := Lib.hid hS3
                have c6 := alloc_cell c4 (.cells #[.int .i64 x.kind, .int .i64 (xa : Int), .int .i64 x.next, .int .i64 x.alt] 34)
                have c7 := alloc_cell c5 (.cells #[.int .i64 x.kind, .int .i64 (xa : Int), .int .i64 x.next, .int .i64 x.alt] 34)
                clear hS3 hz1 hz2 hxa hmx hx h7 c4 c5 q1 q2
                go_wp2
                go_quiet (fail)
                go_wp2
                go_roundw
                case rel => exact ⟨i + 1, by go_num, by omega, HS3.out.same ⟨rfl, rfl, rfl, rfl⟩⟩
                case measure => simp [intOf]; omega
              · have h7b : (x.kind == 7) = false := by rw [beq_eq_false_iff_ne]; exact h7
                have HS3 := Lib.hid (HS2.out.below (bel1 wr (.cells #[.int .i64 x.kind, .int .i64 x.arg, .int .i64 x.next, .int .i64 x.alt] 34)))
                clear hx h7
                go_wp2
                go_quiet (fail)
                go_wp2
                go_roundw
                case rel => exact ⟨i + 1, by go_num, by omega, HS3.out.same ⟨rfl, rfl, rfl, rfl⟩⟩
                case measure => simp [intOf]; omega
            · have HS3 := HS2
              clear HS HS2 hcc hi
              have hN0 := hN
              have Haf := Lib.hid (After_any l A' c' xs Ax cx _ hN0 (by omega) (Hrd.out.below HS3.out.bel) (by omega))
              clear hN hN0
              go_wp2_with fail
              refine (Haf.out).mono ?_
              rintro e w4 ⟨rfl, bb, hbl, hbr, hcl, hb4⟩
              have HS4 := Lib.hid (HS3.out.below hb4)
              obtain ⟨B4, hB4⟩ : ∃ B4, wr.heap.size + 1 = B4 := ⟨_, rfl⟩
              rw [hB4] at hbr
              have c4 := HS4.out.p3
              obtain ⟨b5, o5, A5, c5, e5, hc5, _, hN5⟩ := FuncsAt.at (Hp.out.below HS4.out.bel) f hfl
              injection e5 with e5
              injection e5 with e6 e7
              subst e6 e7
              rw [Hl.out] at hc5 hN5
              have Hbr := Lib.hid hbr
              have Hcl := Lib.hid hcl
              have Hbl := Lib.hid hbl
              have Hed := Lib.hid (Edges_any l A5 c5 _ (by omega) hN5)
              clear hb4 hbr hcl hbl hN5 Haf hc
              rw [hB4]
              clear hB4
              go_wp2_with fail
              refine (Hed.out).mono ?_
              rintro e w5 ⟨v5, rfl, ho5, hb5⟩
              have HS5 := Lib.hid (HS4.out.below hb5)
              have Hbr5 := Lib.hid (below_blk hb5 Hbr.out)
              obtain ⟨A6, c6, rfl⟩ := own_form' ho5
              have hel := edgesL_length l 0
              obtain ⟨es, hes⟩ : ∃ es, edgesL 0 l = es := ⟨_, rfl⟩
              rw [hes] at ho5 hel
              have Hes := Lib.hid hes
              have HO5 := Lib.hid ho5
              rw [hes]
              clear hb5 ho5 hes Hed hc5 c4 c3 HS3 HS4 Hbr
              go_wp2
              go_loopw [14] (fun x wq => ∃ (k : Nat), x = .int .i64 k ∧ k ≤ es.length ∧ Hid (Sm w5 wq)) (fun x _ => es.length - (intOf x).toNat)
              case atStart => exact ⟨0, rfl, Nat.zero_le _, Sm.refl _⟩
              case round =>
                obtain ⟨k, rfl, hk, HQ⟩ := hrel
                by_cases hkl : k < es.length
                · obtain ⟨⟨ex, ey⟩, he⟩ : ∃ e, es[k]? = some e := ⟨_, List.getElem?_eq_getElem hkl⟩
                  obtain ⟨j, rfl, hj, hy⟩ := edges_in l 0 k ex ey (by rw [Hes.out]; exact he)
                  obtain ⟨hy0, hy1⟩ := may_succ hll0 (Hml.out _ (getD_mem hj)) ey hy
                  have hcly := Hcl.out j hj
                  rw [Nat.zero_add] at he
                  obtain ⟨y, rfl⟩ := Int.eq_ofNat_of_zero_le hy0
                  obtain ⟨g6, cap6, hg6, _⟩ := HO5.out.form (by omega)
                  injection hg6 with hg6 hg7 hg8
                  subst hg6 hg8
                  obtain ⟨ec1, ec2⟩ := edgeC_get es k _ _ he
                  have c7 : wr.cell? ⟨g6, k * 2, none⟩ = some (.int .i64 (j : Nat)) := (HQ.out.cell _).trans ((HO5.out.cellAt (k * 2) (by omega)).trans ec1)
                  have c8 : wr.cell? ⟨g6, k * 2 + 1, none⟩ = some (.int .i64 (y : Nat)) := (HQ.out.cell _).trans ((HO5.out.cellAt (k * 2 + 1) (by omega)).trans ec2)
                  have c9 : wr.cell? ⟨B4, j, none⟩ = some (.bool (bb.getD j false)) := (HQ.out.cell _).trans (by rw [cell_blk Hbr5.out]; simpa using bools_get bb j (by rw [Hbl.out]; exact hj))
                  have c10 : wr.cell? ⟨B4, y, none⟩ = some (.bool (bb.getD y false)) := (HQ.out.cell _).trans (by rw [cell_blk Hbr5.out]; simpa using bools_get bb y (by rw [Hbl.out]; omega))
                  have i1 : 0 ≤ (k : Int) ∧ (k : Int) < (es.length : Int) := by omega
                  have i2 : 0 ≤ (j : Int) ∧ (j : Int) < (l.length : Int) := by omega
                  have i3 : 0 ≤ (y : Int) ∧ (y : Int) < (l.length : Int) := by omega
                  by_cases hb : bb.getD j false = true
                  · have hby := hcly hb _ hy (by omega) hy1
                    rw [Int.toNat_natCast] at hby
                    rw [hb] at c9
                    rw [hby] at c10
                    clear hb hby hcly he hy ec1 ec2
                    go_wp2
                    go_roundw
                    case rel => exact ⟨k + 1, by go_num, by omega, HQ.out.trans ⟨rfl, rfl, rfl, rfl⟩⟩
                    case measure => simp [intOf]; omega
                  · have hb : bb.getD j false = false := by simpa using hb
                    rw [hb] at c9
                    clear hb hcly he hy ec1 ec2 c10
                    go_wp2
                    go_roundw
                    case rel => exact ⟨k + 1, by go_num, by omega, HQ.out.trans ⟨rfl, rfl, rfl, rfl⟩⟩
                    case measure => simp [intOf]; omega
                · clear hk
                  go_wp2
                  go_roundw
                  case rel => exact ⟨f + 1, by go_num, by omega, HS5.out.same HQ.out⟩
                  case measure => simp [intOf]; omega
        · go_wp2
          go_ret
          refine ⟨?_, HS.out.bel⟩
          rw [Hol.out]
          simp

set_option maxHeartbeats 4000000 in
set_option maxRecDepth 100000 in
theorem GraphBehind_walk (p : Prg) (A : Option Addr) (c : Nat) (xs : List Int) (Ax : Option Addr) (cx : Nat) (w : World) (hp : FuncsAt w A p.fs) (hr : Rd w Ax (ints xs)) :
    Calls Try.prog 3 #[prgV p A c, .slice Ax xs.length cx] w fun e w' => e = .returned (.bool true) ∧ Below w.heap.size w w' := by
  have Haw := Lib.hid (fun W => awakeA W)
  have hsm := fun W h => Small_any p A c W h
  have Hp := Lib.hid hp
  by_cases hs : p.small = true
  · obtain ⟨hsz, -, -⟩ := Prg.small_sz hs
    by_cases hx : xs.length ≤ 100
    · by_cases hok : (checkF p).2.2 = 0
      · exact behind_ok p A c xs Ax cx w hsz hp hr hok hx hs
      rw [hs] at hsm
      have Hsm := Lib.hid hsm
      have Hor := Lib.hid (fun W h => Order_err p A c W hsz h hok)
      have d100 : decide ((100 : Int) < (xs.length : Int)) = false := by rw [decide_eq_false_iff_not]; omega
      obtain ⟨q, hq⟩ : ∃ q, (checkF p).2.2 = q := ⟨_, rfl⟩
      rw [hq] at Hor hok
      have hq0 : (q != 0) = true := by rw [bne_iff_ne]; exact hok
      clear hsm hp hr hs hsz hok hq
      unfold prgV at *
      go_enter Try.func3, Try.ntmps3
      go_wp2_with fail
      refine (Haw.out _).mono ?_
      rintro e w1 ⟨rfl, hb1⟩
      have hbx1 := below_blk hb1 (blk_new _ _)
      have hB1 := (bel1 _ _).trans (hb1.mono (by simp))
      have p0 : w1.cell? ⟨w.heap.size, 0, none⟩ = some (.int .i64 p.g) := by rw [cell_blk hbx1]; rfl
      have p1 : w1.cell? ⟨w.heap.size, 1, none⟩ = some (.int .i64 p.l) := by rw [cell_blk hbx1]; rfl
      have p2 : w1.cell? ⟨w.heap.size, 2, none⟩ = some (.int .i64 p.s) := by rw [cell_blk hbx1]; rfl
      have p3 : w1.cell? ⟨w.heap.size, 3, none⟩ = some (.slice A p.fs.length c) := by rw [cell_blk hbx1]; rfl
      have HB1 := Lib.hid hB1
      clear hb1 hbx1 hB1
      go_wp2_with fail
      refine (Hsm.out _ (Hp.out.below HB1.out)).mono ?_
      rintro e w2 ⟨rfl, hb2⟩
      have hB2 := HB1.out.trans (hb2.mono HB1.out.size)
      have q0 := below_cell hb2 p0
      have q1 := below_cell hb2 p1
      have q2 := below_cell hb2 p2
      have q3 := below_cell hb2 p3
      have HB2 := Lib.hid hB2
      clear hb2 hB2 p0 p1 p2 p3
      go_wp2_with fail
      refine (Hor.out _ (Hp.out.below HB2.out)).mono ?_
      rintro e w3 ⟨rfl, hb3⟩
      have HB3 := Lib.hid (HB2.out.trans (hb3.mono HB2.out.size))
      clear hb3
      go_wp2_with fail
      go_ret
      exact ⟨rfl, HB3.out⟩
    · rw [hs] at hsm
      have Hsm := Lib.hid hsm
      have d100 : decide ((100 : Int) < (xs.length : Int)) = true := by rw [decide_eq_true_iff]; omega
      clear hsm hp hr hs hsz hx
      unfold prgV at *
      go_enter Try.func3, Try.ntmps3
      go_wp2_with fail
      refine (Haw.out _).mono ?_
      rintro e w1 ⟨rfl, hb1⟩
      have hbx1 := below_blk hb1 (blk_new _ _)
      have hB1 := (bel1 _ _).trans (hb1.mono (by simp))
      have p0 : w1.cell? ⟨w.heap.size, 0, none⟩ = some (.int .i64 p.g) := by rw [cell_blk hbx1]; rfl
      have p1 : w1.cell? ⟨w.heap.size, 1, none⟩ = some (.int .i64 p.l) := by rw [cell_blk hbx1]; rfl
      have p2 : w1.cell? ⟨w.heap.size, 2, none⟩ = some (.int .i64 p.s) := by rw [cell_blk hbx1]; rfl
      have p3 : w1.cell? ⟨w.heap.size, 3, none⟩ = some (.slice A p.fs.length c) := by rw [cell_blk hbx1]; rfl
      have HB1 := Lib.hid hB1
      clear hb1 hbx1 hB1
      go_wp2_with fail
      refine (Hsm.out _ (Hp.out.below HB1.out)).mono ?_
      rintro e w2 ⟨rfl, hb2⟩
      have hB2 := HB1.out.trans (hb2.mono HB1.out.size)
      have q0 := below_cell hb2 p0
      have q1 := below_cell hb2 p1
      have q2 := below_cell hb2 p2
      have q3 := below_cell hb2 p3
      have HB2 := Lib.hid hB2
      clear hb2 hB2 p0 p1 p2 p3
      go_wp2_with fail
      refine (Haw.out _).mono ?_
      rintro e w3 ⟨rfl, hb3⟩
      have HB3 := Lib.hid (HB2.out.trans (hb3.mono HB2.out.size))
      clear hb3
      go_wp2_with fail
      go_ret
      exact ⟨rfl, HB3.out⟩
  · rw [show p.small = false by simpa using hs] at hsm
    have Hsm := Lib.hid hsm
    clear hsm hp hr hs
    unfold prgV at *
    go_enter Try.func3, Try.ntmps3
    go_wp2_with fail
    refine (Haw.out _).mono ?_
    rintro e w1 ⟨rfl, hb1⟩
    have hbx1 := below_blk hb1 (blk_new _ _)
    have hB1 := (bel1 _ _).trans (hb1.mono (by simp))
    have p0 : w1.cell? ⟨w.heap.size, 0, none⟩ = some (.int .i64 p.g) := by rw [cell_blk hbx1]; rfl
    have p1 : w1.cell? ⟨w.heap.size, 1, none⟩ = some (.int .i64 p.l) := by rw [cell_blk hbx1]; rfl
    have p2 : w1.cell? ⟨w.heap.size, 2, none⟩ = some (.int .i64 p.s) := by rw [cell_blk hbx1]; rfl
    have p3 : w1.cell? ⟨w.heap.size, 3, none⟩ = some (.slice A p.fs.length c) := by rw [cell_blk hbx1]; rfl
    have HB1 := Lib.hid hB1
    clear hb1 hbx1 hB1
    go_wp2_with fail
    refine (Hsm.out _ (Hp.out.below HB1.out)).mono ?_
    rintro e w2 ⟨rfl, hb2⟩
    have hB2 := HB1.out.trans (hb2.mono HB1.out.size)
    have q0 := below_cell hb2 p0
    have q1 := below_cell hb2 p1
    have q2 := below_cell hb2 p2
    have q3 := below_cell hb2 p3
    have HB2 := Lib.hid hB2
    clear hb2 hB2 p0 p1 p2 p3
    go_wp2_with fail
    refine (Haw.out _).mono ?_
    rintro e w3 ⟨rfl, hb3⟩
    have HB3 := Lib.hid (HB2.out.trans (hb3.mono HB2.out.size))
    clear hb3
    go_wp2_with fail
    go_ret
    exact ⟨rfl, HB3.out⟩
end Go.Proofs.Ytbkgnokoicmppaa
