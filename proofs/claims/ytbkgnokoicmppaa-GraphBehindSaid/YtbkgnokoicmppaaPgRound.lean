/- prog.round: the first call that comes back to its function. -/
import Derived.Test.YtbkgnokoicmppaaPgReach
namespace Go.Proofs.Ytbkgnokoicmppaa
open Go.RowKit
set_option linter.unusedVariables false
set_option linter.unusedSimpArgs false

theorem info_bool : (Try.prog.info? 4).map (fun i => (i.zero, i.size, i.bytes)) = some (some (.bool false), 1, 1) := by kernel_rfl
theorem count_rep (n : Nat) : (List.replicate n false).count false = n := by simp
theorem toList_made (z : Value) (n : Nat) : madeCells #[z] n = (List.replicate n z).toArray := by
  rw [← toList_madeCells_one z n]
/-- A call of reaches with a new row. -/
theorem reaches_new (p : Prg) (A : Option Addr) (c : Nat) (x f g : Nat) (W W1 : World) (hg : W.heap.size = g) (hS : Sm (W.alloc (.cells (madeCells #[.bool false] p.fs.length) 4)) W1) (hsz : p.sz) (hcl : p.calls) (hp : FuncsAt W A p.fs) (hx : x < p.fs.length) :
    Calls Try.prog 120 #[prgV p A c, .int .i64 x, .int .i64 f, .slice (some ⟨g, 0, none⟩) p.fs.length p.fs.length] W1 fun e w' => e = .returned (.bool (comesB p x f)) ∧ Below W.heap.size W w' := by
  subst hg
  have hB1 : Below W.heap.size W W1 := (bel1 _ _).trans hS.below
  refine (reaches_any p A c f W.heap.size W hsz hcl hp (Nat.le_refl _) (p.fs.length + 1) x (List.replicate p.fs.length false) _ hB1 ?_ (by simp) hx (by rw [count_rep]; omega)).mono ?_
  · rw [hS.heap, blk_new, toList_made]; simp [bools]
  · rintro e w' ⟨rfl, _, hC⟩
    exact ⟨rfl, hC.below hB1 hB1.size (fun k hk => by omega)⟩
def roundV : Option (Nat × Nat) → Value
  | some (f, i) => .tuple #[.int .i64 f, .int .i64 i, .bool true]
  | none => .tuple #[.int .i64 0, .int .i64 0, .bool false]

set_option maxHeartbeats 2000000 in
set_option maxRecDepth 100000 in
theorem round_any (p : Prg) (A : Option Addr) (c : Nat) (w : World) (hsz : p.sz) (hcl : p.calls) (hp : FuncsAt w A p.fs) :
    Calls Try.prog 92 #[prgV p A c] w fun e w' => e = .returned (roundV (roundF p)) ∧ Below w.heap.size w w' := by
  have hsz1 := hsz.1
  obtain ⟨R, hR⟩ : ∃ R, roundF p = R := ⟨_, rfl⟩
  rw [hR]
  unfold roundF at hR
  have HR := Lib.hid hR
  have Hsz := Lib.hid hsz
  have Hcl := Lib.hid hcl
  have Hp := Lib.hid hp
  clear hR hsz hcl hp
  unfold prgV
  have hmk : ∀ W, (Instr.makeSlice 35 (.int .i64 (p.fs.length : Int)) (.int .i64 (p.fs.length : Int))).run Try.prog W = .ok (.slice (some ⟨W.heap.size, 0, none⟩) p.fs.length p.fs.length) (W.alloc (.cells (madeCells #[.bool false] p.fs.length) 4)) :=
    fun W => run_make_row' 35 4 (.bool false) 1 Try.underlying35 info_bool rfl .i64 .i64 p.fs.length (by omega) (by omega) W
  have Hmk := Lib.hid hmk
  clear hmk
  go_enter Try.func92, Try.ntmps92
  go_wp2
  go_loopw [12] (fun x wr => ∃ (f : Nat), x = .int .i64 f ∧ f ≤ p.fs.length ∧ Hid (roundL p f (p.fs.drop f) = R) ∧ Hid (wr.heap[w.heap.size]? = some (prgB p A c)) ∧ Hid (Below w.heap.size w wr)) (fun x _ => p.fs.length - (intOf x).toNat)
  case atStart => exact ⟨0, rfl, Nat.zero_le _, HR.out, blk_new _ _, bel1 _ _⟩
  case round =>
    obtain ⟨f, rfl, hf, HRf, Hbx, HB⟩ := hrel
    by_cases hfl : f < p.fs.length
    · obtain ⟨b, o, A', c', rfl, hc, _, hN⟩ := FuncsAt.at (Hp.out.below HB.out) f hfl
      obtain ⟨l, hl⟩ : ∃ l, p.fs.getD f [] = l := ⟨_, rfl⟩
      have hll : l.length ≤ 1000000 := hl ▸ Hsz.out.at f
      have hRf := HRf.out
      rw [drop_cons' _ _ hfl, hl] at hRf
      unfold roundL at hRf
      rw [hl] at hc hN
      have HN := Lib.hid hN
      have Hl := Lib.hid hl
      have HRl := Lib.hid hRf
      clear hN hl hRf HRf
      obtain ⟨wo, rfl⟩ : ∃ wo : World, wo = wr := ⟨_, rfl⟩
      go_wp2
      go_loopw [19] (fun x wr => ∃ (i : Nat), x = .int .i64 i ∧ i ≤ l.length ∧ Hid (i ≤ l.findIdx (badB p f)) ∧ Hid (wr.heap[w.heap.size]? = some (prgB p (some ⟨b, o, none⟩) c)) ∧ Hid (Below wo.heap.size wo wr)) (fun x _ => l.length - (intOf x).toNat)
      case atStart => exact ⟨0, rfl, Nat.zero_le _, Nat.zero_le _, Hbx.out, Below.refl _ _⟩
      case round =>
        obtain ⟨i, rfl, hi, Hi, Hbx, HB2⟩ := hrel
        by_cases hil : i < l.length
        · obtain ⟨b', o', rfl, k0, k1, k2, k3⟩ := NodesAt.at (Rd.below HN.out HB2.out) i hil
          obtain ⟨x, hx⟩ : ∃ x, l.getD i zNode = x := ⟨_, rfl⟩
          rw [hx] at k0 k1 k2 k3
          have hBw : Below w.heap.size w wr := HB.out.trans (HB2.out.mono HB.out.size)
          by_cases h7 : x.kind = 7
          · rw [h7] at k0
            have hca := Hcl.out f i hfl (by rw [Hl.out]; exact hil) (by rw [Hl.out, hx]; exact h7)
            rw [Hl.out, hx] at hca
            obtain ⟨a, ha⟩ := Int.eq_ofNat_of_zero_le hca.1
            have hbad : badB p f x = comesB p a f := by unfold badB; rw [h7, ha]; simp
            rw [ha] at k1 hca
            have hbx := Hbx.out
            unfold prgB at hbx
            have hlt : w.heap.size < wr.heap.size := (Array.getElem?_eq_some_iff.1 hbx).1
            have p0 : wr.cell? ⟨w.heap.size, 0, none⟩ = some (.int .i64 p.g) := by rw [cell_blk hbx]; rfl
            have p1 : wr.cell? ⟨w.heap.size, 1, none⟩ = some (.int .i64 p.l) := by rw [cell_blk hbx]; rfl
            have p2 : wr.cell? ⟨w.heap.size, 2, none⟩ = some (.int .i64 p.s) := by rw [cell_blk hbx]; rfl
            have p3 : wr.cell? ⟨w.heap.size, 3, none⟩ = some (.slice (some ⟨b, o, none⟩) p.fs.length c) := by rw [cell_blk hbx]; rfl
            have hmk := Hmk.out
            have hrn := fun W1 hS => reaches_new p (some ⟨b, o, none⟩) c a f (wr.heap.size + 1) (wr.alloc (.cells #[.int .i64 7, .int .i64 a, .int .i64 x.next, .int .i64 x.alt] 34)) W1 (by simp) hS Hsz.out Hcl.out (Hp.out.below (hBw.alloc hBw.size _)) (by omega)
            unfold prgV at hrn
            have hk : ∀ w1, Below (wr.alloc (.cells #[.int .i64 7, .int .i64 a, .int .i64 x.next, .int .i64 x.alt] 34)).heap.size (wr.alloc (.cells #[.int .i64 7, .int .i64 a, .int .i64 x.next, .int .i64 x.alt] 34)) w1 →
                w1.cell? ⟨w.heap.size, 0, none⟩ = some (.int .i64 p.g) ∧ w1.cell? ⟨w.heap.size, 1, none⟩ = some (.int .i64 p.l) ∧ w1.cell? ⟨w.heap.size, 2, none⟩ = some (.int .i64 p.s) ∧ w1.cell? ⟨w.heap.size, 3, none⟩ = some (.slice (some ⟨b, o, none⟩) p.fs.length c) ∧
                  w1.cell? ⟨wr.heap.size, 0, none⟩ = some (.int .i64 7) ∧ w1.cell? ⟨wr.heap.size, 1, none⟩ = some (.int .i64 a) := fun w1 hb =>
              ⟨below_cell hb (alloc_cell p0 _), below_cell hb (alloc_cell p1 _), below_cell hb (alloc_cell p2 _), below_cell hb (alloc_cell p3 _), below_cell hb (new_cell _ _ _ 0), below_cell hb (new_cell _ _ _ 1)⟩
            have Hk := Lib.hid hk
            clear hk
            cases hcm : comesB p a f
            · rw [hcm] at hrn hbad
              have Hrn := Lib.hid hrn
              have HBw := Lib.hid hBw
              have Hbad := Lib.hid hbad
              have Hx := Lib.hid hx
              clear hrn hBw hx ha hca hbx hbad
              go_wp2_with fail
              go_region_held3 (fun w' => w'.cell? ⟨w.heap.size, 0, none⟩ = some (.int .i64 p.g) ∧ w'.cell? ⟨w.heap.size, 1, none⟩ = some (.int .i64 p.l) ∧ w'.cell? ⟨w.heap.size, 2, none⟩ = some (.int .i64 p.s) ∧ w'.cell? ⟨w.heap.size, 3, none⟩ = some (.slice (some ⟨b, o, none⟩) p.fs.length c) ∧
                  w'.cell? ⟨wr.heap.size, 0, none⟩ = some (.int .i64 7) ∧ w'.cell? ⟨wr.heap.size, 1, none⟩ = some (.int .i64 a))
                (first | go_keep | exact Hk.out _ hb)
                ((go_at_call 120; refine (Hrn.out _ (by exact ⟨rfl, rfl, rfl, rfl⟩)).mono ?_; rintro e w1 ⟨rfl, hb⟩))
              have hB3 : Below wo.heap.size wo w1 := HB2.out.trans (((Below.refl _ _).alloc (by exact HB2.out.size) _).trans (hb.mono (by simp; have := HB2.out.size; omega)))
              have hbx3 := below_blk hb (blk_alloc' Hbx.out _)
              have HB3 := Lib.hid hB3
              have Hbx3 := Lib.hid hbx3
              clear hB3 hbx3 hb
              go_wp2
              go_roundw
              case rel => exact ⟨i + 1, by go_num, by omega, findIdx_ge l _ i Hi.out hil (by rw [Hx.out]; exact Hbad.out), Hbx3.out, HB3.out⟩
              case measure => simp [intOf]; omega
            · rw [hcm] at hrn hbad
              have Hrn := Lib.hid hrn
              have HBw := Lib.hid hBw
              have Hbad := Lib.hid hbad
              have Hx := Lib.hid hx
              clear hrn hBw hx ha hca hbx hbad
              go_wp2_with fail
              go_region_held3 (fun w' => w'.cell? ⟨w.heap.size, 0, none⟩ = some (.int .i64 p.g) ∧ w'.cell? ⟨w.heap.size, 1, none⟩ = some (.int .i64 p.l) ∧ w'.cell? ⟨w.heap.size, 2, none⟩ = some (.int .i64 p.s) ∧ w'.cell? ⟨w.heap.size, 3, none⟩ = some (.slice (some ⟨b, o, none⟩) p.fs.length c) ∧
                  w'.cell? ⟨wr.heap.size, 0, none⟩ = some (.int .i64 7) ∧ w'.cell? ⟨wr.heap.size, 1, none⟩ = some (.int .i64 a))
                (first | go_keep | exact Hk.out _ hb)
                ((go_at_call 120; refine (Hrn.out _ (by exact ⟨rfl, rfl, rfl, rfl⟩)).mono ?_; rintro e w1 ⟨rfl, hb⟩))
              have hB3 : Below wo.heap.size wo w1 := HB2.out.trans (((Below.refl _ _).alloc (by exact HB2.out.size) _).trans (hb.mono (by simp; have := HB2.out.size; omega)))
              have hbx3 := below_blk hb (blk_alloc' Hbx.out _)
              have HB3 := Lib.hid hB3
              have Hbx3 := Lib.hid hbx3
              clear hB3 hbx3 hb
              have hR2 := HRl.out
              rw [findIdx_eq l _ i Hi.out hil (by rw [Hx.out]; exact Hbad.out), if_pos hil] at hR2
              have HR2 := Lib.hid hR2
              have HBf := Lib.hid (HB.out.trans (HB3.out.mono HB.out.size))
              clear hR2
              go_wp2
              rw [← HR2.out]
              go_ret3
              exact ⟨rfl, HBf.out⟩
          · have h7b : (x.kind == 7) = false := by rw [beq_eq_false_iff_ne]; exact h7
            have hbad : badB p f x = false := by unfold badB; simp [h7]
            have Hbad := Lib.hid hbad
            have Hx := Lib.hid hx
            clear hx h7 hbad
            go_wp2
            go_quiet (fail)
            go_wp2
            go_roundw
            case rel => exact ⟨i + 1, by go_num, by omega, findIdx_ge l _ i Hi.out hil (by rw [Hx.out]; exact Hbad.out), blk_alloc' Hbx.out _, below_drewN' (HB2.out.alloc HB2.out.size _) _⟩
            case measure => simp [intOf]; omega
        · have hie : i = l.length := by omega
          have hR2 := HRl.out
          rw [if_neg (by have := Hi.out; omega)] at hR2
          have HR2 := Lib.hid hR2
          clear hR2
          go_wp2
          go_roundw
          case rel => exact ⟨f + 1, by go_num, by omega, HR2.out, Hbx.out, HB.out.trans (HB2.out.mono HB.out.size)⟩
          case measure => simp [intOf]; omega
    · have hfe : f = p.fs.length := by omega
      have hR2 := HRf.out
      rw [hfe, List.drop_length] at hR2
      unfold roundL at hR2
      have HR2 := Lib.hid hR2
      clear hR2
      go_wp2
      rw [← HR2.out]
      go_ret3
      exact ⟨rfl, HB.out⟩
end Go.Proofs.Ytbkgnokoicmppaa
