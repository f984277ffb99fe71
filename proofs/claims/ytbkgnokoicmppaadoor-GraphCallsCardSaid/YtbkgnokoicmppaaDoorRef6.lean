/- Package alibiref06: Named, Reach; graph.Begun. -/
import Derived.Test.YtbkgnokoicmppaaDoorRef3
namespace Go.Proofs.YtbkgnokoicmppaaDoor
open Go.RowKit
set_option linter.unusedVariables false
set_option linter.unusedSimpArgs false

def named6 (l : List Node) (kind : Int) (id : Nat) : Bool := l.any fun x => x.kind == kind && x.arg == (id : Int)

set_option maxHeartbeats 2000000 in
set_option maxRecDepth 100000 in
theorem Named6_any (l : List Node) (A : Option Addr) (c : Nat) (kind : Int) (w : World) (hl : l.length ≤ 1000000) (hN : NodesAt w A l) :
    Calls Tryd.prog 11 #[.slice A l.length c, .int .i64 kind] w fun e w' => ∃ v, e = .returned v ∧ w'.ownsRow w.heap.size 3 1 v (idL (named6 l kind) 32).length (ints (idL (named6 l kind) 32)) ∧ Below w.heap.size w w' := by
  obtain ⟨q, hq⟩ : ∃ q, named6 l kind = q := ⟨_, rfl⟩
  rw [hq]
  have Hq := Lib.hid (fun i => congrFun hq i)
  have HN := Lib.hid hN
  clear hq hN
  go_enter Tryd.func11, Tryd.ntmps11
  go_wp2
  go_loopw [5, 6] (fun v x wr => ∃ (i : Nat), x = .int .i64 i ∧ i ≤ 32 ∧ Hid (wr.ownsRow w.heap.size 3 1 v (idL q i).length (ints (idL q i))) ∧ Hid (Below w.heap.size w wr)) (fun _ x _ => 32 - (intOf x).toNat)
  case atStart => exact ⟨0, rfl, Nat.zero_le _, World.ownsRow_nil _ _ _ _, Below.refl _ _⟩
  case round =>
    obtain ⟨i, rfl, hi, HO, HB⟩ := hrel
    by_cases hil : i < 32
    · have hqi := Hq.out i
      obtain ⟨r, hr⟩ : ∃ r, q i = r := ⟨_, rfl⟩
      rw [hr] at hqi
      have Hr := Lib.hid hr
      have Hqi := Lib.hid (show l.any (fun x => x.kind == kind && x.arg == (i : Int)) = r from hqi)
      clear hr hqi
      go_wp2
      go_loopw [7, 8] (fun s y w1 => ∃ (k : Nat) (b : Bool), y = .int .i64 k ∧ s = .bool b ∧ k ≤ l.length ∧ Hid ((b || (l.drop k).any (fun x => x.kind == kind && x.arg == (i : Int))) = r) ∧ w1 = wr) (fun _ y _ => l.length - (intOf y).toNat)
      case atStart => exact ⟨0, false, rfl, rfl, Nat.zero_le _, (by rw [Bool.false_or]; exact Hqi.out : (false || (l.drop 0).any _) = r), rfl⟩
      case round =>
        obtain ⟨k, b, rfl, rfl, hk, Hb, rfl⟩ := hrel
        by_cases hkl : k < l.length
        · obtain ⟨b', o', rfl, k0, k1, k2, k3⟩ := NodesAt.at (Rd.below HN.out HB.out) k hkl
          obtain ⟨x, hx⟩ : ∃ x, l.getD k zNode = x := ⟨_, rfl⟩
          rw [hx] at k0 k1 k2 k3
          have hb := Hb.out
          rw [drop_cons l k hkl, hx, List.any_cons, ← Bool.or_assoc] at hb
          cases b
          · cases e1 : (x.kind == kind)
            · rw [e1] at hb
              have Hb2 := Lib.hid hb
              clear hb hx
              go_wp2
              go_roundw
              case rel => exact ⟨k + 1, _, by go_num, rfl, by omega, Hb2.out, by first | rfl | trivial⟩
              case measure => simp [intOf]; omega
            · cases e2 : (x.arg == (i : Int))
              · rw [e1, e2] at hb
                have Hb2 := Lib.hid hb
                clear hb hx
                go_wp2
                go_roundw
                case rel => exact ⟨k + 1, _, by go_num, rfl, by omega, Hb2.out, by first | rfl | trivial⟩
                case measure => simp [intOf]; omega
              · rw [e1, e2] at hb
                have Hb2 := Lib.hid hb
                clear hb hx
                go_wp2
                go_roundw
                case rel => exact ⟨k + 1, _, by go_num, rfl, by omega, Hb2.out, by first | rfl | trivial⟩
                case measure => simp [intOf]; omega
          · rw [Bool.true_or] at hb
            have Hb2 := Lib.hid hb
            clear hb hx
            go_wp2
            go_roundw
            case rel => exact ⟨k + 1, true, by go_num, rfl, by omega, Hb2.out, by first | rfl | trivial⟩
            case measure => simp [intOf]; omega
        · have hke : k = l.length := by omega
          have hb := Hb.out
          rw [hke, List.drop_length, List.any_nil, Bool.or_false] at hb
          subst hb
          cases b
          · have Hqf := Lib.hid (show idL q (i + 1) = idL q i by rw [idL_succ, Hr.out, if_neg (by simp)])
            go_wp2
            go_roundw
            case rel => exact ⟨i + 1, by go_num, by omega, (by rw [Hqf.out]; exact HO.out : World.ownsRow _ _ _ _ _ _ _), HB.out⟩
            case measure => simp [intOf]; omega
          · have hlen := idL_length q i
            have Hqf := Lib.hid (show idL q (i + 1) = idL q i ++ [(i : Int)] by rw [idL_succ, Hr.out, if_pos rfl])
            obtain ⟨g, cap, w2, hr, h2, h3, h4, h5, h6⟩ := app_run (ty := 34) Tryd.underlying34 info_int rfl (by decide) (by decide) wr (wr.alloc (.cells #[.int .i64 (i : Nat)] 3)) rfl rfl rfl rfl HO.out (news := [.int .i64 (i : Nat)]) rfl (by intro u hu; simp at hu; subst hu; rfl) (by omega) HB.out.size
            have hB2 : Below w.heap.size w w2 := h3.below HB.out HB.out.size (fun k hk => (own_lt' HO.out k hk).1)
            have Hrn := Lib.hid hr
            have H2 := Lib.hid h2
            have HB2 := Lib.hid hB2
            clear hr h2 h3 h4 hB2 h5 h6
            go_wp2_with (at_builtin; refine list_app rfl (.tmp 39) (.tmp 41) 34 rfl rfl rfl Hrn.out ?_)
            go_roundw
            case rel => exact ⟨i + 1, by go_num, by omega, (by rw [Hqf.out, List.length_append, ints_append]; exact H2.out : World.ownsRow _ _ _ _ _ _ _), HB2.out⟩
            case measure => simp [intOf]; omega
    · obtain rfl : i = 32 := by omega
      go_wp2
      go_ret
      exact ⟨_, rfl, HO.out, HB.out⟩
end Go.Proofs.YtbkgnokoicmppaaDoor
