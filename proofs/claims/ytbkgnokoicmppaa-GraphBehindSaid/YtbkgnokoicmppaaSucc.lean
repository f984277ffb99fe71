/- prog.Succ; graph.Edges. -/
import Derived.Test.YtbkgnokoicmppaaGraphA
namespace Go.Proofs.Ytbkgnokoicmppaa
open Go.RowKit
set_option linter.unusedVariables false
set_option linter.unusedSimpArgs false

def succF (x : Node) : List Int := if x.kind = 9 then [] else if x.kind = 8 then [x.next, x.alt] else [x.next]
theorem succF_length (x : Node) : (succF x).length ≤ 2 := by unfold succF; split <;> (try split) <;> simp
theorem own_lit (w : World) (o : Obj) (cs : Array Value) (n : Nat) (hs : cs.size = n) (hm : n ≤ maxLen) : ((w.alloc o).alloc (.cells cs 3)).ownsRow w.heap.size 3 1 (.slice (some ⟨w.heap.size + 1, 0, none⟩) n n) n cs.toList := by
  have := World.ownsRow_lit (e := 3) (size := 1) (base := w.heap.size) (w.alloc o) cs n (bel1 _ _).size hm (by omega)
  rw [show (w.alloc o).heap.size = w.heap.size + 1 by simp] at this
  exact this
set_option maxHeartbeats 1000000 in
set_option maxRecDepth 100000 in
theorem Succ_any (x : Node) (w : World) :
    Calls Try.prog 50 #[nodeV x] w fun e w' => ∃ v, e = .returned v ∧ w'.ownsRow w.heap.size 3 1 v (succF x).length (ints (succF x)) ∧ Below w.heap.size w w' := by
  unfold nodeV succF
  by_cases h9 : x.kind = 9
  · rw [if_pos h9, h9]
    clear h9
    go_enter Try.func50, Try.ntmps50
    go_wp2
    go_ret
    exact ⟨_, rfl, World.ownsRow_nil _ _ _ _, bel1 _ _⟩
  · rw [if_neg h9]
    by_cases h8 : x.kind = 8
    · rw [if_pos h8, h8]
      clear h9 h8
      go_enter Try.func50, Try.ntmps50
      go_wp2
      go_ret
      exact ⟨_, rfl, own_lit w _ #[.int .i64 x.next, .int .i64 x.alt] 2 rfl (by decide), bel2 _ _ _⟩
    · rw [if_neg h8]
      have h9b : (x.kind == 9) = false := by rw [beq_eq_false_iff_ne]; exact h9
      have h8b : (x.kind == 8) = false := by rw [beq_eq_false_iff_ne]; exact h8
      clear h9 h8
      go_enter Try.func50, Try.ntmps50
      go_wp2
      go_ret
      exact ⟨_, rfl, own_lit w _ #[.int .i64 x.next] 1 rfl (by decide), bel2 _ _ _⟩

theorem own_below2 {w w1 : World} {base : Nat} {e : TypeId} {size n : Nat} {v : Value} {xs : List Value} (h : w.ownsRow base e size v n xs) (hb : Below w.heap.size w w1) : w1.ownsRow base e size v n xs :=
  own_chg h (Chg.of_below hb (fun _ => False)) (fun _ _ h => h)
/-! graph.Edges -/
def edgesL : Nat → List Node → List (Int × Int)
  | _, [] => []
  | i, x :: l => (succF x).map (fun y => ((i : Int), y)) ++ edgesL (i + 1) l
theorem edgesL_nil (i : Nat) : edgesL i [] = [] := rfl
theorem edgesL_cons (i : Nat) (x : Node) (l : List Node) : edgesL i (x :: l) = (succF x).map (fun y => ((i : Int), y)) ++ edgesL (i + 1) l := rfl
def edgeC (es : List (Int × Int)) : List Value := es.flatMap fun e => [.int .i64 e.1, .int .i64 e.2]
theorem edgeC_append (a b : List (Int × Int)) : edgeC (a ++ b) = edgeC a ++ edgeC b := by simp [edgeC]
theorem info_edge : (Try.prog.info? 40).map (fun i => (i.zero, i.size, i.bytes)) = some (some (.agg #[.int .i64 0, .int .i64 0]), 2, 16) := by kernel_rfl
theorem edgesL_length : ∀ (l : List Node) (i : Nat), (edgesL i l).length ≤ 2 * l.length := by
  intro l
  induction l with
  | nil => intro i; simp [edgesL]
  | cons x l ih => intro i; rw [edgesL_cons, List.length_append, List.length_map, List.length_cons]; have := ih (i + 1); have := succF_length x; omega
set_option maxHeartbeats 2000000 in
set_option maxRecDepth 100000 in
theorem Edges_any (l : List Node) (A : Option Addr) (c : Nat) (w : World) (hl : l.length ≤ 1000000) (hN : NodesAt w A l) :
    Calls Try.prog 16 #[.slice A l.length c] w fun e w' => ∃ v, e = .returned v ∧ w'.ownsRow w.heap.size 40 2 v (edgesL 0 l).length (edgeC (edgesL 0 l)) ∧ Below w.heap.size w w' := by
  obtain ⟨R, hR⟩ : ∃ R, edgesL 0 l = R := ⟨_, rfl⟩
  have hRl := edgesL_length l 0
  rw [hR] at hRl ⊢
  have HR := Lib.hid hR
  have HN := Lib.hid hN
  have Hs := Lib.hid (fun x W => Succ_any x W)
  clear hR hN
  unfold nodeV at Hs
  go_enter Try.func16, Try.ntmps16
  go_wp2
  go_loopw [3, 10] (fun v x wr => ∃ (i : Nat) (out : List (Int × Int)), x = .int .i64 i ∧ i ≤ l.length ∧ Hid (out ++ edgesL i (l.drop i) = R) ∧ Hid (wr.ownsRow w.heap.size 40 2 v out.length (edgeC out)) ∧ Hid (Below w.heap.size w wr)) (fun _ x _ => l.length - (intOf x).toNat)
  case atStart => exact ⟨0, [], rfl, Nat.zero_le _, HR.out, World.ownsRow_nil _ _ _ _, Below.refl _ _⟩
  case round =>
    obtain ⟨i, out, rfl, hi, Ho, HO, HB⟩ := hrel
    by_cases hil : i < l.length
    · obtain ⟨b', o', rfl, k0, k1, k2, k3⟩ := NodesAt.at (Rd.below HN.out HB.out) i hil
      obtain ⟨x, hx⟩ : ∃ x, l.getD i zNode = x := ⟨_, rfl⟩
      rw [hx] at k0 k1 k2 k3
      have ho := Ho.out
      rw [drop_cons l i hil, hx, edgesL_cons, ← List.append_assoc] at ho
      have hs := Hs.out x
      obtain ⟨s, hse⟩ : ∃ s, succF x = s := ⟨_, rfl⟩
      have hsl : s.length ≤ 2 := hse ▸ succF_length x
      rw [hse] at hs ho
      have hol1 : out.length + s.length ≤ 2000000 := by
        have := congrArg List.length ho
        simp at this
        omega
      have Hs2 := Lib.hid hs
      have Ho2 := Lib.hid ho
      clear hs ho hse hx
      go_wp2_with fail
      refine (Hs2.out _).mono ?_
      rintro e wo ⟨vs, rfl, hos, hbs⟩
      obtain ⟨As, cs, rfl⟩ := own_form' hos
      have hB2 := (HB.out.trans ((bel1 _ _).mono HB.out.size)).trans (hbs.mono (by have := HB.out.size; simp; omega))
      have hO2 := own_below2 (own_below2 HO.out (bel1 _ _)) hbs
      have HOs := Lib.hid hos
      have HB2 := Lib.hid hB2
      have HO2 := Lib.hid hO2
      clear hos hbs hB2 hO2 k0 k1 k2 k3
      go_wp2
      obtain ⟨wm, rfl⟩ : ∃ wm : World, wm = wr := ⟨_, rfl⟩
      go_loopw [3, 18] (fun v y wq => ∃ (k : Nat) (out2 : List (Int × Int)), y = .int .i64 k ∧ k ≤ s.length ∧ Hid (out2.length = out.length + k) ∧ Hid (out2 ++ (s.drop k).map (fun y => ((i : Int), y)) = out ++ s.map (fun y => ((i : Int), y))) ∧ Hid (wq.ownsRow w.heap.size 40 2 v out2.length (edgeC out2)) ∧ Hid (wq.ownsRow (wm.alloc (.cells #[.int .i64 x.kind, .int .i64 x.arg, .int .i64 x.next, .int .i64 x.alt] 34)).heap.size 3 1 (.slice As s.length cs) s.length (ints s)) ∧ Hid (Below w.heap.size w wq)) (fun _ y _ => s.length - (intOf y).toNat)
      case atStart => exact ⟨0, out, rfl, Nat.zero_le _, rfl, rfl, HO2.out, HOs.out, HB2.out⟩
      case round =>
        obtain ⟨k, out2, rfl, hk, Hol, Ho3, HO3, HOs3, HB3⟩ := hrel
        by_cases hkl : k < s.length
        · obtain ⟨gs, caps, hgs, _⟩ := HOs3.out.form (by omega)
          injection hgs with hg1 hg2 hg3
          subst hg1 hg3
          have hcs := (HOs3.out.cellAt k (by omega)).trans (ints_get s k hkl)
          obtain ⟨y, hy⟩ : ∃ y, s.getD k 0 = y := ⟨_, rfl⟩
          rw [hy] at hcs
          have ho3 := Ho3.out
          rw [show s.drop k = y :: s.drop (k + 1) by rw [← hy, List.drop_eq_getElem_cons hkl, List.getD_eq_getElem?_getD, List.getElem?_eq_getElem hkl]; rfl, List.map_cons, List.append_cons] at ho3
          have Ho4 := Lib.hid ho3
          obtain ⟨g, cap, w2, hr, h2, h3, h4, h5, h6⟩ := app_run (ty := 37) Try.underlying37 info_edge rfl (by decide) (by decide) wr (wr.alloc (.cells #[.int .i64 (i : Nat), .int .i64 y] 40)) rfl rfl rfl rfl HO3.out (news := [.int .i64 (i : Nat), .int .i64 y]) rfl (by intro u hu; simp at hu; rcases hu with rfl | rfl <;> rfl) (by have := Hol.out; omega) HB3.out.size
          have hB4 : Below w.heap.size w w2 := h3.below HB3.out HB3.out.size (fun k hk => (own_lt' HO3.out k hk).1)
          have hOs4 := own_chg HOs3.out h3 (fun k hk h => by
            have e1 := (own_lt' HO3.out k h)
            obtain ⟨c1, e2⟩ := own_typed' HO3.out k h
            obtain ⟨c2, e3⟩ := own_typed' HOs3.out k hk
            rw [e2] at e3
            injection e3 with e3
            injection e3 with _ e3
            exact absurd e3 (by decide))
          have Hr := Lib.hid hr
          have H2 := Lib.hid h2
          have HB4 := Lib.hid hB4
          have HOs4 := Lib.hid hOs4
          clear hr h2 h3 h4 h5 h6 hB4 hOs4 ho3 hy
          go_wp2_with (at_builtin; refine list_app rfl (.tmp 22) (.tmp 26) 37 rfl rfl rfl Hr.out ?_)
          go_roundw
          case rel => exact ⟨k + 1, out2 ++ [((i : Int), y)], by go_num, by omega, (show (out2 ++ [((i : Int), y)]).length = out.length + (k + 1) from by rw [List.length_append, Hol.out]; rfl), Ho4.out, (by rw [List.length_append, edgeC_append]; exact H2.out : World.ownsRow _ _ _ _ _ _ _), HOs4.out, HB4.out⟩
          case measure => simp [intOf]; omega
        · have hke : k = s.length := by omega
          have ho3 := Ho3.out
          rw [hke, List.drop_length, List.map_nil, List.append_nil] at ho3
          subst ho3
          clear hke hk
          go_wp2
          go_roundw
          case rel => exact ⟨i + 1, _, by go_num, by omega, Ho2.out, HO3.out, HB3.out⟩
          case measure => simp [intOf]; omega
    · have hie : i = l.length := by omega
      have ho := Ho.out
      rw [hie, List.drop_length, edgesL_nil, List.append_nil] at ho
      subst ho
      clear hie
      go_wp2
      go_ret
      exact ⟨_, rfl, HO.out, HB.out⟩
end Go.Proofs.Ytbkgnokoicmppaa
