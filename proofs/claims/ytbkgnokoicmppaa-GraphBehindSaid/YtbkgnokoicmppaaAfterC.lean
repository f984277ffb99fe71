/- graph.After, walked. -/
import Derived.Test.YtbkgnokoicmppaaAfterB
import Derived.Deep.LoopGhost
namespace Go.Proofs.Ytbkgnokoicmppaa
open Go.RowKit
set_option linter.unusedVariables false
set_option linter.unusedSimpArgs false

def ClosedAt (l : List Node) (b : List Bool) (j : Nat) : Prop := ∀ y ∈ succF (l.getD j zNode), 0 ≤ y → y < l.length → b.getD y.toNat false = true
def AftInv (l : List Node) (b : List Bool) (td : List Int) : Prop :=
  (∀ j : Nat, b.getD j false = true → j < l.length → (j : Int) ∈ td ∨ ClosedAt l b j) ∧ (∀ x ∈ td, 0 ≤ x ∧ x < l.length) ∧ b.count false + td.length ≤ l.length
theorem AftInv.add {l : List Node} {b b' : List Bool} {td td' : List Int} {ys : List Int} (h : AftInv l b td) (k : AddOk l.length ys b td b' td') : AftInv l b' td' := by
  obtain ⟨h1, h2, h3⟩ := h
  refine ⟨fun j hj hl => ?_, k.range h2, by have := k.cnt; omega⟩
  rcases k.new j hj with h | h
  · rcases h1 j h hl with h | h
    · exact .inl (k.keep _ h)
    · exact .inr fun y hy h0 h1 => k.mono _ (h y hy h0 h1)
  · exact .inl h
/-- One pop, and what stands behind it. -/
theorem AftInv.pop {l : List Node} {b b' : List Bool} {td td' : List Int} {x : Nat} (h : AftInv l b (td ++ [(x : Int)])) (k : AddOk l.length (succF (l.getD x zNode)) b td b' td') : AftInv l b' td' := by
  obtain ⟨h1, h2, h3⟩ := h
  rw [List.length_append] at h3
  simp only [List.length_cons, List.length_nil] at h3
  refine ⟨fun j hj hl => ?_, k.range (fun y hy => h2 y (List.mem_append.2 (.inl hy))), by have := k.cnt; omega⟩
  rcases k.new j hj with h | h
  · rcases h1 j h hl with h | h
    · rcases List.mem_append.1 h with h | h
      · exact .inl (k.keep _ h)
      · simp at h
        obtain rfl : j = x := by omega
        exact .inr fun y hy h0 h1 => k.ins y hy h0 h1
    · exact .inr fun y hy h0 h1 => k.mono _ (h y hy h0 h1)
  · exact .inl h
theorem AftInv.zero (l : List Node) : AftInv l (List.replicate l.length false) [] := by
  refine ⟨fun j hj hl => ?_, fun x hx => by simp at hx, by simp⟩
  rw [List.getD_eq_getElem?_getD, List.getElem?_replicate, if_pos hl] at hj
  cases hj

set_option maxHeartbeats 4000000 in
set_option maxRecDepth 100000 in
theorem After_any (l : List Node) (A : Option Addr) (c : Nat) (xs : List Int) (Ax : Option Addr) (cx : Nat) (w : World) (hN : NodesAt w A l) (hl : l.length ≤ 1000000) (hr : Rd w Ax (ints xs)) (hxl : xs.length ≤ 1000000) :
    Calls Try.prog 15 #[.slice A l.length c, .slice Ax xs.length cx] w fun e w' => e = .returned (.slice (some ⟨w.heap.size + 1, 0, none⟩) l.length l.length) ∧
      ∃ b : List Bool, b.length = l.length ∧ w'.heap[w.heap.size + 1]? = some (.cells (bools b).toArray 4 (0, 0)) ∧ (∀ j, j < l.length → b.getD j false = true → ClosedAt l b j) ∧ Below w.heap.size w w' := by
  have hmk : ∀ W, (Instr.makeSlice 35 (.int .i64 (l.length : Int)) (.int .i64 (l.length : Int))).run Try.prog W = .ok (.slice (some ⟨W.heap.size, 0, none⟩) l.length l.length) (W.alloc (.cells (madeCells #[.bool false] l.length) 4)) :=
    fun W => run_make_row' 35 4 (.bool false) 1 Try.underlying35 info_bool rfl .i64 .i64 l.length (by omega) (by omega) W
  have hmf : ∀ (fn : Fn) (first cap : Array Value) (w : World), (Instr.makeFunc fn first cap).run Try.prog w = .ok (.func fn first cap) w := fun _ _ _ _ => rfl
  have HN := Lib.hid hN
  have Hrd := Lib.hid hr
  have Hadd := Lib.hid (fun i b td v w0 (hst : AftSt l A c w b td v w0) hb => Add_any l A c w i b td v w0 hst hN hl hb)
  have hst0 : AftSt l A c w (List.replicate l.length false) [] (.slice none 0 0) ((((w.alloc (.cells #[.slice A l.length c] 32)).alloc (.cells (madeCells #[.bool false] l.length) 4)).alloc (.cells #[.slice (some ⟨w.heap.size + 1, 0, none⟩) l.length l.length] 35)).alloc (.cells #[.slice none 0 0] 25)) := by
    have e : (bools (List.replicate l.length false)).toArray = madeCells #[.bool false] l.length := by rw [toList_made]; simp [bools]
    refine ⟨blk_alloc' (blk_alloc' (blk_alloc' (blk_new _ _) _) _) _, ?_, ?_, ?_, World.ownsRow_nil _ _ _ _, ?_, by simp⟩
    · rw [e]
      have := blk_alloc' (blk_alloc' (blk_new (w.alloc (.cells #[.slice A l.length c] 32)) (.cells (madeCells #[.bool false] l.length) 4)) (.cells #[.slice (some ⟨w.heap.size + 1, 0, none⟩) l.length l.length] 35)) (.cells #[.slice none 0 0] 25)
      rwa [show (w.alloc (.cells #[.slice A l.length c] 32)).heap.size = w.heap.size + 1 by simp] at this
    · have := blk_alloc' (blk_new ((w.alloc (.cells #[.slice A l.length c] 32)).alloc (.cells (madeCells #[.bool false] l.length) 4)) (.cells #[.slice (some ⟨w.heap.size + 1, 0, none⟩) l.length l.length] 35)) (.cells #[.slice none 0 0] 25)
      rwa [show ((w.alloc (.cells #[.slice A l.length c] 32)).alloc (.cells (madeCells #[.bool false] l.length) 4)).heap.size = w.heap.size + 2 by simp] at this
    · have := blk_new (((w.alloc (.cells #[.slice A l.length c] 32)).alloc (.cells (madeCells #[.bool false] l.length) 4)).alloc (.cells #[.slice (some ⟨w.heap.size + 1, 0, none⟩) l.length l.length] 35)) (.cells #[.slice none 0 0] 25)
      rwa [show (((w.alloc (.cells #[.slice A l.length c] 32)).alloc (.cells (madeCells #[.bool false] l.length) 4)).alloc (.cells #[.slice (some ⟨w.heap.size + 1, 0, none⟩) l.length l.length] 35)).heap.size = w.heap.size + 3 by simp] at this
    · exact (((bel1 w _).alloc (by simp) _).alloc (by simp; omega) _).alloc (by simp; omega) _
  have Hst0 := Lib.hid hst0
  have HI0 := Lib.hid (AftInv.zero l)
  clear hN hr hst0
  go_enter Try.func15, Try.ntmps15
  go_wp2
  clear hmk hmf
  go_loopw [17] (fun x wr => ∃ (k : Nat) (b : List Bool) (td : List Int) (v : Value), x = .int .i64 k ∧ k ≤ xs.length ∧ Hid (AftSt l A c w b td v wr) ∧ Hid (AftInv l b td)) (fun x _ => xs.length - (intOf x).toNat)
  case atStart => exact ⟨0, _, _, _, rfl, Nat.zero_le _, Hst0.out, HI0.out⟩
  case round =>
    obtain ⟨k, b, td, v, rfl, hk, HS, HI⟩ := hrel
    by_cases hkl : k < xs.length
    · obtain ⟨bx, ox, rfl, hc⟩ := (Hrd.out.below HS.out.bel).at k (by rw [ints_length]; exact hkl)
      have hck := hc k _ (ints_get xs k hkl)
      obtain ⟨x, hx⟩ : ∃ x, xs.getD k 0 = x := ⟨_, rfl⟩
      rw [hx] at hck
      have ha := Hadd.out x b td v wr HS.out (by have := HI.out.2.2; omega)
      have HA := Lib.hid ha
      clear hc hx ha
      go_wp2_with fail
      refine (HA.out).mono ?_
      rintro e w2 ⟨rfl, b2, td2, v2, hs2, hk2⟩
      have HS2 := Lib.hid hs2
      have HI2 := Lib.hid (HI.out.add hk2)
      clear hs2 hk2 HA
      go_wp2
      go_roundw
      case rel => exact ⟨k + 1, b2, td2, v2, by go_num, by omega, HS2.out, HI2.out⟩
      case measure => simp [intOf]; omega
    · have HS0 := HS
      have HI0 := HI
      clear Hst0 HS HI
      go_wp2
      go_loopg [10] (b.count false + td.length) (fun n x wr => ∃ (b : List Bool) (td : List Int) (v : Value), Hid (AftSt l A c w b td v wr) ∧ Hid (AftInv l b td) ∧ Hid (b.count false + td.length = n)) 
      case atStart => exact ⟨b, td, v, HS0.out, HI0.out, rfl⟩
      case round =>
        obtain ⟨b2, td2, v2, HS2, HI2, Hn⟩ := hrel
        clear HS0 HI0
        obtain ⟨Av, cv, rfl⟩ := own_form' HS2.out.todo
        have c2 : wr.cell? ⟨w.heap.size + 2, 0, none⟩ = some (.slice (some ⟨w.heap.size + 1, 0, none⟩) l.length l.length) := by rw [cell_blk HS2.out.obox]; rfl
        have c3 : wr.cell? ⟨w.heap.size + 3, 0, none⟩ = some (.slice Av td2.length cv) := by rw [cell_blk HS2.out.tbox]; rfl
        have f3 : wr.frozen? ⟨w.heap.size + 3, 0, none⟩ = false := frozen_blk HS2.out.tbox 0
        by_cases h0 : td2 = []
        · subst h0
          go_wp2
          go_ret
          refine ⟨rfl, b2, HS2.out.len, HS2.out.row, fun j hj hb => ?_, HS2.out.bel⟩
          rcases HI2.out.1 j hb hj with h | h
          · simp at h
          · exact h
        · obtain ⟨td3, x, rfl⟩ : ∃ td3 x, td2 = td3 ++ [x] := ⟨_, _, (List.dropLast_concat_getLast h0).symm⟩
          obtain ⟨hx0, hx1⟩ := HI2.out.2.1 x (by simp)
          obtain ⟨x, rfl⟩ := Int.eq_ofNat_of_zero_le hx0
          have ho := HS2.out.todo
          have hlen : (td3 ++ [(x : Int)]).length = td3.length + 1 := by simp
          obtain ⟨m, hm⟩ : ∃ m, td3.length = m := ⟨_, rfl⟩
          rw [hm] at hlen
          obtain ⟨g, cap, he, _⟩ := ho.form (by omega)
          injection he with e1 e2 e3
          subst e1 e3
          have hcx : wr.cell? ⟨g, m, none⟩ = some (.int .i64 (x : Int)) := by
            have h1 := (ho.cellAt m (by omega)).trans (ints_get _ m (by omega))
            rw [h1, List.getD_eq_getElem?_getD, List.getElem?_append_right (by omega), hm]
            simp
          have hcap : m + 1 ≤ cv := by
            rcases ho.2 with ⟨h', _⟩ | ⟨g', cap', cur, h', _, _, hc, _⟩
            · cases h'
            · injection h' with _ _ h'; omega
          rw [hlen] at c3 ho
          have hown : wr.ownsRow (w.heap.size + 4) 3 1 (.slice (some ⟨g, 0, none⟩) m cv) td3.length (ints td3) := by
            rw [hm]
            refine ownsRow_pop (last := [.int .i64 (x : Int)]) (by simp [ints, hm]) ?_
            rw [ints_append] at ho
            exact ho
          have st := HS2.out.put (Chg.refl _ _) hown
          have hcnt := HI2.out.2.2
          rw [hlen] at hcnt
          have ha := Hadd.out x b2 td3 _ _ st (by rw [hm]; omega)
          have HA := Lib.hid ha
          have Hm := Lib.hid hm
          have hm1 : m ≤ 1000000 := by omega
          have Hlen := Lib.hid hlen
          have hys : ysAt l (x : Int) = succF (l.getD x zNode) := by unfold ysAt; rw [if_pos (by omega), Int.toNat_natCast]
          have Hys := Lib.hid hys
          clear ha st hown ho hm hlen hcnt hys h0 hx0 hx1
          go_wp2_with fail
          refine (HA.out).mono ?_
          rintro e w2 ⟨rfl, b3, td4, v4, hs4, hk4⟩
          rw [Hys.out] at hk4
          have HS4 := Lib.hid hs4
          have HI4 := Lib.hid (HI2.out.pop hk4)
          have hc4 := hk4.cnt
          have hn2 := Hn.out
          rw [Hlen.out] at hn2
          rw [Hm.out] at hc4
          clear hs4 hk4 HA
          go_wp2
          go_roundg (b3.count false + td4.length)
          case measure => omega
          case rel => exact ⟨b3, td4, v4, HS4.out, HI4.out, rfl⟩
end Go.Proofs.Ytbkgnokoicmppaa
