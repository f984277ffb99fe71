/- graph.ids behind a pointer: the five methods, as HeapI asks them. -/
import Derived.Test.YtbkgnokoicmppaaHeap
namespace Go.Proofs.Ytbkgnokoicmppaa
open Go.RowKit
set_option linter.unusedVariables false

def IdsAt (B : Nat) (w : World) (Q : Nat → Prop) (xs : List Int) : Prop :=
  ∃ v, w.heap[B]? = some (.cells #[v] 89 (0, 0)) ∧ w.ownsRow 0 3 1 v xs.length (ints xs) ∧ Q B ∧ (∀ k, v.ownBlock = some k → Q k) ∧ (∀ k, Q k → k < w.heap.size) ∧ xs.length ≤ 1000001

theorem ids_m (B : Nat) (w : World) (v : Value) (h : w.cell? ⟨B, 0, none⟩ = some v) :
    (method 304 92 (.pointer (some ⟨B, 0, none⟩)) "Len").run Try.prog w = .ok (46, v) w ∧
    (method 304 92 (.pointer (some ⟨B, 0, none⟩)) "Less").run Try.prog w = .ok (146, v) w ∧
    (method 304 92 (.pointer (some ⟨B, 0, none⟩)) "Swap").run Try.prog w = .ok (147, v) w := by
  have e1 : (method 304 92 (.pointer (some ⟨B, 0, none⟩)) "Len").run Try.prog w = (loadVar 89 ⟨B, 0, none⟩ >>= fun x => pure ((46 : FuncId), x)).run Try.prog w := by kernel_rfl
  have e2 : (method 304 92 (.pointer (some ⟨B, 0, none⟩)) "Less").run Try.prog w = (loadVar 89 ⟨B, 0, none⟩ >>= fun x => pure ((146 : FuncId), x)).run Try.prog w := by kernel_rfl
  have e3 : (method 304 92 (.pointer (some ⟨B, 0, none⟩)) "Swap").run Try.prog w = (loadVar 89 ⟨B, 0, none⟩ >>= fun x => pure ((147 : FuncId), x)).run Try.prog w := by kernel_rfl
  rw [e1, e2, e3]
  simp [go_sem, h]
theorem ids_m2 (B : Nat) (w : World) :
    (method 304 92 (.pointer (some ⟨B, 0, none⟩)) "Push").run Try.prog w = .ok (149, .pointer (some ⟨B, 0, none⟩)) w ∧
    (method 304 92 (.pointer (some ⟨B, 0, none⟩)) "Pop").run Try.prog w = .ok (148, .pointer (some ⟨B, 0, none⟩)) w := ⟨by kernel_rfl, by kernel_rfl⟩


set_option maxHeartbeats 400000 in
set_option maxRecDepth 10000 in
theorem ids_Len (A : Option Addr) (n c : Nat) (w : World) : Calls Try.prog 46 #[.slice A n c] w fun e w' => e = .returned (.int .i64 n) ∧ w = w' := by
  go_enter Try.func46, Try.ntmps46
  go_wp2
  go_ret
  exact ⟨rfl, rfl⟩
set_option maxHeartbeats 400000 in
set_option maxRecDepth 10000 in
theorem ids_Less (g n c : Nat) (i k x y : Int) (w : World) (hn : n ≤ 1000001) (hi0 : 0 ≤ i) (hi : i < n) (hk0 : 0 ≤ k) (hk : k < n)
    (hx : w.cell? ⟨g, i.toNat, none⟩ = some (.int .i64 x)) (hy : w.cell? ⟨g, k.toNat, none⟩ = some (.int .i64 y)) :
    Calls Try.prog 146 #[.slice (some ⟨g, 0, none⟩) n c, .int .i64 i, .int .i64 k] w fun e w' => e = .returned (.bool (decide (x < y))) ∧ Sm w w' := by
  go_enter Try.func146, Try.ntmps146
  go_wp2
  go_quiet (fail)
  go_wp2
  go_ret
  exact ⟨rfl, Sm.drewN _ _⟩
set_option maxHeartbeats 400000 in
set_option maxRecDepth 10000 in
theorem ids_Swap (g n c : Nat) (i k x y : Int) (w : World) (hn : n ≤ 1000001) (hi0 : 0 ≤ i) (hi : i < n) (hk0 : 0 ≤ k) (hk : k < n)
    (hx : w.cell? ⟨g, i.toNat, none⟩ = some (.int .i64 x)) (hy : w.cell? ⟨g, k.toNat, none⟩ = some (.int .i64 y))
    (fx : w.frozen? ⟨g, i.toNat, none⟩ = false) (fy : w.frozen? ⟨g, k.toNat, none⟩ = false) :
    Calls Try.prog 147 #[.slice (some ⟨g, 0, none⟩) n c, .int .i64 i, .int .i64 k] w fun e w' => e = .returned (.tuple #[]) ∧ Sm ((w.setCell ⟨g, i.toNat, none⟩ (.int .i64 y)).setCell ⟨g, k.toNat, none⟩ (.int .i64 x)) w' := by
  obtain ⟨v', hy'⟩ := cell?_setCell_some (w := w) (p := ⟨g, i.toNat, none⟩) (x := .int .i64 y) (q := ⟨g, k.toNat, none⟩) (v := .int .i64 y) hy
  go_enter Try.func147, Try.ntmps147
  go_wp2
  go_region
  all_goals (go_end0; exact ⟨rfl, rfl, rfl, rfl, rfl⟩)
set_option maxHeartbeats 400000 in
set_option maxRecDepth 10000 in
theorem ids_Push (B : Nat) (w : World) (v : Value) (xs : List Int) (x : Int) (hb : w.heap[B]? = some (.cells #[v] 89 (0, 0))) (ho : w.ownsRow 0 3 1 v xs.length (ints xs)) (hl : xs.length < 1000000) :
    Calls Try.prog 149 #[.pointer (some ⟨B, 0, none⟩), .iface 3 (.int .i64 x)] w fun e w' => e = .returned (.tuple #[]) ∧
      ∃ g cap w1, w1.ownsRow 0 3 1 (.slice (some ⟨g, 0, none⟩) (xs.length + 1) cap) (xs.length + 1) (ints (xs ++ [x])) ∧ Chg (fun k => v.ownBlock = some k) w w1 ∧ (v.ownBlock = some g ∨ g = w.heap.size + 1) ∧ g < w1.heap.size ∧
        w1.heap[B]? = some (.cells #[v] 89 (0, 0)) ∧ Sm (w1.setCell ⟨B, 0, none⟩ (.slice (some ⟨g, 0, none⟩) (xs.length + 1) cap)) w' := by
  have hB : B < w.heap.size := (Array.getElem?_eq_some_iff.1 hb).1
  have hne : ∀ k, v.ownBlock = some k → k ≠ B := by
    intro k hk e
    subst e
    obtain ⟨cells, hc⟩ := own_typed' ho k hk
    rw [hc] at hb
    injection hb with hb
    injection hb with _ hb
    exact absurd hb (by decide)
  obtain ⟨g, cap, w', hr, h2, h3, h4, h5, h6⟩ := app_run (ty := 89) Try.underlying89 info_int rfl (by decide) (by decide) w (w.alloc (.cells #[.int .i64 x] 3)).drew rfl rfl rfl rfl ho (news := [.int .i64 x]) rfl (by intro u hu; simp at hu; subst hu; rfl) (by omega) (Nat.zero_le _)
  have hbw : w'.heap[B]? = some (.cells #[v] 89 (0, 0)) := (h3.block B hB (fun e => hne B e rfl)).trans hb
  have hc0 : w.cell? ⟨B, 0, none⟩ = some v := by rw [cell_blk hb]; rfl
  have hc1 : w'.cell? ⟨B, 0, none⟩ = some v := by rw [cell_blk hbw]; rfl
  have hf1 : w'.frozen? ⟨B, 0, none⟩ = false := frozen_blk hbw 0
  have hta : ∀ w, (Instr.typeAssert (Value.iface 3 (.int .i64 x)) 20 3 false).run Try.prog w = .ok (.int .i64 x) w := fun _ => by kernel_rfl
  have H2 := Lib.hid h2
  have H3 := Lib.hid h3
  have H4 := Lib.hid h4
  have Hr := Lib.hid hr
  have H5 := Lib.hid hbw
  clear h2 h3 h4 hbw hb ho hne hl hr h5
  go_enter Try.func149, Try.ntmps149
  go_wp2
  go_region_law (refine step_app rfl (.tmp 7) (.tmp 10) 89 rfl rfl rfl Hr.out ?_)
  all_goals (go_end0; exact ⟨rfl, g, cap, w', by rw [ints_append]; exact H2.out, H3.out, H4.out, h6, H5.out, ⟨rfl, rfl, rfl, rfl⟩⟩)
set_option maxHeartbeats 400000 in
set_option maxRecDepth 10000 in
theorem ids_Pop (B g n c : Nat) (x : Int) (w : World) (hn : n + 1 ≤ 1000001) (hc : w.cell? ⟨B, 0, none⟩ = some (.slice (some ⟨g, 0, none⟩) (n + 1) c)) (hf : w.frozen? ⟨B, 0, none⟩ = false) (hcap : n + 1 ≤ c) (hx : w.cell? ⟨g, n, none⟩ = some (.int .i64 x)) :
    Calls Try.prog 148 #[.pointer (some ⟨B, 0, none⟩)] w fun e w' => e = .returned (.iface 3 (.int .i64 x)) ∧ w.setCell ⟨B, 0, none⟩ (.slice (some ⟨g, 0, none⟩) n c) = w' := by
  go_enter Try.func148, Try.ntmps148
  go_wp2
  go_ret
  exact ⟨rfl, rfl⟩

theorem ids_box_ne {w : World} {B : Nat} {v : Value} {n : Nat} {vs : List Value} (hb : w.heap[B]? = some (.cells #[v] 89 (0, 0))) (ho : w.ownsRow 0 3 1 v n vs) : ∀ k, v.ownBlock = some k → k ≠ B := by
  intro k hk e
  subst e
  obtain ⟨cells, hc⟩ := own_typed' ho k hk
  rw [hc] at hb
  injection hb with hb
  injection hb with _ hb
  exact absurd hb (by decide)
theorem box_set {w : World} {B : Nat} {v u : Value} {t : TypeId} (hb : w.heap[B]? = some (.cells #[v] t (0, 0))) : (w.setCell ⟨B, 0, none⟩ u).heap[B]? = some (.cells #[u] t (0, 0)) := by
  simp [World.setCell, Array.getElem?_modify, hb]

theorem ids_heap (B : Nat) : HeapI 92 (.pointer (some ⟨B, 0, none⟩)) (IdsAt B) 46 146 147 149 148 where
  e0 := fun _ _ => by kernel_rfl
  e1 := fun _ _ => by kernel_rfl
  e2 := fun _ _ => by kernel_rfl
  e3 := fun _ _ => by kernel_rfl
  e4 := fun _ _ => by kernel_rfl
  len := by
    rintro w Q xs ⟨v, hb, ho, _⟩
    have hc : w.cell? ⟨B, 0, none⟩ = some v := by rw [cell_blk hb]; rfl
    refine ⟨v, (ids_m B w v hc).1, ?_⟩
    rcases ho.2 with ⟨rfl, h⟩ | ⟨g, cap, cur, rfl, _⟩
    · rw [h]; exact ids_Len _ _ _ _
    · exact ids_Len _ _ _ _
  less := by
    rintro w Q xs i j ⟨v, hb, ho, _, _, _, hl⟩ hi0 hi hj0 hj
    have hc : w.cell? ⟨B, 0, none⟩ = some v := by rw [cell_blk hb]; rfl
    refine ⟨v, (ids_m B w v hc).2.1, ?_⟩
    obtain ⟨g, cap, rfl, _⟩ := ho.form (by omega)
    have hx : w.cell? ⟨g, i.toNat, none⟩ = some (.int .i64 (xs.getD i.toNat 0)) := (ho.cellAt _ (by omega)).trans (ints_get _ _ (by omega))
    have hy : w.cell? ⟨g, j.toNat, none⟩ = some (.int .i64 (xs.getD j.toNat 0)) := (ho.cellAt _ (by omega)).trans (ints_get _ _ (by omega))
    exact ids_Less g _ cap i j _ _ w hl hi0 hi hj0 hj hx hy
  swap := by
    rintro w Q xs i j ⟨v, hb, ho, hQ, hv, hlt, hl⟩ hi0 hi hj0 hj
    have hc : w.cell? ⟨B, 0, none⟩ = some v := by rw [cell_blk hb]; rfl
    refine ⟨v, (ids_m B w v hc).2.2, ?_⟩
    have hne := ids_box_ne hb ho
    obtain ⟨g, cap, rfl, _⟩ := ho.form (by omega)
    have hx : w.cell? ⟨g, i.toNat, none⟩ = some (.int .i64 (xs.getD i.toNat 0)) := (ho.cellAt _ (by omega)).trans (ints_get _ _ (by omega))
    have hy : w.cell? ⟨g, j.toNat, none⟩ = some (.int .i64 (xs.getD j.toNat 0)) := (ho.cellAt _ (by omega)).trans (ints_get _ _ (by omega))
    refine (ids_Swap g _ cap i j _ _ w hl hi0 hi hj0 hj hx hy (ho.frozenAt _) (ho.frozenAt _)).mono ?_
    rintro e w' ⟨rfl, hS⟩
    have hg : g ≠ B := hne g rfl
    have hgQ : Q g := hv g rfl
    have h1 := (ho.stored i.toNat (.int .i64 (xs.getD j.toNat 0))).1
    have h2 := (h1.stored j.toNat (.int .i64 (xs.getD i.toNat 0))).1
    have hch : Chg (fun k => k = g) w ((w.setCell ⟨g, i.toNat, none⟩ (.int .i64 (xs.getD j.toNat 0))).setCell ⟨g, j.toNat, none⟩ (.int .i64 (xs.getD i.toNat 0))) :=
      Chg.trans (Q := fun k => k = g) (Q' := fun k => k = g) (Chg.of_setCell w ⟨g, i.toNat, none⟩ _) (Chg.of_setCell _ ⟨g, j.toNat, none⟩ _) (fun _ _ h => h)
    have hch' : Chg (fun k => k = g) w w' := hch.same hS
    refine ⟨rfl, ⟨.slice (some ⟨g, 0, none⟩) xs.length cap, (hch'.block B (Array.getElem?_eq_some_iff.1 hb).1 (fun e => hg e.symm)).trans hb, ?_, hQ, hv, fun k hk => Nat.lt_of_lt_of_le (hlt k hk) hch'.size, by rw [swp_length]; exact hl⟩, hch'.mono (fun k _ hk => hk ▸ hgQ)⟩
    rw [swp_length]
    unfold swp
    rw [ints_set, ints_set]
    exact own_stays h2 (fun k _ => by rw [hS.heap])
  push := by
    rintro w Q xs x ⟨v, hb, ho, hQ, hv, hlt, hl⟩ hlen
    refine ⟨_, (ids_m2 B w).1, ?_⟩
    have hne := ids_box_ne hb ho
    refine (ids_Push B w v xs x hb ho hlen).mono ?_
    rintro e w' ⟨rfl, g, cap, w1, h2, h3, h4, h6, hbw, hS⟩
    have hbs := box_set (u := .slice (some ⟨g, 0, none⟩) (xs.length + 1) cap) hbw
    have hgB : g ≠ B := by
      rcases h4 with h4 | h4
      · exact hne g h4
      · have := hlt B hQ; omega
    have hch : Chg (fun k => v.ownBlock = some k ∨ k = B) w w' := (Chg.trans (Q' := fun k => k = B) (h3.mono (fun k _ h => .inl h)) (Chg.of_setCell w1 ⟨B, 0, none⟩ _) (fun k _ e => .inr e)).same hS
    have hsz : w1.heap.size ≤ w'.heap.size := by rw [hS.heap]; simp [World.setCell]
    refine ⟨rfl, fun k => k = B ∨ k = g, ⟨.slice (some ⟨g, 0, none⟩) (xs.length + 1) cap, by rw [hS.heap]; exact hbs, ?_, .inl rfl, ?_, ?_, ?_⟩, hch.mono ?_, ?_⟩
    · rw [List.length_append, List.length_singleton]
      exact own_stays h2 (fun k hk => by rw [hS.heap]; exact Below.heap_setCell _ _ _ _ (fun e => hgB ((show g = k by simpa [Value.ownBlock] using hk).trans e)))
    · intro k hk
      exact .inr (show g = k by simpa [Value.ownBlock] using hk).symm
    · rintro k (rfl | rfl)
      · have := hlt _ hQ; have := h3.size; omega
      · omega
    · rw [List.length_append, List.length_singleton]; omega
    · rintro k _ (h | rfl)
      · exact hv k h
      · exact hQ
    · rintro k (rfl | rfl)
      · exact .inl hQ
      · rcases h4 with h4 | h4
        · exact .inl (hv _ h4)
        · exact .inr (by omega)
  pop := by
    rintro w Q xs h ⟨v, hb, ho, hQ, hv, hlt, hl⟩
    refine ⟨_, (ids_m2 B w).2, ?_⟩
    have hne := ids_box_ne hb ho
    have hp : 0 < xs.length := List.length_pos_iff.2 h
    obtain ⟨g, cap, rfl, _⟩ := ho.form hp
    obtain ⟨n, hn⟩ : ∃ n, xs.length = n + 1 := ⟨xs.length - 1, by omega⟩
    have hlast : xs.getD n 0 = xs.getLast h := by
      rw [List.getLast_eq_getElem, List.getD_eq_getElem?_getD, List.getElem?_eq_getElem (by omega)]
      simp [hn]
    have hx : w.cell? ⟨g, n, none⟩ = some (.int .i64 (xs.getD n 0)) := (ho.cellAt _ (by omega)).trans (ints_get _ _ (by omega))
    have hcap : n + 1 ≤ cap := by
      rcases ho.2 with ⟨h', _⟩ | ⟨g', cap', cur, h', _, _, hc, _⟩
      · cases h'
      · injection h' with _ _ h'; omega
    have hc : w.cell? ⟨B, 0, none⟩ = some (.slice (some ⟨g, 0, none⟩) (n + 1) cap) := by rw [cell_blk hb]; simp [hn]
    rw [hn] at ho
    have hown : w.ownsRow 0 3 1 (.slice (some ⟨g, 0, none⟩) n cap) n (ints xs.dropLast) := by
      refine ownsRow_pop (last := [.int .i64 (xs.getLast h)]) (by simp [ints, hn]) ?_
      rw [← List.dropLast_concat_getLast h, ints_append] at ho
      exact ho
    refine (ids_Pop B g n cap (xs.getD n 0) w (by omega) hc (frozen_blk hb 0) hcap hx).mono ?_
    rintro e w' ⟨rfl, rfl⟩
    rw [hlast]
    refine ⟨rfl, ⟨.slice (some ⟨g, 0, none⟩) n cap, box_set hb, ?_, hQ, hv, fun k hk => by simpa [World.setCell] using hlt k hk, by simp; omega⟩, (Chg.of_setCell _ _ _).mono (fun k _ hk => by rw [hk]; exact hQ)⟩
    rw [show xs.dropLast.length = n by simp [hn]]
    exact own_stays hown (fun k hk => Below.heap_setCell _ _ _ _ (hne k hk))
  same := by
    rintro w w' Q xs hS ⟨v, hb, ho, hQ, hv, hlt, hl⟩
    exact ⟨v, by rw [hS.heap]; exact hb, own_stays ho (fun k _ => by rw [hS.heap]), hQ, hv, by rw [hS.heap]; exact hlt, hl⟩
  small := by
    rintro w Q xs ⟨v, _, _, _, _, _, hl⟩
    omega
end Go.Proofs.Ytbkgnokoicmppaa
