/- What all walks use: the imports, cells that are read, rows of whole numbers of the call's own, what a call may have changed. -/
import Derived.Test.YtbkgnokoicmppaaProg
import Derived.WalkKit
import Derived.Below
import Derived.KernelRfl
import Derived.OwnWalk
import Derived.Deep.QuietTactic
import Derived.BigQuiet
import Derived.Deep.RegionWith
import Derived.Deep.RegionLaw
import Derived.RegionTactic
import Derived.Deep.DeepCutAuto
import Derived.WalkSpells
import Derived.WalkLawsBesides
import Derived.Lib.Hide
import Derived.Deep.AppendLies
import Derived.Deep.OwnRows
import Derived.Laws.OwnMore
import Derived.Deep.LoopGhost
import Derived.Maps.AppendAt
import Derived.Deep.RegionHeld3
import Derived.StillTailTactics
import Derived.WalkSmall
import Derived.Deep.RegionLawGrows
import Derived.Test.YtbkgnokoicmppaaPure
namespace Go.Proofs.Ytbkgnokoicmppaa
open Go.RowKit

/-- Between two worlds only blocks of Q, and new ones, are other. -/
structure Chg (Q : Nat → Prop) (w w' : World) : Prop where
  os : w'.os = w.os
  tape : w'.tape = w.tape
  output : w'.output = w.output
  size : w.heap.size ≤ w'.heap.size
  block : ∀ k, k < w.heap.size → ¬ Q k → w'.heap[k]? = w.heap[k]?
theorem Chg.refl (Q : Nat → Prop) (w : World) : Chg Q w w := ⟨rfl, rfl, rfl, Nat.le_refl _, fun _ _ _ => rfl⟩
theorem Chg.trans {Q Q' : Nat → Prop} {a b c : World} (h : Chg Q a b) (k : Chg Q' b c) (hQ : ∀ x, x < a.heap.size → Q' x → Q x) : Chg Q a c :=
  ⟨k.os.trans h.os, k.tape.trans h.tape, k.output.trans h.output, Nat.le_trans h.size k.size, fun x hx hn => (k.block x (Nat.lt_of_lt_of_le hx h.size) (fun hq => hn (hQ x hx hq))).trans (h.block x hx hn)⟩
theorem Chg.mono {Q Q' : Nat → Prop} {a b : World} (h : Chg Q a b) (hQ : ∀ x, x < a.heap.size → Q x → Q' x) : Chg Q' a b :=
  ⟨h.os, h.tape, h.output, h.size, fun x hx hn => h.block x hx (fun hq => hn (hQ x hx hq))⟩
theorem Chg.drewN {Q : Nat → Prop} {a b : World} (h : Chg Q a b) (n : Nat) : Chg Q a (b.drewN n) := ⟨h.os, h.tape, h.output, h.size, h.block⟩
theorem Chg.drew {Q : Nat → Prop} {a b : World} (h : Chg Q a b) : Chg Q a b.drew := ⟨h.os, h.tape, h.output, h.size, h.block⟩
theorem Chg.below {Q : Nat → Prop} {w0 a b : World} {B : Nat} (h : Chg Q a b) (hb : Below B w0 a) (hB : B ≤ a.heap.size) (hQ : ∀ k, Q k → B ≤ k) : Below B w0 b :=
  hb.trans ⟨h.os, h.tape, h.output, h.size, fun k hk => h.block k (by omega) (fun hq => by have := hQ k hq; omega)⟩
theorem Chg.cell {Q : Nat → Prop} {w w' : World} (h : Chg Q w w') {a : Addr} (hlt : a.block < w.heap.size) (hq : ¬ Q a.block) : w'.cell? a = w.cell? a :=
  World.cell?_of_block (h.block _ hlt hq)
theorem Chg.frozen {Q : Nat → Prop} {w w' : World} (h : Chg Q w w') {a : Addr} (hlt : a.block < w.heap.size) (hq : ¬ Q a.block) : w'.frozen? a = w.frozen? a :=
  World.frozen?_of_block (h.block _ hlt hq)
theorem Chg.of_grown {w w' : World} {row : Option Nat} (h : w.grownBy w' row) : Chg (fun k => some k = row) w w' := ⟨h.os, h.tape, h.output, h.size, fun k hk hn => h.block k hk hn⟩
theorem Chg.of_setCell (w : World) (a : Addr) (v : Value) : Chg (fun k => k = a.block) w (w.setCell a v) :=
  ⟨rfl, rfl, rfl, by simp [World.setCell], fun k _ hn => Below.heap_setCell w a v k hn⟩
theorem Chg.of_alloc (Q : Nat → Prop) (w : World) (o : Obj) : Chg Q w (w.alloc o) :=
  ⟨rfl, rfl, rfl, by simp, fun k hk _ => Below.heap_alloc w o k hk⟩
theorem Chg.of_below {w w' : World} (h : Below w.heap.size w w') (Q : Nat → Prop) : Chg Q w w' := ⟨h.os, h.tape, h.output, h.size, fun k hk _ => h.block k hk⟩
/-- The same memory: some orders have been drawn, no more. -/
structure Sm (w w' : World) : Prop where
  heap : w'.heap = w.heap
  os : w'.os = w.os
  tape : w'.tape = w.tape
  output : w'.output = w.output
theorem Sm.refl (w : World) : Sm w w := ⟨rfl, rfl, rfl, rfl⟩
theorem Sm.drewN (w : World) (n : Nat) : Sm w (w.drewN n) := ⟨rfl, rfl, rfl, rfl⟩
theorem Sm.trans {a b c : World} (h : Sm a b) (k : Sm b c) : Sm a c := ⟨k.heap.trans h.heap, k.os.trans h.os, k.tape.trans h.tape, k.output.trans h.output⟩
theorem Sm.cell {w w' : World} (h : Sm w w') (a : Addr) : w'.cell? a = w.cell? a := by simp [World.cell?, h.heap]
theorem Sm.frozen {w w' : World} (h : Sm w w') (a : Addr) : w'.frozen? a = w.frozen? a := by simp [World.frozen?, h.heap]
theorem Sm.below {B : Nat} {w w' : World} (h : Sm w w') : Below B w w' := ⟨h.os, h.tape, h.output, by rw [h.heap]; exact Nat.le_refl _, fun k _ => by rw [h.heap]⟩
theorem Sm.chg {w w' : World} (h : Sm w w') (Q : Nat → Prop) : Chg Q w w' := ⟨h.os, h.tape, h.output, by rw [h.heap]; exact Nat.le_refl _, fun k _ _ => by rw [h.heap]⟩
theorem Chg.same {Q : Nat → Prop} {a b c : World} (h : Chg Q a b) (k : Sm b c) : Chg Q a c := h.trans (k.chg Q) (fun _ _ h => h)

theorem lt_of_cell {w : World} {b o : Nat} {v : Value} (h : w.cell? ⟨b, o, none⟩ = some v) : b < w.heap.size := World.block_lt_of_cell? w _ h
theorem cell_blk {w : World} {b : Nat} {cs : Array Value} {t : TypeId} {f : Nat × Nat} (h : w.heap[b]? = some (.cells cs t f)) (o : Nat) : w.cell? ⟨b, o, none⟩ = cs[o]? := by simp [World.cell?, h]
theorem frozen_blk {w : World} {b : Nat} {cs : Array Value} {t : TypeId} (h : w.heap[b]? = some (.cells cs t (0, 0))) (o : Nat) : w.frozen? ⟨b, o, none⟩ = false := by simp [World.frozen?, h]

theorem max2_i (k k' : IntKind) (x y : Int) : Builtin.max2 (.int k x) (.int k' y) = pure (.int k (max x y)) := by
  simp only [Builtin.max2, gt_iff_lt]
  congr 2
  split <;> omega
theorem min2_i (k k' : IntKind) (x y : Int) : Builtin.min2 (.int k x) (.int k' y) = pure (.int k (min x y)) := by
  simp only [Builtin.min2]
  congr 2
  split <;> omega
theorem max_i2 (ats : Array TypeId) (ty : TypeId) (a b : Value) : Builtin.max_ ats ty #[a, b] = (Builtin.max2 a b >>= fun s => pure s) := by simp only [Builtin.max_, List.foldlM_cons, List.foldlM_nil]
theorem min_i2 (ats : Array TypeId) (ty : TypeId) (a b : Value) : Builtin.min_ ats ty #[a, b] = (Builtin.min2 a b >>= fun s => pure s) := by simp only [Builtin.min_, List.foldlM_cons, List.foldlM_nil]

def ints (xs : List Int) : List Value := xs.map (.int .i64)
theorem ints_length (xs : List Int) : (ints xs).length = xs.length := by simp [ints]
theorem ints_append (xs ys : List Int) : ints (xs ++ ys) = ints xs ++ ints ys := by simp [ints]
theorem ints_set (xs : List Int) (i : Nat) (x : Int) : ints (xs.set i x) = (ints xs).set i (.int .i64 x) := by simp [ints, List.map_set]
theorem ints_get (xs : List Int) (i : Nat) (h : i < xs.length) : (ints xs)[i]? = some (.int .i64 (xs.getD i 0)) := by
  simp [ints, List.getElem?_map, List.getElem?_eq_getElem h, List.getD_eq_getElem?_getD]
theorem info_int : (Try.prog.info? 3).map (fun i => (i.zero, i.size, i.bytes)) = some (some (.int .i64 0), 1, 8) := by kernel_rfl
theorem push_new (w : World) (o : Obj) : (w.heap.push o)[w.heap.size]? = some o := by simp
theorem own_lt' {w : World} {base : Nat} {e : TypeId} {size n : Nat} {v : Value} {xs : List Value} (h : w.ownsRow base e size v n xs) (k : Nat) (hk : v.ownBlock = some k) : base ≤ k ∧ k < w.heap.size := World.ownsRow.lt h k hk
theorem own_typed' {w : World} {base : Nat} {e : TypeId} {size n : Nat} {v : Value} {xs : List Value} (h : w.ownsRow base e size v n xs) (k : Nat) (hk : v.ownBlock = some k) : ∃ cells, w.heap[k]? = some (.cells cells e (0, 0)) := by
  rcases h.2 with ⟨rfl, _⟩ | ⟨g, cap, cur, rfl, hg, hh, r⟩
  · simp [Value.ownBlock] at hk
  · have : g = k := by simpa [Value.ownBlock] using hk
    subst this
    exact ⟨cur, hh⟩
/-- A row of the call's own, its block as it was. -/
theorem own_stays {w w1 : World} {base : Nat} {e : TypeId} {size n : Nat} {v : Value} {xs : List Value} (h : w.ownsRow base e size v n xs) (hm : ∀ k, v.ownBlock = some k → w1.heap[k]? = w.heap[k]?) : w1.ownsRow base e size v n xs := by
  obtain ⟨h1, h2⟩ := h
  refine ⟨h1, ?_⟩
  rcases h2 with h2 | ⟨g, cap, cur, rfl, hg, hh, r⟩
  · exact .inl h2
  · exact .inr ⟨g, cap, cur, rfl, hg, (hm g (by simp [Value.ownBlock])).trans hh, r⟩
theorem own_chg {Q : Nat → Prop} {w w1 : World} {base : Nat} {e : TypeId} {size n : Nat} {v : Value} {xs : List Value} (h : w.ownsRow base e size v n xs) (hc : Chg Q w w1) (hq : ∀ k, v.ownBlock = some k → ¬ Q k) : w1.ownsRow base e size v n xs :=
  own_stays h (fun k hk => hc.block k (own_lt' h k hk).2 (hq k hk))
set_option maxRecDepth 100000 in
/-- append(v, x): laid ahead of the walk, it takes the operation by itself. W: the world behind the new box of x's cells. -/
theorem app_run {t ty e : TypeId} {base size bytes n : Nat} {z v : Value} {xs news : List Value} (ht : Try.prog.underlying t = some (.slice e)) (hinfo : (Try.prog.info? e).map (fun i => (i.zero, i.size, i.bytes)) = some (some z, size, bytes)) (hz : z.cells.size = size) (hs0 : 0 < size) (hb0 : 0 < bytes)
    (w W : World) (hW : W.heap = w.heap.push (.cells news.toArray e)) (ho : W.os = w.os) (hp : W.tape = w.tape) (hu : W.output = w.output) (hown : w.ownsRow base e size v n xs) (hl : news.length = size) (h1 : ∀ u ∈ news, u.oneCell' = true) (hb : (n + 1) * bytes ≤ 140737488355328) (hbase : base ≤ w.heap.size) :
    ∃ g cap w', (Builtin.append_ #[t, t] ty #[v, .slice (some ⟨w.heap.size, 0, none⟩) 1 1]).run Try.prog W = .ok (.slice (some ⟨g, 0, none⟩) (n + 1) cap) w' ∧ w'.ownsRow base e size (.slice (some ⟨g, 0, none⟩) (n + 1) cap) (n + 1) (xs ++ news) ∧ Chg (fun k => v.ownBlock = some k) w w' ∧ (v.ownBlock = some g ∨ g = w.heap.size + 1) ∧ w.heap.size < w'.heap.size ∧ g < w'.heap.size := by
  obtain ⟨i0, hi, hzz⟩ := Option.map_eq_some_iff.1 hinfo
  simp only [Prod.mk.injEq] at hzz
  obtain ⟨hz0, hz1, hz2⟩ := hzz
  have hlen : n + 1 ≤ 140737488355328 := Nat.le_trans (Nat.le_mul_of_pos_right _ hb0) hb
  have hold : ∀ k, k < w.heap.size → W.heap[k]? = w.heap[k]? := fun k hk => by rw [hW, Array.getElem?_push, if_neg (by omega)]
  have hsz : W.heap.size = w.heap.size + 1 := by rw [hW]; simp
  have hown' : W.ownsRow base e size v n xs := own_stays hown (fun k hk => hold k (own_lt' hown k hk).2)
  have hnew : W.heap[w.heap.size]? = some (.cells news.toArray e (0, 0)) := by rw [hW, push_new]
  obtain ⟨v', w', hr, h2, h3, _, h5⟩ := run_append_own_at (P := Try.prog) W base t ty e i0 z size bytes ht hi hz0 hz1 hz2 hz hs0 v n xs hown' ⟨w.heap.size, 0, none⟩ 1 1 news (by omega) (by simpa using World.news_of_block hnew) h1 (by simp only [maxLen]; omega) hb (by omega)
  obtain ⟨g, cap, rfl, _, hgl⟩ := h2.form (by omega)
  refine ⟨g, cap, w', hr, h2, ⟨h3.os.trans ho, h3.tape.trans hp, h3.output.trans hu, by have := h3.size; omega, fun k hk hq => (h3.block k (by omega) (fun he => hq he.symm)).trans (hold k hk)⟩, ?_, by have := h3.size; omega, hgl⟩
  rcases h5 with h5 | h5
  · exact .inl (by rw [← h5]; rfl)
  · exact .inr (by have : some g = some W.heap.size := h5; injection this with this; omega)
section
variable {ops : Array Oper} {rest : List Oper} {o : Oper} {a : Act} {w w' : World} {K : Act → World → Prop} {Q : Exit → Act → World → Prop} {E : Prop}
/-- At the operation: by the run that was laid ahead ('app_run'). -/
theorem wp_app (s x : Operand) (t : TypeId) (ho : o.op = .call { callee := .builtin .append, args := #[s, x], argTypes := #[t, t] }) {v u r : Value} (hs : a.eval s = v) (hx : a.eval x = u)
    (hr : (Builtin.append_ #[t, t] o.type #[v, u]).run Try.prog w = .ok r w') (hK : K (a.put o.dst r) w') : o.wp Try.prog a w K Q := by
  unfold Oper.wp execOp
  simp only [ho, resolve, invoke, builtin, Sem.run_bind, Sem.run_pure, Result.andThen_ok, List.map_toArray, List.map_cons, List.map_nil, hs, hx, hr]
  exact hK
theorem step_app (hgd : o.guard = none) (s x : Operand) (t : TypeId) (ho : o.op = .call { callee := .builtin .append, args := #[s, x], argTypes := #[t, t] }) {v u r : Value} (hs : a.eval s = v) (hx : a.eval x = u)
    (hr : (Builtin.append_ #[t, t] o.type #[v, u]).run Try.prog w = .ok r w') (hK : K (a.put o.dst r) w') : if Region.wanted o (yielded ops a.tmps) = true then Oper.wp Try.prog o a w K Q else E := by
  have hw : Region.wanted o (yielded ops a.tmps) = true := by simp [Region.wanted, hgd]
  rw [if_pos hw]
  exact wp_app s x t ho hs hx hr hK
theorem list_app (hgd : o.guard = none) (s x : Operand) (t : TypeId) (ho : o.op = .call { callee := .builtin .append, args := #[s, x], argTypes := #[t, t] }) {v u r : Value} (hs : a.eval s = v) (hx : a.eval x = u)
    (hr : (Builtin.append_ #[t, t] o.type #[v, u]).run Try.prog w = .ok r w') (h : wpList Try.prog ops Q rest (a.put o.dst r) w') : wpList Try.prog ops Q (o :: rest) a w :=
  wpList_plain hgd fun _ hK => wp_app s x t ho hs hx hr (hK _ _ h)
end
end Go.Proofs.Ytbkgnokoicmppaa
