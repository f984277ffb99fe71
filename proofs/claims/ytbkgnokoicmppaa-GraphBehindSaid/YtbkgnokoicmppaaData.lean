/- How programs lie in memory: cells that are read, nodes, functions. -/
import Derived.Test.YtbkgnokoicmppaaBase
import Derived.Test.YtbkgnokoicmppaaPurePrg
namespace Go.Proofs.Ytbkgnokoicmppaa
open Go.RowKit
set_option linter.unusedVariables false

/-- Behind the address A the cells vs are read. -/
def Rd (w : World) (A : Option Addr) (vs : List Value) : Prop :=
  vs = [] ∨ ∃ b o, A = some ⟨b, o, none⟩ ∧ ∀ i v, vs[i]? = some v → w.cell? ⟨b, o + i, none⟩ = some v
theorem Rd.chg {w w' : World} {A : Option Addr} {vs : List Value} {Q : Nat → Prop} (h : Rd w A vs) (hc : Chg Q w w') (hq : ∀ k, A.map (·.block) = some k → ¬ Q k) : Rd w' A vs := by
  rcases h with h | ⟨b, o, rfl, h⟩
  · exact .inl h
  · exact .inr ⟨b, o, rfl, fun i v hv => (hc.cell (lt_of_cell (h i v hv)) (hq b rfl)).trans (h i v hv)⟩
theorem Rd.below {w w' : World} {A : Option Addr} {vs : List Value} (h : Rd w A vs) (hb : Below w.heap.size w w') : Rd w' A vs :=
  h.chg (Chg.of_below hb (fun _ => False)) (fun _ _ h => h)
theorem Rd.same {w w' : World} {A : Option Addr} {vs : List Value} (h : Rd w A vs) (hs : Sm w w') : Rd w' A vs :=
  h.chg (hs.chg (fun _ => False)) (fun _ _ h => h)
theorem Rd.at {w : World} {A : Option Addr} {vs : List Value} (h : Rd w A vs) (i : Nat) (hi : i < vs.length) : ∃ b o, A = some ⟨b, o, none⟩ ∧ ∀ i v, vs[i]? = some v → w.cell? ⟨b, o + i, none⟩ = some v := by
  rcases h with h | h
  · subst h; simp at hi
  · exact h
theorem Rd.nil (w : World) (A : Option Addr) : Rd w A [] := .inl rfl
theorem Rd.of_blk {w : World} {b : Nat} {cs : Array Value} {t : TypeId} {f : Nat × Nat} (h : w.heap[b]? = some (.cells cs t f)) : Rd w (some ⟨b, 0, none⟩) cs.toList :=
  .inr ⟨b, 0, rfl, fun i v hv => by rw [cell_blk h, Nat.zero_add]; simpa using hv⟩
theorem Rd.of_own {w : World} {base : Nat} {e : TypeId} {size n : Nat} {A : Option Addr} {c : Nat} {xs : List Value} (h : w.ownsRow base e size (.slice A n c) n xs) : Rd w A xs := by
  rcases Nat.eq_zero_or_pos n with h0 | h0
  · subst h0; have := h.1; simp at this; exact .inl this
  · obtain ⟨g, cap, he, _⟩ := h.form h0
    injection he with e1 e2 e3
    subst e1
    refine .inr ⟨g, 0, rfl, fun i v hv => ?_⟩
    have hi := (List.getElem?_eq_some_iff.1 hv).1
    have := h.cells (g := g) rfl i v hv
    rw [Nat.zero_add]
    have ha : (⟨g, 0, none⟩ : Addr).add i = ⟨g, i, none⟩ := by unfold Addr.add; split <;> simp_all
    rwa [ha] at this

def Node.cells (n : Node) : List Value := [.int .i64 n.kind, .int .i64 n.arg, .int .i64 n.next, .int .i64 n.alt]
def nodeV (n : Node) : Value := .agg #[.int .i64 n.kind, .int .i64 n.arg, .int .i64 n.next, .int .i64 n.alt]
theorem flat4 {α : Type} (f : α → List Value) (hf : ∀ a, (f a).length = 4) : ∀ (l : List α) (i j : Nat) (a : α), l[i]? = some a → j < 4 → (l.flatMap f)[i * 4 + j]? = (f a)[j]? := by
  intro l
  induction l with
  | nil => intro i j a h; simp at h
  | cons x l ih =>
    intro i j a h hj
    rw [List.flatMap_cons]
    cases i with
    | zero =>
      simp at h; subst h
      rw [Nat.zero_mul, Nat.zero_add, List.getElem?_append_left (by rw [hf]; exact hj)]
    | succ i =>
      rw [List.getElem?_append_right (by rw [hf]; omega), hf, show (i + 1) * 4 + j - 4 = i * 4 + j by omega]
      exact ih i j a (by simpa using h) hj
def NodesAt (w : World) (A : Option Addr) (l : List Node) : Prop := Rd w A (l.flatMap Node.cells)
theorem NodesAt.at {w : World} {A : Option Addr} {l : List Node} (h : NodesAt w A l) (i : Nat) (hi : i < l.length) : ∃ b o, A = some ⟨b, o, none⟩ ∧
    w.cell? ⟨b, o + i * 4, none⟩ = some (.int .i64 (l.getD i zNode).kind) ∧ w.cell? ⟨b, o + i * 4 + 1, none⟩ = some (.int .i64 (l.getD i zNode).arg) ∧
    w.cell? ⟨b, o + i * 4 + 2, none⟩ = some (.int .i64 (l.getD i zNode).next) ∧ w.cell? ⟨b, o + i * 4 + 3, none⟩ = some (.int .i64 (l.getD i zNode).alt) := by
  have hx : l[i]? = some (l.getD i zNode) := by rw [List.getElem?_eq_getElem hi, List.getD_eq_getElem?_getD, List.getElem?_eq_getElem hi]; rfl
  have hlen : i * 4 < (l.flatMap Node.cells).length := by
    have : ∀ l : List Node, (l.flatMap Node.cells).length = l.length * 4 := by
      intro l; induction l with
      | nil => rfl
      | cons x l ih => rw [List.flatMap_cons, List.length_append, ih]; simp [Node.cells]; omega
    rw [this]; omega
  obtain ⟨b, o, rfl, hc⟩ := Rd.at h (i * 4) hlen
  have hf := flat4 Node.cells (fun _ => rfl) l i
  refine ⟨b, o, rfl, hc (i * 4 + 0) _ (by rw [hf 0 _ hx (by omega)]; rfl), ?_, ?_, ?_⟩
  · exact hc (i * 4 + 1) _ (by rw [hf 1 _ hx (by omega)]; rfl)
  · exact hc (i * 4 + 2) _ (by rw [hf 2 _ hx (by omega)]; rfl)
  · exact hc (i * 4 + 3) _ (by rw [hf 3 _ hx (by omega)]; rfl)
def FuncsAt (w : World) (A : Option Addr) (fs : List (List Node)) : Prop :=
  ∃ vs : List Value, Rd w A vs ∧ vs.length = fs.length ∧ ∀ (i : Nat) (l : List Node), fs[i]? = some l → ∃ A' c', vs[i]? = some (Value.slice A' l.length c') ∧ l.length ≤ c' ∧ NodesAt w A' l
theorem FuncsAt.below {w w' : World} {A : Option Addr} {fs : List (List Node)} (h : FuncsAt w A fs) (hb : Below w.heap.size w w') : FuncsAt w' A fs := by
  obtain ⟨vs, h1, h2, h3⟩ := h
  refine ⟨vs, h1.below hb, h2, fun i l hl => ?_⟩
  obtain ⟨A', c', h4, h5, h6⟩ := h3 i l hl
  exact ⟨A', c', h4, h5, Rd.below h6 hb⟩
theorem FuncsAt.at {w : World} {A : Option Addr} {fs : List (List Node)} (h : FuncsAt w A fs) (i : Nat) (hi : i < fs.length) : ∃ b o A' c', A = some ⟨b, o, none⟩ ∧
    w.cell? ⟨b, o + i, none⟩ = some (.slice A' (fs.getD i []).length c') ∧ (fs.getD i []).length ≤ c' ∧ NodesAt w A' (fs.getD i []) := by
  obtain ⟨vs, h1, h2, h3⟩ := h
  have hx : fs[i]? = some (fs.getD i []) := by rw [List.getElem?_eq_getElem hi, List.getD_eq_getElem?_getD, List.getElem?_eq_getElem hi]; rfl
  obtain ⟨A', c', h4, h5, h6⟩ := h3 i _ hx
  obtain ⟨b, o, rfl, hc⟩ := h1.at i (by omega)
  exact ⟨b, o, A', c', rfl, hc i _ h4, h5, h6⟩
/-- A program as a value: its functions lie behind A. -/
def prgV (p : Prg) (A : Option Addr) (c : Nat) : Value := .agg #[.int .i64 p.g, .int .i64 p.l, .int .i64 p.s, .slice A p.fs.length c]
def prgB (p : Prg) (A : Option Addr) (c : Nat) : Obj := .cells #[.int .i64 p.g, .int .i64 p.l, .int .i64 p.s, .slice A p.fs.length c] 24
/-- Sizes that every walk asks for. -/
def Prg.sz (p : Prg) : Prop := p.fs.length ≤ 1000000 ∧ ∀ l ∈ p.fs, l.length ≤ 1000000
theorem Prg.sz.at {p : Prg} (h : p.sz) (i : Nat) : (p.fs.getD i []).length ≤ 1000000 := by
  rw [List.getD_eq_getElem?_getD]
  cases hx : p.fs[i]? with
  | none => simp
  | some l => exact h.2 l (List.mem_of_getElem? hx)
def bools (xs : List Bool) : List Value := xs.map .bool
theorem bools_length (xs : List Bool) : (bools xs).length = xs.length := by simp [bools]
theorem bools_set (xs : List Bool) (i : Nat) (x : Bool) : bools (xs.set i x) = (bools xs).set i (.bool x) := by simp [bools, List.map_set]
theorem bools_get (xs : List Bool) (i : Nat) (h : i < xs.length) : (bools xs)[i]? = some (.bool (xs.getD i false)) := by
  simp [bools, List.getElem?_map, List.getElem?_eq_getElem h, List.getD_eq_getElem?_getD]
/-- The old cells and marks, behind a call of which only 'Below' is known. -/
theorem bcell {W w1 : World} (hb : Below W.heap.size W w1) : (∀ b o, b < W.heap.size → w1.cell? ⟨b, o, none⟩ = W.cell? ⟨b, o, none⟩) ∧ (∀ b o, b < W.heap.size → w1.frozen? ⟨b, o, none⟩ = W.frozen? ⟨b, o, none⟩) :=
  ⟨fun b o h => hb.cell (p := ⟨b, o, none⟩) h, fun b o h => hb.frozen (p := ⟨b, o, none⟩) h⟩
theorem below_cell {w w1 : World} {b o : Nat} {v : Value} (hb : Below w.heap.size w w1) (h : w.cell? ⟨b, o, none⟩ = some v) : w1.cell? ⟨b, o, none⟩ = some v := (hb.cell (p := ⟨b, o, none⟩) (lt_of_cell h)).trans h
theorem below_blk {w w1 : World} {b : Nat} {x : Obj} (hb : Below w.heap.size w w1) (h : w.heap[b]? = some x) : w1.heap[b]? = some x := (hb.block b (Array.getElem?_eq_some_iff.1 h).1).trans h
theorem alloc_cell {w : World} {b o : Nat} {v : Value} (h : w.cell? ⟨b, o, none⟩ = some v) (x : Obj) : (w.alloc x).cell? ⟨b, o, none⟩ = some v := (World.cell?_alloc_lt w x (a := ⟨b, o, none⟩) (lt_of_cell h)).trans h
theorem new_cell (w : World) (cs : Array Value) (t : TypeId) (i : Nat) : (w.alloc (.cells cs t)).cell? ⟨w.heap.size, i, none⟩ = cs[i]? := World.cell?_alloc_new w cs t i
theorem blk_alloc' {w : World} {b : Nat} {x : Obj} (h : w.heap[b]? = some x) (o : Obj) : (w.alloc o).heap[b]? = some x := (Below.heap_alloc w o b (Array.getElem?_eq_some_iff.1 h).1).trans h
theorem blk_new (w : World) (o : Obj) : (w.alloc o).heap[w.heap.size]? = some o := heap_alloc_new w o
theorem own_form' {w : World} {base : Nat} {e : TypeId} {size n : Nat} {v : Value} {xs : List Value} (h : w.ownsRow base e size v n xs) : ∃ A c, v = .slice A n c := by
  rcases h.2 with ⟨rfl, rfl⟩ | ⟨g, cap, cur, rfl, _⟩
  · exact ⟨none, 0, rfl⟩
  · exact ⟨_, cap, rfl⟩
theorem own_lower {w : World} {base base' : Nat} {e : TypeId} {size n : Nat} {v : Value} {xs : List Value} (h : w.ownsRow base e size v n xs) (hb : base' ≤ base) : w.ownsRow base' e size v n xs := by
  obtain ⟨h1, h2⟩ := h
  refine ⟨h1, ?_⟩
  rcases h2 with h2 | ⟨g, cap, cur, rfl, hg, r⟩
  · exact .inl h2
  · exact .inr ⟨g, cap, cur, rfl, by omega, r⟩
/-- A callee that leaves the world alone, as go_quiet asks it. -/
theorem quietC {P : Program} {f : FuncId} {args : Array Value} {w : World} {n : Nat} {v : Value} (h : Calls P f args (w.drewN n) fun e w' => e = .returned v ∧ w.drewN n = w') : Calls P f args (w.drewN n) fun e w'' => e = .returned v ∧ ∃ m, w'' = w.drewN m :=
  h.mono fun _ _ ⟨he, hm⟩ => ⟨he, n, hm.symm⟩
theorem bel1 (w : World) (o : Obj) : Below w.heap.size w (w.alloc o) := (Below.refl _ _).alloc (Nat.le_refl _) _
theorem below_drewN' {B : Nat} {a b : World} (h : Below B a b) (n : Nat) : Below B a (b.drewN n) := ⟨h.os, h.tape, h.output, h.size, h.block⟩
theorem bel1d (w : World) (o : Obj) (n : Nat) : Below w.heap.size w ((w.alloc o).drewN n) := below_drewN' (bel1 w o) n
theorem bel2 (w : World) (o o' : Obj) : Below w.heap.size w ((w.alloc o).alloc o') := (bel1 w o).alloc (by simp) _
theorem NodesAt.of_blk {w : World} {b : Nat} {cs : Array Value} {t : TypeId} {f : Nat × Nat} {l : List Node} (h : w.heap[b]? = some (.cells cs t f)) (e : cs.toList = l.flatMap Node.cells) : NodesAt w (some ⟨b, 0, none⟩) l := by
  unfold NodesAt
  rw [← e]
  exact Rd.of_blk h
/-- The functions of a program that is written out: a row of slices. -/
theorem FuncsAt.of_list {w : World} {A : Option Addr} : ∀ (fs : List (List Node)) (ads : List (Option Addr × Nat)), Rd w A ((ads.zip fs).map fun x => Value.slice x.1.1 x.2.length x.1.2) → ads.length = fs.length →
    (∀ (i : Nat) (a : Option Addr × Nat) (l : List Node), ads[i]? = some a → fs[i]? = some l → l.length ≤ a.2 ∧ NodesAt w a.1 l) → FuncsAt w A fs := by
  intro fs ads hr hl h
  refine ⟨_, hr, by simp [hl], fun i l hi => ?_⟩
  have hlt := (List.getElem?_eq_some_iff.1 hi).1
  have ha : ads[i]? = some (ads[i]'(by omega)) := List.getElem?_eq_getElem (by omega)
  obtain ⟨h1, h2⟩ := h i _ l ha hi
  refine ⟨(ads[i]'(by omega)).1, (ads[i]'(by omega)).2, ?_, h1, h2⟩
  have hz : (ads.zip fs)[i]? = some (ads[i]'(by omega), l) := List.getElem?_zip_eq_some.2 ⟨ha, hi⟩
  rw [List.getElem?_map, hz]
  rfl
/-- A block's cells by a store. -/
theorem blk_set {w : World} {g : Nat} {vs : List Value} {t : TypeId} (h : w.heap[g]? = some (.cells vs.toArray t (0, 0))) (i : Nat) (u : Value) : (w.setCell ⟨g, i, none⟩ u).heap[g]? = some (.cells (vs.set i u).toArray t (0, 0)) := by
  simp [World.setCell, Array.getElem?_modify, h]
end Go.Proofs.Ytbkgnokoicmppaa
