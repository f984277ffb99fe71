/- What graph.Order lists of a program in which Check finds nothing: each function once, behind all that it calls. -/
import Derived.Test.YtbkgnokoicmppaaTopoC
import Derived.Test.YtbkgnokoicmppaaGraphA
namespace Go.Proofs.Ytbkgnokoicmppaa
set_option linter.unusedVariables false

theorem oneF_tb (x : Int) (i : Nat) : (oneF x).testBit i = true ↔ i < 32 ∧ x = (i : Int) := by
  unfold oneF
  split
  · rename_i h
    rw [Nat.testBit_two_pow]
    simp only [decide_eq_true_eq]
    omega
  · simp only [Nat.zero_testBit, Bool.false_eq_true, false_iff]
    omega
theorem namedL_tb (kind : Int) : ∀ (l : List Node) (m i : Nat), (namedL kind l m).testBit i = true ↔ m.testBit i = true ∨ (i < 32 ∧ ∃ x ∈ l, x.kind = kind ∧ x.arg = (i : Int)) := by
  intro l
  induction l with
  | nil => intro m i; unfold namedL; simp
  | cons x l ih =>
    intro m i
    unfold namedL
    rw [ih]
    by_cases h : x.kind = kind
    · rw [if_pos h, Nat.testBit_or, Bool.or_eq_true, oneF_tb]
      constructor
      · rintro ((h1 | ⟨h1, h2⟩) | ⟨h1, y, hy, h2⟩)
        · exact .inl h1
        · exact .inr ⟨h1, x, List.mem_cons_self, h, h2⟩
        · exact .inr ⟨h1, y, List.mem_cons_of_mem _ hy, h2⟩
      · rintro (h1 | ⟨h1, y, hy, h2, h3⟩)
        · exact .inl (.inl h1)
        · rcases List.mem_cons.1 hy with rfl | hy
          · exact .inl (.inr ⟨h1, h3⟩)
          · exact .inr ⟨h1, y, hy, h2, h3⟩
    · rw [if_neg h]
      constructor
      · rintro (h1 | ⟨h1, y, hy, h2⟩)
        · exact .inl h1
        · exact .inr ⟨h1, y, List.mem_cons_of_mem _ hy, h2⟩
      · rintro (h1 | ⟨h1, y, hy, h2, h3⟩)
        · exact .inl h1
        · rcases List.mem_cons.1 hy with rfl | hy
          · exact absurd h2 h
          · exact .inr ⟨h1, y, hy, h2, h3⟩
theorem namedF_tb (l : List Node) (kind : Int) (i : Nat) : (namedF l kind).testBit i = true ↔ i < 32 ∧ ∃ x ∈ l, x.kind = kind ∧ x.arg = (i : Int) := by
  unfold namedF
  rw [namedL_tb]
  simp
theorem hasF_iff (m : Nat) (f : Nat) : hasF m (f : Int) = true ↔ f < 32 ∧ m.testBit f = true := by
  unfold hasF
  simp only [Bool.and_eq_true, decide_eq_true_eq, Int.toNat_natCast]
  exact ⟨fun h => ⟨by omega, h.2⟩, fun h => ⟨⟨by omega, by omega⟩, h.2⟩⟩
theorem countF_range (m : Nat) (hm : m < 4294967296) : countF m = (List.range 32).countP fun k => m.testBit k := by
  have e : ∀ a : Nat, (List.range 8).countP (fun k => m.testBit (a + k)) = ((List.range 8).map fun k => a + k).countP (fun k => m.testBit k) := by
    intro a; rw [List.countP_map]; rfl
  have h3 : pop8 (m / 16777216) = (List.range 8).countP fun k => m.testBit (24 + k) := by
    unfold pop8
    refine List.countP_congr fun k _ => ?_
    rw [show (16777216 : Nat) = 2 ^ 24 from rfl, Nat.testBit_div_two_pow]
    rw [Nat.add_comm]
  have h2 : pop8 (m / 65536 % 256) = (List.range 8).countP fun k => m.testBit (16 + k) := by
    unfold pop8
    refine List.countP_congr fun k hk => ?_
    have := List.mem_range.1 hk
    rw [show (256 : Nat) = 2 ^ 8 from rfl, Nat.testBit_mod_two_pow, show (65536 : Nat) = 2 ^ 16 from rfl, Nat.testBit_div_two_pow, Nat.add_comm]
    simp [this]
  have h1 : pop8 (m / 256 % 256) = (List.range 8).countP fun k => m.testBit (8 + k) := by
    unfold pop8
    refine List.countP_congr fun k hk => ?_
    have := List.mem_range.1 hk
    rw [show (256 : Nat) = 2 ^ 8 from rfl, Nat.testBit_mod_two_pow, Nat.testBit_div_two_pow, Nat.add_comm]
    simp [this]
  have h0 : pop8 (m % 256) = (List.range 8).countP fun k => m.testBit (0 + k) := by
    unfold pop8
    refine List.countP_congr fun k hk => ?_
    have := List.mem_range.1 hk
    rw [show (256 : Nat) = 2 ^ 8 from rfl, Nat.testBit_mod_two_pow, Nat.zero_add]
    simp [this]
  unfold countF
  rw [h0, h1, h2, h3, e, e, e, e, show (List.range 32) = ((List.range 8).map fun k => 0 + k) ++ ((List.range 8).map fun k => 8 + k) ++ ((List.range 8).map fun k => 16 + k) ++ ((List.range 8).map fun k => 24 + k) from rfl,
    List.countP_append, List.countP_append, List.countP_append]
  omega
theorem countF_has (m n : Nat) (hm : m < 4294967296) (hn : n ≤ 32) (hb : ∀ i, m.testBit i = true → i < n) : countF m = (List.range n).countP fun (f : Nat) => hasF m (f : Int) := by
  rw [countF_range m hm]
  have e : List.range 32 = List.range n ++ ((List.range (32 - n)).map fun k => n + k) := by
    rw [← List.range_add, show n + (32 - n) = 32 by omega]
  rw [e, List.countP_append]
  have z : ((List.range (32 - n)).map fun k => n + k).countP (fun k => m.testBit k) = 0 := by
    rw [List.countP_eq_zero]
    intro k hk h
    obtain ⟨j, _, rfl⟩ := List.mem_map.1 hk
    have := hb _ h
    omega
  rw [z, Nat.add_zero]
  refine List.countP_congr fun k hk => ?_
  have := List.mem_range.1 hk
  rw [hasF_iff]
  exact ⟨fun h => ⟨by omega, h⟩, fun h => h.2⟩
theorem Pth.mono {E E' : Nat → Nat → Prop} (h : ∀ a b, E a b → E' a b) {a b : Nat} (p : Pth E a b) : Pth E' a b := by
  induction p with
  | refl => exact Pth.refl _
  | head e _ ih => exact Pth.head (h _ _ e) ih
theorem calleesF_get (p : Prg) (g : Nat) (h : g < p.fs.length) : (calleesF p).getD g 0 = namedF (p.fs.getD g []) 7 := by
  unfold calleesF
  rw [List.getD_eq_getElem?_getD, List.getElem?_map, List.getElem?_eq_getElem h, List.getD_eq_getElem?_getD, List.getElem?_eq_getElem h]
  rfl
theorem Prg.Ok.arg {p : Prg} (h : p.Ok) {g : Nat} {x : Node} (hx : x ∈ p.fs.getD g []) (h7 : x.kind = 7) : 0 ≤ x.arg ∧ x.arg < p.fs.length := by
  have hl : p.fs.getD g [] ∈ p.fs := by
    by_cases hg : g < p.fs.length
    · exact getD_mem hg
    · rw [List.getD_eq_getElem?_getD, List.getElem?_eq_none (by omega)] at hx
      cases hx
  exact may_call ((mayL_none p p.fs 0 h.may _ hl).2.2 x hx) h7
theorem Prg.Ok.has {p : Prg} (h : p.Ok) {g f : Nat} (hg : g < p.fs.length) : hasF ((calleesF p).getD g 0) (f : Int) = true ↔ ∃ x ∈ p.fs.getD g [], x.kind = 7 ∧ x.arg = (f : Int) := by
  rw [calleesF_get p g hg, hasF_iff, namedF_tb]
  constructor
  · rintro ⟨_, _, h⟩; exact h
  · rintro ⟨x, hx, h7, e⟩
    have := h.arg hx h7
    have := h.n1
    exact ⟨by omega, by omega, x, hx, h7, e⟩
theorem Prg.Ok.topo {p : Prg} (h : p.Ok) : Topoed hasF (calleesF p) (orderOf countF hasF (calleesF p)) := by
  have hl := calleesF_length p
  refine orderOf_topo countF hasF (calleesF p) (fun g hg => ?_) (fun g f hgf hp => ?_)
  · rw [hl] at hg ⊢
    refine countF_has _ _ ?_ (by have := h.n1; omega) (fun i hi => ?_)
    · rw [calleesF_get p g hg]; exact namedF_lt _ _
    · rw [calleesF_get p g hg, namedF_tb] at hi
      obtain ⟨_, x, hx, h7, e⟩ := hi
      have := h.arg hx h7
      omega
  · obtain ⟨hg, hf, hh⟩ := hgf
    rw [hl] at hg hf
    have hcl : ∀ a b, Edg p a b → b < p.fs.length := fun a b ⟨_, x, hx, h7, e⟩ => by have := h.arg hx h7; omega
    have he : ∀ a b, (a < (calleesF p).length ∧ b < (calleesF p).length ∧ hasF ((calleesF p).getD a 0) (b : Int) = true) → Edg p a b := fun a b ⟨h1, _, h3⟩ => by
      rw [hl] at h1
      obtain ⟨x, hx, h7, e⟩ := (h.has h1).1 h3
      exact ⟨h1, x, hx, h7, by omega⟩
    exact no_round h.round hcl (he g f ⟨by omega, by omega, hh⟩) (hp.mono he)
def orderP (p : Prg) : List Int := orderOf countF hasF (calleesF p)
/-- The order of a program's functions. -/
structure Ordered (p : Prg) (o : List Int) : Prop where
  range : ∀ x ∈ o, 0 ≤ x ∧ x < p.fs.length
  nd : o.Nodup
  len : o.length = p.fs.length
  all : ∀ g : Nat, g < p.fs.length → (g : Int) ∈ o
  order : ∀ i, i < o.length → ∀ x ∈ p.fs.getD (o.getD i 0).toNat [], x.kind = 7 → x.arg ∈ o.take i
theorem Prg.Ok.ordered {p : Prg} (h : p.Ok) : Ordered p (orderP p) := by
  have ht := h.topo
  have hl := calleesF_length p
  refine ⟨fun x hx => by have := ht.range x hx; rw [hl] at this; exact this, ht.nd, ht.len.trans hl, fun g hg => ht.all g (by omega), fun i hi x hx h7 => ?_⟩
  have ha := h.arg hx h7
  have hr := ht.range _ (getD_mem (z := 0) hi)
  rw [hl] at hr
  have := ht.order i hi x.arg.toNat (by omega) ((h.has (by unfold orderP at *; omega)).2 ⟨x, hx, h7, by omega⟩)
  rwa [Int.toNat_of_nonneg ha.1] at this
end Go.Proofs.Ytbkgnokoicmppaa
