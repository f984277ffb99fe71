/- The order of functions: of a table of callees without a round it lists each once, behind all that it calls. No program in sight. -/
import Derived.Test.YtbkgnokoicmppaaTopo
import Derived.Test.YtbkgnokoicmppaaTopoB
namespace Go.Proofs.Ytbkgnokoicmppaa
set_option linter.unusedVariables false

theorem countP_lt {α : Type} (p q : α → Bool) : ∀ (l : List α), (∀ x ∈ l, p x = true → q x = true) → (∃ x ∈ l, p x = false ∧ q x = true) → l.countP p < l.countP q := by
  intro l
  induction l with
  | nil => intro _ ⟨x, h, _⟩; cases h
  | cons a l ih =>
    intro h ⟨x, hx, h1, h2⟩
    have hle : l.countP p ≤ l.countP q := List.countP_mono_left (fun y hy hp => h y (List.mem_cons_of_mem _ hy) hp)
    rw [List.countP_cons, List.countP_cons]
    rcases List.mem_cons.1 hx with rfl | hx
    · simp only [h1, h2]; simp; omega
    · have := ih (fun y hy => h y (List.mem_cons_of_mem _ hy)) ⟨x, hx, h1, h2⟩
      by_cases hp : p a = true
      · rw [hp, h a (List.mem_cons_self) hp]; simp; omega
      · simp only [Bool.not_eq_true] at hp
        rw [hp]
        simp
        split <;> omega
open Classical in
/-- Where nobody comes back, some of a set call nobody of it. -/
theorem no_sink {E : Nat → Nat → Prop} (hac : ∀ g f, E g f → ¬ Pth E f g) (S : List Nat) (hS : ∀ g ∈ S, ∃ f ∈ S, E g f) : ∀ g, g ∉ S := by
  have key : ∀ (k : Nat) (g : Nat), g ∈ S → S.countP (fun h => decide (∃ f, E g f ∧ Pth E f h)) ≤ k → False := by
    intro k
    induction k with
    | zero =>
      intro g hg hk
      obtain ⟨f, hf, he⟩ := hS g hg
      have : 0 < S.countP (fun h => decide (∃ f, E g f ∧ Pth E f h)) := List.countP_pos_iff.2 ⟨f, hf, by simpa using ⟨f, he, Pth.refl f⟩⟩
      omega
    | succ k ih =>
      intro g hg hk
      obtain ⟨f, hf, he⟩ := hS g hg
      refine ih f hf ?_
      have := countP_lt (fun h => decide (∃ d, E f d ∧ Pth E d h)) (fun h => decide (∃ d, E g d ∧ Pth E d h)) S (fun h _ hh => by
        simp only [decide_eq_true_eq] at hh ⊢
        obtain ⟨d, h1, h2⟩ := hh
        exact ⟨f, he, Pth.head h1 h2⟩) ⟨f, hf, by
          simp only [decide_eq_false_iff_not]
          rintro ⟨d, h1, h2⟩
          exact hac f d h1 h2, by simpa using ⟨f, he, Pth.refl f⟩⟩
      omega
  intro g hg
  exact key _ g hg (Nat.le_refl _)

section
variable (cnt : Nat → Nat) (has : Nat → Int → Bool) (cs : List Nat)
def openN (g : Nat) (out : List Int) : Nat := (List.range cs.length).countP fun (f : Nat) => has (cs.getD g 0) (f : Int) && !out.contains (f : Int)
structure Topo (wt xs out : List Int) : Prop where
  len : wt.length = cs.length
  wait : ∀ g, g < cs.length → wt.getD g 0 = (openN has cs g out : Int)
  nd : (out ++ xs).Nodup
  range : ∀ x ∈ out ++ xs, 0 ≤ x ∧ x < cs.length
  ready : ∀ g : Nat, g < cs.length → ((g : Int) ∈ out ++ xs ↔ wt.getD g 0 = 0)
  order : ∀ i, i < out.length → ∀ f : Nat, f < cs.length → has (cs.getD (out.getD i 0).toNat 0) (f : Int) = true → (f : Int) ∈ out.take i
theorem openN_zero {g : Nat} {out : List Int} (h : openN has cs g out = 0) (f : Nat) (hf : f < cs.length) (hh : has (cs.getD g 0) (f : Int) = true) : (f : Int) ∈ out := by
  unfold openN at h
  rw [List.countP_eq_zero] at h
  have := h f (List.mem_range.2 hf)
  rw [hh] at this
  simpa using this
theorem countP_range_one (q : Nat → Bool) (n x : Nat) (hx : x < n) (r : Nat → Bool) (hr : ∀ f, f < n → r f = (q f && decide (f ≠ x))) :
    (List.range n).countP r + (if q x = true then 1 else 0) = (List.range n).countP q := by
  induction n with
  | zero => omega
  | succ n ih =>
    rw [List.range_succ, List.countP_append, List.countP_append, List.countP_singleton, List.countP_singleton]
    by_cases h : x = n
    · subst h
      have e : (List.range x).countP r = (List.range x).countP q := List.countP_congr (fun f hf => by
        rw [hr f (by have := List.mem_range.1 hf; omega)]
        have : f ≠ x := by have := List.mem_range.1 hf; omega
        simp [this])
      rw [e, hr x (by omega)]
      simp
    · have := ih (by omega) (fun f hf => hr f (by omega))
      rw [hr n (by omega)]
      have hn : n ≠ x := fun e => h e.symm
      simp only [hn, ne_eq, not_false_eq_true, decide_true, Bool.and_true]
      omega
theorem openN_snoc (g : Nat) (out : List Int) (x : Nat) (hx : x < cs.length) (hn : (x : Int) ∉ out) :
    openN has cs g (out ++ [(x : Int)]) + (if has (cs.getD g 0) (x : Int) = true then 1 else 0) = openN has cs g out := by
  unfold openN
  have := countP_range_one (fun (f : Nat) => has (cs.getD g 0) (f : Int) && !out.contains (f : Int)) cs.length x hx (fun (f : Nat) => has (cs.getD g 0) (f : Int) && !(out ++ [(x : Int)]).contains (f : Int)) (fun f _ => by
    by_cases e : f = x
    · subst e; simp
    · have : ¬ (f : Int) = (x : Int) := by omega
      simp [e, this])
  rw [← this]
  have hc : out.contains (x : Int) = false := by simpa using hn
  simp only [hc, Bool.not_false, Bool.and_true]
theorem Topo.step {wt xs out : List Int} (h : Topo has cs wt xs out) (hx : xs ≠ []) :
    Topo has cs (innerL has (lastD (popF xs)) 0 cs wt (popF xs).dropLast).1 (innerL has (lastD (popF xs)) 0 cs wt (popF xs).dropLast).2 (out ++ [lastD (popF xs)]) := by
  have hp := pop_perm xs hx
  rw [← lastD_eq] at hp
  obtain ⟨xi, hxi⟩ : ∃ xi, lastD (popF xs) = xi := ⟨_, rfl⟩
  obtain ⟨xs', hxs'⟩ : ∃ xs', (popF xs).dropLast = xs' := ⟨_, rfl⟩
  rw [hxi, hxs'] at hp
  rw [hxi, hxs']
  have hmem : xi ∈ xs := hp.mem_iff.1 List.mem_cons_self
  obtain ⟨hx0, hx1⟩ := h.range xi (List.mem_append.2 (.inr hmem))
  obtain ⟨x, rfl⟩ := Int.eq_ofNat_of_zero_le hx0
  have hxn : x < cs.length := by omega
  have hnd := h.nd
  rw [List.nodup_append] at hnd
  obtain ⟨nd1, nd2, nd3⟩ := hnd
  have hxo : (x : Int) ∉ out := fun hm => nd3 _ hm _ hmem rfl
  have hP : (out ++ [(x : Int)] ++ xs').Perm (out ++ xs) := by
    rw [List.append_assoc]
    exact List.Perm.append_left out hp
  obtain ⟨s1, s2, nw, s3, s4, s5⟩ := innerL_spec has (x : Int) cs cs.length 0 wt xs' (by omega) h.len
  rw [List.drop_zero] at s1 s2 s3
  obtain ⟨⟨wt', xs''⟩, hr⟩ : ∃ r, innerL has (x : Int) 0 cs wt xs' = r := ⟨_, rfl⟩
  rw [hr] at s1 s2 s3 ⊢
  dsimp only at s1 s2 s3 ⊢
  have hw' : ∀ g, g < cs.length → wt'.getD g 0 = (openN has cs g (out ++ [(x : Int)]) : Int) := by
    intro g hg
    rw [s2 g hg, h.wait g hg, ← openN_snoc has cs g out x hxn hxo]
    simp only [Nat.zero_le, true_and]
    split <;> omega
  have hQ : (out ++ [(x : Int)] ++ xs'').Perm (nw ++ (out ++ xs)) :=
    (List.Perm.append_left _ s3).trans (by
      rw [← List.append_assoc]
      exact (List.Perm.append_right xs' List.perm_append_comm).trans (by rw [List.append_assoc]; exact List.Perm.append_left nw hP))
  have hwt1 : ∀ y ∈ nw, ∃ g : Nat, y = (g : Int) ∧ g < cs.length ∧ wt.getD g 0 = 1 := fun y hy => by
    obtain ⟨g, e, _, h2, _, h4⟩ := (s5 y).1 hy
    exact ⟨g, e, h2, h4⟩
  refine ⟨s1, hw', ?_, ?_, ?_, ?_⟩
  · rw [hQ.nodup_iff, List.nodup_append]
    refine ⟨s4, h.nd, fun y hy z hz e => ?_⟩
    subst e
    obtain ⟨g, rfl, h1, h2⟩ := hwt1 y hy
    have := (h.ready g h1).1 hz
    omega
  · intro y hy
    rcases List.mem_append.1 (hQ.mem_iff.1 hy) with hy | hy
    · obtain ⟨g, rfl, h1, _⟩ := hwt1 y hy
      omega
    · exact h.range y hy
  · intro g hg
    rw [hQ.mem_iff, List.mem_append, h.ready g hg, s5, s2 g hg]
    constructor
    · rintro (⟨g', e, _, _, h3, h4⟩ | h0)
      · obtain rfl : g' = g := by omega
        rw [if_pos ⟨Nat.zero_le _, h3⟩]
        omega
      · have hz : openN has cs g out = 0 := by have := h.wait g hg; omega
        by_cases hh : has (cs.getD g 0) (x : Int) = true
        · exact absurd (openN_zero has cs hz x hxn hh) hxo
        · rw [if_neg (fun h => hh h.2)]; omega
    · intro he
      by_cases hh : has (cs.getD g 0) (x : Int) = true
      · rw [if_pos ⟨Nat.zero_le _, hh⟩] at he
        exact .inl ⟨g, rfl, Nat.zero_le _, hg, hh, by omega⟩
      · rw [if_neg (fun h => hh h.2)] at he
        exact .inr (by omega)
  · intro i hi f hf hh
    rw [List.length_append, List.length_singleton] at hi
    by_cases he : i < out.length
    · have e : (out ++ [(x : Int)]).getD i 0 = out.getD i 0 := by rw [List.getD_eq_getElem?_getD, List.getElem?_append_left he, ← List.getD_eq_getElem?_getD]
      rw [e] at hh
      rw [List.take_append_of_le_length (by omega)]
      exact h.order i he f hf hh
    · obtain rfl : i = out.length := by omega
      have e : (out ++ [(x : Int)]).getD out.length 0 = (x : Int) := by rw [List.getD_eq_getElem?_getD, List.getElem?_append_right (Nat.le_refl _)]; simp
      rw [e, Int.toNat_natCast] at hh
      rw [List.take_left' rfl]
      have hz : wt.getD x 0 = 0 := (h.ready x hxn).1 (List.mem_append.2 (.inr hmem))
      have hz2 : openN has cs x out = 0 := by have := h.wait x hxn; omega
      exact openN_zero has cs hz2 f hf hh
theorem nodup_sub : ∀ (l l2 : List Int), l.Nodup → (∀ x ∈ l, x ∈ l2) → l.length ≤ l2.length := by
  intro l
  induction l with
  | nil => intro l2 _ _; simp
  | cons a l ih =>
    intro l2 h hs
    obtain ⟨h1, h2⟩ := List.nodup_cons.1 h
    have ha := hs a List.mem_cons_self
    have := ih (l2.erase a) h2 (fun x hx => (List.mem_erase_of_ne (fun (e : x = a) => h1 (by rw [← e]; exact hx))).2 (hs x (List.mem_cons_of_mem _ hx)))
    rw [List.length_erase_of_mem ha] at this
    have hp : 0 < l2.length := List.length_pos_of_mem ha
    simp only [List.length_cons]
    omega
theorem nodup_bound (n : Nat) (l : List Int) (h : l.Nodup) (hr : ∀ x ∈ l, 0 ≤ x ∧ x < n) : l.length ≤ n := by
  have hsub : l.length ≤ ((List.range n).map fun (i : Nat) => (i : Int)).length := nodup_sub _ _ h (fun x hx => by
    obtain ⟨h0, h1⟩ := hr x hx
    exact List.mem_map.2 ⟨x.toNat, List.mem_range.2 (by omega), by omega⟩)
  simpa using hsub
theorem Topo.all : ∀ (k : Nat) {wt xs out : List Int}, Topo has cs wt xs out → cs.length < k + out.length →
    ∃ wt', Topo has cs wt' [] (orderL has cs k wt xs out) := by
  intro k
  induction k with
  | zero =>
    intro wt xs out h hk
    have := nodup_bound cs.length out (List.nodup_append.1 h.nd).1 (fun x hx => h.range x (List.mem_append.2 (.inl hx)))
    omega
  | succ k ih =>
    intro wt xs out h hk
    unfold orderL
    by_cases he : xs = []
    · rw [if_pos he]; subst he; exact ⟨wt, h⟩
    · rw [if_neg he]
      exact ih (h.step has cs he) (by rw [List.length_append, List.length_singleton]; omega)
/-- What a row of functions in order is. -/
structure Topoed (o : List Int) : Prop where
  range : ∀ x ∈ o, 0 ≤ x ∧ x < cs.length
  nd : o.Nodup
  len : o.length = cs.length
  all : ∀ g : Nat, g < cs.length → (g : Int) ∈ o
  order : ∀ i, i < o.length → ∀ f : Nat, f < cs.length → has (cs.getD (o.getD i 0).toNat 0) (f : Int) = true → (f : Int) ∈ o.take i
theorem orderOf_topo (hcnt : ∀ g, g < cs.length → cnt (cs.getD g 0) = (List.range cs.length).countP fun (f : Nat) => has (cs.getD g 0) (f : Int))
    (hac : ∀ g f : Nat, g < cs.length ∧ f < cs.length ∧ has (cs.getD g 0) (f : Int) = true → ¬ Pth (fun a b => a < cs.length ∧ b < cs.length ∧ has (cs.getD a 0) (b : Int) = true) f g) :
    Topoed has cs (orderOf cnt has cs) := by
  have hw : ∀ g, g < cs.length → (cs.map fun m => (cnt m : Int)).getD g 0 = (cnt (cs.getD g 0) : Int) := by
    intro g hg
    simp [List.getD_eq_getElem?_getD, hg]
  have ho : ∀ g, g < cs.length → openN has cs g [] = cnt (cs.getD g 0) := by
    intro g hg
    rw [hcnt g hg]
    unfold openN
    simp
  obtain ⟨nw, i3, i4, i5⟩ := initL_spec cnt cs 0 []
  rw [List.append_nil] at i3
  have h0 : Topo has cs (cs.map fun m => (cnt m : Int)) (initL cnt 0 cs []) [] := by
    refine ⟨by simp, fun g hg => by rw [hw g hg, ho g hg], ?_, ?_, ?_, fun i hi => by simp at hi⟩
    · rw [List.nil_append, i3.nodup_iff]; exact i4
    · intro x hx
      rw [List.nil_append] at hx
      obtain ⟨g, rfl, h1, _⟩ := (i5 x).1 (i3.mem_iff.1 hx)
      omega
    · intro g hg
      rw [List.nil_append, i3.mem_iff, i5, hw g hg]
      constructor
      · rintro ⟨g', e, _, h2⟩
        obtain rfl : g = g' := by omega
        omega
      · intro h
        exact ⟨g, by omega, hg, by omega⟩
  obtain ⟨wt', ht⟩ := Topo.all has cs (cs.length + 1) h0 (by omega)
  have hout : orderOf cnt has cs = orderL has cs (cs.length + 1) (cs.map fun m => (cnt m : Int)) (initL cnt 0 cs []) [] := rfl
  rw [← hout] at ht
  obtain ⟨o, hoo⟩ : ∃ o, orderOf cnt has cs = o := ⟨_, rfl⟩
  rw [hoo] at ht ⊢
  have hnd := ht.nd
  rw [List.append_nil] at hnd
  have hall : ∀ g : Nat, g < cs.length → (g : Int) ∈ o := by
    intro g hg
    apply Classical.byContradiction
    intro hn
    have hS := no_sink (E := fun a b => a < cs.length ∧ b < cs.length ∧ has (cs.getD a 0) (b : Int) = true) hac ((List.range cs.length).filter fun x => !o.contains (x : Int)) (fun x hx => by
      obtain ⟨hx1, hx2⟩ := List.mem_filter.1 hx
      have hx1 := List.mem_range.1 hx1
      have hx2 : (x : Int) ∉ o := by simpa using hx2
      have hne : wt'.getD x 0 ≠ 0 := fun h => hx2 (by simpa using (ht.ready x hx1).2 h)
      rw [ht.wait x hx1] at hne
      have hpos : 0 < openN has cs x o := by omega
      unfold openN at hpos
      obtain ⟨f, hf1, hf2⟩ := List.countP_pos_iff.1 hpos
      have hf1' := List.mem_range.1 hf1
      rw [Bool.and_eq_true] at hf2
      exact ⟨f, List.mem_filter.2 ⟨hf1, hf2.2⟩, hx1, hf1', hf2.1⟩) g
    exact hS (List.mem_filter.2 ⟨List.mem_range.2 hg, by simpa using hn⟩)
  have hrange : ∀ x ∈ o, 0 ≤ x ∧ x < cs.length := fun x hx => ht.range x (List.mem_append.2 (.inl hx))
  refine ⟨hrange, hnd, Nat.le_antisymm (nodup_bound _ _ hnd hrange) ?_, hall, ht.order⟩
  have hnr : ((List.range cs.length).map fun (i : Nat) => (i : Int)).Nodup := by
    rw [List.nodup_iff_pairwise_ne, List.pairwise_map]
    exact (List.nodup_iff_pairwise_ne.1 List.nodup_range).imp (fun h e => h (by omega))
  have hsub : ((List.range cs.length).map fun (i : Nat) => (i : Int)).length ≤ o.length := nodup_sub _ _ hnr (fun x hx => by
    obtain ⟨i, hi, rfl⟩ := List.mem_map.1 hx
    exact hall i (List.mem_range.1 hi))
  simpa using hsub
end
end Go.Proofs.Ytbkgnokoicmppaa
