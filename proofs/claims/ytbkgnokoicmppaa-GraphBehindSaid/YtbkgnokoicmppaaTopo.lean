/- A program without a round of calls: by whatever calls, nobody comes back. No program in sight. -/
import Derived.Test.YtbkgnokoicmppaaPurePrg
namespace Go.Proofs.Ytbkgnokoicmppaa
set_option linter.unusedVariables false

/-- a calls b. -/
def Edg (p : Prg) (a b : Nat) : Prop := a < p.fs.length ∧ ∃ x ∈ p.fs.getD a [], x.kind = 7 ∧ x.arg.toNat = b
inductive Pth (E : Nat → Nat → Prop) : Nat → Nat → Prop
  | refl (a : Nat) : Pth E a a
  | head {a b c : Nat} : E a b → Pth E b c → Pth E a c
theorem Pth.closed {E : Nat → Nat → Prop} {S : Nat → Prop} (hS : ∀ a b, S a → E a b → S b) {a b : Nat} (h : Pth E a b) : S a → S b := by
  induction h with
  | refl => exact id
  | head e _ ih => exact fun ha => ih (hS _ _ ha e)
theorem reachL_nil (f : Nat → List Bool → Bool × List Bool) (s : List Bool) : reachL f [] s = (false, s) := rfl
theorem reachL_cons (f : Nat → List Bool → Bool × List Bool) (x : Node) (l : List Node) (s : List Bool) :
    reachL f (x :: l) s = if x.kind = 7 then (if (f x.arg.toNat s).1 = true then (true, (f x.arg.toNat s).2) else reachL f l (f x.arg.toNat s).2) else reachL f l s := rfl
def mk (s : List Bool) (i : Nat) : Prop := s.getD i false = true
/-- What a search that failed leaves. -/
structure Left (p : Prg) (goal : Nat) (s s' : List Bool) : Prop where
  len : s'.length = s.length
  cnt : s'.count false ≤ s.count false
  mono : ∀ j, mk s j → mk s' j
  new : ∀ j, mk s' j → mk s j ∨ (j ≠ goal ∧ ∀ b, Edg p j b → b < p.fs.length → mk s' b)
theorem Left.refl (p : Prg) (goal : Nat) (s : List Bool) : Left p goal s s := ⟨rfl, Nat.le_refl _, fun _ h => h, fun _ h => .inl h⟩
theorem Left.trans {p : Prg} {goal : Nat} {a b c : List Bool} (h : Left p goal a b) (k : Left p goal b c) : Left p goal a c :=
  ⟨k.len.trans h.len, Nat.le_trans k.cnt h.cnt, fun j hj => k.mono j (h.mono j hj), fun j hj => by
    rcases k.new j hj with h1 | h1
    · rcases h.new j h1 with h2 | ⟨h2, h3⟩
      · exact .inl h2
      · exact .inr ⟨h2, fun d hd hl => k.mono d (h3 d hd hl)⟩
    · exact .inr h1⟩
theorem reachL_left (p : Prg) (goal N : Nat) (hn : ∀ fr s, s.length = p.fs.length → s.count false < N → (reachF N p goal fr s).1 = false → Left p goal s (reachF N p goal fr s).2 ∧ (fr < p.fs.length → mk (reachF N p goal fr s).2 fr)) :
    ∀ (l : List Node) (s : List Bool), s.length = p.fs.length → s.count false < N → (reachL (reachF N p goal) l s).1 = false →
      Left p goal s (reachL (reachF N p goal) l s).2 ∧ ∀ x ∈ l, x.kind = 7 → x.arg.toNat < p.fs.length → mk (reachL (reachF N p goal) l s).2 x.arg.toNat := by
  intro l
  induction l with
  | nil => intro s _ _ _; exact ⟨Left.refl _ _ _, fun x hx => by simp at hx⟩
  | cons x l ih =>
    intro s hs hc h
    rw [reachL_cons] at h ⊢
    by_cases h7 : x.kind = 7
    · rw [if_pos h7] at h ⊢
      by_cases hr : (reachF N p goal x.arg.toNat s).1 = true
      · rw [if_pos hr] at h
        cases h
      · rw [if_neg hr] at h ⊢
        obtain ⟨k1, k2⟩ := hn x.arg.toNat s hs hc (by simpa using hr)
        obtain ⟨m1, m2⟩ := ih _ (k1.len.trans hs) (Nat.lt_of_le_of_lt k1.cnt hc) h
        refine ⟨k1.trans m1, fun y hy hy7 hyl => ?_⟩
        rcases List.mem_cons.1 hy with rfl | hy
        · exact m1.mono _ (k2 hyl)
        · exact m2 y hy hy7 hyl
    · rw [if_neg h7] at h ⊢
      obtain ⟨m1, m2⟩ := ih s hs hc h
      refine ⟨m1, fun y hy hy7 hyl => ?_⟩
      rcases List.mem_cons.1 hy with rfl | hy
      · exact absurd hy7 h7
      · exact m2 y hy hy7 hyl
theorem reachF_left (p : Prg) (goal : Nat) : ∀ N fr s, s.length = p.fs.length → s.count false < N → (reachF N p goal fr s).1 = false →
    Left p goal s (reachF N p goal fr s).2 ∧ (fr < p.fs.length → mk (reachF N p goal fr s).2 fr) := by
  intro N
  induction N with
  | zero => intro fr s _ h; omega
  | succ N ih =>
    intro fr s hs hc h
    unfold reachF at h ⊢
    by_cases h1 : fr = goal
    · rw [if_pos h1] at h; cases h
    · rw [if_neg h1] at h ⊢
      by_cases h2 : s.getD fr false = true
      · rw [if_pos h2] at h ⊢
        exact ⟨Left.refl _ _ _, fun _ => h2⟩
      · rw [if_neg h2] at h ⊢
        have h2f : s.getD fr false = false := by simpa using h2
        by_cases hf : fr < p.fs.length
        · have hc2 := count_set_lt s fr (by omega) h2f
          obtain ⟨m1, m2⟩ := reachL_left p goal N ih (p.fs.getD fr []) (s.set fr true) (by simpa using hs) (by omega) h
          have hset : ∀ j, mk (s.set fr true) j ↔ (mk s j ∨ j = fr) := by
            intro j
            unfold mk
            by_cases e : j = fr
            · subst e; simp [List.getD_eq_getElem?_getD, show j < s.length by omega]
            · have : ¬ fr = j := fun e2 => e e2.symm
              simp [List.getD_eq_getElem?_getD, List.getElem?_set_ne this, e]
          have hfr := m1.mono fr ((hset fr).2 (.inr rfl))
          refine ⟨⟨m1.len.trans (by simp), Nat.le_trans m1.cnt (count_set_le s fr), fun j hj => m1.mono j ((hset j).2 (.inl hj)), fun j hj => ?_⟩, fun _ => hfr⟩
          rcases m1.new j hj with h3 | h3
          · rcases (hset j).1 h3 with h4 | rfl
            · exact .inl h4
            · refine .inr ⟨h1, fun b hb hl => ?_⟩
              obtain ⟨_, x, hx, h7, rfl⟩ := hb
              exact m2 x hx h7 hl
          · exact .inr h3
        · have he : p.fs.getD fr [] = [] := by rw [List.getD_eq_getElem?_getD, List.getElem?_eq_none (by omega)]; rfl
          have hset : s.set fr true = s := List.set_eq_of_length_le (by omega)
          rw [he, hset, reachL_nil]
          exact ⟨Left.refl _ _ _, fun h => absurd h hf⟩
theorem roundL_none (p : Prg) : ∀ (ls : List (List Node)) (f : Nat), roundL p f ls = none → ∀ (i : Nat) (l : List Node), ls[i]? = some l → ∀ x ∈ l, badB p (f + i) x = false := by
  intro ls
  induction ls with
  | nil => intro f _ i l h; simp at h
  | cons l0 r ih =>
    intro f h i l hi x hx
    rw [roundL_cons] at h
    split at h
    · cases h
    · rename_i h0
      cases i with
      | zero =>
        simp at hi
        subst hi
        have h3 : l0.findIdx (badB p f) = l0.length := by
          have := List.findIdx_le_length (p := badB p f) (xs := l0); omega
        have := List.findIdx_eq_length.1 h3 x hx
        simpa using this
      | succ i =>
        have := ih (f + 1) h i l (by simpa using hi) x hx
        rw [show f + (i + 1) = f + 1 + i by omega]
        exact this
/-- Nobody comes back. -/
theorem no_round {p : Prg} (h : roundF p = none) (hcl : ∀ a b, Edg p a b → b < p.fs.length) {f g : Nat} (e : Edg p f g) : ¬ Pth (Edg p) g f := by
  intro hp
  obtain ⟨hf, x, hx, h7, rfl⟩ := e
  have hl : p.fs[f]? = some (p.fs.getD f []) := by rw [List.getElem?_eq_getElem hf, List.getD_eq_getElem?_getD, List.getElem?_eq_getElem hf]; rfl
  have hb := roundL_none p p.fs 0 h f _ hl x hx
  rw [Nat.zero_add] at hb
  unfold badB comesB at hb
  rw [h7] at hb
  simp only [decide_true, Bool.true_and] at hb
  have hg : x.arg.toNat < p.fs.length := hcl f _ ⟨hf, x, hx, h7, rfl⟩
  obtain ⟨m1, m2⟩ := reachF_left p f (p.fs.length + 1) x.arg.toNat (List.replicate p.fs.length false) (by simp) (by simp) hb
  have hz : ∀ j, ¬ mk (List.replicate p.fs.length false) j := by
    intro j
    unfold mk
    rw [List.getD_eq_getElem?_getD, List.getElem?_replicate]
    split <;> simp
  have := hp.closed (S := fun j => mk (reachF (p.fs.length + 1) p f x.arg.toNat (List.replicate p.fs.length false)).2 j) (fun a b ha hab => by
    rcases m1.new a ha with h | ⟨_, h⟩
    · exact absurd h (hz a)
    · exact h b hab (hcl _ _ hab)) (m2 hg)
  rcases m1.new f this with h | ⟨h, _⟩
  · exact hz f h
  · exact h rfl
end Go.Proofs.Ytbkgnokoicmppaa
