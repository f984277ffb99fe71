/- The plain law of GraphCalls: the document's Named, Begun and Reach answer what the program's do. -/
import Derived.Test.YtbkgnokoicmppaaDoorRef6B
namespace Go.Proofs.YtbkgnokoicmppaaDoor
open Go.RowKit
set_option linter.unusedVariables false
set_option linter.unusedSimpArgs false

theorem oneF_bit (x : Int) (i : Nat) : (oneF x).testBit i = (decide (i < 32) && (x == (i : Int))) := by
  unfold oneF
  split
  · rename_i h
    rw [Nat.testBit_two_pow, Bool.eq_iff_iff]
    simp only [decide_eq_true_eq, Bool.and_eq_true, beq_iff_eq]
    omega
  · rename_i h
    rw [Nat.zero_testBit, Bool.eq_iff_iff]
    simp only [decide_eq_true_eq, Bool.and_eq_true, beq_iff_eq]
    constructor
    · intro h; cases h
    · intro h2; omega
theorem namedL_bit (kind : Int) : ∀ (l : List Node) (m i : Nat), (namedL kind l m).testBit i = (m.testBit i || (decide (i < 32) && named6 l kind i)) := by
  intro l
  induction l with
  | nil => intro m i; simp [namedL, named6]
  | cons x l ih =>
    intro m i
    have e : named6 (x :: l) kind i = ((x.kind == kind && x.arg == (i : Int)) || named6 l kind i) := by simp [named6]
    unfold namedL
    rw [ih, e]
    by_cases hk : x.kind = kind
    · rw [if_pos hk, Nat.testBit_or, oneF_bit]
      have : (x.kind == kind) = true := by rw [beq_iff_eq]; exact hk
      rw [this]
      cases m.testBit i <;> cases decide (i < 32) <;> cases (x.arg == (i : Int)) <;> cases named6 l kind i <;> rfl
    · rw [if_neg hk]
      have : (x.kind == kind) = false := by rw [beq_eq_false_iff_ne]; exact hk
      rw [this]
      simp
theorem namedF_bit (l : List Node) (kind : Int) (i : Nat) : (namedF l kind).testBit i = (decide (i < 32) && named6 l kind i) := by
  unfold namedF; rw [namedL_bit]; simp
theorem mask_named (l : List Node) (kind : Int) : maskS (idL (named6 l kind) 32) % 4294967296 = namedF l kind := by
  have hlt := maskN_lt (named6 l kind) 32
  rw [maskS_idL, Nat.mod_eq_of_lt hlt]
  apply Nat.eq_of_testBit_eq
  intro i
  rw [maskN_bit, namedF_bit]

/-! the document's Reach -/
def at6 (b : List Bool) (i : Nat) : Prop := b.getD i false = true
theorem at6_set (b : List Bool) (x i : Nat) (hx : x < b.length) : at6 (b.set x true) i ↔ at6 b i ∨ i = x := by
  unfold at6
  by_cases h : i = x
  · subst h; simp [List.getD_eq_getElem?_getD, hx]
  · have : ¬ x = i := fun e => h e.symm
    simp [List.getD_eq_getElem?_getD, List.getElem?_set_ne this, h]
theorem put6_at (n : Nat) : ∀ (l : List Int) (b : List Bool), b.length = n → (∀ x ∈ l, 0 ≤ x) → ∀ i, at6 (put6 n l b) i ↔ at6 b i ∨ (i < n ∧ (i : Int) ∈ l) := by
  intro l
  induction l with
  | nil => intro b hb h i; simp [put6]
  | cons x l ih =>
    intro b hb h i
    have h0 := h x List.mem_cons_self
    rw [put6_cons]
    by_cases hx : x < n
    · rw [if_pos hx, ih _ (by simpa using hb) (fun y hy => h y (List.mem_cons_of_mem _ hy)), at6_set _ _ _ (by omega), List.mem_cons]
      constructor
      · rintro ((h1 | h1) | ⟨h1, h2⟩)
        · exact .inl h1
        · exact .inr ⟨by omega, .inl (by omega)⟩
        · exact .inr ⟨h1, .inr h2⟩
      · rintro (h1 | ⟨h1, h2 | h2⟩)
        · exact .inl (.inl h1)
        · exact .inl (.inr (by omega))
        · exact .inr ⟨h1, h2⟩
    · rw [if_neg hx, ih _ hb (fun y hy => h y (List.mem_cons_of_mem _ hy)), List.mem_cons]
      constructor
      · rintro (h1 | ⟨h1, h2⟩)
        · exact .inl h1
        · exact .inr ⟨h1, .inr h2⟩
      · rintro (h1 | ⟨h1, h2 | h2⟩)
        · exact .inl h1
        · omega
        · exact .inr ⟨h1, h2⟩
theorem put6_length (n : Nat) : ∀ (l : List Int) (b : List Bool), (put6 n l b).length = b.length := by
  intro l
  induction l with
  | nil => intro b; rfl
  | cons x l ih => intro b; rw [put6_cons, ih]; split <;> simp
theorem set6_length (n f : Nat) : ∀ (l : List Int) (b : List Bool), (set6 n f l b).length = b.length := by
  intro l
  induction l with
  | nil => intro b; rfl
  | cons x l ih => intro b; rw [set6_cons, ih]; split <;> simp
theorem row6_length (n : Nat) (ids : Nat → List Int) : ∀ (k f : Nat) (b : List Bool), (row6 n ids k f b).length = b.length := by
  intro k
  induction k with
  | zero => intro f b; rfl
  | succ k ih => intro f b; rw [row6_succ, ih, set6_length]
theorem rnd6_length (n : Nat) (ids : Nat → List Int) : ∀ (k : Nat) (b : List Bool), (rnd6 n ids k b).length = b.length := by
  intro k
  induction k with
  | zero => intro b; rfl
  | succ k ih => intro b; rw [rnd6_succ, ih, row6_length]
section
variable (n : Nat) (ids : Nat → List Int) (hids : ∀ f, ∀ x ∈ ids f, 0 ≤ x)
theorem set6_mono (f : Nat) : ∀ (l : List Int) (b : List Bool), b.length = n → (∀ x ∈ l, 0 ≤ x) → ∀ i, at6 b i → at6 (set6 n f l b) i := by
  intro l
  induction l with
  | nil => intro b _ _ i h; exact h
  | cons x l ih =>
    intro b hb h i hi
    have h0 := h x List.mem_cons_self
    rw [set6_cons]
    split
    · exact ih _ (by simpa using hb) (fun y hy => h y (List.mem_cons_of_mem _ hy)) i ((at6_set b _ i (by omega)).2 (.inl hi))
    · exact ih _ hb (fun y hy => h y (List.mem_cons_of_mem _ hy)) i hi
theorem set6_in (f : Nat) : ∀ (l : List Int) (b : List Bool), b.length = n → (∀ x ∈ l, 0 ≤ x) → at6 b f → ∀ i : Nat, (i : Int) ∈ l → i < n → at6 (set6 n f l b) i := by
  intro l
  induction l with
  | nil => intro b _ _ _ i h; simp at h
  | cons x l ih =>
    intro b hb h hf i hi hin
    have h0 := h x List.mem_cons_self
    have hl := fun y hy => h y (List.mem_cons_of_mem x hy)
    rw [set6_cons]
    rcases List.mem_cons.1 hi with rfl | hi
    · rw [if_pos ⟨hf, by omega⟩]
      exact set6_mono n f l _ (by simpa using hb) hl i ((at6_set b _ i (by omega)).2 (.inr (by omega)))
    · split
      · exact ih _ (by simpa using hb) hl ((at6_set b _ f (by omega)).2 (.inl hf)) i hi hin
      · exact ih _ hb hl hf i hi hin
theorem set6_up (f : Nat) (Y : Nat → Prop) : ∀ (l : List Int) (b : List Bool), b.length = n → (∀ x ∈ l, 0 ≤ x) → (∀ i, at6 b i → Y i) → (∀ i : Nat, i < n → (i : Int) ∈ l → Y f → Y i) → ∀ i, at6 (set6 n f l b) i → Y i := by
  intro l
  induction l with
  | nil => intro b _ _ h _ i hi; exact h i hi
  | cons x l ih =>
    intro b hb h hY hc i hi
    have h0 := h x List.mem_cons_self
    have hl := fun y hy => h y (List.mem_cons_of_mem x hy)
    have hc2 := fun (i : Nat) h1 h2 => hc i h1 (List.mem_cons_of_mem x h2)
    rw [set6_cons] at hi
    split at hi
    · rename_i hp
      refine ih _ (by simpa using hb) hl ?_ hc2 i hi
      intro j hj
      rcases (at6_set b _ j (by omega)).1 hj with hj | hj
      · exact hY j hj
      · refine hc j (by omega) ?_ (hY f hp.1)
        rw [hj, Int.toNat_of_nonneg h0]
        exact List.mem_cons_self
    · exact ih _ hb hl hY hc2 i hi
include hids
theorem row6_mono : ∀ (k f : Nat) (b : List Bool), b.length = n → ∀ i, at6 b i → at6 (row6 n ids k f b) i := by
  intro k
  induction k with
  | zero => intro f b _ i h; exact h
  | succ k ih => intro f b hb i h; rw [row6_succ]; exact ih _ _ (by rw [set6_length]; exact hb) i (set6_mono n f _ b hb (hids f) i h)
theorem row6_in : ∀ (k f : Nat) (b : List Bool), b.length = n → ∀ g, f ≤ g → g < f + k → at6 b g → ∀ i : Nat, (i : Int) ∈ ids g → i < n → at6 (row6 n ids k f b) i := by
  intro k
  induction k with
  | zero => intro f b _ g h1 h2; omega
  | succ k ih =>
    intro f b hb g h1 h2 hg i hi hin
    rw [row6_succ]
    by_cases he : g = f
    · subst he
      exact row6_mono n ids hids _ _ _ (by rw [set6_length]; exact hb) i (set6_in n g _ b hb (hids g) hg i hi hin)
    · exact ih _ _ (by rw [set6_length]; exact hb) g (by omega) (by omega) (set6_mono n f _ b hb (hids f) g hg) i hi hin
theorem row6_up (Y : Nat → Prop) (hY : ∀ f i : Nat, i < n → (i : Int) ∈ ids f → Y f → Y i) : ∀ (k f : Nat) (b : List Bool), b.length = n → (∀ i, at6 b i → Y i) → ∀ i, at6 (row6 n ids k f b) i → Y i := by
  intro k
  induction k with
  | zero => intro f b _ h i hi; exact h i hi
  | succ k ih =>
    intro f b hb h i hi
    rw [row6_succ] at hi
    exact ih _ _ (by rw [set6_length]; exact hb) (set6_up n f Y _ b hb (hids f) h (fun i h1 h2 h3 => hY f i h1 h2 h3)) i hi
theorem rnd6_up (Y : Nat → Prop) (hY : ∀ f i : Nat, i < n → (i : Int) ∈ ids f → Y f → Y i) : ∀ (k : Nat) (b : List Bool), b.length = n → (∀ i, at6 b i → Y i) → ∀ i, at6 (rnd6 n ids k b) i → Y i := by
  intro k
  induction k with
  | zero => intro b _ h i hi; exact h i hi
  | succ k ih =>
    intro b hb h i hi
    rw [rnd6_succ] at hi
    exact ih _ (by rw [row6_length]; exact hb) (row6_up n ids hids Y hY n 0 b hb h) i hi
theorem rnd6_mono : ∀ (k : Nat) (b : List Bool), b.length = n → ∀ i, at6 b i → at6 (rnd6 n ids k b) i := by
  intro k
  induction k with
  | zero => intro b _ i h; exact h
  | succ k ih => intro b hb i h; rw [rnd6_succ]; exact ih _ (by rw [row6_length]; exact hb) i (row6_mono n ids hids n 0 b hb i h)
omit hids in
theorem count_mono : ∀ (b c : List Bool), b.length = c.length → (∀ i, at6 b i → at6 c i) → b.count true ≤ c.count true ∧ (b.count true = c.count true → b = c) := by
  intro b
  induction b with
  | nil => intro c h _; cases c with
    | nil => simp
    | cons _ _ => simp at h
  | cons x b ih =>
    intro c h hm
    cases c with
    | nil => simp at h
    | cons y c =>
      have := ih c (by simpa using h) (fun i hi => hm (i + 1) hi)
      have h0 : x = true → y = true := fun hx => hm 0 hx
      rw [List.count_cons, List.count_cons]
      cases x <;> cases y <;> simp_all <;> omega
theorem rnd6_closed : ∀ (k : Nat) (b : List Bool), b.length = n → n ≤ k + b.count true → ∀ g i : Nat, g < n → i < n → at6 (rnd6 n ids k b) g → (i : Int) ∈ ids g → at6 (rnd6 n ids k b) i := by
  intro k
  induction k with
  | zero =>
    intro b hb hc g i hg hi _ _
    have h1 : b.count true = b.length := by have := List.count_le_length (a := true) (l := b); omega
    have h2 := List.count_eq_length.1 h1
    rw [rnd6_zero]
    unfold at6
    rw [List.getD_eq_getElem?_getD, List.getElem?_eq_getElem (by omega)]
    exact (h2 _ (List.getElem_mem (by omega))).symm
  | succ k ih =>
    intro b hb hc g i hg hi h1 h2
    rw [rnd6_succ] at h1 ⊢
    have hm := row6_mono n ids hids n 0 b hb
    obtain ⟨c1, c2⟩ := count_mono b (row6 n ids n 0 b) (by rw [row6_length]) hm
    by_cases he : b.count true = (row6 n ids n 0 b).count true
    · have hfix := (c2 he).symm
      have hall : ∀ k, rnd6 n ids k b = b := by
        intro k
        induction k with
        | zero => rfl
        | succ k ih => rw [rnd6_succ, hfix, ih]
      rw [hfix, hall] at h1 ⊢
      rw [← hfix]
      exact row6_in n ids hids n 0 b hb g (by omega) (by omega) h1 i h2 hi
    · exact ih _ (by rw [row6_length]; exact hb) (by omega) g i hg hi h1 h2
end

theorem calleesF_at (p : Prg) (j : Nat) (h : j < p.fs.length) : (calleesF p).getD j 0 = namedF (p.fs.getD j []) 7 := by
  rw [List.getD_eq_getElem?_getD, List.getElem?_eq_getElem (by rw [calleesF_length]; exact h)]
  simp [calleesF, List.getD_eq_getElem?_getD, List.getElem?_eq_getElem h]
theorem reach_eq (p : Prg) (m : Nat) (hm : m < 4294967296) (hn : p.fs.length ≤ 32) :
    maskS (idL (fun i => (reach6 p (idL m.testBit 32)).getD i false) p.fs.length) % 4294967296 = reachM (calleesF p) m := by
  obtain ⟨X, hX⟩ : ∃ X, reachM (calleesF p) m = X := ⟨_, rfl⟩
  obtain ⟨s1, s2, s3, s4⟩ := reachM_spec (calleesF p) m
  have hXl := reachM_lt (calleesF p) m
  rw [hX] at s1 s2 s3 s4 hXl ⊢
  rw [calleesF_length] at s1 s2 s3 s4
  obtain ⟨n, hnn⟩ : ∃ n, p.fs.length = n := ⟨_, rfl⟩
  obtain ⟨b, hb⟩ : ∃ b, reach6 p (idL m.testBit 32) = b := ⟨_, rfl⟩
  have hb2 := hb
  unfold reach6 at hb2
  rw [hb, hnn]
  rw [hnn] at s1 s2 s3 s4 hn hb2
  have halb : ∀ i, (allF n).testBit i = decide (i < n) := by
    intro i; rw [allF_bit]
    rw [Bool.eq_iff_iff]; simp only [decide_eq_true_eq]; omega
  have hids : ∀ f, ∀ x ∈ ids6 p f, 0 ≤ x := by
    intro f x hx
    obtain ⟨i, rfl, _⟩ := (mem_idL _ _ _).1 hx
    omega
  have hmem : ∀ f i : Nat, (i : Int) ∈ ids6 p f ↔ (i < 32 ∧ named6 (p.fs.getD f []) 7 i = true) := by
    intro f i
    unfold ids6
    rw [mem_idL]
    constructor
    · rintro ⟨j, e, h1, h2⟩
      obtain rfl : i = j := by omega
      exact ⟨h1, h2⟩
    · rintro ⟨h1, h2⟩
      exact ⟨i, rfl, h1, h2⟩
  have hl0 : (put6 n (idL m.testBit 32) (List.replicate n false)).length = n := by rw [put6_length]; simp
  have hbl : b.length = n := by rw [← hb2, rnd6_length, hl0]
  have hb0 : ∀ i, at6 (put6 n (idL m.testBit 32) (List.replicate n false)) i ↔ (i < n ∧ m.testBit i = true) := by
    intro i
    rw [put6_at n _ _ (by simp) (fun x hx => by obtain ⟨j, rfl, _⟩ := (mem_idL _ _ _).1 hx; omega) i]
    have : ¬ at6 (List.replicate n false) i := by
      unfold at6
      rw [List.getD_eq_getElem?_getD, List.getElem?_replicate]
      split <;> simp
    constructor
    · rintro (h | ⟨h1, h2⟩)
      · exact absurd h this
      · obtain ⟨j, e, _, h3⟩ := (mem_idL _ _ _).1 h2
        obtain rfl : i = j := by omega
        exact ⟨h1, h3⟩
    · rintro ⟨h1, h2⟩
      exact .inr ⟨h1, (mem_idL _ _ _).2 ⟨i, rfl, by omega, h2⟩⟩
  have hcl : ∀ g i : Nat, g < n → i < n → at6 b g → (i : Int) ∈ ids6 p g → at6 b i := by
    rw [← hb2]
    exact rnd6_closed n (ids6 p) hids n _ hl0 (by omega)
  have hmo : ∀ i, i < n → m.testBit i = true → at6 b i := by
    intro i h1 h2
    rw [← hb2]
    exact rnd6_mono n (ids6 p) hids n _ hl0 i ((hb0 i).2 ⟨h1, h2⟩)
  have hX2 : ∀ i, X.testBit i = true → i < n := by
    intro i hi
    have := sub_of_and s1 i hi
    rw [halb] at this
    simpa using this
  have hedge : ∀ j i, j < n → i < n → (((calleesF p).getD j 0 &&& allF n).testBit i = true ↔ (i : Int) ∈ ids6 p j) := by
    intro j i hj hi
    rw [calleesF_at p j (by omega), Nat.testBit_and, namedF_bit, halb, hmem]
    simp [hi, show i < 32 by omega]
  have hup : ∀ i, at6 b i → X.testBit i = true := by
    rw [← hb2]
    refine rnd6_up n (ids6 p) hids (fun i => X.testBit i = true) ?_ n _ hl0 ?_
    · intro f i hi h1 h2
      have hf := hX2 f h2
      show X.testBit i = true
      rw [← s3, rnd_bit _ _ _ _ hXl]
      exact .inr ⟨f, by omega, h2, (hedge f i hf hi).2 h1⟩
    · intro i hi
      obtain ⟨h1, h2⟩ := (hb0 i).1 hi
      refine s2 i ?_
      rw [Nat.testBit_and, halb, h2]
      simp [h1]
  obtain ⟨y, hy⟩ : ∃ y, maskN (fun i => b.getD i false) n = y := ⟨_, rfl⟩
  have hyb : ∀ i, y.testBit i = true ↔ (i < n ∧ at6 b i) := by
    intro i
    rw [← hy, maskN_bit]
    simp [at6]
  have hyl : y < 4294967296 := by
    have h1 := maskN_lt (fun i => b.getD i false) n
    have h2 : 2 ^ n ≤ 2 ^ 32 := Nat.pow_le_pow_right (by omega) hn
    omega
  rw [maskS_idL, hy, Nat.mod_eq_of_lt hyl]
  apply sub_antisymm
  · intro i hi
    exact hup i ((hyb i).1 hi).2
  · refine s4 y (and_of_sub ?_) ?_ ?_
    · intro i hi
      rw [halb]
      simpa using ((hyb i).1 hi).1
    · apply sub_antisymm
      · intro i hi
        rcases (rnd_bit _ _ _ _ hyl).1 hi with h | ⟨j, hj, h1, h2⟩
        · exact h
        · obtain ⟨h3, h4⟩ := (hyb j).1 h1
          have hin : i < n := by
            rw [Nat.testBit_and, Bool.and_eq_true, halb] at h2
            simpa using h2.2
          exact (hyb i).2 ⟨hin, hcl j i h3 hin h4 ((hedge j i h3 hin).1 h2)⟩
      · exact sub_rnd _ _ _
    · intro i hi
      rw [Nat.testBit_and, Bool.and_eq_true, halb] at hi
      have hin : i < n := by simpa using hi.2
      exact (hyb i).2 ⟨hin, hmo i hin hi.1⟩
end Go.Proofs.YtbkgnokoicmppaaDoor
