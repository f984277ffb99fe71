/- Programs as plain data, and what package prog says of them, as plain functions. No program in sight. -/
import Derived.Test.YtbkgnokoicmppaaPure
namespace Go.Proofs.Ytbkgnokoicmppaa

structure Node where
  kind : Int
  arg : Int
  next : Int
  alt : Int
deriving DecidableEq
structure Prg where
  g : Int
  l : Int
  s : Int
  fs : List (List Node)
def zNode : Node := ⟨0, 0, 0, 0⟩

def fieldsF (p : Prg) (kind size : Int) : Int × Int × Int × Bool :=
  if kind = 0 then (0, size, 0, true) else
  if kind = 1 ∨ kind = 2 then (p.g, size, 0, decide (p.g > 0)) else
  if kind = 3 ∨ kind = 4 then (p.l, size, 0, decide (p.l > 0)) else
  if kind = 5 then (p.fs.length, size, p.s, decide (p.s > 0) && decide ((p.fs.length : Int) > 0)) else
  if kind = 6 then (p.s, size, 0, decide (p.s > 0)) else
  if kind = 7 then (p.fs.length, size, 0, decide ((p.fs.length : Int) > 0)) else
  if kind = 8 then (0, size, size, true) else
  if kind = 9 then (0, 0, 0, true) else (0, 0, 0, false)
def withinB (n size : Int) : Bool := decide (0 ≤ n) && decide (n < size)
def mayF (p : Prg) (n : Node) (size : Int) : Bool :=
  (fieldsF p n.kind size).2.2.2 && withinB n.arg (max (fieldsF p n.kind size).1 1) && withinB n.next (max (fieldsF p n.kind size).2.1 1) && withinB n.alt (max (fieldsF p n.kind size).2.2.1 1)

def reachL (f : Nat → List Bool → Bool × List Bool) : List Node → List Bool → Bool × List Bool
  | [], s => (false, s)
  | x :: l, s => if x.kind = 7 then (if (f x.arg.toNat s).1 = true then (true, (f x.arg.toNat s).2) else reachL f l (f x.arg.toNat s).2) else reachL f l s
def reachF : Nat → Prg → Nat → Nat → List Bool → Bool × List Bool
  | 0, _, _, _, s => (false, s)
  | n + 1, p, to, fr, s => if fr = to then (true, s) else if s.getD fr false = true then (false, s) else reachL (reachF n p to) (p.fs.getD fr []) (s.set fr true)
/-- Does a call of arg x come to f? -/
def comesB (p : Prg) (x f : Nat) : Bool := (reachF (p.fs.length + 1) p f x (List.replicate p.fs.length false)).1
def badB (p : Prg) (f : Nat) (x : Node) : Bool := decide (x.kind = 7) && comesB p x.arg.toNat f
/-- The first call that comes back to its function, from function f on. -/
def roundL (p : Prg) : Nat → List (List Node) → Option (Nat × Nat)
  | _, [] => none
  | f, l :: r => if l.findIdx (badB p f) < l.length then some (f, l.findIdx (badB p f)) else roundL p (f + 1) r
def roundF (p : Prg) : Option (Nat × Nat) := roundL p 0 p.fs
def mayL (p : Prg) : Nat → List (List Node) → Option (Int × Int × Int)
  | _, [] => none
  | f, l :: r => if l.length = 0 then some (f, -1, 1) else if 64 < l.length then some (f, -1, 4) else
    if l.findIdx (fun n => !mayF p n l.length) < l.length then some (f, l.findIdx (fun n => !mayF p n l.length), 3) else mayL p (f + 1) r
def checkF (p : Prg) : Int × Int × Int :=
  if p.g < 0 ∨ p.l < 0 ∨ p.s < 0 ∨ p.fs.length = 0 then (-1, -1, 1) else
  if 16 < p.g ∨ 16 < p.l ∨ 8 < p.s ∨ 16 < p.fs.length then (-1, -1, 4) else
  match mayL p 0 p.fs with
  | some r => r
  | none => match roundF p with
    | some (f, i) => (f, i, 8)
    | none => (0, 0, 0)

theorem reachL_mono (f : Nat → List Bool → Bool × List Bool) (hf : ∀ x s, (f x s).2.length = s.length ∧ (f x s).2.count false ≤ s.count false) :
    ∀ l s, (reachL f l s).2.length = s.length ∧ (reachL f l s).2.count false ≤ s.count false := by
  intro l
  induction l with
  | nil => intro s; exact ⟨rfl, Nat.le_refl _⟩
  | cons x l ih =>
    intro s
    unfold reachL
    have h1 := hf x.arg.toNat s
    have h2 := ih (f x.arg.toNat s).2
    split
    · split
      · exact h1
      · exact ⟨h2.1.trans h1.1, Nat.le_trans h2.2 h1.2⟩
    · exact ih s
theorem count_set_le (s : List Bool) (i : Nat) : (s.set i true).count false ≤ s.count false := by
  induction s generalizing i with
  | nil => simp
  | cons b s ih =>
    cases i with
    | zero => cases b <;> simp
    | succ i => have := ih i; cases b <;> simp_all
theorem count_set_lt (s : List Bool) (i : Nat) (h : i < s.length) (hb : s.getD i false = false) : (s.set i true).count false < s.count false := by
  induction s generalizing i with
  | nil => simp at h
  | cons b s ih =>
    cases i with
    | zero => simp at hb; subst hb; simp
    | succ i => have := ih i (by simpa using h) (by simpa using hb); cases b <;> simp_all
theorem reachF_mono (n : Nat) (p : Prg) (to : Nat) : ∀ fr s, (reachF n p to fr s).2.length = s.length ∧ (reachF n p to fr s).2.count false ≤ s.count false := by
  induction n with
  | zero => intro fr s; exact ⟨rfl, Nat.le_refl _⟩
  | succ n ih =>
    intro fr s
    unfold reachF
    split
    · exact ⟨rfl, Nat.le_refl _⟩
    · split
      · exact ⟨rfl, Nat.le_refl _⟩
      · have h := reachL_mono _ ih (p.fs.getD fr []) (s.set fr true)
        exact ⟨by rw [h.1]; simp, Nat.le_trans h.2 (count_set_le s fr)⟩
theorem drop_cons (l : List Node) (k : Nat) (h : k < l.length) : l.drop k = l.getD k zNode :: l.drop (k + 1) := by
  rw [List.drop_eq_getElem_cons h, List.getD_eq_getElem?_getD, List.getElem?_eq_getElem h]; rfl
theorem findIdx_ge (l : List Node) (P : Node → Bool) (i : Nat) (hi : i ≤ l.findIdx P) (hlt : i < l.length) (hP : P (l.getD i zNode) = false) : i + 1 ≤ l.findIdx P := by
  rcases Nat.lt_or_ge i (l.findIdx P) with h | h
  · exact h
  · have e : l.findIdx P = i := by omega
    have h2 : ∀ j (hj : j < l.length), l.findIdx P = j → P l[j] = true := by
      intro j hj ej
      subst ej
      exact List.findIdx_getElem
    rw [List.getD_eq_getElem?_getD, List.getElem?_eq_getElem hlt] at hP
    simp only [Option.getD_some] at hP
    rw [h2 i hlt e] at hP
    cases hP
theorem findIdx_eq (l : List Node) (P : Node → Bool) (i : Nat) (hi : i ≤ l.findIdx P) (hlt : i < l.length) (hP : P (l.getD i zNode) = true) : l.findIdx P = i := by
  rcases Nat.lt_or_ge i (l.findIdx P) with h | h
  · have := List.not_of_lt_findIdx h
    rw [List.getD_eq_getElem?_getD, List.getElem?_eq_getElem hlt] at hP
    simp only [Option.getD_some] at hP
    exact absurd (hP.symm.trans this) (by decide)
  · omega
theorem drop_cons' (l : List (List Node)) (k : Nat) (h : k < l.length) : l.drop k = l.getD k [] :: l.drop (k + 1) := by
  rw [List.drop_eq_getElem_cons h, List.getD_eq_getElem?_getD, List.getElem?_eq_getElem h]; rfl
theorem getD_mem {α : Type} {l : List α} {i : Nat} {z : α} (h : i < l.length) : l.getD i z ∈ l := by
  rw [List.getD_eq_getElem?_getD, List.getElem?_eq_getElem h]
  exact List.getElem_mem h
theorem mayL_nil (p : Prg) (f : Nat) : mayL p f [] = none := rfl
theorem mayL_cons (p : Prg) (f : Nat) (l : List Node) (r : List (List Node)) : mayL p f (l :: r) = (if l.length = 0 then (some ((f : Int), (-1 : Int), (1 : Int))) else if 64 < l.length then some ((f : Int), (-1 : Int), (4 : Int)) else
    if l.findIdx (fun n => !mayF p n l.length) < l.length then some ((f : Int), ((l.findIdx (fun n => !mayF p n l.length) : Nat) : Int), (3 : Int)) else mayL p (f + 1) r) := rfl
theorem roundL_nil (p : Prg) (f : Nat) : roundL p f [] = none := rfl
theorem roundL_cons (p : Prg) (f : Nat) (l : List Node) (r : List (List Node)) : roundL p f (l :: r) = if l.findIdx (badB p f) < l.length then some (f, l.findIdx (badB p f)) else roundL p (f + 1) r := rfl
theorem mayL_none (p : Prg) : ∀ (ls : List (List Node)) (f : Nat), mayL p f ls = none → ∀ l ∈ ls, l.length ≠ 0 ∧ l.length ≤ 64 ∧ ∀ n ∈ l, mayF p n l.length = true := by
  intro ls
  induction ls with
  | nil => intro f _ l hl; cases hl
  | cons l0 r ih =>
    intro f h l hl
    rw [mayL_cons] at h
    split at h
    · cases h
    · split at h
      · cases h
      · split at h
        · cases h
        · rename_i h0 h1 h2
          rcases List.mem_cons.1 hl with rfl | hl
          · refine ⟨h0, by omega, fun n hn => ?_⟩
            have h3 : l.findIdx (fun n => !mayF p n l.length) = l.length := by
              have := List.findIdx_le_length (p := fun n => !mayF p n l.length) (xs := l); omega
            have h4 := List.findIdx_eq_length.1 h3 n hn
            simpa using h4
          · exact ih _ h l hl
theorem mayL_some (p : Prg) : ∀ (ls : List (List Node)) (f : Nat) (r : Int × Int × Int), mayL p f ls = some r → r.2.2 = 1 ∨ r.2.2 = 3 ∨ r.2.2 = 4 := by
  intro ls
  induction ls with
  | nil => intro f r h; cases h
  | cons l0 rr ih =>
    intro f r h
    rw [mayL_cons] at h
    split at h
    · injection h with h; subst h; exact .inl rfl
    · split at h
      · injection h with h; subst h; exact .inr (.inr rfl)
      · split at h
        · injection h with h; subst h; exact .inr (.inl rfl)
        · exact ih _ _ h
/-- What a program is in which Check finds nothing. -/
structure Prg.Ok (p : Prg) : Prop where
  g0 : 0 ≤ p.g
  g1 : p.g ≤ 16
  l0 : 0 ≤ p.l
  l1 : p.l ≤ 16
  s0 : 0 ≤ p.s
  s1 : p.s ≤ 8
  n0 : 0 < p.fs.length
  n1 : p.fs.length ≤ 16
  may : mayL p 0 p.fs = none
  round : roundF p = none
theorem checkF_ok {p : Prg} (h : (checkF p).2.2 = 0) : p.Ok := by
  unfold checkF at h
  split at h
  · exact absurd h (by decide)
  · split at h
    · exact absurd h (by decide)
    · rename_i h1 h2
      split at h
      · rename_i r hr
        have := mayL_some p p.fs 0 r hr
        omega
      · rename_i hm
        split at h
        · exact absurd h (show ¬ (8 : Int) = 0 by decide)
        · rename_i hr
          exact ⟨by omega, by omega, by omega, by omega, by omega, by omega, by omega, by omega, hm, hr⟩
theorem may_call {p : Prg} {n : Node} {size : Int} (h : mayF p n size = true) (h7 : n.kind = 7) : 0 ≤ n.arg ∧ n.arg < p.fs.length := by
  unfold mayF fieldsF withinB at h
  rw [h7] at h
  simp at h
  omega
end Go.Proofs.Ytbkgnokoicmppaa
