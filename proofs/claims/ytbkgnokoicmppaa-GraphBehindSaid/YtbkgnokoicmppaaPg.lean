/- Package prog's walks: within, fields, May, reaches, round, Check. -/
import Derived.Test.YtbkgnokoicmppaaData
namespace Go.Proofs.Ytbkgnokoicmppaa
open Go.RowKit
set_option linter.unusedVariables false
set_option linter.unusedSimpArgs false

set_option maxHeartbeats 400000 in
set_option maxRecDepth 100000 in
theorem within_any (n size : Int) (w : World) : Calls Try.prog 119 #[.int .i64 n, .int .i64 size] w fun e w' => e = .returned (.bool (withinB n size)) ∧ w = w' := by
  unfold withinB
  by_cases h : 0 ≤ n
  · go_enter Try.func119, Try.ntmps119
    go_wp2
    go_ret
    exact ⟨by simp [h], rfl⟩
  · have h' : decide (0 ≤ n) = false := by simpa using h
    go_enter Try.func119, Try.ntmps119
    go_wp2
    go_ret
    exact ⟨by simp [h], rfl⟩

theorem ret4 {a b c : Int} {d : Bool} {a' b' c' : Int} {d' : Bool} (h : (a, b, c, d) = (a', b', c', d')) : Ending.returned (.tuple #[.int .i64 a, .int .i64 b, .int .i64 c, .bool d]) = .returned (.tuple #[.int .i64 a', .int .i64 b', .int .i64 c', .bool d']) := by
  injection h with h1 h; injection h with h2 h; injection h with h3 h4; subst h1 h2 h3 h4; rfl
set_option maxHeartbeats 4000000 in
set_option maxRecDepth 100000 in
theorem fields_any (p : Prg) (A : Option Addr) (c : Nat) (kind size : Int) (w : World) (hl : p.fs.length ≤ 1000000) :
    Calls Try.prog 118 #[prgV p A c, .int .i64 kind, .int .i64 size] w fun e w' => e = .returned (.tuple #[.int .i64 (fieldsF p kind size).1, .int .i64 (fieldsF p kind size).2.1, .int .i64 (fieldsF p kind size).2.2.1, .bool (fieldsF p kind size).2.2.2]) ∧ Below w.heap.size w w' := by
  obtain ⟨r, hr⟩ : ∃ r, r = fieldsF p kind size := ⟨_, rfl⟩
  have HR := Lib.hid hr
  rw [← hr]
  clear hr
  unfold prgV
  have hk : kind = 0 ∨ kind = 1 ∨ kind = 2 ∨ kind = 3 ∨ kind = 4 ∨ kind = 5 ∨ kind = 6 ∨ kind = 7 ∨ kind = 8 ∨ kind = 9 ∨ (kind ≠ 0 ∧ kind ≠ 1 ∧ kind ≠ 2 ∧ kind ≠ 3 ∧ kind ≠ 4 ∧ kind ≠ 5 ∧ kind ≠ 6 ∧ kind ≠ 7 ∧ kind ≠ 8 ∧ kind ≠ 9) := by omega
  have hs : decide (0 < p.s) = true ∨ decide (0 < p.s) = false := by cases decide (0 < p.s) <;> simp
  rcases hk with rfl | rfl | rfl | rfl | rfl | rfl | rfl | rfl | rfl | rfl | ⟨h0, h1, h2, h3, h4, h5, h6, h7, h8, h9⟩
  case inr.inr.inr.inr.inr.inl =>
    rcases hs with hs | hs
    all_goals
      go_enter Try.func118, Try.ntmps118
      go_wp2
      go_quiet (fail)
      go_wp2
      have hr := HR.out
      simp [fieldsF, hs] at hr
      subst hr
      refine bodyPost_ret (v := .tuple #[.int .i64 p.fs.length, .int .i64 size, .int .i64 p.s, .bool _]) (by simp [results, Try.results118, go_sem]; rfl) rfl ⟨by simp, by first | exact bel1 _ _ | exact bel1d _ _ _⟩
  all_goals
    clear hs
    go_enter Try.func118, Try.ntmps118
    go_wp2
    try (go_quiet (fail); go_wp2)
    have hr := HR.out
    simp [fieldsF, *] at hr
    subst hr
    refine bodyPost_ret (v := .tuple #[.int .i64 _, .int .i64 _, .int .i64 _, .bool _]) (by simp [results, Try.results118, go_sem]; exact ⟨rfl, rfl, rfl, rfl⟩) rfl ⟨by simp, by first | exact bel1 _ _ | exact bel1d _ _ _⟩

end Go.Proofs.Ytbkgnokoicmppaa
