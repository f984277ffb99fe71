/- prog.May. -/
import Derived.Test.YtbkgnokoicmppaaPg
namespace Go.Proofs.Ytbkgnokoicmppaa
open Go.RowKit
attribute [local go_sem] max2_i max_i2
set_option linter.unusedVariables false
set_option linter.unusedSimpArgs false

set_option maxHeartbeats 400000 in
set_option maxRecDepth 100000 in
theorem May_any (p : Prg) (A : Option Addr) (c : Nat) (n : Node) (size : Int) (w : World) (hl : p.fs.length ≤ 1000000) :
    Calls Try.prog 91 #[prgV p A c, nodeV n, .int .i64 size] w fun e w' => e = .returned (.bool (mayF p n size)) ∧ Below w.heap.size w w' := by
  have hF := fun W => fields_any p A c n.kind size W hl
  unfold mayF
  obtain ⟨⟨a, nx, al, ok⟩, hr⟩ : ∃ r, fieldsF p n.kind size = r := ⟨_, rfl⟩
  rw [hr] at hF ⊢
  clear hr
  have h1 := fun W => within_any n.arg (max a 1) W
  have h2 := fun W => within_any n.next (max nx 1) W
  have h3 := fun W => within_any n.alt (max al 1) W
  dsimp only at hF ⊢
  generalize withinB n.arg (max a 1) = b1 at h1 ⊢
  generalize withinB n.next (max nx 1) = b2 at h2 ⊢
  generalize withinB n.alt (max al 1) = b3 at h3 ⊢
  unfold prgV at *
  unfold nodeV at *
  have HF := Lib.hid hF
  have H1 := Lib.hid h1
  have H2 := Lib.hid h2
  have H3 := Lib.hid h3
  clear hF h1 h2 h3
  have tail : ∀ (W w1 : World), Below W.heap.size W w1 → Below w.heap.size w W → Below w.heap.size w w1 := fun W w1 h1 h2 => h2.trans (h1.mono h2.size)
  cases ok
  · go_enter Try.func91, Try.ntmps91
    go_wp2_with fail
    refine (HF.out _).mono ?_
    rintro e w1 ⟨rfl, hb⟩
    have hB := tail _ _ hb (bel2 _ _ _)
    clear hb
    go_wp2
    go_ret
    exact ⟨by simp, hB⟩
  cases b1
  · go_enter Try.func91, Try.ntmps91
    go_wp2_with fail
    refine (HF.out _).mono ?_
    rintro e w1 ⟨rfl, hb⟩
    have hB := tail _ _ hb (bel2 _ _ _)
    have hc := bcell hb
    have HB := Lib.hid hB
    clear hb hB tail
    go_wp2_with fail
    refine (H1.out _).mono ?_
    rintro e w2 ⟨rfl, rfl⟩
    go_wp2
    go_ret
    exact ⟨by simp, HB.out⟩
  cases b2
  · go_enter Try.func91, Try.ntmps91
    go_wp2_with fail
    refine (HF.out _).mono ?_
    rintro e w1 ⟨rfl, hb⟩
    have hB := tail _ _ hb (bel2 _ _ _)
    have hc := bcell hb
    have HB := Lib.hid hB
    clear hb hB tail
    go_wp2_with fail
    refine (H1.out _).mono ?_
    rintro e w2 ⟨rfl, rfl⟩
    go_wp2_with fail
    refine (H2.out _).mono ?_
    rintro e w2 ⟨rfl, rfl⟩
    go_wp2
    go_ret
    exact ⟨by simp, HB.out⟩
  · go_enter Try.func91, Try.ntmps91
    go_wp2_with fail
    refine (HF.out _).mono ?_
    rintro e w1 ⟨rfl, hb⟩
    have hB := tail _ _ hb (bel2 _ _ _)
    have hc := bcell hb
    have HB := Lib.hid hB
    clear hb hB tail
    go_wp2_with fail
    refine (H1.out _).mono ?_
    rintro e w2 ⟨rfl, rfl⟩
    go_wp2_with fail
    refine (H2.out _).mono ?_
    rintro e w2 ⟨rfl, rfl⟩
    go_wp2_with fail
    refine (H3.out _).mono ?_
    rintro e w2 ⟨rfl, rfl⟩
    go_wp2
    go_ret
    exact ⟨by simp, HB.out⟩
end Go.Proofs.Ytbkgnokoicmppaa
