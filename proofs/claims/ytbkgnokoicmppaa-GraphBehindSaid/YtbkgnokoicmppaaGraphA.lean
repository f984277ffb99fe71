/- Package graph: named, Callees; prog.Succ. -/
import Derived.Test.YtbkgnokoicmppaaSets
namespace Go.Proofs.Ytbkgnokoicmppaa
open Go.RowKit
set_option linter.unusedVariables false
set_option linter.unusedSimpArgs false

def u32s (xs : List Nat) : List Value := xs.map fun (m : Nat) => Value.int .u32 (m : Int)
theorem u32s_length (xs : List Nat) : (u32s xs).length = xs.length := by simp [u32s]
theorem u32s_append (xs ys : List Nat) : u32s (xs ++ ys) = u32s xs ++ u32s ys := by simp [u32s]
theorem u32s_get (xs : List Nat) (i : Nat) (h : i < xs.length) : (u32s xs)[i]? = some (.int .u32 ((xs.getD i 0 : Nat) : Int)) := by
  simp [u32s, List.getElem?_map, List.getElem?_eq_getElem h, List.getD_eq_getElem?_getD]
theorem info_u32 : (Try.prog.info? 51).map (fun i => (i.zero, i.size, i.bytes)) = some (some (.int .u32 0), 1, 4) := by kernel_rfl

/-- Which functions the nodes of a kind name, beside m. -/
def namedL (kind : Int) : List Node → Nat → Nat
  | [], m => m
  | x :: l, m => namedL kind l (if x.kind = kind then m ||| oneF x.arg else m)
def namedF (l : List Node) (kind : Int) : Nat := namedL kind l 0
theorem or_lt (a b : Nat) (ha : a < 4294967296) (hb : b < 4294967296) : a ||| b < 4294967296 := Nat.or_lt_two_pow (n := 32) ha hb
theorem namedL_lt (kind : Int) : ∀ (l : List Node) (m : Nat), m < 4294967296 → namedL kind l m < 4294967296 := by
  intro l
  induction l with
  | nil => intro m h; exact h
  | cons x l ih =>
    intro m h
    unfold namedL
    apply ih
    split
    · exact or_lt _ _ h (oneF_lt _)
    · exact h
theorem namedF_lt (l : List Node) (kind : Int) : namedF l kind < 4294967296 := namedL_lt kind l 0 (by omega)

set_option maxHeartbeats 1000000 in
set_option maxRecDepth 100000 in
theorem named_any (l : List Node) (A : Option Addr) (c : Nat) (kind : Int) (w : World) (hl : l.length ≤ 1000000) (hN : NodesAt w A l) :
    Calls Try.prog 93 #[.slice A l.length c, .int .i64 kind] w fun e w' => e = .returned (.int .u32 (namedF l kind : Nat)) ∧ Below w.heap.size w w' := by
  obtain ⟨R, hR⟩ : ∃ R, namedF l kind = R := ⟨_, rfl⟩
  rw [hR]
  unfold namedF at hR
  have HR := Lib.hid hR
  have HN := Lib.hid hN
  clear hR hN
  go_enter Try.func93, Try.ntmps93
  go_wp2
  go_loopw [5, 10] (fun s x wr => ∃ (k m : Nat), x = .int .i64 k ∧ s = .int .u32 (m : Int) ∧ k ≤ l.length ∧ m < 4294967296 ∧ Hid (namedL kind (l.drop k) m = R) ∧ Hid (Below w.heap.size w wr)) (fun _ x _ => l.length - (intOf x).toNat)
  case atStart => exact ⟨0, 0, rfl, rfl, Nat.zero_le _, by omega, HR.out, Below.refl _ _⟩
  case round =>
    obtain ⟨k, m, rfl, rfl, hk, hm, HR, HB⟩ := hrel
    by_cases hkl : k < l.length
    · obtain ⟨b', o', rfl, k0, k1, k2, k3⟩ := NodesAt.at (Rd.below HN.out HB.out) k hkl
      obtain ⟨x, hx⟩ : ∃ x, l.getD k zNode = x := ⟨_, rfl⟩
      rw [hx] at k0 k1 k2 k3
      have hR := HR.out
      rw [drop_cons l k hkl, hx] at hR
      unfold namedL at hR
      by_cases h7 : x.kind = kind
      · rw [if_pos h7] at hR
        have h7b : (x.kind == kind) = true := by rw [beq_iff_eq]; exact h7
        have hone := oneF_lt x.arg
        have hor := u32_or_nat m (oneF x.arg) hm hone
        have hlt := or_lt _ _ hm hone
        have Ho := Lib.hid (fun W => One_any x.arg W)
        have HR2 := Lib.hid hR
        have Hlt := Lib.hid hlt
        clear hR hx h7 hlt
        go_wp2_with fail
        refine (Ho.out _).mono ?_
        rintro e w2 ⟨rfl, rfl⟩
        go_wp2
        go_roundw
        case rel => exact ⟨k + 1, m ||| oneF x.arg, by go_num, rfl, by omega, Hlt.out, HR2.out, HB.out.alloc HB.out.size _⟩
        case measure => simp [intOf]; omega
      · rw [if_neg h7] at hR
        have h7b : (x.kind == kind) = false := by rw [beq_eq_false_iff_ne]; exact h7
        have HR2 := Lib.hid hR
        clear hR hx h7
        go_wp2
        go_roundw
        case rel => exact ⟨k + 1, m, by go_num, rfl, by omega, hm, HR2.out, HB.out.alloc HB.out.size _⟩
        case measure => simp [intOf]; omega
    · have hke : k = l.length := by omega
      have hR := HR.out
      rw [hke, List.drop_length] at hR
      unfold namedL at hR
      have HR2 := Lib.hid hR
      clear hR
      go_wp2
      go_ret
      rw [← HR2.out]
      exact ⟨rfl, HB.out⟩

def calleesF (p : Prg) : List Nat := p.fs.map fun l => namedF l 7
theorem calleesF_length (p : Prg) : (calleesF p).length = p.fs.length := by simp [calleesF]
theorem take_calls (p : Prg) (k : Nat) (h : k < p.fs.length) : (calleesF p).take (k + 1) = (calleesF p).take k ++ [namedF (p.fs.getD k []) 7] := by
  rw [List.take_succ_eq_append_getElem (by rw [calleesF_length]; exact h)]
  simp [calleesF, List.getD_eq_getElem?_getD, List.getElem?_eq_getElem h]
set_option maxHeartbeats 2000000 in
set_option maxRecDepth 100000 in
theorem Callees_any (p : Prg) (A : Option Addr) (c : Nat) (w : World) (hsz : p.sz) (hp : FuncsAt w A p.fs) :
    Calls Try.prog 43 #[prgV p A c] w fun e w' => ∃ v, e = .returned v ∧ w'.ownsRow w.heap.size 51 1 v p.fs.length (u32s (calleesF p)) ∧ Below w.heap.size w w' := by
  have hsz1 := hsz.1
  have Hsz := Lib.hid hsz
  have Hp := Lib.hid hp
  clear hsz hp
  unfold prgV
  go_enter Try.func43, Try.ntmps43
  go_wp2
  go_loopw [3, 9] (fun v x wr => ∃ (k : Nat), x = .int .i64 k ∧ k ≤ p.fs.length ∧ Hid (wr.ownsRow w.heap.size 51 1 v k (u32s ((calleesF p).take k))) ∧ Hid (Below w.heap.size w wr)) (fun _ x _ => p.fs.length - (intOf x).toNat)
  case atStart => exact ⟨0, rfl, Nat.zero_le _, (World.ownsRow_nil _ _ _ _ : World.ownsRow _ _ _ _ _ 0 []), bel1 _ _⟩
  case round =>
    obtain ⟨k, rfl, hk, HO, HB⟩ := hrel
    by_cases hkl : k < p.fs.length
    · obtain ⟨b, o, A', c', rfl, hc, _, hN⟩ := FuncsAt.at (Hp.out.below HB.out) k hkl
      obtain ⟨l, hl⟩ : ∃ l, p.fs.getD k [] = l := ⟨_, rfl⟩
      have hll : l.length ≤ 1000000 := hl ▸ Hsz.out.at k
      rw [hl] at hc hN
      have Hn := Lib.hid (named_any l A' c' 7 _ hll hN)
      have Hl := Lib.hid hl
      clear hN hl
      go_wp2_with fail
      refine (Hn.out).mono ?_
      rintro e w1 ⟨rfl, hb⟩
      have ho1 := own_chg HO.out (Chg.of_below hb (fun _ => False)) (fun _ _ h => h)
      have hB1 := HB.out.trans (hb.mono HB.out.size)
      obtain ⟨g, cap, w2, hr, h2, h3, h4, h5, h6⟩ := app_run (ty := 43) Try.underlying43 info_u32 rfl (by decide) (by decide) w1 (w1.alloc (.cells #[.int .u32 (namedF l 7 : Nat)] 51)) rfl rfl rfl rfl ho1 (news := [.int .u32 (namedF l 7 : Nat)]) rfl (by intro u hu; simp at hu; subst hu; rfl) (by omega) hB1.size
      have hB2 : Below w.heap.size w w2 := h3.below hB1 hB1.size (fun k hk => (own_lt' ho1 k hk).1)
      have Hr := Lib.hid hr
      have H2 := Lib.hid h2
      have HB2 := Lib.hid hB2
      clear hb ho1 hB1 hr h2 h3 h4 hB2 hc
      go_wp2_with (at_builtin; refine list_app rfl (.tmp 13) (.tmp 16) 43 rfl rfl rfl Hr.out ?_)
      go_roundw
      case rel => exact ⟨k + 1, by go_num, by omega, (by rw [take_calls p k hkl, u32s_append, Hl.out]; exact H2.out : World.ownsRow _ _ _ _ _ _ _), HB2.out⟩
      case measure => simp [intOf]; omega
    · have hke : k = p.fs.length := by omega
      subst hke
      go_wp2
      go_ret
      refine ⟨_, rfl, ?_, HB.out⟩
      have := HO.out
      rw [List.take_of_length_le (by rw [calleesF_length]; omega)] at this
      exact this
end Go.Proofs.Ytbkgnokoicmppaa
