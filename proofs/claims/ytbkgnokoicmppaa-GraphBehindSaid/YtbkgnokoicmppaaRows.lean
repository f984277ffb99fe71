/-
  No cell of these rows narrows 'for every input' (looked for: loops, veiled, ifaces, maps, wideKeys, modest, calm, conditions, laid).
  DERIVED. THE GIVEN ROWS OF THIS SEAT. 9 by the template 'for every input the law returns true; each argument reads behind the call as it read before'; 0 by the template 'total and deterministic' (their statements: YtbkgnokoicmppaaTotals.lean).
  GIVEN WITH THE SEED: the statements are not yours to turn. If you find one false, say at which input.
  Laid BY PROGRAM, IN A SANDBOX (cutbox-rows.mjs): the forced cells as the released guide's own fill.sh prints them over the translation 8f44c0fc9a201b66… (all of the seat's roots in one cut). By AI agents, Wed Nov 11 2026. No macro, syntax, notation, axiom, sorry.
-/
import Derived.Test.YtbkgnokoicmppaaChecked
import GoSem.Claim
import GoSem.ClaimJoined
import GoSem.ClaimMapViews
import Derived.JoinedTies
import Derived.KernelRfl
namespace Go.Proofs.Ytbkgnokoicmppaa
/- THE CELL 'sum', in the pinned program and in every row, IS THE sha256 OF THE DUMP (.gsa) THAT YtbkgnokoicmppaaProg.lean LOADS. Nothing in Lean hashes anything: it is a label: what it is worth is what the hold of that sum in a sandbox is worth. -/
noncomputable def Try.pinned : Pinned := { name := "ytbkgnokoicmppaa", sum := "8f44c0fc9a201b66e8263b53b089a4cb5635371675b4b714fca070517c7e6c1a", checked := Try.checked }
namespace Rows
def none {H : Type} : Left H := { results := [], args := [] }

/-- 'alibilaw06.GraphBehind': WHATEVER THE INPUT: true; the input reads as it did. -/
def graphBehindSpec : ChangeSpec := { name := "graphBehind", fn := fun _ => fun
  | [d1, d2] => { results := [.lit (.bool true)], args := [d1, d2] }
  | _ => none }
def graphBehindRow : OpenClaim := { program := "ytbkgnokoicmppaa", sum := "8f44c0fc9a201b66e8263b53b089a4cb5635371675b4b714fca070517c7e6c1a", func := "alibi/alibilaw06.GraphBehind", spec := "graphBehind", unfollowed := true, recurses := true, apart := false }
def GraphBehindSaid : Prop := graphBehindRow.holds Try.pinned (OpenSpec.ofChange graphBehindSpec)

/-- ITS FALSE NEIGHBOUR: 'it returns false'. Refute it at one input. -/
def graphBehindWrong : ChangeSpec := { name := "graphBehind", fn := fun _ => fun
  | [d1, d2] => { results := [.lit (.bool false)], args := [d1, d2] }
  | _ => none }
def GraphBehindWrongFalsely : Prop := graphBehindRow.holds Try.pinned (OpenSpec.ofChange graphBehindWrong)

/-- 'alibilaw14.KillKeeps': WHATEVER THE INPUT: true; the input reads as it did. -/
def killKeepsSpec : ChangeSpec := { name := "killKeeps", fn := fun _ => fun
  | [d1, d2] => { results := [.lit (.bool true)], args := [d1, d2] }
  | _ => none }
def killKeepsRow : OpenClaim := { program := "ytbkgnokoicmppaa", sum := "8f44c0fc9a201b66e8263b53b089a4cb5635371675b4b714fca070517c7e6c1a", func := "alibi/alibilaw14.KillKeeps", spec := "killKeeps", unfollowed := true, recurses := true, apart := false }
def KillKeepsSaid : Prop := killKeepsRow.holds Try.pinned (OpenSpec.ofChange killKeepsSpec)

/-- ITS FALSE NEIGHBOUR: 'it returns false'. Refute it at one input. -/
def killKeepsWrong : ChangeSpec := { name := "killKeeps", fn := fun _ => fun
  | [d1, d2] => { results := [.lit (.bool false)], args := [d1, d2] }
  | _ => none }
def KillKeepsWrongFalsely : Prop := killKeepsRow.holds Try.pinned (OpenSpec.ofChange killKeepsWrong)

/-- 'alibilaw14.KillTrue': WHATEVER THE INPUT: true; the input reads as it did. -/
def killTrueSpec : ChangeSpec := { name := "killTrue", fn := fun _ => fun
  | [d1, d2] => { results := [.lit (.bool true)], args := [d1, d2] }
  | _ => none }
def killTrueRow : OpenClaim := { program := "ytbkgnokoicmppaa", sum := "8f44c0fc9a201b66e8263b53b089a4cb5635371675b4b714fca070517c7e6c1a", func := "alibi/alibilaw14.KillTrue", spec := "killTrue", unfollowed := true, recurses := true, apart := false }
def KillTrueSaid : Prop := killTrueRow.holds Try.pinned (OpenSpec.ofChange killTrueSpec)

/-- ITS FALSE NEIGHBOUR: 'it returns false'. Refute it at one input. -/
def killTrueWrong : ChangeSpec := { name := "killTrue", fn := fun _ => fun
  | [d1, d2] => { results := [.lit (.bool false)], args := [d1, d2] }
  | _ => none }
def KillTrueWrongFalsely : Prop := killTrueRow.holds Try.pinned (OpenSpec.ofChange killTrueWrong)

/-- 'alibilaw22.HoldFinds': WHATEVER THE INPUT: true; the input reads as it did. -/
def holdFindsSpec : ChangeSpec := { name := "holdFinds", fn := fun _ => fun
  | [d] => { results := [.lit (.bool true)], args := [d] }
  | _ => none }
def holdFindsRow : OpenClaim := { program := "ytbkgnokoicmppaa", sum := "8f44c0fc9a201b66e8263b53b089a4cb5635371675b4b714fca070517c7e6c1a", func := "alibi/alibilaw22.HoldFinds", spec := "holdFinds", unfollowed := true, recurses := true, apart := false }
def HoldFindsSaid : Prop := holdFindsRow.holds Try.pinned (OpenSpec.ofChange holdFindsSpec)

/-- ITS FALSE NEIGHBOUR: 'it returns false'. Refute it at one input. -/
def holdFindsWrong : ChangeSpec := { name := "holdFinds", fn := fun _ => fun
  | [d] => { results := [.lit (.bool false)], args := [d] }
  | _ => none }
def HoldFindsWrongFalsely : Prop := holdFindsRow.holds Try.pinned (OpenSpec.ofChange holdFindsWrong)

/-- 'alibilaw23.LiveFinds': WHATEVER THE INPUT: true; the input reads as it did. -/
def liveFindsSpec : ChangeSpec := { name := "liveFinds", fn := fun _ => fun
  | [d] => { results := [.lit (.bool true)], args := [d] }
  | _ => none }
def liveFindsRow : OpenClaim := { program := "ytbkgnokoicmppaa", sum := "8f44c0fc9a201b66e8263b53b089a4cb5635371675b4b714fca070517c7e6c1a", func := "alibi/alibilaw23.LiveFinds", spec := "liveFinds", unfollowed := true, recurses := true, apart := false }
def LiveFindsSaid : Prop := liveFindsRow.holds Try.pinned (OpenSpec.ofChange liveFindsSpec)

/-- ITS FALSE NEIGHBOUR: 'it returns false'. Refute it at one input. -/
def liveFindsWrong : ChangeSpec := { name := "liveFinds", fn := fun _ => fun
  | [d] => { results := [.lit (.bool false)], args := [d] }
  | _ => none }
def LiveFindsWrongFalsely : Prop := liveFindsRow.holds Try.pinned (OpenSpec.ofChange liveFindsWrong)

/-- 'alibilaw16.MayLives': WHATEVER THE INPUT: true; the input reads as it did. -/
def mayLivesSpec : ChangeSpec := { name := "mayLives", fn := fun _ => fun
  | [d1, d2, d3] => { results := [.lit (.bool true)], args := [d1, d2, d3] }
  | _ => none }
def mayLivesRow : OpenClaim := { program := "ytbkgnokoicmppaa", sum := "8f44c0fc9a201b66e8263b53b089a4cb5635371675b4b714fca070517c7e6c1a", func := "alibi/alibilaw16.MayLives", spec := "mayLives", unfollowed := true, recurses := true, apart := false }
def MayLivesSaid : Prop := mayLivesRow.holds Try.pinned (OpenSpec.ofChange mayLivesSpec)

/-- ITS FALSE NEIGHBOUR: 'it returns false'. Refute it at one input. -/
def mayLivesWrong : ChangeSpec := { name := "mayLives", fn := fun _ => fun
  | [d1, d2, d3] => { results := [.lit (.bool false)], args := [d1, d2, d3] }
  | _ => none }
def MayLivesWrongFalsely : Prop := mayLivesRow.holds Try.pinned (OpenSpec.ofChange mayLivesWrong)

/-- 'alibilaw15.MustHolds': WHATEVER THE INPUT: true; the input reads as it did. -/
def mustHoldsSpec : ChangeSpec := { name := "mustHolds", fn := fun _ => fun
  | [d1, d2, d3] => { results := [.lit (.bool true)], args := [d1, d2, d3] }
  | _ => none }
def mustHoldsRow : OpenClaim := { program := "ytbkgnokoicmppaa", sum := "8f44c0fc9a201b66e8263b53b089a4cb5635371675b4b714fca070517c7e6c1a", func := "alibi/alibilaw15.MustHolds", spec := "mustHolds", unfollowed := true, recurses := true, apart := false }
def MustHoldsSaid : Prop := mustHoldsRow.holds Try.pinned (OpenSpec.ofChange mustHoldsSpec)

/-- ITS FALSE NEIGHBOUR: 'it returns false'. Refute it at one input. -/
def mustHoldsWrong : ChangeSpec := { name := "mustHolds", fn := fun _ => fun
  | [d1, d2, d3] => { results := [.lit (.bool false)], args := [d1, d2, d3] }
  | _ => none }
def MustHoldsWrongFalsely : Prop := mustHoldsRow.holds Try.pinned (OpenSpec.ofChange mustHoldsWrong)

/-- 'alibilaw23.LiveTrue': WHATEVER THE INPUT: true; the input reads as it did. -/
def liveTrueSpec : ChangeSpec := { name := "liveTrue", fn := fun _ => fun
  | [d1, d2] => { results := [.lit (.bool true)], args := [d1, d2] }
  | _ => none }
def liveTrueRow : OpenClaim := { program := "ytbkgnokoicmppaa", sum := "8f44c0fc9a201b66e8263b53b089a4cb5635371675b4b714fca070517c7e6c1a", func := "alibi/alibilaw23.LiveTrue", spec := "liveTrue", unfollowed := true, recurses := true, apart := false }
def LiveTrueSaid : Prop := liveTrueRow.holds Try.pinned (OpenSpec.ofChange liveTrueSpec)

/-- ITS FALSE NEIGHBOUR: 'it returns false'. Refute it at one input. -/
def liveTrueWrong : ChangeSpec := { name := "liveTrue", fn := fun _ => fun
  | [d1, d2] => { results := [.lit (.bool false)], args := [d1, d2] }
  | _ => none }
def LiveTrueWrongFalsely : Prop := liveTrueRow.holds Try.pinned (OpenSpec.ofChange liveTrueWrong)

/-- 'alibilaw22.HoldTrue': WHATEVER THE INPUT: true; the input reads as it did. -/
def holdTrueSpec : ChangeSpec := { name := "holdTrue", fn := fun _ => fun
  | [d1, d2] => { results := [.lit (.bool true)], args := [d1, d2] }
  | _ => none }
def holdTrueRow : OpenClaim := { program := "ytbkgnokoicmppaa", sum := "8f44c0fc9a201b66e8263b53b089a4cb5635371675b4b714fca070517c7e6c1a", func := "alibi/alibilaw22.HoldTrue", spec := "holdTrue", unfollowed := true, recurses := true, apart := false }
def HoldTrueSaid : Prop := holdTrueRow.holds Try.pinned (OpenSpec.ofChange holdTrueSpec)

/-- ITS FALSE NEIGHBOUR: 'it returns false'. Refute it at one input. -/
def holdTrueWrong : ChangeSpec := { name := "holdTrue", fn := fun _ => fun
  | [d1, d2] => { results := [.lit (.bool false)], args := [d1, d2] }
  | _ => none }
def HoldTrueWrongFalsely : Prop := holdTrueRow.holds Try.pinned (OpenSpec.ofChange holdTrueWrong)

/- THE SECOND FORM. 'bulk': how many values and letters a reading holds, each counted each time it is reached (what is shared counts as often as it is met; a slice's spare places count too). A statement '..UptoSaid' is the law's where the arguments, and the package variables that the reading takes, are together of bulk at most 1048576: NARROWER than '..Said'. Prove '..Said' where nothing that the law and all that it calls make is longer than what came in: it says more and counts as full. Else prove '..UptoSaid'. A law counts once. -/
mutual
def uptoBulk {H : Type} : DataW H → Nat
  | .lit (.string bytes) => bytes.length + 1
  | .lit _ => 1
  | .nil => 1
  | .ptr d => uptoBulk d + 1
  | .slice elems spare => uptoBulkAll elems + uptoBulkAll spare + 1
  | .agg parts => uptoBulkAll parts + 1
  | .iface _ d => uptoBulk d + 1
  | .map entries => uptoBulkEntries entries + 1
  | .held _ => 1
def uptoBulkAll {H : Type} : List (DataW H) → Nat
  | [] => 0
  | d :: r => uptoBulk d + uptoBulkAll r
def uptoBulkEntries {H : Type} : List (Lit × DataW H) → Nat
  | [] => 0
  | x :: r => uptoBulkEntry x + uptoBulkEntries r
def uptoBulkEntry {H : Type} : Lit × DataW H → Nat
  | (.string bytes, d) => bytes.length + uptoBulk d + 1
  | (_, d) => uptoBulk d + 1
 end
def uptoSmall : (H : Type) → List (DataW H) → Bool := fun _ ds => decide (uptoBulkAll ds ≤ 1048576)
def OpenSpec.upto (s : _root_.Go.ChangeSpec) : _root_.Go.OpenSpec := { _root_.Go.OpenSpec.ofChange s with cond := some uptoSmall }

/-- 'alibilaw06.GraphBehind', WHERE WHAT IT READS IS OF BULK AT MOST 1048576: true; the input reads as it did. -/
def graphBehindUptoRow : OpenClaim := { program := "ytbkgnokoicmppaa", sum := "8f44c0fc9a201b66e8263b53b089a4cb5635371675b4b714fca070517c7e6c1a", func := "alibi/alibilaw06.GraphBehind", spec := "graphBehind", unfollowed := true, recurses := true, apart := false, narrowed := true }
def GraphBehindUptoSaid : Prop := graphBehindUptoRow.holds Try.pinned (OpenSpec.upto graphBehindSpec)

/-- 'alibilaw14.KillKeeps', WHERE WHAT IT READS IS OF BULK AT MOST 1048576: true; the input reads as it did. -/
def killKeepsUptoRow : OpenClaim := { program := "ytbkgnokoicmppaa", sum := "8f44c0fc9a201b66e8263b53b089a4cb5635371675b4b714fca070517c7e6c1a", func := "alibi/alibilaw14.KillKeeps", spec := "killKeeps", unfollowed := true, recurses := true, apart := false, narrowed := true }
def KillKeepsUptoSaid : Prop := killKeepsUptoRow.holds Try.pinned (OpenSpec.upto killKeepsSpec)

/-- 'alibilaw14.KillTrue', WHERE WHAT IT READS IS OF BULK AT MOST 1048576: true; the input reads as it did. -/
def killTrueUptoRow : OpenClaim := { program := "ytbkgnokoicmppaa", sum := "8f44c0fc9a201b66e8263b53b089a4cb5635371675b4b714fca070517c7e6c1a", func := "alibi/alibilaw14.KillTrue", spec := "killTrue", unfollowed := true, recurses := true, apart := false, narrowed := true }
def KillTrueUptoSaid : Prop := killTrueUptoRow.holds Try.pinned (OpenSpec.upto killTrueSpec)

/-- 'alibilaw22.HoldFinds', WHERE WHAT IT READS IS OF BULK AT MOST 1048576: true; the input reads as it did. -/
def holdFindsUptoRow : OpenClaim := { program := "ytbkgnokoicmppaa", sum := "8f44c0fc9a201b66e8263b53b089a4cb5635371675b4b714fca070517c7e6c1a", func := "alibi/alibilaw22.HoldFinds", spec := "holdFinds", unfollowed := true, recurses := true, apart := false, narrowed := true }
def HoldFindsUptoSaid : Prop := holdFindsUptoRow.holds Try.pinned (OpenSpec.upto holdFindsSpec)

/-- 'alibilaw23.LiveFinds', WHERE WHAT IT READS IS OF BULK AT MOST 1048576: true; the input reads as it did. -/
def liveFindsUptoRow : OpenClaim := { program := "ytbkgnokoicmppaa", sum := "8f44c0fc9a201b66e8263b53b089a4cb5635371675b4b714fca070517c7e6c1a", func := "alibi/alibilaw23.LiveFinds", spec := "liveFinds", unfollowed := true, recurses := true, apart := false, narrowed := true }
def LiveFindsUptoSaid : Prop := liveFindsUptoRow.holds Try.pinned (OpenSpec.upto liveFindsSpec)

/-- 'alibilaw16.MayLives', WHERE WHAT IT READS IS OF BULK AT MOST 1048576: true; the input reads as it did. -/
def mayLivesUptoRow : OpenClaim := { program := "ytbkgnokoicmppaa", sum := "8f44c0fc9a201b66e8263b53b089a4cb5635371675b4b714fca070517c7e6c1a", func := "alibi/alibilaw16.MayLives", spec := "mayLives", unfollowed := true, recurses := true, apart := false, narrowed := true }
def MayLivesUptoSaid : Prop := mayLivesUptoRow.holds Try.pinned (OpenSpec.upto mayLivesSpec)

/-- 'alibilaw15.MustHolds', WHERE WHAT IT READS IS OF BULK AT MOST 1048576: true; the input reads as it did. -/
def mustHoldsUptoRow : OpenClaim := { program := "ytbkgnokoicmppaa", sum := "8f44c0fc9a201b66e8263b53b089a4cb5635371675b4b714fca070517c7e6c1a", func := "alibi/alibilaw15.MustHolds", spec := "mustHolds", unfollowed := true, recurses := true, apart := false, narrowed := true }
def MustHoldsUptoSaid : Prop := mustHoldsUptoRow.holds Try.pinned (OpenSpec.upto mustHoldsSpec)

/-- 'alibilaw23.LiveTrue', WHERE WHAT IT READS IS OF BULK AT MOST 1048576: true; the input reads as it did. -/
def liveTrueUptoRow : OpenClaim := { program := "ytbkgnokoicmppaa", sum := "8f44c0fc9a201b66e8263b53b089a4cb5635371675b4b714fca070517c7e6c1a", func := "alibi/alibilaw23.LiveTrue", spec := "liveTrue", unfollowed := true, recurses := true, apart := false, narrowed := true }
def LiveTrueUptoSaid : Prop := liveTrueUptoRow.holds Try.pinned (OpenSpec.upto liveTrueSpec)

/-- 'alibilaw22.HoldTrue', WHERE WHAT IT READS IS OF BULK AT MOST 1048576: true; the input reads as it did. -/
def holdTrueUptoRow : OpenClaim := { program := "ytbkgnokoicmppaa", sum := "8f44c0fc9a201b66e8263b53b089a4cb5635371675b4b714fca070517c7e6c1a", func := "alibi/alibilaw22.HoldTrue", spec := "holdTrue", unfollowed := true, recurses := true, apart := false, narrowed := true }
def HoldTrueUptoSaid : Prop := holdTrueUptoRow.holds Try.pinned (OpenSpec.upto holdTrueSpec)

end Rows
end Go.Proofs.Ytbkgnokoicmppaa
