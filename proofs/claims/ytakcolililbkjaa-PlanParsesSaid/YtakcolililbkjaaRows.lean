/-
  No cell of these rows narrows 'for every input' (looked for: loops, veiled, ifaces, maps, wideKeys, modest, calm, conditions, laid).
  DERIVED. THE GIVEN ROWS OF THIS SEAT. 3 by the template 'for every input the law returns true; each argument reads behind the call as it read before'; 0 by the template 'total and deterministic' (their statements: YtakcolililbkjaaTotals.lean).
  GIVEN WITH THE SEED: the statements are not yours to turn. If you find one false, say at which input.
  Laid BY PROGRAM, IN A SANDBOX (cutbox-rows.mjs): the forced cells as the released guide's own fill.sh prints them over the translation eff2110e98995333… (all of the seat's roots in one cut). By AI agents, Wed Nov 11 2026. No macro, syntax, notation, axiom, sorry.
-/
import Derived.Test.YtakcolililbkjaaChecked
import GoSem.Claim
import GoSem.ClaimJoined
import GoSem.ClaimMapViews
import Derived.JoinedTies
import Derived.KernelRfl
namespace Go.Proofs.Ytakcolililbkjaa
/- THE CELL 'sum', in the pinned program and in every row, IS THE sha256 OF THE DUMP (.gsa) THAT YtakcolililbkjaaProg.lean LOADS. Nothing in Lean hashes anything: it is a label: what it is worth is what the hold of that sum in a sandbox is worth. -/
noncomputable def Try.pinned : Pinned := { name := "ytakcolililbkjaa", sum := "eff2110e989953338d6d4fe1c29d081aedca820044c05b990135ae62dde76496", checked := Try.checked }
namespace Rows
def none {H : Type} : Left H := { results := [], args := [] }

/-- 'cuecardlaw17.PlanArms': WHATEVER THE INPUT: true; the input reads as it did. -/
def planArmsSpec : ChangeSpec := { name := "planArms", fn := fun _ => fun
  | [d1, d2] => { results := [.lit (.bool true)], args := [d1, d2] }
  | _ => none }
def planArmsRow : OpenClaim := { program := "ytakcolililbkjaa", sum := "eff2110e989953338d6d4fe1c29d081aedca820044c05b990135ae62dde76496", func := "cuecard/cuecardlaw17.PlanArms", spec := "planArms", inPlace := ["internal/bytealg.IndexByteString"], unfollowed := true, recurses := true, apart := false }
def PlanArmsSaid : Prop := planArmsRow.holds Try.pinned (OpenSpec.ofChange planArmsSpec)

/-- ITS FALSE NEIGHBOUR: 'it returns false'. Refute it at one input. -/
def planArmsWrong : ChangeSpec := { name := "planArms", fn := fun _ => fun
  | [d1, d2] => { results := [.lit (.bool false)], args := [d1, d2] }
  | _ => none }
def PlanArmsWrongFalsely : Prop := planArmsRow.holds Try.pinned (OpenSpec.ofChange planArmsWrong)

/-- 'cuecardlaw17.PlanParses': WHATEVER THE INPUT: true; the input reads as it did. -/
def planParsesSpec : ChangeSpec := { name := "planParses", fn := fun _ => fun
  | [d] => { results := [.lit (.bool true)], args := [d] }
  | _ => none }
def planParsesRow : OpenClaim := { program := "ytakcolililbkjaa", sum := "eff2110e989953338d6d4fe1c29d081aedca820044c05b990135ae62dde76496", func := "cuecard/cuecardlaw17.PlanParses", spec := "planParses", inPlace := ["internal/bytealg.IndexByteString"], unfollowed := true, recurses := true, apart := false }
def PlanParsesSaid : Prop := planParsesRow.holds Try.pinned (OpenSpec.ofChange planParsesSpec)

/-- ITS FALSE NEIGHBOUR: 'it returns false'. Refute it at one input. -/
def planParsesWrong : ChangeSpec := { name := "planParses", fn := fun _ => fun
  | [d] => { results := [.lit (.bool false)], args := [d] }
  | _ => none }
def PlanParsesWrongFalsely : Prop := planParsesRow.holds Try.pinned (OpenSpec.ofChange planParsesWrong)

/-- 'cuecardlaw17.PlanWrong': WHATEVER THE INPUT: true; the input reads as it did. -/
def planWrongSpec : ChangeSpec := { name := "planWrong", fn := fun _ => fun
  | [d] => { results := [.lit (.bool true)], args := [d] }
  | _ => none }
def planWrongRow : OpenClaim := { program := "ytakcolililbkjaa", sum := "eff2110e989953338d6d4fe1c29d081aedca820044c05b990135ae62dde76496", func := "cuecard/cuecardlaw17.PlanWrong", spec := "planWrong", inPlace := ["internal/bytealg.IndexByteString"], unfollowed := true, recurses := true, apart := false }
def PlanWrongSaid : Prop := planWrongRow.holds Try.pinned (OpenSpec.ofChange planWrongSpec)

/-- ITS FALSE NEIGHBOUR: 'it returns false'. Refute it at one input. -/
def planWrongWrong : ChangeSpec := { name := "planWrong", fn := fun _ => fun
  | [d] => { results := [.lit (.bool false)], args := [d] }
  | _ => none }
def PlanWrongWrongFalsely : Prop := planWrongRow.holds Try.pinned (OpenSpec.ofChange planWrongWrong)

/- THE SECOND FORM. 'bulk': how many values and letters a reading holds, each counted each time it is reached (what is shared counts as often as it is met; a slice's spare places count too). A statement '..UptoSaid' is the law's where the arguments, and the package variables that the reading takes, are together of bulk at most 1048576: NARROWER than '..Said'. Prove '..Said' where nothing that the law and all that it calls make is longer than what came in: it says more and counts as full. Else prove '..UptoSaid'. A law counts once. -/
mutual
def uptoBulk {H : Type} : DataW H → Nat
  | .lit (.string bytes) => bytes.length + 1
  | .lit _ => 1
  | .nil => 1
  | .ptr d => uptoBulk d + 1
  | .slice elems spare => uptoBulkAll elems + uptoBulkAll spare + 1
  | .agg parts => uptoBulkAll parts + 1
  | .iface _ d => uptoBulk d + 1
  | .map entries => uptoBulkEntries entries + 1
  | .held _ => 1
def uptoBulkAll {H : Type} : List (DataW H) → Nat
  | [] => 0
  | d :: r => uptoBulk d + uptoBulkAll r
def uptoBulkEntries {H : Type} : List (Lit × DataW H) → Nat
  | [] => 0
  | x :: r => uptoBulkEntry x + uptoBulkEntries r
def uptoBulkEntry {H : Type} : Lit × DataW H → Nat
  | (.string bytes, d) => bytes.length + uptoBulk d + 1
  | (_, d) => uptoBulk d + 1
 end
def uptoSmall : (H : Type) → List (DataW H) → Bool := fun _ ds => decide (uptoBulkAll ds ≤ 1048576)
def OpenSpec.upto (s : _root_.Go.ChangeSpec) : _root_.Go.OpenSpec := { _root_.Go.OpenSpec.ofChange s with cond := some uptoSmall }

/-- 'cuecardlaw17.PlanArms', WHERE WHAT IT READS IS OF BULK AT MOST 1048576: true; the input reads as it did. -/
def planArmsUptoRow : OpenClaim := { program := "ytakcolililbkjaa", sum := "eff2110e989953338d6d4fe1c29d081aedca820044c05b990135ae62dde76496", func := "cuecard/cuecardlaw17.PlanArms", spec := "planArms", inPlace := ["internal/bytealg.IndexByteString"], unfollowed := true, recurses := true, apart := false, narrowed := true }
def PlanArmsUptoSaid : Prop := planArmsUptoRow.holds Try.pinned (OpenSpec.upto planArmsSpec)

/-- 'cuecardlaw17.PlanParses', WHERE WHAT IT READS IS OF BULK AT MOST 1048576: true; the input reads as it did. -/
def planParsesUptoRow : OpenClaim := { program := "ytakcolililbkjaa", sum := "eff2110e989953338d6d4fe1c29d081aedca820044c05b990135ae62dde76496", func := "cuecard/cuecardlaw17.PlanParses", spec := "planParses", inPlace := ["internal/bytealg.IndexByteString"], unfollowed := true, recurses := true, apart := false, narrowed := true }
def PlanParsesUptoSaid : Prop := planParsesUptoRow.holds Try.pinned (OpenSpec.upto planParsesSpec)

/-- 'cuecardlaw17.PlanWrong', WHERE WHAT IT READS IS OF BULK AT MOST 1048576: true; the input reads as it did. -/
def planWrongUptoRow : OpenClaim := { program := "ytakcolililbkjaa", sum := "eff2110e989953338d6d4fe1c29d081aedca820044c05b990135ae62dde76496", func := "cuecard/cuecardlaw17.PlanWrong", spec := "planWrong", inPlace := ["internal/bytealg.IndexByteString"], unfollowed := true, recurses := true, apart := false, narrowed := true }
def PlanWrongUptoSaid : Prop := planWrongUptoRow.holds Try.pinned (OpenSpec.upto planWrongSpec)

end Rows
end Go.Proofs.Ytakcolililbkjaa
