/-
  No cell of these rows narrows 'for every input' (looked for: loops, veiled, ifaces, maps, wideKeys, modest, calm, conditions, laid).
  DERIVED. THE GIVEN ROWS OF THIS SEAT. 6 by the template 'for every input the law returns true; each argument reads behind the call as it read before'; 0 by the template 'total and deterministic' (their statements: YtojgdmpnbgikeaaTotals.lean).
  GIVEN WITH THE SEED: the statements are not yours to turn. If you find one false, say at which input.
  Laid BY PROGRAM, IN A SANDBOX (cutbox-rows.mjs): the forced cells as the released guide's own fill.sh prints them over the translation 47ed57bdf89fd777… (all of the seat's roots in one cut). By AI agents, Wed Nov 11 2026. No macro, syntax, notation, axiom, sorry.
-/
import Derived.Test.YtojgdmpnbgikeaaChecked
import GoSem.Claim
import GoSem.ClaimJoined
import GoSem.ClaimMapViews
import Derived.JoinedTies
import Derived.KernelRfl
namespace Go.Proofs.Ytojgdmpnbgikeaa
/- THE CELL 'sum', in the pinned program and in every row, IS THE sha256 OF THE DUMP (.gsa) THAT YtojgdmpnbgikeaaProg.lean LOADS. Nothing in Lean hashes anything: it is a label: what it is worth is what the hold of that sum in a sandbox is worth. -/
noncomputable def Try.pinned : Pinned := { name := "ytojgdmpnbgikeaa", sum := "47ed57bdf89fd777ca1ed8542dc939795d83fa061a6b0b23a379d0f9a0398396", checked := Try.checked }
namespace Rows
def none {H : Type} : Left H := { results := [], args := [] }

/-- 'cuecardlaw15.MatchFeeds': WHATEVER THE INPUT: true; the input reads as it did. -/
def matchFeedsSpec : ChangeSpec := { name := "matchFeeds", fn := fun _ => fun
  | [d1, d2, d3] => { results := [.lit (.bool true)], args := [d1, d2, d3] }
  | _ => none }
def matchFeedsRow : OpenClaim := { program := "ytojgdmpnbgikeaa", sum := "47ed57bdf89fd777ca1ed8542dc939795d83fa061a6b0b23a379d0f9a0398396", func := "cuecard/cuecardlaw15.MatchFeeds", spec := "matchFeeds", inPlace := ["internal/bytealg.IndexByteString"], unfollowed := true, recurses := true, apart := false }
def MatchFeedsSaid : Prop := matchFeedsRow.holds Try.pinned (OpenSpec.ofChange matchFeedsSpec)

/-- ITS FALSE NEIGHBOUR: 'it returns false'. Refute it at one input. -/
def matchFeedsWrong : ChangeSpec := { name := "matchFeeds", fn := fun _ => fun
  | [d1, d2, d3] => { results := [.lit (.bool false)], args := [d1, d2, d3] }
  | _ => none }
def MatchFeedsWrongFalsely : Prop := matchFeedsRow.holds Try.pinned (OpenSpec.ofChange matchFeedsWrong)

/-- 'cuecardlaw15.MatchFirst': WHATEVER THE INPUT: true; the input reads as it did. -/
def matchFirstSpec : ChangeSpec := { name := "matchFirst", fn := fun _ => fun
  | [d1, d2, d3] => { results := [.lit (.bool true)], args := [d1, d2, d3] }
  | _ => none }
def matchFirstRow : OpenClaim := { program := "ytojgdmpnbgikeaa", sum := "47ed57bdf89fd777ca1ed8542dc939795d83fa061a6b0b23a379d0f9a0398396", func := "cuecard/cuecardlaw15.MatchFirst", spec := "matchFirst", inPlace := ["internal/bytealg.IndexByteString"], unfollowed := true, recurses := true, apart := false }
def MatchFirstSaid : Prop := matchFirstRow.holds Try.pinned (OpenSpec.ofChange matchFirstSpec)

/-- ITS FALSE NEIGHBOUR: 'it returns false'. Refute it at one input. -/
def matchFirstWrong : ChangeSpec := { name := "matchFirst", fn := fun _ => fun
  | [d1, d2, d3] => { results := [.lit (.bool false)], args := [d1, d2, d3] }
  | _ => none }
def MatchFirstWrongFalsely : Prop := matchFirstRow.holds Try.pinned (OpenSpec.ofChange matchFirstWrong)

/-- 'cuecardlaw15.MatchExact': WHATEVER THE INPUT: true; the input reads as it did. -/
def matchExactSpec : ChangeSpec := { name := "matchExact", fn := fun _ => fun
  | [d1, d2, d3] => { results := [.lit (.bool true)], args := [d1, d2, d3] }
  | _ => none }
def matchExactRow : OpenClaim := { program := "ytojgdmpnbgikeaa", sum := "47ed57bdf89fd777ca1ed8542dc939795d83fa061a6b0b23a379d0f9a0398396", func := "cuecard/cuecardlaw15.MatchExact", spec := "matchExact", inPlace := ["internal/bytealg.IndexByteString"], unfollowed := true, recurses := true, apart := false }
def MatchExactSaid : Prop := matchExactRow.holds Try.pinned (OpenSpec.ofChange matchExactSpec)

/-- ITS FALSE NEIGHBOUR: 'it returns false'. Refute it at one input. -/
def matchExactWrong : ChangeSpec := { name := "matchExact", fn := fun _ => fun
  | [d1, d2, d3] => { results := [.lit (.bool false)], args := [d1, d2, d3] }
  | _ => none }
def MatchExactWrongFalsely : Prop := matchExactRow.holds Try.pinned (OpenSpec.ofChange matchExactWrong)

/-- 'cuecardlaw15.MatchMore': WHATEVER THE INPUT: true; the input reads as it did. -/
def matchMoreSpec : ChangeSpec := { name := "matchMore", fn := fun _ => fun
  | [d1, d2, d3] => { results := [.lit (.bool true)], args := [d1, d2, d3] }
  | _ => none }
def matchMoreRow : OpenClaim := { program := "ytojgdmpnbgikeaa", sum := "47ed57bdf89fd777ca1ed8542dc939795d83fa061a6b0b23a379d0f9a0398396", func := "cuecard/cuecardlaw15.MatchMore", spec := "matchMore", inPlace := ["internal/bytealg.IndexByteString"], unfollowed := true, recurses := true, apart := false }
def MatchMoreSaid : Prop := matchMoreRow.holds Try.pinned (OpenSpec.ofChange matchMoreSpec)

/-- ITS FALSE NEIGHBOUR: 'it returns false'. Refute it at one input. -/
def matchMoreWrong : ChangeSpec := { name := "matchMore", fn := fun _ => fun
  | [d1, d2, d3] => { results := [.lit (.bool false)], args := [d1, d2, d3] }
  | _ => none }
def MatchMoreWrongFalsely : Prop := matchMoreRow.holds Try.pinned (OpenSpec.ofChange matchMoreWrong)

/-- 'cuecardlaw15.MatchSpan': WHATEVER THE INPUT: true; the input reads as it did. -/
def matchSpanSpec : ChangeSpec := { name := "matchSpan", fn := fun _ => fun
  | [d1, d2, d3] => { results := [.lit (.bool true)], args := [d1, d2, d3] }
  | _ => none }
def matchSpanRow : OpenClaim := { program := "ytojgdmpnbgikeaa", sum := "47ed57bdf89fd777ca1ed8542dc939795d83fa061a6b0b23a379d0f9a0398396", func := "cuecard/cuecardlaw15.MatchSpan", spec := "matchSpan", inPlace := ["internal/bytealg.IndexByteString"], unfollowed := true, recurses := true, apart := false }
def MatchSpanSaid : Prop := matchSpanRow.holds Try.pinned (OpenSpec.ofChange matchSpanSpec)

/-- ITS FALSE NEIGHBOUR: 'it returns false'. Refute it at one input. -/
def matchSpanWrong : ChangeSpec := { name := "matchSpan", fn := fun _ => fun
  | [d1, d2, d3] => { results := [.lit (.bool false)], args := [d1, d2, d3] }
  | _ => none }
def MatchSpanWrongFalsely : Prop := matchSpanRow.holds Try.pinned (OpenSpec.ofChange matchSpanWrong)

/-- 'cuecardlaw15.MatchBehind': WHATEVER THE INPUT: true; the input reads as it did. -/
def matchBehindSpec : ChangeSpec := { name := "matchBehind", fn := fun _ => fun
  | [d1, d2, d3] => { results := [.lit (.bool true)], args := [d1, d2, d3] }
  | _ => none }
def matchBehindRow : OpenClaim := { program := "ytojgdmpnbgikeaa", sum := "47ed57bdf89fd777ca1ed8542dc939795d83fa061a6b0b23a379d0f9a0398396", func := "cuecard/cuecardlaw15.MatchBehind", spec := "matchBehind", inPlace := ["internal/bytealg.IndexByteString"], unfollowed := true, recurses := true, apart := false }
def MatchBehindSaid : Prop := matchBehindRow.holds Try.pinned (OpenSpec.ofChange matchBehindSpec)

/-- ITS FALSE NEIGHBOUR: 'it returns false'. Refute it at one input. -/
def matchBehindWrong : ChangeSpec := { name := "matchBehind", fn := fun _ => fun
  | [d1, d2, d3] => { results := [.lit (.bool false)], args := [d1, d2, d3] }
  | _ => none }
def MatchBehindWrongFalsely : Prop := matchBehindRow.holds Try.pinned (OpenSpec.ofChange matchBehindWrong)

/- THE SECOND FORM. 'bulk': how many values and letters a reading holds, each counted each time it is reached (what is shared counts as often as it is met; a slice's spare places count too). A statement '..UptoSaid' is the law's where the arguments, and the package variables that the reading takes, are together of bulk at most 1048576: NARROWER than '..Said'. Prove '..Said' where nothing that the law and all that it calls make is longer than what came in: it says more and counts as full. Else prove '..UptoSaid'. A law counts once. -/
mutual
def uptoBulk {H : Type} : DataW H → Nat
  | .lit (.string bytes) => bytes.length + 1
  | .lit _ => 1
  | .nil => 1
  | .ptr d => uptoBulk d + 1
  | .slice elems spare => uptoBulkAll elems + uptoBulkAll spare + 1
  | .agg parts => uptoBulkAll parts + 1
  | .iface _ d => uptoBulk d + 1
  | .map entries => uptoBulkEntries entries + 1
  | .held _ => 1
def uptoBulkAll {H : Type} : List (DataW H) → Nat
  | [] => 0
  | d :: r => uptoBulk d + uptoBulkAll r
def uptoBulkEntries {H : Type} : List (Lit × DataW H) → Nat
  | [] => 0
  | x :: r => uptoBulkEntry x + uptoBulkEntries r
def uptoBulkEntry {H : Type} : Lit × DataW H → Nat
  | (.string bytes, d) => bytes.length + uptoBulk d + 1
  | (_, d) => uptoBulk d + 1
 end
def uptoSmall : (H : Type) → List (DataW H) → Bool := fun _ ds => decide (uptoBulkAll ds ≤ 1048576)
def OpenSpec.upto (s : _root_.Go.ChangeSpec) : _root_.Go.OpenSpec := { _root_.Go.OpenSpec.ofChange s with cond := some uptoSmall }

/-- 'cuecardlaw15.MatchFeeds', WHERE WHAT IT READS IS OF BULK AT MOST 1048576: true; the input reads as it did. -/
def matchFeedsUptoRow : OpenClaim := { program := "ytojgdmpnbgikeaa", sum := "47ed57bdf89fd777ca1ed8542dc939795d83fa061a6b0b23a379d0f9a0398396", func := "cuecard/cuecardlaw15.MatchFeeds", spec := "matchFeeds", inPlace := ["internal/bytealg.IndexByteString"], unfollowed := true, recurses := true, apart := false, narrowed := true }
def MatchFeedsUptoSaid : Prop := matchFeedsUptoRow.holds Try.pinned (OpenSpec.upto matchFeedsSpec)

/-- 'cuecardlaw15.MatchFirst', WHERE WHAT IT READS IS OF BULK AT MOST 1048576: true; the input reads as it did. -/
def matchFirstUptoRow : OpenClaim := { program := "ytojgdmpnbgikeaa", sum := "47ed57bdf89fd777ca1ed8542dc939795d83fa061a6b0b23a379d0f9a0398396", func := "cuecard/cuecardlaw15.MatchFirst", spec := "matchFirst", inPlace := ["internal/bytealg.IndexByteString"], unfollowed := true, recurses := true, apart := false, narrowed := true }
def MatchFirstUptoSaid : Prop := matchFirstUptoRow.holds Try.pinned (OpenSpec.upto matchFirstSpec)

/-- 'cuecardlaw15.MatchExact', WHERE WHAT IT READS IS OF BULK AT MOST 1048576: true; the input reads as it did. -/
def matchExactUptoRow : OpenClaim := { program := "ytojgdmpnbgikeaa", sum := "47ed57bdf89fd777ca1ed8542dc939795d83fa061a6b0b23a379d0f9a0398396", func := "cuecard/cuecardlaw15.MatchExact", spec := "matchExact", inPlace := ["internal/bytealg.IndexByteString"], unfollowed := true, recurses := true, apart := false, narrowed := true }
def MatchExactUptoSaid : Prop := matchExactUptoRow.holds Try.pinned (OpenSpec.upto matchExactSpec)

/-- 'cuecardlaw15.MatchMore', WHERE WHAT IT READS IS OF BULK AT MOST 1048576: true; the input reads as it did. -/
def matchMoreUptoRow : OpenClaim := { program := "ytojgdmpnbgikeaa", sum := "47ed57bdf89fd777ca1ed8542dc939795d83fa061a6b0b23a379d0f9a0398396", func := "cuecard/cuecardlaw15.MatchMore", spec := "matchMore", inPlace := ["internal/bytealg.IndexByteString"], unfollowed := true, recurses := true, apart := false, narrowed := true }
def MatchMoreUptoSaid : Prop := matchMoreUptoRow.holds Try.pinned (OpenSpec.upto matchMoreSpec)

/-- 'cuecardlaw15.MatchSpan', WHERE WHAT IT READS IS OF BULK AT MOST 1048576: true; the input reads as it did. -/
def matchSpanUptoRow : OpenClaim := { program := "ytojgdmpnbgikeaa", sum := "47ed57bdf89fd777ca1ed8542dc939795d83fa061a6b0b23a379d0f9a0398396", func := "cuecard/cuecardlaw15.MatchSpan", spec := "matchSpan", inPlace := ["internal/bytealg.IndexByteString"], unfollowed := true, recurses := true, apart := false, narrowed := true }
def MatchSpanUptoSaid : Prop := matchSpanUptoRow.holds Try.pinned (OpenSpec.upto matchSpanSpec)

/-- 'cuecardlaw15.MatchBehind', WHERE WHAT IT READS IS OF BULK AT MOST 1048576: true; the input reads as it did. -/
def matchBehindUptoRow : OpenClaim := { program := "ytojgdmpnbgikeaa", sum := "47ed57bdf89fd777ca1ed8542dc939795d83fa061a6b0b23a379d0f9a0398396", func := "cuecard/cuecardlaw15.MatchBehind", spec := "matchBehind", inPlace := ["internal/bytealg.IndexByteString"], unfollowed := true, recurses := true, apart := false, narrowed := true }
def MatchBehindUptoSaid : Prop := matchBehindUptoRow.holds Try.pinned (OpenSpec.upto matchBehindSpec)

end Rows
end Go.Proofs.Ytojgdmpnbgikeaa
