import Derived.Test.YtnjjbiialpmhbaaProg
import Derived.Below
import Derived.Deep.Draws
import Derived.Deep.AppendLies
import Derived.Maps.AppendAt
import Derived.OwnWalk
import Derived.Laws.BytesArg
import Derived.Laws.MakeOwn
import Derived.Laws.OwnMore
import Derived.Deep.OwnRows
import Derived.Tactics
import Derived.Lib.ConvBytes
import Derived.Laws.Slices
import Derived.WalkKit
import Derived.KernelRfl
import Derived.RowKit3
import Derived.Deep.LoopGhost
import Derived.Deep.QuietTactic
import Derived.BigQuiet
import Derived.WideLaws
import Derived.Deep.DeepCutAuto
import Derived.Deep.CutBlock
import Derived.Deep.RegionHeld3
import Derived.Laws.Rows
import Derived.Lib.AppendStr
import Derived.ArgAppend
import Derived.Laws.IdiomCopy
import Derived.OrdersHeld
import Derived.Laws.BitsLemmas
import Derived.RowKit
import Derived.Test.YtnjjbiialpmhbaaWWords
import Derived.Test.YtnjjbiialpmhbaaWLast
import Derived.Test.YtnjjbiialpmhbaaWTab
import Derived.Test.YtnjjbiialpmhbaaWFour
import Derived.Test.YtnjjbiialpmhbaaWQPut
import Derived.Test.YtnjjbiialpmhbaaWApart
import Derived.Test.YtnjjbiialpmhbaaWArr
import Derived.Test.YtnjjbiialpmhbaaWZeros
import Derived.Test.YtnjjbiialpmhbaaWFoot
import Derived.Test.YtnjjbiialpmhbaaWKept
import Derived.Test.YtnjjbiialpmhbaaWShare
import Derived.Test.YtnjjbiialpmhbaaWN
import Derived.Test.YtnjjbiialpmhbaaWFootNe
import Derived.Test.YtnjjbiialpmhbaaWAt
import Derived.Test.YtnjjbiialpmhbaaWEqStruct
import Derived.Test.YtnjjbiialpmhbaaWRepsOne
import Derived.Test.YtnjjbiialpmhbaaWInv
import Derived.Test.YtnjjbiialpmhbaaWInvWords
import Derived.Test.YtnjjbiialpmhbaaWGuard
import Derived.Test.YtnjjbiialpmhbaaWNEv
import Derived.Test.YtnjjbiialpmhbaaWMore
namespace Go.Proofs.Ytnjjbiialpmhbaa.PPlanBodies
open Go.RowKit Go.Proofs.YtnjjbiialpmhbaaW.PrintWords Go.Proofs.YtnjjbiialpmhbaaW.PrintLast Go.Proofs.YtnjjbiialpmhbaaW.PrintMore
attribute [local go_sem] max2_int min2_int max_two min_two max_three min_three max_four min_four   -- for this text's walks alone
set_option linter.unusedVariables false
set_option linter.unusedSimpArgs false



def errW : Option Int → Value
  | none => .nilIface
  | some c => .iface 0 (.int .i64 c)
theorem errW_none : errW none = .nilIface := rfl
theorem errW_some (c : Int) : errW (some c) = .iface 0 (.int .i64 c) := rfl

-- the values' own types
/-! #### struct type 37 -/
structure S37 where
  f0 : Bool
  f1 : ByteArray
def z37 : S37 := ⟨false, (⟨#[]⟩ : ByteArray)⟩
def k37 : Kd S37 := Kd.iso (Kd.pair Kd.bool Kd.string) (fun x : S37 => (x.f0, x.f1))
theorem k37_open {w : World} {x : S37} {cs : List Value} (h : k37.K w x cs) : cs = [.bool x.f0, .string x.f1] := by
  obtain ⟨_, _, rfl, rfl, rfl⟩ := h
  exact rfl
def rd_T37 (xs : List S37) (i : Int) : S37 := xs.getD i.toNat z37
theorem at_T37 {w : World} {A : Option Addr} {n : Nat} {xs : List S37} (h : Kd.C k37 w A n xs) (i : Int) (h0 : 0 ≤ i) (h1 : i < n) : ∃ ad , A = some ad ∧ w.cell? (ad.add (i.toNat * 2)) = some (.bool (rd_T37 xs i).f0) ∧ w.cell? ⟨(ad.add (i.toNat * 2)).block, (ad.add (i.toNat * 2)).off + 1, none⟩ = some (.string (rd_T37 xs i).f1) := by
  obtain ⟨ad, c, e, _, hK, hc0⟩ := Kd.C_get h z37 i h0 h1
  have hc : ∀ j u, c[j]? = some u → w.cell? (ad.add (i.toNat * 2 + j)) = some u := hc0
  obtain rfl := k37_open hK
  exact ⟨ad, e, hc 0 _ rfl, by rw [← add_field _ _ 1 (by omega)]; exact hc 1 _ rfl⟩

/-! #### struct type 35 -/
structure S35 where
  f0 : Int
  f1 : Int
  f2 : (List S37)
def k35 : Kd S35 := Kd.iso (Kd.pair (Kd.int .i64) (Kd.pair (Kd.int .i64) (Kd.slice 37 k37))) (fun x : S35 => (x.f0, x.f1, x.f2))
/-! #### struct type 32 -/
structure S32 where
  f0 : Int
  f1 : (List S35)
def k32 : Kd S32 := Kd.iso (Kd.pair (Kd.int .i64) (Kd.slice 35 k35)) (fun x : S32 => (x.f0, x.f1))
end Go.Proofs.Ytnjjbiialpmhbaa.PPlanBodies
