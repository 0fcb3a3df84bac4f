/- Scripts' operations, in plain Lean: no program in sight. No condition. -/
import Derived.Test.YtakcolililbkjaaTclEqs
set_option linter.unusedVariables false
set_option linter.unusedSimpArgs false
namespace Go.Proofs.Ytakcolililbkjaa
namespace Plan
open Tcl
mutual
inductive Op where
  | mk (kind at_ : Nat) (words : List Word) (arms : List Arm)
inductive Arm where
  | mk (kind : Nat) (pat : Word) (body : List Op)
end
namespace Op
def kind : Op → Nat | mk k _ _ _ => k
def at_ : Op → Nat | mk _ a _ _ => a
def words : Op → List Word | mk _ _ w _ => w
def arms : Op → List Arm | mk _ _ _ a => a
end Op
namespace Arm
def kind : Arm → Nat | mk k _ _ => k
def pat : Arm → Word | mk _ p _ => p
def body : Arm → List Op | mk _ _ b => b
end Arm
mutual
def cntO : Op → Nat
  | .mk _ _ _ as => 1 + cntAs as
def cntA : Arm → Nat
  | .mk _ _ b => cntOs b
def cntAs : List Arm → Nat
  | [] => 0
  | a :: r => cntA a + cntAs r
def cntOs : List Op → Nat
  | [] => 0
  | o :: r => cntO o + cntOs r
end
def shiftW (b : Nat) (w : Word) : Word := ⟨w.at_ + b, w.kind, w.parts⟩
def shiftC (b : Nat) (c : Cmd) : Cmd := ⟨c.at_ + b, c.words.map (shiftW b)⟩
/-- The commands of a text that stands at a place. -/
def parseAt (t : List UInt8) (b : Nat) : Except Bad (List Cmd) :=
  match parse t with
  | .error e => .error (if e.2 = 0 then 0 else b + e.1, e.2)
  | .ok cs => .ok (cs.map (shiftC b))
/-- A word's text, if it is one text alone. -/
def oneT (w : Word) : Option (List UInt8) :=
  match w.parts with
  | [p] => if p.var = true ∨ w.kind = 2 then none else some p.s
  | _ => none
def openT (w : Word) : List UInt8 := (w.parts.map (fun p => p.s)).flatten
/-- The kinds of operations by their names, with how many arguments there may be. -/
def formL : List (List UInt8 × Nat × Nat × Nat) :=
  [([115, 101, 116], 0, 2, 2), ([115, 112, 97, 119, 110], 1, 1, 1073741824), ([115, 101, 110, 100], 2, 1, 1), ([101, 120, 112, 101, 99, 116], 3, 1, 1073741824),
   ([109, 97, 116, 99, 104, 95, 109, 97, 120], 4, 1, 1), ([115, 108, 101, 101, 112], 5, 1, 1), ([99, 108, 111, 115, 101], 6, 0, 0), ([101, 120, 105, 116], 7, 0, 1),
   ([101, 120, 112, 95, 99, 111, 110, 116, 105, 110, 117, 101], 8, 0, 0)]
def flagL : List (List UInt8 × Nat) := [([45, 101, 120, 97, 99, 116], 0), ([45, 103, 108, 111, 98], 1), ([116, 105, 109, 101, 111, 117, 116], 2), ([101, 111, 102], 3)]
def look {α : Type} (s : List UInt8) : List (List UInt8 × α) → Option α
  | [] => none
  | p :: r => if s = p.1 then some p.2 else look s r
def formOf (s : List UInt8) : Option (Nat × Nat × Nat) := look s formL
def flagOf (s : List UInt8) : Option Nat := look s flagL
/-- The kind of an arm that a word begins. -/
def flagged (w : Word) : Option Nat :=
  match oneT w with
  | none => none
  | some s => if w.kind = 0 then flagOf s else none
/-- An arm's kind and pattern, and the words behind. -/
def headA (first : Word) (l : List Word) : Except Bad (Nat × Word × List Word) :=
  match flagged first with
  | none => .ok (1, first, l)
  | some k =>
    if k < 2 then match l with
      | [] => .error (first.at_, 2)
      | p :: r => .ok (k, p, r)
    else .ok (k, ⟨0, 0, []⟩, l)
/-- An arm's body, and the words behind. -/
def bodyA (rec : List UInt8 → Nat → Except Bad (List Op)) (l : List Word) : Except Bad (List Op × List Word) :=
  match l with
  | [] => .ok ([], [])
  | w :: r =>
    if w.kind = 2 then match rec (openT w) (w.at_ + 1) with
      | .error b => .error b
      | .ok body => .ok (body, r)
    else .ok ([], w :: r)
def armsGo (rec : List UInt8 → Nat → Except Bad (List Op)) : Nat → List Word → List Arm → Except Bad (List Arm)
  | _, [], acc => .ok acc
  | 0, _ :: _, _ => .error (0, 0)
  | n + 1, first :: l, acc =>
    if acc.length = 64 then .error (first.at_, 10)
    else match headA first l with
      | .error b => .error b
      | .ok (k, p, l2) => match bodyA rec l2 with
        | .error b => .error b
        | .ok (body, l3) => armsGo rec n l3 (acc ++ [.mk k p body])
/-- An expect's words. -/
def argsA (args : List Word) : Except Bad (List Word) :=
  match args with
  | [a] => if a.kind = 2 then match parseAt (openT a) (a.at_ + 1) with
      | .error b => .error b
      | .ok l => .ok (l.map Cmd.words).flatten
    else .ok args
  | _ => .ok args
def cmdOp (rec : List UInt8 → Nat → Except Bad (List Op)) (body : Bool) (c : Cmd) : Except Bad Op :=
  match c.words with
  | [] => .error (0, 0)
  | w0 :: args =>
    match oneT w0 with
    | none => .error (w0.at_, 4)
    | some name =>
      match formOf name with
      | none => .error (c.at_, 8)
      | some (k, lo, hi) =>
        if args.length < lo ∨ hi < args.length then .error (c.at_, 2)
        else if k = 8 ∧ body = false then .error (c.at_, 9)
        else if k ≠ 3 then .ok (.mk k c.at_ args [])
        else match argsA args with
          | .error b => .error b
          | .ok ws => match armsGo rec ws.length ws [] with
            | .error b => .error b
            | .ok [] => .error (c.at_, 2)
            | .ok as => .ok (.mk 3 c.at_ [] as)
def cmdsGo (rec : List UInt8 → Nat → Except Bad (List Op)) (body : Bool) : List Cmd → List Op → Except Bad (List Op)
  | [], acc => .ok acc
  | c :: r, acc => match cmdOp rec body c with
    | .error b => .error b
    | .ok o => cmdsGo rec body r (acc ++ [o])
def script : Nat → List UInt8 → Nat → Bool → Except Bad (List Op)
  | 0, _, _, _ => .error (0, 0)
  | n + 1, t, b, body => match parseAt t b with
    | .error e => .error e
    | .ok cs => cmdsGo (fun t b => script n t b true) body cs []
/-- The operations of a script. -/
def planOf (s : List UInt8) : Except Bad (List Op) := script (s.length + 1) s 0 false
end Plan
end Go.Proofs.Ytakcolililbkjaa
