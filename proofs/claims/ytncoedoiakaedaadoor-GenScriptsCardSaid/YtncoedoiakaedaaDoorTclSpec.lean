/- Scripts' commands and words, in plain Lean: no program in sight. No condition. -/
set_option linter.unusedVariables false
set_option linter.unusedSimpArgs false
namespace Go.Proofs.YtncoedoiakaedaaDoor
namespace Tcl
structure Part where
  var : Bool
  s : List UInt8
structure Word where
  at_ : Nat
  kind : Nat
  parts : List Part
structure Cmd where
  at_ : Nat
  words : List Word
def blankB (c : UInt8) : Bool := c == 32 || c == 9
def endB (c : UInt8) : Bool := c == 10 || c == 59
def stopB (c : UInt8) : Bool := blankB c || endB c
def quoteB (c : UInt8) : Bool := c == 34
def nameB (c : UInt8) : Bool := (97 ≤ c && c ≤ 122) || (65 ≤ c && c ≤ 90) || (48 ≤ c && c ≤ 57) || c == 95
def octal (c : UInt8) : Bool := 48 ≤ c && c ≤ 55
/-- What is wrong: where, and what. -/
abbrev Bad := Nat × Nat

/-- A braced word's end: the place behind it. -/
def braced (s : List UInt8) (from_ i d : Nat) : Except Bad Nat :=
  match h : s[i]? with
  | none => .error (from_, 5)
  | some c =>
    have : i < s.length := (List.getElem?_eq_some_iff.1 h).1
    if c = 92 then braced s from_ (i + 2) d
    else if c = 123 then if d + 1 > 64 then .error (i, 7) else braced s from_ (i + 1) (d + 1)
    else if c = 125 then if d > 1 then braced s from_ (i + 1) (d - 1) else .ok (i + 1)
    else braced s from_ (i + 1) d
termination_by s.length - i
/-- The bytes from `a` to `b`. -/
def sub (s : List UInt8) (a b : Nat) : List UInt8 := (s.take b).drop a
/-- What a backslash at `i` tells: the byte, the place behind. -/
def octals (s : List UInt8) (i m : Nat) (x : Nat) : Nat × Nat :=
  match m with
  | 0 => (x, i)
  | m + 1 => match s[i]? with
    | some c => if octal c then octals s (i + 1) m (x * 8 + (c.toNat - 48)) else (x, i)
    | none => (x, i)
def esc (s : List UInt8) (i : Nat) : Option (UInt8 × Nat) :=
  match s[i + 1]? with
  | none => none
  | some c =>
    if octal c then some (UInt8.ofNat (octals s (i + 1) 3 0).1, (octals s (i + 1) 3 0).2)
    else some (if c = 114 then 13 else if c = 110 then 10 else if c = 116 then 9 else c, i + 2)
def flush (l : List Part) (text : List UInt8) : List Part := if text = [] then l else l ++ [⟨false, text⟩]
/-- How many name's bytes stand at the head. -/
def nameLen : List UInt8 → Nat
  | [] => 0
  | c :: r => if nameB c then nameLen r + 1 else 0
/-- The parts of a quoted or bare word. -/
def partsGo (stop : UInt8 → Bool) (s : List UInt8) (from_ : Option Nat) (i : Nat) (l : List Part) (text : List UInt8) : Except Bad (List Part × Nat) :=
  match h : s[i]? with
  | none => .ok (flush l text, i)
  | some c =>
    have : i < s.length := (List.getElem?_eq_some_iff.1 h).1
    if stop c then .ok (flush l text, i)
    else if c = 91 then .error (i, 4)
    else if c = 92 then
      match esc s i with
      | none => .error (from_.getD i, 5)
      | some (x, j) => if i < j then partsGo stop s from_ j l (text ++ [x]) else .error (0, 0)
    else if c = 36 then
      if 64 < nameLen (s.drop (i + 1)) then .error (i, 6)
      else if nameLen (s.drop (i + 1)) = 0 then partsGo stop s from_ (i + 1) l (text ++ [c])
      else partsGo stop s from_ (i + 1 + nameLen (s.drop (i + 1))) (flush l text ++ [⟨true, (s.drop (i + 1)).take (nameLen (s.drop (i + 1)))⟩]) []
    else partsGo stop s from_ (i + 1) l (text ++ [c])
termination_by s.length - i
/-- Behind a braced or quoted word a blankB or an end must stand. -/
def behind (s : List UInt8) (j : Nat) : Except Bad Unit :=
  match s[j]? with
  | some c => if stopB c then .ok () else .error (j, 4)
  | none => .ok ()
def word (s : List UInt8) (i : Nat) (c : UInt8) : Except Bad (Word × Nat) :=
  if c = 123 then
    match braced s i i 0 with
    | .error b => .error b
    | .ok j => match behind s j with
      | .error b => .error b
      | .ok _ => .ok (⟨i, 2, if j = i + 2 then [] else [⟨false, sub s (i + 1) (j - 1)⟩]⟩, j)
  else if c = 34 then
    match partsGo quoteB s (some i) (i + 1) [] [] with
    | .error b => .error b
    | .ok (ps, j) => if j = s.length then .error (i, 5) else match behind s (j + 1) with
      | .error b => .error b
      | .ok _ => .ok (⟨i, 1, ps⟩, j + 1)
  else
    match partsGo stopB s none i [] [] with
    | .error b => .error b
    | .ok (ps, j) => .ok (⟨i, 0, ps⟩, j)
/-- A command's words. -/
def command (s : List UInt8) (i : Nat) (ws : List Word) : Except Bad (List Word × Nat) :=
  match h : s[i]? with
  | none => .ok (ws, i)
  | some c =>
    have : i < s.length := (List.getElem?_eq_some_iff.1 h).1
    if endB c then .ok (ws, i)
    else if blankB c then command s (i + 1) ws
    else match word s i c with
      | .error b => .error b
      | .ok (w, j) => if i < j then command s j (ws ++ [w]) else .error (0, 0)
termination_by s.length - i
/-- How many bytes stand ahead of a line's end. -/
def lineLen : List UInt8 → Nat
  | [] => 0
  | c :: r => if c = 10 then 0 else lineLen r + 1
def parseGo (s : List UInt8) (i : Nat) (l : List Cmd) : Except Bad (List Cmd) :=
  match h : s[i]? with
  | none => .ok l
  | some c =>
    have : i < s.length := (List.getElem?_eq_some_iff.1 h).1
    if stopB c then parseGo s (i + 1) l
    else if c = 35 then if 0 < lineLen (s.drop i) then parseGo s (i + lineLen (s.drop i)) l else .error (0, 0)
    else match command s i [] with
      | .error b => .error b
      | .ok (ws, j) => if i < j then parseGo s j (l ++ [⟨i, ws⟩]) else .error (0, 0)
termination_by s.length - i
def parse (s : List UInt8) : Except Bad (List Cmd) := if s.length > 16777216 then .error (0, 6) else parseGo s 0 []
end Tcl
end Go.Proofs.YtncoedoiakaedaaDoor
