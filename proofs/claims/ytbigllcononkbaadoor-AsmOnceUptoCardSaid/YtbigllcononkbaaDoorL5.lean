/- Plain law: what one line's instruction comes to. -/
import Derived.Test.YtbigllcononkbaaDoorL1
import Derived.Test.YtbigllcononkbaaDoorL2
import Derived.Test.YtbigllcononkbaaDoorL3
import Derived.Test.YtbigllcononkbaaDoorL4
namespace Go.Proofs.YtbigllcononkbaaDoor
open Go

def leadsB (c : Nat) : Bool := decide (c = 24 ∨ c = 25 ∨ c = 26)
/-- The words' one text. -/
def wordsText : List UInt8 := "commit push8 push16 push64 dup drop swap over add sub mul div rem and or xor not shl shr ushr eq lt ult conv jump jumpz call ret arg tell abort load store cadd cget cput cdel clen chas cleast cnext".toUTF8.data.toList
/-- An instruction as it was read: its code and operand, its place, the name that is its operand, and where that stands. -/
structure InsR where
  c : Nat
  o : Int
  p : Nat
  nm : List UInt8
  na : Int
/-- A token: its bytes, and its place in the text. -/
abbrev Tok := List UInt8 × Int
/-- An operand: a number, or a name. -/
def operF (c : Nat) (t : Tok) : Except (Int × Int) (Int × Tok) :=
  match numB t.1 with
  | some n => if fitsB (shapeN c) n = true then .ok (n, ([], 0)) else .error (12, t.2)
  | none => if (leadsB c && nameB t.1) = true then .ok (0, t) else .error (9, t.2)
/-- The operand's part of a line: what it is, and what stands behind it. -/
def opStage (c : Nat) (t0 : Tok) (rest : List Tok) : Except (Int × Int) ((Int × Tok) × List Tok) :=
  if 0 < widthN (shapeN c) then
    match rest with
    | [] => .error (9, t0.2 + t0.1.length)
    | t1 :: rest => match operF c t1 with | .ok x => .ok (x, rest) | .error x => .error x
  else .ok ((0, ([], 0)), rest)
/-- What a line's instruction comes to, at a place of the program. -/
def insF (codes : List UInt8 → Option Nat) (size : Nat) : List Tok → Except (Int × Int) InsR
  | [] => .error (0, 0)
  | t0 :: rest =>
    match codes t0.1 with
    | none => .error (9, t0.2)
    | some c =>
      match opStage c t0 rest with
      | .error x => .error x
      | .ok (_, t :: _) => .error (9, t.2)
      | .ok (x, []) => if 512 < size + (1 + widthN (shapeN c)) then .error (2, t0.2) else .ok ⟨c, x.1, size, x.2.1, x.2.2⟩
/-- Labels and their places, the first one first. -/
abbrev Labs := List (List UInt8 × Nat)
def lookN (ls : Labs) (k : List UInt8) : Option Nat := (ls.find? fun p => decide (k = p.1)).map (·.2)
/-- A line's label. -/
def labStage (ls : Labs) (size : Nat) (t0 : Tok) (rest : List Tok) : Except (Int × Int) (Labs × List Tok) :=
  if Lib.hasSuffix t0.1 [58] = true then
    if nameB (Lib.trimSuffix t0.1 [58]) = true then
      match lookN ls (Lib.trimSuffix t0.1 [58]) with
      | some _ => .error (11, t0.2)
      | none => .ok (ls ++ [(Lib.trimSuffix t0.1 [58], size)], rest)
    else .error (9, t0.2)
  else .ok (ls, t0 :: rest)
/-- What a line comes to. -/
def lineF (codes : List UInt8 → Option Nat) (ls : Labs) (size : Nat) : List Tok → Except (Int × Int) (Labs × Option InsR)
  | [] => .ok (ls, none)
  | t0 :: rest =>
    match labStage ls size t0 rest with
    | .error x => .error x
    | .ok (ls', []) => .ok (ls', none)
    | .ok (ls', t :: ts) => match insF codes size (t :: ts) with
      | .error x => .error x
      | .ok i => .ok (ls', some i)
end Go.Proofs.YtbigllcononkbaaDoor
