/- THE PLAIN LAW OF command.Parse: definitions. -/
import Derived.Test.YtnkhiaikdmpimaaGreatDoorTxtPlain
import Derived.Test.YtnkhiaikdmpimaaGreatDoorNumPlain
namespace Lx
open Go.Lib

def Cmd.zero : Cmd := ⟨false, [], [], [], [], [], 0, 0, Pol.zero⟩
/-- a number of 1 to 4 digits; 0: it is none -/
def cntP (s : List UInt8) : Nat := if decide (s.length ≤ 4) && s.all isDigit && s.head? != some 48 then decv 0 s else 0
def cutEq (s : List UInt8) : List UInt8 × List UInt8 := (s.takeWhile (· != 61), (s.dropWhile (· != 61)).tail)
/-- the words between spaces -/
def splitSp : List UInt8 → List (List UInt8)
  | [] => [[]]
  | c :: s => if c = 32 then [] :: splitSp s else match splitSp s with
    | [] => [[c]]
    | a :: l => (c :: a) :: l
def findName (i : Nat) (nm : List UInt8) : Option Nat := ((List.range 5).drop i).find? (fun j => polNames[j]? == some nm)
def Pol.put (k : Pol) (j : Nat) (n : Int) : Pol := match j with
  | 0 => { k with last := n } | 1 => { k with hours := n } | 2 => { k with days := n } | 3 => { k with weeks := n } | _ => { k with months := n }
def polStep (st : Pol × Nat) (w : List UInt8) : Option (Pol × Nat) := match findName st.2 (cutEq w).1 with
  | none => none
  | some j => if cntP (cutEq w).2 = 0 then none else some (st.1.put j (cntP (cutEq w).2), j + 1)
def polParse (s : List UInt8) : Option Pol := if s = v_none then some Pol.zero else ((splitSp s).foldlM polStep (Pol.zero, 0)).map (·.1)

def isTheP (w : W) (s : List UInt8) : Bool := w.s == s && !w.qd
def numOk (w : W) : Bool := (number w.s).2 == 0 && !w.qd
def takeP (c : Cmd) (p : Nat) (w : W) : Cmd × Bool := match p with
  | 0 => ({ c with set := w.s }, true)
  | 1 => ({ c with snap := w.s }, true)
  | 2 => ({ c with other := w.s }, true)
  | 3 => ({ c with cell := ((min (number w.s).1 16 : Nat) : Int) }, numOk w)
  | 4 => ({ c with text := w.s }, true)
  | 5 => ({ c with now := ((number w.s).1 : Int) }, numOk w)
  | 6 => match polParse w.s with
    | some k => ({ c with keep := k }, true)
    | none => ({ c with keep := Pol.zero }, false)
  | 7 => (c, isTheP w [64])
  | _ => (c, isTheP w v_from)
def takeAll (c : Cmd) : List (Nat × W) → Option Cmd
  | [] => some c
  | (p, w) :: l => if (takeP c p w).2 then takeAll (takeP c p w).1 l else none
def takenP (c : Cmd) (r : List Nat) (l : List W) : Option Cmd := if r.length = l.length then
    match takeAll c (r.zip l) with
    | some d => if fitsP d r then some d else none
    | none => none
  else none
def parseWords (ws : List W) : Cmd × Int := match ws with
  | [] => (Cmd.zero, 5)
  | w :: ws =>
    match (if isTheP w v_other then ws else w :: ws) with
    | [] => (Cmd.zero, 3)
    | v :: args => if v.qd then (Cmd.zero, 3) else
      match (rowsP v.s).findSome? (fun r => takenP { Cmd.zero with second := isTheP w v_other, verb := v.s } r args) with
      | some d => (d, 0)
      | none => (Cmd.zero, 3)
def parseP (line : List UInt8) : Cmd × Int := if 1000 < line.length then (Cmd.zero, 4) else match splitB line with
  | none => (Cmd.zero, 3)
  | some ws => parseWords ws
theorem number_lt (s : List UInt8) : (number s).1 < 18446744073709551616 := by
  unfold number
  split
  · split
    · assumption
    · decide
  · decide
end Lx
