/- Layer 4, plainly: labels, terms, selectors; what IsLabels, Value, Match, Tidy and Both answer. -/
import Derived.Test.YtfafdcdmaimghaaGreatDoorLabP
import Derived.Sort.Walk0
set_option linter.unusedVariables false
set_option linter.unusedSimpArgs false
namespace Go.Proofs.YtfafdcdmaimghaaGreatDoor
open Go

def partsP (s : Bs) : List Bs := if s = [] then [] else splitC 44 s
def keyOf (p : Bs) : Bs := (cutE 61 p).1
def valOf (p : Bs) : Bs := (cutE 61 p).2.1
/-- IsLabels' loop. -/
def labOk : List Bs → Bs → Bool
  | [], _ => true
  | p :: ps, last => (cutE 61 p).2.2 && isNm (keyOf p) && isNm (valOf p) && decide (last < keyOf p) && labOk ps (keyOf p)
def isLabels (s : Bs) : Bool := labOk (partsP s) [] && decide ((partsP s).length ≤ 4)
def anyT : Bs := [97, 110, 121]
/-- A term, unasked: its kind, key, value. -/
def rawT (s : Bs) : Nat × Bs × Bs :=
  if (cutE 61 s).2.2 = true then (if (keyOf s).getLast? = some 33 then (4, (keyOf s).dropLast, valOf s) else (3, keyOf s, valOf s))
  else if (keyOf s).head? = some 33 then (2, (keyOf s).tail, anyT) else (1, keyOf s, anyT)
/-- A term: its kind (0: none), key, value. -/
def readT (s : Bs) : Nat × Bs × Bs := if isNm (rawT s).2.1 && isNm (rawT s).2.2 then rawT s else (0, [], [])
def isSel (s : Bs) : Bool := decide ((partsP s).length ≤ 4) && (partsP s).all fun p => decide ((readT p).1 ≠ 0)
def valueP (labels key : Bs) : Option Bs := if isLabels labels then ((partsP labels).find? fun p => keyOf p == key).map valOf else none
def holdsT (t : Nat × Bs × Bs) (labels : Bs) : Bool :=
  if t.1 = 1 then (valueP labels t.2.1).isSome
  else if t.1 = 2 then !(valueP labels t.2.1).isSome
  else if t.1 = 3 then decide (valueP labels t.2.1 = some t.2.2)
  else if t.1 = 4 then !decide (valueP labels t.2.1 = some t.2.2)
  else false
def matchP (s l : Bs) : Bool × Int := if isSel s && isLabels l then ((partsP s).all fun p => holdsT (readT p) l, 0) else (false, 40)
/-- In order, each once. -/
def tidyL (l : List Bs) : List Bs := Lib.compact (l.mergeSort fun x y => decide (x ≤ y))
def bothP (a b : Bs) : Bs × Int :=
  if isSel a && isSel b then (if (tidyL (partsP a ++ partsP b)).length ≤ 4 then (joinC 44 (tidyL (partsP a ++ partsP b)), 0) else ([], 40)) else ([], 40)
end Go.Proofs.YtfafdcdmaimghaaGreatDoor
