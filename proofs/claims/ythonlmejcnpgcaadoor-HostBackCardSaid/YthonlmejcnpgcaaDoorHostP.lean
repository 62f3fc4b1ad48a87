/- Plain functions of package host. -/
import Derived.Test.YthonlmejcnpgcaaDoorSplitP
namespace Wf
open Go Go.RowKit
def ldh (c : UInt8) : Bool := isAlpha c || isDigit c || c == 45
def labelOk (s : Bytes) : Bool := !s.isEmpty && decide (s.length ≤ 63) && !(s.head? == some 45) && !(s.getLast? == some 45) && s.all ldh
def nameL : List Bytes → Bool
  | [] => true
  | [x] => labelOk x && !digitsOk x
  | x :: y :: r => labelOk x && nameL (y :: r)
def nameOk (s : Bytes) : Bool := nameL (splitC 46 s)
def octetOk (s : Bytes) : Bool := (numStrict 255 s).2 == 0
def ipv4 (s : Bytes) : Bool := (splitC 46 s).length == 4 && (splitC 46 s).all octetOk
def hostM (s : Bytes) : Bytes × Int :=
  if s.isEmpty then ([], 3) else if 253 < s.length then ([], 5) else if !ipv4 s && !nameOk s then ([], 50) else (lower s, 0)
def portM (s : Bytes) : Int × Int :=
  if (numStrict 65535 s).2 ≠ 0 ∨ (numStrict 65535 s).1 = 0 then (0, 51) else ((numStrict 65535 s).1, 0)
/-- A host with or without a port, out of the host, whether there is a colon, and the port. -/
def hostPortOf (h : Bytes × Int) (colon : Bool) (p : Int × Int) : (Bytes × Int) × Int :=
  if h.2 ≠ 0 then (([], 0), h.2)
  else if colon then if p.2 ≠ 0 then (([], 0), p.2) else ((h.1, if p.1 = 443 then 0 else p.1), 0)
  else ((h.1, 0), 0)
def hostPort (s : Bytes) : (Bytes × Int) × Int := hostPortOf (hostM (cutC 58 s).1) (cutC 58 s).2.2 (portM (cutC 58 s).2.1)
/-- A host and a port, as a text. -/
def hostText (h : Bytes) (p : Int) : Bytes := if p = 0 then h else if p < 0 then h ++ [58, 45] ++ decS p.natAbs else h ++ [58] ++ decS p.natAbs
end Wf
