/- Plain functions of package uri. -/
import Derived.Test.YtkebjbphjnpjeaaSplitP
set_option linter.all false
namespace Wf
open Go Go.RowKit
structure Uri where
  scheme : Bytes
  authority : Bytes
  path : Bytes
  query : Bytes
  fragment : Bytes
  hasScheme : Bool
  hasAuthority : Bool
  hasQuery : Bool
  hasFrag : Bool
  deriving DecidableEq
def Uri.none : Uri := ⟨[], [], [], [], [], false, false, false, false⟩
def Uri.cells (u : Uri) : Array Value := #[strV u.scheme, strV u.authority, strV u.path, strV u.query, strV u.fragment, .bool u.hasScheme, .bool u.hasAuthority, .bool u.hasQuery, .bool u.hasFrag]
def Uri.val (u : Uri) : Value := .agg u.cells
def schemeC (c : UInt8) : Bool := isAlpha c || isDigit c || [43, 45, 46].contains c
def schemeOk (s : Bytes) : Bool := match s with
  | [] => false
  | c :: r => isAlpha c && r.all schemeC
def colonSlash (c : UInt8) : Bool := [58, 47].contains c
/-- The authority and the path of what is behind the scheme. -/
def authPath (s : Bytes) : Bytes × Bool × Bytes := match s with
  | 47 :: 47 :: r => (r.take (pre (· == 47) r), true, r.drop (pre (· == 47) r))
  | s => ([], false, s)
def splitRest (s frag query : Bytes) (hasFrag hasQuery : Bool) : Uri × Int :=
  if (s.drop (pre colonSlash s)).head? = some 58 then
    if schemeOk (s.take (pre colonSlash s)) then
      (⟨s.take (pre colonSlash s), (authPath (s.drop (pre colonSlash s + 1))).1, (authPath (s.drop (pre colonSlash s + 1))).2.2, query, frag, true, (authPath (s.drop (pre colonSlash s + 1))).2.1, hasQuery, hasFrag⟩, 0)
    else (Uri.none, 6)
  else (⟨[], (authPath s).1, (authPath s).2.2, query, frag, false, (authPath s).2.1, hasQuery, hasFrag⟩, 0)
def uriSplit (s : Bytes) : Uri × Int :=
  if 16384 < s.length then (Uri.none, 5)
  else splitRest (cutC 63 (cutC 35 s).1).1 (cutC 35 s).2.1 (cutC 63 (cutC 35 s).1).2.1 (cutC 35 s).2.2 (cutC 63 (cutC 35 s).1).2.2
def uriJoin (u : Uri) : Bytes :=
  (if u.hasScheme then u.scheme ++ [58] else []) ++ (if u.hasAuthority then [47, 47] ++ u.authority else []) ++ u.path ++ (if u.hasQuery then [63] ++ u.query else []) ++ (if u.hasFrag then [35] ++ u.fragment else [])
/-- What stands before the last slash, nothing if there is none. -/
def shorten (out : Bytes) : Bytes := (out.reverse.dropWhile (· != 47)).drop 1 |>.reverse
/-- One step of the removal of dot segments: what is left, what has been put out. -/
def dotStep (path out : Bytes) : Bytes × Bytes :=
  if [46, 46, 47].isPrefixOf path then (path.drop 3, out)
  else if [46, 47].isPrefixOf path then (path.drop 2, out)
  else if [47, 46, 47].isPrefixOf path then (path.drop 2, out)
  else if path = [47, 46] then ([47], out)
  else if [47, 46, 46, 47].isPrefixOf path then (path.drop 3, shorten out)
  else if path = [47, 46, 46] then ([47], shorten out)
  else if path = [46] ∨ path = [46, 46] then ([], out)
  else (path.drop (1 + pre (· == 47) (path.drop 1)), out ++ path.take (1 + pre (· == 47) (path.drop 1)))
def dotsGo : Nat → Bytes → Bytes → Bytes
  | 0, _, out => out
  | f + 1, path, out => if path = [] then out else dotsGo f (dotStep path out).1 (dotStep path out).2
def removeDots (path : Bytes) : Bytes := dotsGo path.length path []
def lastSlash (s : Bytes) : Nat := (s.reverse.dropWhile (· != 47)).length
def uriMerge (base ref : Uri) : Bytes :=
  if ref.path.head? = some 47 then ref.path
  else if base.hasAuthority ∧ base.path = [] then 47 :: ref.path
  else base.path.take (lastSlash base.path) ++ ref.path
def uriResolve (base ref : Uri) : Uri :=
  if ref.hasScheme then { ref with path := removeDots ref.path }
  else if ref.hasAuthority then { ref with path := removeDots ref.path, scheme := base.scheme, hasScheme := base.hasScheme }
  else if ref.path = [] then
    if ref.hasQuery then { ref with path := base.path, scheme := base.scheme, hasScheme := base.hasScheme, authority := base.authority, hasAuthority := base.hasAuthority }
    else { ref with path := base.path, query := base.query, hasQuery := base.hasQuery, scheme := base.scheme, hasScheme := base.hasScheme, authority := base.authority, hasAuthority := base.hasAuthority }
  else { ref with path := removeDots (uriMerge base ref), scheme := base.scheme, hasScheme := base.hasScheme, authority := base.authority, hasAuthority := base.hasAuthority }
end Wf
