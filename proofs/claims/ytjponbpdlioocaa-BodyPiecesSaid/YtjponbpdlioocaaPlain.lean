/- Plain functions: splitting, URIs, percent-encoding, hosts, URLs. -/
import Derived.Test.YtjponbpdlioocaaBase
import Derived.Lib.IndexMore
import Derived.Lib.Split
import Derived.Lib.SplitLaws
import Derived.Lib.CutLaws
set_option linter.all false
namespace Wf
open Go Go.RowKit
theorem index_one (c : UInt8) (s : Bytes) : Lib.index s [c] = Lib.indexByte s c := by
  induction s with
  | nil => rfl
  | cons b l ih =>
    rw [Lib.index, Lib.indexByte, ih]
    have : [c].isPrefixOf (b :: l) = (b == c) := by simp [List.isPrefixOf]; exact Bool.beq_comm
    rw [this]
def cutC (c : UInt8) (s : Bytes) : Bytes × Bytes × Bool :=
  if pre (· == c) s < s.length then (s.take (pre (· == c) s), s.drop (pre (· == c) s + 1), true) else (s, [], false)
theorem cutC_len (c : UInt8) (s : Bytes) : (cutC c s).1.length ≤ s.length ∧ (cutC c s).2.1.length ≤ s.length := by
  unfold cutC
  split
  · simp; omega
  · simp
theorem cut_one (c : UInt8) (s : Bytes) : Lib.cut s [c] = cutC c s := by
  unfold Lib.cut cutC
  rw [index_one, indexByte_pre]
  by_cases h : pre (· == c) s < s.length
  · simp [h]
  · simp [h]
def splitC (c : UInt8) : Bytes → List Bytes
  | [] => [[]]
  | x :: r => if x == c then [] :: splitC c r else match splitC c r with
    | h :: t => (x :: h) :: t
    | [] => [[x]]
theorem splitC_miss {c : UInt8} {s : Bytes} (h : ¬ pre (· == c) s < s.length) : splitC c s = [s] := by
  induction s with
  | nil => rfl
  | cons x r ih =>
    rw [pre_cons] at h
    rw [splitC]
    cases hx : x == c
    · rw [hx] at h
      simp at h
      rw [ih (by omega)]
      rfl
    · rw [hx] at h; simp at h
theorem splitC_hit {c : UInt8} {s : Bytes} (h : pre (· == c) s < s.length) : splitC c s = s.take (pre (· == c) s) :: splitC c (s.drop (pre (· == c) s + 1)) := by
  induction s with
  | nil => simp at h
  | cons x r ih =>
    rw [pre_cons] at h ⊢
    rw [splitC]
    cases hx : x == c
    · rw [hx] at h
      simp at h
      rw [ih h]
      simp
    · simp
theorem splitC_ne (c : UInt8) (s : Bytes) : splitC c s ≠ [] := by
  by_cases h : pre (· == c) s < s.length
  · rw [splitC_hit h]; simp
  · rw [splitC_miss h]; simp
theorem count_pre {c : UInt8} {s : Bytes} (h : pre (· == c) s < s.length) : s.count c = (s.drop (pre (· == c) s + 1)).count c + 1 := by
  induction s with
  | nil => simp at h
  | cons x r ih =>
    rw [pre_cons] at h ⊢
    cases hx : x == c
    · rw [hx] at h
      simp at h
      rw [List.count_cons, hx, ih h]
      simp
    · simp [List.count_cons, hx]
theorem count_zero {c : UInt8} {s : Bytes} (h : ¬ pre (· == c) s < s.length) : s.count c = 0 := by
  induction s with
  | nil => rfl
  | cons x r ih =>
    rw [pre_cons] at h
    cases hx : x == c
    · rw [hx] at h
      simp at h
      rw [List.count_cons, hx, ih (by omega)]; rfl
    · rw [hx] at h; simp at h
theorem splitK_one (c : UInt8) : ∀ (k : Nat) (s : Bytes), s.count c = k → Lib.splitK [c] 0 k s = splitC c s := by
  intro k
  induction k with
  | zero =>
    intro s h
    by_cases hp : pre (· == c) s < s.length
    · rw [count_pre hp] at h; omega
    · rw [splitC_miss hp]; rfl
  | succ k ih =>
    intro s h
    by_cases hp : pre (· == c) s < s.length
    · rw [splitC_hit hp, Lib.splitK, index_one, indexByte_pre, if_pos hp, if_neg (by simp)]
      rw [count_pre hp] at h
      have := ih (s.drop (pre (· == c) s + 1)) (by omega)
      simp [this]
    · rw [count_zero hp] at h; omega
theorem splitC_length (c : UInt8) (s : Bytes) : (splitC c s).length = s.count c + 1 := by
  suffices ∀ k, ∀ s : Bytes, s.count c = k → (splitC c s).length = k + 1 from this _ s rfl
  intro k
  induction k with
  | zero =>
    intro s h
    by_cases hp : pre (· == c) s < s.length
    · rw [count_pre hp] at h; omega
    · rw [splitC_miss hp]; rfl
  | succ k ih =>
    intro s h
    by_cases hp : pre (· == c) s < s.length
    · rw [splitC_hit hp]
      rw [count_pre hp] at h
      simp [ih _ (by omega : (s.drop (pre (· == c) s + 1)).count c = k)]
    · rw [count_zero hp] at h; omega
theorem splitC_len (c : UInt8) (s : Bytes) : ∀ x ∈ splitC c s, x.length ≤ s.length := by
  suffices ∀ k, ∀ s : Bytes, s.count c = k → ∀ x ∈ splitC c s, x.length ≤ s.length from this _ s rfl
  intro k
  induction k with
  | zero =>
    intro s h
    by_cases hp : pre (· == c) s < s.length
    · rw [count_pre hp] at h; omega
    · rw [splitC_miss hp]; simp
  | succ k ih =>
    intro s h
    by_cases hp : pre (· == c) s < s.length
    · rw [splitC_hit hp]
      rw [count_pre hp] at h
      intro x hx
      rcases List.mem_cons.1 hx with rfl | hx
      · simp; omega
      · have := ih _ (by omega : (s.drop (pre (· == c) s + 1)).count c = k) x hx
        simp at this; omega
    · rw [count_zero hp] at h; omega
def strV (l : Bytes) : Value := .string ⟨List.toArray l⟩
theorem splitB_one (c : UInt8) (s : Bytes) : (Lib.splitB ⟨#[c]⟩ 0 (Lib.countB ⟨List.toArray s⟩ ⟨#[c]⟩) ⟨List.toArray s⟩).map Value.string = (splitC c s).map strV := by
  have h := Lib.splitB_data ⟨#[c]⟩ 0 (Lib.countB ⟨List.toArray s⟩ ⟨#[c]⟩) ⟨List.toArray s⟩
  have hk : Lib.splitK [c] 0 (Lib.countB ⟨List.toArray s⟩ ⟨#[c]⟩) s = splitC c s := splitK_one c _ s (Lib.count_one c s).symm
  have h2 : (Lib.splitB ⟨#[c]⟩ 0 (Lib.countB ⟨List.toArray s⟩ ⟨#[c]⟩) ⟨List.toArray s⟩).map (·.data.toList) = splitC c s := h.trans hk
  rw [← h2, List.map_map]
  apply List.map_congr_left
  intro x _
  rfl
theorem countB_one (c : UInt8) (s : Bytes) : Lib.countB ⟨List.toArray s⟩ ⟨#[c]⟩ + 1 = (splitC c s).length := by
  rw [splitC_length]
  exact congrArg (· + 1) (Lib.count_one c s)
end Wf
namespace Wf
open Go Go.RowKit
structure Uri where
  scheme : Bytes
  authority : Bytes
  path : Bytes
  query : Bytes
  fragment : Bytes
  hasScheme : Bool
  hasAuthority : Bool
  hasQuery : Bool
  hasFrag : Bool
  deriving DecidableEq
def Uri.none : Uri := ⟨[], [], [], [], [], false, false, false, false⟩
def Uri.cells (u : Uri) : Array Value := #[strV u.scheme, strV u.authority, strV u.path, strV u.query, strV u.fragment, .bool u.hasScheme, .bool u.hasAuthority, .bool u.hasQuery, .bool u.hasFrag]
def Uri.val (u : Uri) : Value := .agg u.cells
def schemeC (c : UInt8) : Bool := isAlpha c || isDigit c || [43, 45, 46].contains c
def schemeOk (s : Bytes) : Bool := match s with
  | [] => false
  | c :: r => isAlpha c && r.all schemeC
def colonSlash (c : UInt8) : Bool := [58, 47].contains c
/-- The authority and the path of what is behind the scheme. -/
def authPath (s : Bytes) : Bytes × Bool × Bytes := match s with
  | 47 :: 47 :: r => (r.take (pre (· == 47) r), true, r.drop (pre (· == 47) r))
  | s => ([], false, s)
def splitRest (s frag query : Bytes) (hasFrag hasQuery : Bool) : Uri × Int :=
  if (s.drop (pre colonSlash s)).head? = some 58 then
    if schemeOk (s.take (pre colonSlash s)) then
      (⟨s.take (pre colonSlash s), (authPath (s.drop (pre colonSlash s + 1))).1, (authPath (s.drop (pre colonSlash s + 1))).2.2, query, frag, true, (authPath (s.drop (pre colonSlash s + 1))).2.1, hasQuery, hasFrag⟩, 0)
    else (Uri.none, 6)
  else (⟨[], (authPath s).1, (authPath s).2.2, query, frag, false, (authPath s).2.1, hasQuery, hasFrag⟩, 0)
def uriSplit (s : Bytes) : Uri × Int :=
  if 16384 < s.length then (Uri.none, 5)
  else splitRest (cutC 63 (cutC 35 s).1).1 (cutC 35 s).2.1 (cutC 63 (cutC 35 s).1).2.1 (cutC 35 s).2.2 (cutC 63 (cutC 35 s).1).2.2
def uriJoin (u : Uri) : Bytes :=
  (if u.hasScheme then u.scheme ++ [58] else []) ++ (if u.hasAuthority then [47, 47] ++ u.authority else []) ++ u.path ++ (if u.hasQuery then [63] ++ u.query else []) ++ (if u.hasFrag then [35] ++ u.fragment else [])
/-- What stands before the last slash, nothing if there is none. -/
def shorten (out : Bytes) : Bytes := (out.reverse.dropWhile (· != 47)).drop 1 |>.reverse
/-- One step of the removal of dot segments: what is left, what has been put out. -/
def dotStep (path out : Bytes) : Bytes × Bytes :=
  if [46, 46, 47].isPrefixOf path then (path.drop 3, out)
  else if [46, 47].isPrefixOf path then (path.drop 2, out)
  else if [47, 46, 47].isPrefixOf path then (path.drop 2, out)
  else if path = [47, 46] then ([47], out)
  else if [47, 46, 46, 47].isPrefixOf path then (path.drop 3, shorten out)
  else if path = [47, 46, 46] then ([47], shorten out)
  else if path = [46] ∨ path = [46, 46] then ([], out)
  else (path.drop (1 + pre (· == 47) (path.drop 1)), out ++ path.take (1 + pre (· == 47) (path.drop 1)))
def dotsGo : Nat → Bytes → Bytes → Bytes
  | 0, _, out => out
  | f + 1, path, out => if path = [] then out else dotsGo f (dotStep path out).1 (dotStep path out).2
def removeDots (path : Bytes) : Bytes := dotsGo path.length path []
def lastSlash (s : Bytes) : Nat := (s.reverse.dropWhile (· != 47)).length
def uriMerge (base ref : Uri) : Bytes :=
  if ref.path.head? = some 47 then ref.path
  else if base.hasAuthority ∧ base.path = [] then 47 :: ref.path
  else base.path.take (lastSlash base.path) ++ ref.path
def uriResolve (base ref : Uri) : Uri :=
  if ref.hasScheme then { ref with path := removeDots ref.path }
  else if ref.hasAuthority then { ref with path := removeDots ref.path, scheme := base.scheme, hasScheme := base.hasScheme }
  else if ref.path = [] then
    if ref.hasQuery then { ref with path := base.path, scheme := base.scheme, hasScheme := base.hasScheme, authority := base.authority, hasAuthority := base.hasAuthority }
    else { ref with path := base.path, query := base.query, hasQuery := base.hasQuery, scheme := base.scheme, hasScheme := base.hasScheme, authority := base.authority, hasAuthority := base.hasAuthority }
  else { ref with path := removeDots (uriMerge base ref), scheme := base.scheme, hasScheme := base.hasScheme, authority := base.authority, hasAuthority := base.hasAuthority }
end Wf
namespace Wf
open Go Go.RowKit
def unres (c : UInt8) : Bool := isAlpha c || isDigit c || ([45, 46, 95, 126] : Bytes).contains c
/-- The capital hexadecimal digit of a number. -/
def hexU (n : Nat) : UInt8 := if n < 10 then (48 + n).toUInt8 else (55 + n).toUInt8
def esc (c : UInt8) : Bytes := [37, hexU (c.toNat / 16), hexU (c.toNat % 16)]
def unhex (a b : UInt8) : UInt8 := (hexVal a * 16 + hexVal b).toUInt8
/-- The parts of a string with escapes; 'bad' is the last one. -/
inductive PU where
  | lit (c : UInt8) | hex (a b : UInt8) | bad
  deriving DecidableEq
def hexPair : Bytes → Option (UInt8 × UInt8 × Bytes)
  | a :: b :: r => if isHex a && isHex b then some (a, b, r) else none
  | _ => none
theorem hexPair_some {s r : Bytes} {a b : UInt8} (h : hexPair s = some (a, b, r)) : s = a :: b :: r ∧ isHex a = true ∧ isHex b = true := by
  unfold hexPair at h
  split at h
  · split at h
    · rename_i hx
      simp only [Bool.and_eq_true] at hx
      cases h
      exact ⟨rfl, hx⟩
    · cases h
  · cases h
def unitsGo : Nat → Bytes → List PU
  | 0, _ => []
  | _ + 1, [] => []
  | f + 1, c :: r => if c = 37 then (match hexPair r with
      | some (a, b, r) => .hex a b :: unitsGo f r
      | none => [.bad]) else .lit c :: unitsGo f r
def units (s : Bytes) : List PU := unitsGo s.length s
theorem unitsGo_fuel : ∀ (f g : Nat) (s : Bytes), s.length ≤ f → s.length ≤ g → unitsGo f s = unitsGo g s
  | 0, 0, _, _, _ => rfl
  | 0, g + 1, s, h, _ => by obtain rfl := List.length_eq_zero_iff.1 (Nat.le_zero.1 h); rfl
  | f + 1, 0, s, _, h => by obtain rfl := List.length_eq_zero_iff.1 (Nat.le_zero.1 h); rfl
  | f + 1, g + 1, [], _, _ => rfl
  | f + 1, g + 1, c :: r, h, h' => by
    simp only [List.length_cons] at h h'
    rw [unitsGo, unitsGo]
    split
    · cases hp : hexPair r with
      | none => rfl
      | some x =>
        obtain ⟨a, b, r'⟩ := x
        obtain ⟨rfl, -, -⟩ := hexPair_some hp
        simp only [List.length_cons] at h h' ⊢
        rw [unitsGo_fuel f g r' (by omega) (by omega)]
    · rw [unitsGo_fuel f g r (by omega) (by omega)]
theorem units_nil : units [] = [] := rfl
theorem units_lit {c : UInt8} (h : c ≠ 37) (r : Bytes) : units (c :: r) = .lit c :: units r := by
  unfold units; rw [List.length_cons, unitsGo, if_neg h]
theorem units_hex {a b : UInt8} (ha : isHex a = true) (hb : isHex b = true) (r : Bytes) : units (37 :: a :: b :: r) = .hex a b :: units r := by
  unfold units
  rw [List.length_cons, unitsGo, if_pos rfl, show hexPair (a :: b :: r) = some (a, b, r) by simp [hexPair, ha, hb]]
  simp only [List.length_cons]
  rw [unitsGo_fuel _ r.length r (by omega) (Nat.le_refl _)]
theorem units_bad {s : Bytes} (h : hexPair s = none) : units (37 :: s) = [.bad] := by
  unfold units; rw [List.length_cons, unitsGo, if_pos rfl, h]
theorem hexU_hex : ∀ n, n < 16 → isHex (hexU n) = true := by decide
theorem unhex_esc (c : UInt8) : unhex (hexU (c.toNat / 16)) (hexU (c.toNat % 16)) = c := by
  have := all256 (p := fun c => unhex (hexU (c.toNat / 16)) (hexU (c.toNat % 16)) == c) (by decide +kernel) c
  simpa using this
theorem units_esc (c : UInt8) (r : Bytes) : units (esc c ++ r) = .hex (hexU (c.toNat / 16)) (hexU (c.toNat % 16)) :: units r :=
  units_hex (hexU_hex _ (by have := c.toNat_lt; omega)) (hexU_hex _ (by omega)) r
/-- What a part stands for. -/
def PU.val : PU → UInt8
  | .lit c => c
  | .hex a b => unhex a b
  | .bad => 0
def pctDecode (s : Bytes) : Bytes × Int := if 16384 < s.length then ([], 5) else if PU.bad ∈ units s then ([], 2) else ((units s).map PU.val, 0)
def encB (keep : Bytes) (c : UInt8) : Bytes := if unres c || (c != 37 && keep.contains c) then [c] else esc c
def pctEncode (keep s : Bytes) : Bytes := s.flatMap (encB keep)
def keepB (also : Bytes) (c : UInt8) : Bool := unres c || also.contains c
def normB (c : UInt8) : Bytes := if unres c then [c] else esc c
def comb (d : Bytes) (x : Bytes × Int) : Bytes × Int := if x.2 = 0 then (d ++ x.1, 0) else ([], x.2)
def normU (also : Bytes) : List PU → Bytes × Int
  | [] => ([], 0)
  | .bad :: _ => ([], 2)
  | .lit c :: r => if keepB also c then comb [c] (normU also r) else ([], 1)
  | .hex a b :: r => comb (normB (unhex a b)) (normU also r)
def pctNorm (also s : Bytes) : Bytes × Int := if 16384 < s.length then ([], 5) else normU also (units s)
theorem comb_nil (x : Bytes × Int) (h : x.2 ≠ 0 → x.1 = []) : comb [] x = x := by
  obtain ⟨x, e⟩ := x
  unfold comb
  simp only at h ⊢
  split
  · rename_i h0; subst h0; rfl
  · rename_i h0; rw [h h0]
theorem comb_comb (a b : Bytes) (x : Bytes × Int) : comb a (comb b x) = comb (a ++ b) x := by
  unfold comb
  by_cases h : x.2 = 0
  · simp [h]
  · simp [h]
theorem normU_err (also : Bytes) : ∀ l, (normU also l).2 ≠ 0 → (normU also l).1 = []
  | [], h => by simp [normU] at h
  | .bad :: _, _ => rfl
  | .lit c :: r, h => by
    rw [normU] at h ⊢
    split
    · rename_i hk
      rw [if_pos hk] at h
      unfold comb at h ⊢
      split
      · rename_i h0; rw [if_pos h0] at h; simp at h
      · rfl
    · rfl
  | .hex a b :: r, h => by
    rw [normU] at h ⊢
    unfold comb at h ⊢
    split
    · rename_i h0; rw [if_pos h0] at h; simp at h
    · rfl
theorem unres_ne {c : UInt8} (h : unres c = true) : c ≠ 37 := by
  rintro rfl; revert h; decide
/-- The parts of a canonical string. -/
def canU (also : Bytes) : PU → Prop
  | .lit c => keepB also c = true ∧ c ≠ 37
  | .hex a b => unres (unhex a b) = false ∧ a = hexU ((unhex a b).toNat / 16) ∧ b = hexU ((unhex a b).toNat % 16) ∧ isHex a = true ∧ isHex b = true
  | .bad => False
def PU.str : PU → Bytes
  | .lit c => [c]
  | .hex a b => [37, a, b]
  | .bad => []
theorem units_can (also : Bytes) : ∀ (l : List PU), (∀ x ∈ l, canU also x) → units (l.flatMap PU.str) = l
  | [], _ => rfl
  | .lit c :: r, h => by
    have h1 := h _ List.mem_cons_self
    rw [List.flatMap_cons, PU.str, List.singleton_append, units_lit h1.2, units_can also r (fun x hx => h x (List.mem_cons_of_mem _ hx))]
  | .hex a b :: r, h => by
    have h1 := h _ List.mem_cons_self
    rw [List.flatMap_cons, PU.str]
    simp only [List.cons_append, List.nil_append]
    rw [units_hex h1.2.2.2.1 h1.2.2.2.2, units_can also r (fun x hx => h x (List.mem_cons_of_mem _ hx))]
  | .bad :: r, h => (h _ List.mem_cons_self).elim
theorem normU_can (also : Bytes) : ∀ (l : List PU), (∀ x ∈ l, canU also x) → normU also l = (l.flatMap PU.str, 0)
  | [], _ => rfl
  | .lit c :: r, h => by
    have h1 := h _ List.mem_cons_self
    rw [normU, if_pos h1.1, normU_can also r (fun x hx => h x (List.mem_cons_of_mem _ hx))]
    rfl
  | .hex a b :: r, h => by
    have h1 := h _ List.mem_cons_self
    rw [normU, normU_can also r (fun x hx => h x (List.mem_cons_of_mem _ hx))]
    unfold comb normB esc
    simp only [h1.1, ← h1.2.1, ← h1.2.2.1, Bool.false_eq_true, if_false, if_true]
    rfl
  | .bad :: r, h => (h _ List.mem_cons_self).elim
/-- What comes out of the normal form is made of canonical parts. -/
theorem normU_parts (also : Bytes) : ∀ (l : List PU), (∀ c, PU.lit c ∈ l → c ≠ 37) → (normU also l).2 = 0 → ∃ l' : List PU, (normU also l).1 = l'.flatMap PU.str ∧ (∀ x ∈ l', canU also x) ∧ (∀ x ∈ l, x ≠ .bad) ∧ l'.map PU.val = l.map PU.val
  | [], _, _ => ⟨[], rfl, by simp, by simp, rfl⟩
  | .bad :: _, _, h => by simp [normU] at h
  | .lit c :: r, hl, h => by
    rw [normU] at h ⊢
    split at h
    · rename_i hk
      rw [if_pos hk]
      unfold comb at h ⊢
      split at h
      · rename_i h0
        rw [if_pos h0]
        obtain ⟨l', e, h1, h2, h3⟩ := normU_parts also r (fun d hd => hl d (List.mem_cons_of_mem _ hd)) h0
        refine ⟨.lit c :: l', by simp [e, PU.str], ?_, ?_, by simp [h3, PU.val]⟩
        · intro x hx
          simp only [List.mem_cons] at hx
          rcases hx with rfl | hx
          · exact ⟨hk, hl c List.mem_cons_self⟩
          · exact h1 x hx
        · intro x hx
          simp only [List.mem_cons] at hx
          rcases hx with rfl | hx
          · simp
          · exact h2 x hx
      · rename_i h0; exact absurd h h0
    · simp at h
  | .hex a b :: r, hl, h => by
    rw [normU] at h ⊢
    unfold comb at h ⊢
    split at h
    · rename_i h0
      rw [if_pos h0]
      obtain ⟨l', e, h1, h2, h3⟩ := normU_parts also r (fun d hd => hl d (List.mem_cons_of_mem _ hd)) h0
      have hbad : ∀ x ∈ PU.hex a b :: r, x ≠ .bad := fun x hx => by
        simp only [List.mem_cons] at hx
        rcases hx with rfl | hx
        · simp
        · exact h2 x hx
      by_cases hu : unres (unhex a b) = true
      · refine ⟨.lit (unhex a b) :: l', by simp [e, PU.str, normB, hu], ?_, hbad, by simp [h3, PU.val]⟩
        intro x hx
        simp only [List.mem_cons] at hx
        rcases hx with rfl | hx
        · exact ⟨by simp [keepB, hu], unres_ne hu⟩
        · exact h1 x hx
      · have hu' : unres (unhex a b) = false := by simpa using hu
        have hn := (unhex a b).toNat_lt
        have hv := unhex_esc (unhex a b)
        refine ⟨.hex (hexU ((unhex a b).toNat / 16)) (hexU ((unhex a b).toNat % 16)) :: l', by simp [e, PU.str, normB, hu', esc], ?_, hbad, by simp [h3, PU.val, hv]⟩
        intro x hx
        simp only [List.mem_cons] at hx
        rcases hx with rfl | hx
        · exact ⟨by rw [hv]; exact hu', by rw [hv], by rw [hv], hexU_hex _ (by omega), hexU_hex _ (by omega)⟩
        · exact h1 x hx
    · rename_i h0; exact absurd h h0
theorem unitsGo_lit : ∀ (f : Nat) (s : Bytes) (c : UInt8), PU.lit c ∈ unitsGo f s → c ≠ 37
  | 0, _, _, h => by simp [unitsGo] at h
  | _ + 1, [], _, h => by simp [unitsGo] at h
  | f + 1, d :: r, c, h => by
    rw [unitsGo] at h
    split at h
    · split at h
      · simp only [List.mem_cons, reduceCtorEq, false_or] at h
        exact unitsGo_lit f _ c h
      · simp at h
    · rename_i hd
      simp only [List.mem_cons, PU.lit.injEq] at h
      rcases h with rfl | h
      · exact hd
      · exact unitsGo_lit f _ c h
theorem units_litne (s : Bytes) (c : UInt8) (h : PU.lit c ∈ units s) : c ≠ 37 := unitsGo_lit _ s c h
theorem unitsGo_len : ∀ (f : Nat) (s : Bytes), ((unitsGo f s).flatMap PU.str).length ≤ s.length
  | 0, _ => by simp [unitsGo]
  | _ + 1, [] => by simp [unitsGo]
  | f + 1, d :: r => by
    rw [unitsGo]
    split
    · cases hp : hexPair r with
      | none => simp [PU.str]
      | some x =>
        obtain ⟨a, b, r'⟩ := x
        obtain ⟨rfl, -, -⟩ := hexPair_some hp
        have := unitsGo_len f r'
        simp [PU.str] at this ⊢; omega
    · have := unitsGo_len f r
      simp [PU.str] at this ⊢; omega
/-- A canonical string is its own normal form, and not longer than what it came from. -/
theorem normU_len (also : Bytes) : ∀ (l : List PU), (normU also l).1.length ≤ (l.flatMap PU.str).length
  | [] => by simp [normU]
  | .bad :: _ => by simp [normU]
  | .lit c :: r => by
    have := normU_len also r
    rw [normU]
    split
    · unfold comb; split
      · simp [PU.str] at this ⊢; omega
      · simp
    · simp
  | .hex a b :: r => by
    have := normU_len also r
    rw [normU]
    unfold comb normB; split
    · split
      · simp [PU.str] at this ⊢; omega
      · simp [PU.str, esc] at this ⊢; omega
    · simp
theorem pctNorm_len (also s : Bytes) : (pctNorm also s).1.length ≤ s.length := by
  unfold pctNorm
  split
  · simp
  · exact Nat.le_trans (normU_len also _) (unitsGo_len _ s)
theorem pctNorm_err (also s : Bytes) (h : (pctNorm also s).2 ≠ 0) : (pctNorm also s).1 = [] := by
  unfold pctNorm at h ⊢
  split
  · rfl
  · rename_i hl; rw [if_neg hl] at h; exact normU_err also _ h
theorem pctNorm_again (also s : Bytes) (h : (pctNorm also s).2 = 0) : pctNorm also (pctNorm also s).1 = ((pctNorm also s).1, 0) := by
  have hl := pctNorm_len also s
  unfold pctNorm at h hl ⊢
  split at h
  · simp at h
  · rename_i hs
    rw [if_neg hs] at hl ⊢
    obtain ⟨l', e, h1, -, -⟩ := normU_parts also (units s) (units_litne s) h
    rw [if_neg (by omega), e, units_can also l' h1, normU_can also l' h1]
/-- The bytes of a canonical string. -/
theorem pctNorm_bytes (also s : Bytes) (h : (pctNorm also s).2 = 0) : ∀ c ∈ (pctNorm also s).1, keepB also c = true ∨ c = 37 ∨ isHex c = true := by
  unfold pctNorm at h ⊢
  split at h
  · simp at h
  · rename_i hs
    rw [if_neg hs]
    obtain ⟨l', e, h1, -, -⟩ := normU_parts also (units s) (units_litne s) h
    rw [e]
    intro c hc
    obtain ⟨x, hx, hcx⟩ := List.mem_flatMap.1 hc
    have := h1 x hx
    cases x with
    | lit d => simp only [PU.str, List.mem_singleton] at hcx; subst hcx; exact .inl this.1
    | hex a b =>
      simp only [PU.str, List.mem_cons, List.not_mem_nil, or_false] at hcx
      rcases hcx with rfl | rfl | rfl
      · exact .inr (.inl rfl)
      · exact .inr (.inr this.2.2.2.1)
      · exact .inr (.inr this.2.2.2.2)
    | bad => exact this.elim
theorem units_encode (keep : Bytes) : ∀ (s : Bytes), (units (pctEncode keep s)).map PU.val = s ∧ PU.bad ∉ units (pctEncode keep s)
  | [] => ⟨rfl, by simp [pctEncode, units_nil]⟩
  | c :: s => by
    obtain ⟨h1, h2⟩ := units_encode keep s
    have e : pctEncode keep (c :: s) = encB keep c ++ pctEncode keep s := rfl
    rw [e]
    unfold encB
    split
    · rename_i hc
      have hne : c ≠ 37 := by
        rintro rfl
        simp at hc
        exact absurd hc (by decide)
      rw [List.singleton_append, units_lit hne]
      exact ⟨by simp [PU.val, h1], by simpa using h2⟩
    · rw [units_esc]
      exact ⟨by simp [PU.val, h1, unhex_esc], by simpa using h2⟩
theorem pctDecode_encode (keep s : Bytes) (hl : (pctEncode keep s).length ≤ 16384) : pctDecode (pctEncode keep s) = (s, 0) := by
  obtain ⟨h1, h2⟩ := units_encode keep s
  unfold pctDecode
  rw [if_neg (by omega), if_neg h2, h1]
theorem pctEncode_len (keep s : Bytes) : (pctEncode keep s).length ≤ 3 * s.length := by
  induction s with
  | nil => simp [pctEncode]
  | cons c s ih =>
    have e : pctEncode keep (c :: s) = encB keep c ++ pctEncode keep s := rfl
    have : (encB keep c).length ≤ 3 := by unfold encB esc; split <;> simp
    rw [e, List.length_append, List.length_cons]; omega
end Wf
namespace Wf
open Go Go.RowKit
def ldh (c : UInt8) : Bool := isAlpha c || isDigit c || c == 45
def labelOk (s : Bytes) : Bool := !s.isEmpty && decide (s.length ≤ 63) && !(s.head? == some 45) && !(s.getLast? == some 45) && s.all ldh
def nameL : List Bytes → Bool
  | [] => true
  | [x] => labelOk x && !digitsOk x
  | x :: y :: r => labelOk x && nameL (y :: r)
def nameOk (s : Bytes) : Bool := nameL (splitC 46 s)
def octetOk (s : Bytes) : Bool := (numStrict 255 s).2 == 0
def ipv4 (s : Bytes) : Bool := (splitC 46 s).length == 4 && (splitC 46 s).all octetOk
def hostM (s : Bytes) : Bytes × Int :=
  if s.isEmpty then ([], 3) else if 253 < s.length then ([], 5) else if !ipv4 s && !nameOk s then ([], 50) else (lower s, 0)
def portM (s : Bytes) : Int × Int :=
  if (numStrict 65535 s).2 ≠ 0 ∨ (numStrict 65535 s).1 = 0 then (0, 51) else ((numStrict 65535 s).1, 0)
/-- A host with or without a port, out of the host, whether there is a colon, and the port. -/
def hostPortOf (h : Bytes × Int) (colon : Bool) (p : Int × Int) : (Bytes × Int) × Int :=
  if h.2 ≠ 0 then (([], 0), h.2)
  else if colon then if p.2 ≠ 0 then (([], 0), p.2) else ((h.1, if p.1 = 443 then 0 else p.1), 0)
  else ((h.1, 0), 0)
def hostPort (s : Bytes) : (Bytes × Int) × Int := hostPortOf (hostM (cutC 58 s).1) (cutC 58 s).2.2 (portM (cutC 58 s).2.1)
/-- A host and a port, as a text. -/
def hostText (h : Bytes) (p : Int) : Bytes := if p = 0 then h else if p < 0 then h ++ [58, 45] ++ decS p.natAbs else h ++ [58] ++ decS p.natAbs
end Wf
namespace Wf
open Go Go.RowKit
structure Url where
  host : Bytes
  port : Int
  path : Bytes
  query : Bytes
  fragment : Bytes
  hasQuery : Bool
  hasFrag : Bool
  deriving DecidableEq
def Url.none : Url := ⟨[], 0, [], [], [], false, false⟩
/-- "!$&'()*+,;=:@/", and with "?". -/
def inPath : Bytes := [33, 36, 38, 39, 40, 41, 42, 43, 44, 59, 61, 58, 64, 47]
def inQuery : Bytes := [33, 36, 38, 39, 40, 41, 42, 43, 44, 59, 61, 58, 64, 47, 63]
def https : Bytes := [104, 116, 116, 112, 115]
def urlTarget (u : Url) : Bytes := if u.hasQuery then u.path ++ [63] ++ u.query else u.path
def urlText (u : Url) : Bytes := [104, 116, 116, 112, 115, 58, 47, 47] ++ hostText u.host u.port ++ urlTarget u ++ (if u.hasFrag then [35] ++ u.fragment else [])
/-- What is behind the normal forms of path, query and fragment. -/
def urlEnd (h : Bytes × Int) (p q f : Bytes) (hq hf : Bool) : Url × Int :=
  if 4096 < (urlText ⟨h.1, h.2, if removeDots p = [] then [47] else removeDots p, q, f, hq, hf⟩).length then (Url.none, 5)
  else (⟨h.1, h.2, if removeDots p = [] then [47] else removeDots p, q, f, hq, hf⟩, 0)
def urlParts (r : Uri) : Url × Int :=
  if (hostPort r.authority).2 ≠ 0 then (Url.none, (hostPort r.authority).2)
  else if (pctNorm inPath r.path).2 ≠ 0 then (Url.none, (pctNorm inPath r.path).2)
  else if (pctNorm inQuery r.query).2 ≠ 0 then (Url.none, (pctNorm inQuery r.query).2)
  else if (pctNorm inQuery r.fragment).2 ≠ 0 then (Url.none, (pctNorm inQuery r.fragment).2)
  else urlEnd (hostPort r.authority).1 (pctNorm inPath r.path).1 (pctNorm inQuery r.query).1 (pctNorm inQuery r.fragment).1 r.hasQuery r.hasFrag
def urlOf (r : Uri) : Url × Int :=
  if r.hasScheme = false ∨ lower r.scheme ≠ https then (Url.none, 60)
  else if r.hasAuthority = false then (Url.none, 71)
  else if (64 : UInt8) ∈ r.authority then (Url.none, 70)
  else urlParts r
def urlParse (s : Bytes) : Url × Int :=
  if 4096 < s.length then (Url.none, 5)
  else if (uriSplit s).2 ≠ 0 then (Url.none, (uriSplit s).2)
  else urlOf (uriSplit s).1
def urlValid (u : Url) : Bool := decide (urlParse (urlText u) = (u, 0))
def urlRelative (b : Url) (ref : Bytes) : Url × Int :=
  if urlValid b = false then (Url.none, 8)
  else if (uriSplit ref).2 ≠ 0 then (Url.none, (uriSplit ref).2)
  else if lower (uriResolve (uriSplit (urlText b)).1 (uriSplit ref).1).scheme ≠ https then (Url.none, 253)
  else urlParse (uriJoin (uriResolve (uriSplit (urlText b)).1 (uriSplit ref).1))
end Wf
