/- Texts of this claim,laid together: Plain,Small,V,VcN,Perm. -/
import Derived.Lib.IndexMore
import Derived.Lib.Split
import Derived.Lib.SplitLaws
import Derived.Lib.CutLaws
import Derived.Lib.ConvBytes
import Derived.Laws.IdiomStrings
import Derived.Laws.BytesArg
import Derived.Great.BuildSlice
import Derived.Still
import Derived.Test.YtejfjmcjicpodaaGreatDoorD1
/- Plain functions: splitting,URIs,percent-encoding,hosts,URLs. -/
set_option linter.all false
namespace Wf
open Go Go.RowKit
theorem index_one (c : UInt8) (s : Bytes) : Lib.index s [c] = Lib.indexByte s c := by
  induction s with
  | nil => rfl
  | cons b l ih =>
    rw [Lib.index,Lib.indexByte,ih]
    have : [c].isPrefixOf (b :: l) = (b == c) := by simp [List.isPrefixOf]; exact Bool.beq_comm
    rw [this]
def cutC (c : UInt8) (s : Bytes) : Bytes × Bytes × Bool :=
  if pre (· == c) s < s.length then (s.take (pre (· == c) s),s.drop (pre (· == c) s + 1),true) else (s,[],false)
theorem cutC_len (c : UInt8) (s : Bytes) : (cutC c s).1.length ≤ s.length ∧ (cutC c s).2.1.length ≤ s.length := by
  unfold cutC
  split
  · simp; omega
  · simp
theorem cut_one (c : UInt8) (s : Bytes) : Lib.cut s [c] = cutC c s := by
  unfold Lib.cut cutC
  rw [index_one,indexByte_pre]
  by_cases h : pre (· == c) s < s.length
  · simp [h]
  · simp [h]
def splitC (c : UInt8) : Bytes → List Bytes
  | [] => [[]]
  | x :: r => if x == c then [] :: splitC c r else match splitC c r with
    | h :: t => (x :: h) :: t
    | [] => [[x]]
theorem splitC_miss {c : UInt8} {s : Bytes} (h : ¬ pre (· == c) s < s.length) : splitC c s = [s] := by
  induction s with
  | nil => rfl
  | cons x r ih =>
    rw [pre_cons] at h
    rw [splitC]
    cases hx : x == c
    · rw [hx] at h
      simp at h
      rw [ih (by omega)]
      rfl
    · rw [hx] at h; simp at h
theorem splitC_hit {c : UInt8} {s : Bytes} (h : pre (· == c) s < s.length) : splitC c s = s.take (pre (· == c) s) :: splitC c (s.drop (pre (· == c) s + 1)) := by
  induction s with
  | nil => simp at h
  | cons x r ih =>
    rw [pre_cons] at h ⊢
    rw [splitC]
    cases hx : x == c
    · rw [hx] at h
      simp at h
      rw [ih h]
      simp
    · simp
theorem count_pre {c : UInt8} {s : Bytes} (h : pre (· == c) s < s.length) : s.count c = (s.drop (pre (· == c) s + 1)).count c + 1 := by
  induction s with
  | nil => simp at h
  | cons x r ih =>
    rw [pre_cons] at h ⊢
    cases hx : x == c
    · rw [hx] at h
      simp at h
      rw [List.count_cons,hx,ih h]
      simp
    · simp [List.count_cons,hx]
theorem count_zero {c : UInt8} {s : Bytes} (h : ¬ pre (· == c) s < s.length) : s.count c = 0 := by
  induction s with
  | nil => rfl
  | cons x r ih =>
    rw [pre_cons] at h
    cases hx : x == c
    · rw [hx] at h
      simp at h
      rw [List.count_cons,hx,ih (by omega)]; rfl
    · rw [hx] at h; simp at h
theorem splitC_length (c : UInt8) (s : Bytes) : (splitC c s).length = s.count c + 1 := by
  suffices ∀ k,∀ s : Bytes,s.count c = k → (splitC c s).length = k + 1 from this _ s rfl
  intro k
  induction k with
  | zero =>
    intro s h
    by_cases hp : pre (· == c) s < s.length
    · rw [count_pre hp] at h; omega
    · rw [splitC_miss hp]; rfl
  | succ k ih =>
    intro s h
    by_cases hp : pre (· == c) s < s.length
    · rw [splitC_hit hp]
      rw [count_pre hp] at h
      simp [ih _ (by omega : (s.drop (pre (· == c) s + 1)).count c = k)]
    · rw [count_zero hp] at h; omega
theorem splitC_len (c : UInt8) (s : Bytes) : ∀ x ∈ splitC c s,x.length ≤ s.length := by
  suffices ∀ k,∀ s : Bytes,s.count c = k → ∀ x ∈ splitC c s,x.length ≤ s.length from this _ s rfl
  intro k
  induction k with
  | zero =>
    intro s h
    by_cases hp : pre (· == c) s < s.length
    · rw [count_pre hp] at h; omega
    · rw [splitC_miss hp]; simp
  | succ k ih =>
    intro s h
    by_cases hp : pre (· == c) s < s.length
    · rw [splitC_hit hp]
      rw [count_pre hp] at h
      intro x hx
      rcases List.mem_cons.1 hx with rfl | hx
      · simp; omega
      · have := ih _ (by omega : (s.drop (pre (· == c) s + 1)).count c = k) x hx
        simp at this; omega
    · rw [count_zero hp] at h; omega
def strV (l : Bytes) : Value := .string ⟨List.toArray l⟩
end Wf
namespace Wf
open Go Go.RowKit
structure Uri where
  scheme : Bytes
  authority : Bytes
  path : Bytes
  query : Bytes
  fragment : Bytes
  hasScheme : Bool
  hasAuthority : Bool
  hasQuery : Bool
  hasFrag : Bool
  deriving DecidableEq
def Uri.none : Uri := ⟨[],[],[],[],[],false,false,false,false⟩
def Uri.cells (u : Uri) : Array Value := #[strV u.scheme,strV u.authority,strV u.path,strV u.query,strV u.fragment,.bool u.hasScheme,.bool u.hasAuthority,.bool u.hasQuery,.bool u.hasFrag]
def Uri.val (u : Uri) : Value := .agg u.cells
def authPath (s : Bytes) : Bytes × Bool × Bytes := match s with
  | 47 :: 47 :: r => (r.take (pre (· == 47) r),true,r.drop (pre (· == 47) r))
  | s => ([],false,s)
def shorten (out : Bytes) : Bytes := (out.reverse.dropWhile (· != 47)).drop 1 |>.reverse
def dotStep (path out : Bytes) : Bytes × Bytes :=
  if [46,46,47].isPrefixOf path then (path.drop 3,out)
  else if [46,47].isPrefixOf path then (path.drop 2,out)
  else if [47,46,47].isPrefixOf path then (path.drop 2,out)
  else if path = [47,46] then ([47],out)
  else if [47,46,46,47].isPrefixOf path then (path.drop 3,shorten out)
  else if path = [47,46,46] then ([47],shorten out)
  else if path = [46] ∨ path = [46,46] then ([],out)
  else (path.drop (1 + pre (· == 47) (path.drop 1)),out ++ path.take (1 + pre (· == 47) (path.drop 1)))
def dotsGo : Nat → Bytes → Bytes → Bytes
  | 0,_,out => out
  | f + 1,path,out => if path = [] then out else dotsGo f (dotStep path out).1 (dotStep path out).2
def removeDots (path : Bytes) : Bytes := dotsGo path.length path []
end Wf
namespace Wf
open Go Go.RowKit
def unres (c : UInt8) : Bool := isAlpha c || isDigit c || ([45,46,95,126] : Bytes).contains c
def hexU (n : Nat) : UInt8 := if n < 10 then (48 + n).toUInt8 else (55 + n).toUInt8
def esc (c : UInt8) : Bytes := [37,hexU (c.toNat / 16),hexU (c.toNat % 16)]
def unhex (a b : UInt8) : UInt8 := (hexVal a * 16 + hexVal b).toUInt8
inductive PU where
  | lit (c : UInt8) | hex (a b : UInt8) | bad
  deriving DecidableEq
def hexPair : Bytes → Option (UInt8 × UInt8 × Bytes)
  | a :: b :: r => if isHex a && isHex b then some (a,b,r) else none
  | _ => none
theorem hexPair_some {s r : Bytes} {a b : UInt8} (h : hexPair s = some (a,b,r)) : s = a :: b :: r ∧ isHex a = true ∧ isHex b = true := by
  unfold hexPair at h
  split at h
  · split at h
    · rename_i hx
      simp only [Bool.and_eq_true] at hx
      cases h
      exact ⟨rfl,hx⟩
    · cases h
  · cases h
def unitsGo : Nat → Bytes → List PU
  | 0,_ => []
  | _ + 1,[] => []
  | f + 1,c :: r => if c = 37 then (match hexPair r with
      | some (a,b,r) => .hex a b :: unitsGo f r
      | none => [.bad]) else .lit c :: unitsGo f r
def units (s : Bytes) : List PU := unitsGo s.length s
theorem unitsGo_fuel : ∀ (f g : Nat) (s : Bytes),s.length ≤ f → s.length ≤ g → unitsGo f s = unitsGo g s
  | 0,0,_,_,_ => rfl
  | 0,g + 1,s,h,_ => by obtain rfl := List.length_eq_zero_iff.1 (Nat.le_zero.1 h); rfl
  | f + 1,0,s,_,h => by obtain rfl := List.length_eq_zero_iff.1 (Nat.le_zero.1 h); rfl
  | f + 1,g + 1,[],_,_ => rfl
  | f + 1,g + 1,c :: r,h,h' => by
    simp only [List.length_cons] at h h'
    rw [unitsGo,unitsGo]
    split
    · cases hp : hexPair r with
      | none => rfl
      | some x =>
        obtain ⟨a,b,r'⟩ := x
        obtain ⟨rfl,-,-⟩ := hexPair_some hp
        simp only [List.length_cons] at h h' ⊢
        rw [unitsGo_fuel f g r' (by omega) (by omega)]
    · rw [unitsGo_fuel f g r (by omega) (by omega)]
theorem units_nil : units [] = [] := rfl
theorem units_lit {c : UInt8} (h : c ≠ 37) (r : Bytes) : units (c :: r) = .lit c :: units r := by
  unfold units; rw [List.length_cons,unitsGo,if_neg h]
theorem units_hex {a b : UInt8} (ha : isHex a = true) (hb : isHex b = true) (r : Bytes) : units (37 :: a :: b :: r) = .hex a b :: units r := by
  unfold units
  rw [List.length_cons,unitsGo,if_pos rfl,show hexPair (a :: b :: r) = some (a,b,r) by simp [hexPair,ha,hb]]
  simp only [List.length_cons]
  rw [unitsGo_fuel _ r.length r (by omega) (Nat.le_refl _)]
theorem units_bad {s : Bytes} (h : hexPair s = none) : units (37 :: s) = [.bad] := by
  unfold units; rw [List.length_cons,unitsGo,if_pos rfl,h]
theorem hexU_hex : ∀ n,n < 16 → isHex (hexU n) = true := by decide
theorem unhex_esc (c : UInt8) : unhex (hexU (c.toNat / 16)) (hexU (c.toNat % 16)) = c := by
  have := all256 (p := fun c => unhex (hexU (c.toNat / 16)) (hexU (c.toNat % 16)) == c) (by decide +kernel) c
  simpa using this
def PU.val : PU → UInt8
  | .lit c => c
  | .hex a b => unhex a b
  | .bad => 0
def pctDecode (s : Bytes) : Bytes × Int := if 16384 < s.length then ([],5) else if PU.bad ∈ units s then ([],2) else ((units s).map PU.val,0)
def keepB (also : Bytes) (c : UInt8) : Bool := unres c || also.contains c
def normB (c : UInt8) : Bytes := if unres c then [c] else esc c
def comb (d : Bytes) (x : Bytes × Int) : Bytes × Int := if x.2 = 0 then (d ++ x.1,0) else ([],x.2)
def normU (also : Bytes) : List PU → Bytes × Int
  | [] => ([],0)
  | .bad :: _ => ([],2)
  | .lit c :: r => if keepB also c then comb [c] (normU also r) else ([],1)
  | .hex a b :: r => comb (normB (unhex a b)) (normU also r)
def pctNorm (also s : Bytes) : Bytes × Int := if 16384 < s.length then ([],5) else normU also (units s)
theorem comb_nil (x : Bytes × Int) (h : x.2 ≠ 0 → x.1 = []) : comb [] x = x := by
  obtain ⟨x,e⟩ := x
  unfold comb
  simp only at h ⊢
  split
  · rename_i h0; subst h0; rfl
  · rename_i h0; rw [h h0]
theorem comb_comb (a b : Bytes) (x : Bytes × Int) : comb a (comb b x) = comb (a ++ b) x := by
  unfold comb
  by_cases h : x.2 = 0
  · simp [h]
  · simp [h]
theorem normU_err (also : Bytes) : ∀ l,(normU also l).2 ≠ 0 → (normU also l).1 = []
  | [],h => by simp [normU] at h
  | .bad :: _,_ => rfl
  | .lit c :: r,h => by
    rw [normU] at h ⊢
    split
    · rename_i hk
      rw [if_pos hk] at h
      unfold comb at h ⊢
      split
      · rename_i h0; rw [if_pos h0] at h; simp at h
      · rfl
    · rfl
  | .hex a b :: r,h => by
    rw [normU] at h ⊢
    unfold comb at h ⊢
    split
    · rename_i h0; rw [if_pos h0] at h; simp at h
    · rfl
theorem unres_ne {c : UInt8} (h : unres c = true) : c ≠ 37 := by
  rintro rfl; revert h; decide
def canU (also : Bytes) : PU → Prop
  | .lit c => keepB also c = true ∧ c ≠ 37
  | .hex a b => unres (unhex a b) = false ∧ a = hexU ((unhex a b).toNat / 16) ∧ b = hexU ((unhex a b).toNat % 16) ∧ isHex a = true ∧ isHex b = true
  | .bad => False
def PU.str : PU → Bytes
  | .lit c => [c]
  | .hex a b => [37,a,b]
  | .bad => []
theorem units_can (also : Bytes) : ∀ (l : List PU),(∀ x ∈ l,canU also x) → units (l.flatMap PU.str) = l
  | [],_ => rfl
  | .lit c :: r,h => by
    have h1 := h _ List.mem_cons_self
    rw [List.flatMap_cons,PU.str,List.singleton_append,units_lit h1.2,units_can also r (fun x hx => h x (List.mem_cons_of_mem _ hx))]
  | .hex a b :: r,h => by
    have h1 := h _ List.mem_cons_self
    rw [List.flatMap_cons,PU.str]
    simp only [List.cons_append,List.nil_append]
    rw [units_hex h1.2.2.2.1 h1.2.2.2.2,units_can also r (fun x hx => h x (List.mem_cons_of_mem _ hx))]
  | .bad :: r,h => (h _ List.mem_cons_self).elim
theorem normU_can (also : Bytes) : ∀ (l : List PU),(∀ x ∈ l,canU also x) → normU also l = (l.flatMap PU.str,0)
  | [],_ => rfl
  | .lit c :: r,h => by
    have h1 := h _ List.mem_cons_self
    rw [normU,if_pos h1.1,normU_can also r (fun x hx => h x (List.mem_cons_of_mem _ hx))]
    rfl
  | .hex a b :: r,h => by
    have h1 := h _ List.mem_cons_self
    rw [normU,normU_can also r (fun x hx => h x (List.mem_cons_of_mem _ hx))]
    unfold comb normB esc
    simp only [h1.1,← h1.2.1,← h1.2.2.1,Bool.false_eq_true,if_false,if_true]
    rfl
  | .bad :: r,h => (h _ List.mem_cons_self).elim
theorem normU_parts (also : Bytes) : ∀ (l : List PU),(∀ c,PU.lit c ∈ l → c ≠ 37) → (normU also l).2 = 0 → ∃ l' : List PU,(normU also l).1 = l'.flatMap PU.str ∧ (∀ x ∈ l',canU also x) ∧ (∀ x ∈ l,x ≠ .bad) ∧ l'.map PU.val = l.map PU.val
  | [],_,_ => ⟨[],rfl,by simp,by simp,rfl⟩
  | .bad :: _,_,h => by simp [normU] at h
  | .lit c :: r,hl,h => by
    rw [normU] at h ⊢
    split at h
    · rename_i hk
      rw [if_pos hk]
      unfold comb at h ⊢
      split at h
      · rename_i h0
        rw [if_pos h0]
        obtain ⟨l',e,h1,h2,h3⟩ := normU_parts also r (fun d hd => hl d (List.mem_cons_of_mem _ hd)) h0
        refine ⟨.lit c :: l',by simp [e,PU.str],?_,?_,by simp [h3,PU.val]⟩
        · intro x hx
          simp only [List.mem_cons] at hx
          rcases hx with rfl | hx
          · exact ⟨hk,hl c List.mem_cons_self⟩
          · exact h1 x hx
        · intro x hx
          simp only [List.mem_cons] at hx
          rcases hx with rfl | hx
          · simp
          · exact h2 x hx
      · rename_i h0; exact absurd h h0
    · simp at h
  | .hex a b :: r,hl,h => by
    rw [normU] at h ⊢
    unfold comb at h ⊢
    split at h
    · rename_i h0
      rw [if_pos h0]
      obtain ⟨l',e,h1,h2,h3⟩ := normU_parts also r (fun d hd => hl d (List.mem_cons_of_mem _ hd)) h0
      have hbad : ∀ x ∈ PU.hex a b :: r,x ≠ .bad := fun x hx => by
        simp only [List.mem_cons] at hx
        rcases hx with rfl | hx
        · simp
        · exact h2 x hx
      by_cases hu : unres (unhex a b) = true
      · refine ⟨.lit (unhex a b) :: l',by simp [e,PU.str,normB,hu],?_,hbad,by simp [h3,PU.val]⟩
        intro x hx
        simp only [List.mem_cons] at hx
        rcases hx with rfl | hx
        · exact ⟨by simp [keepB,hu],unres_ne hu⟩
        · exact h1 x hx
      · have hu' : unres (unhex a b) = false := by simpa using hu
        have hn := (unhex a b).toNat_lt
        have hv := unhex_esc (unhex a b)
        refine ⟨.hex (hexU ((unhex a b).toNat / 16)) (hexU ((unhex a b).toNat % 16)) :: l',by simp [e,PU.str,normB,hu',esc],?_,hbad,by simp [h3,PU.val,hv]⟩
        intro x hx
        simp only [List.mem_cons] at hx
        rcases hx with rfl | hx
        · exact ⟨by rw [hv]; exact hu',by rw [hv],by rw [hv],hexU_hex _ (by omega),hexU_hex _ (by omega)⟩
        · exact h1 x hx
    · rename_i h0; exact absurd h h0
theorem unitsGo_lit : ∀ (f : Nat) (s : Bytes) (c : UInt8),PU.lit c ∈ unitsGo f s → c ≠ 37
  | 0,_,_,h => by simp [unitsGo] at h
  | _ + 1,[],_,h => by simp [unitsGo] at h
  | f + 1,d :: r,c,h => by
    rw [unitsGo] at h
    split at h
    · split at h
      · simp only [List.mem_cons,reduceCtorEq,false_or] at h
        exact unitsGo_lit f _ c h
      · simp at h
    · rename_i hd
      simp only [List.mem_cons,PU.lit.injEq] at h
      rcases h with rfl | h
      · exact hd
      · exact unitsGo_lit f _ c h
theorem units_litne (s : Bytes) (c : UInt8) (h : PU.lit c ∈ units s) : c ≠ 37 := unitsGo_lit _ s c h
theorem unitsGo_len : ∀ (f : Nat) (s : Bytes),((unitsGo f s).flatMap PU.str).length ≤ s.length
  | 0,_ => by simp [unitsGo]
  | _ + 1,[] => by simp [unitsGo]
  | f + 1,d :: r => by
    rw [unitsGo]
    split
    · cases hp : hexPair r with
      | none => simp [PU.str]
      | some x =>
        obtain ⟨a,b,r'⟩ := x
        obtain ⟨rfl,-,-⟩ := hexPair_some hp
        have := unitsGo_len f r'
        simp [PU.str] at this ⊢; omega
    · have := unitsGo_len f r
      simp [PU.str] at this ⊢; omega
theorem normU_len (also : Bytes) : ∀ (l : List PU),(normU also l).1.length ≤ (l.flatMap PU.str).length
  | [] => by simp [normU]
  | .bad :: _ => by simp [normU]
  | .lit c :: r => by
    have := normU_len also r
    rw [normU]
    split
    · unfold comb; split
      · simp [PU.str] at this ⊢; omega
      · simp
    · simp
  | .hex a b :: r => by
    have := normU_len also r
    rw [normU]
    unfold comb normB; split
    · split
      · simp [PU.str] at this ⊢; omega
      · simp [PU.str,esc] at this ⊢; omega
    · simp
theorem pctNorm_len (also s : Bytes) : (pctNorm also s).1.length ≤ s.length := by
  unfold pctNorm
  split
  · simp
  · exact Nat.le_trans (normU_len also _) (unitsGo_len _ s)
end Wf
namespace Wf
open Go Go.RowKit
def ldh (c : UInt8) : Bool := isAlpha c || isDigit c || c == 45
def labelOk (s : Bytes) : Bool := !s.isEmpty && decide (s.length ≤ 63) && !(s.head? == some 45) && !(s.getLast? == some 45) && s.all ldh
def nameL : List Bytes → Bool
  | [] => true
  | [x] => labelOk x && !digitsOk x
  | x :: y :: r => labelOk x && nameL (y :: r)
def nameOk (s : Bytes) : Bool := nameL (splitC 46 s)
def octetOk (s : Bytes) : Bool := (numStrict 255 s).2 == 0
def ipv4 (s : Bytes) : Bool := (splitC 46 s).length == 4 && (splitC 46 s).all octetOk
def hostM (s : Bytes) : Bytes × Int :=
  if s.isEmpty then ([],3) else if 253 < s.length then ([],5) else if !ipv4 s && !nameOk s then ([],50) else (lower s,0)
def portM (s : Bytes) : Int × Int :=
  if (numStrict 65535 s).2 ≠ 0 ∨ (numStrict 65535 s).1 = 0 then (0,51) else ((numStrict 65535 s).1,0)
def hostPortOf (h : Bytes × Int) (colon : Bool) (p : Int × Int) : (Bytes × Int) × Int :=
  if h.2 ≠ 0 then (([],0),h.2)
  else if colon then if p.2 ≠ 0 then (([],0),p.2) else ((h.1,if p.1 = 443 then 0 else p.1),0)
  else ((h.1,0),0)
def hostPort (s : Bytes) : (Bytes × Int) × Int := hostPortOf (hostM (cutC 58 s).1) (cutC 58 s).2.2 (portM (cutC 58 s).2.1)
def hostText (h : Bytes) (p : Int) : Bytes := if p = 0 then h else if p < 0 then h ++ [58,45] ++ decS p.natAbs else h ++ [58] ++ decS p.natAbs
end Wf
namespace Wf
open Go Go.RowKit
structure Url where
  host : Bytes
  port : Int
  path : Bytes
  query : Bytes
  fragment : Bytes
  hasQuery : Bool
  hasFrag : Bool
  deriving DecidableEq
def Url.none : Url := ⟨[],0,[],[],[],false,false⟩
def inPath : Bytes := [33,36,38,39,40,41,42,43,44,59,61,58,64,47]
def inQuery : Bytes := [33,36,38,39,40,41,42,43,44,59,61,58,64,47,63]
def urlTarget (u : Url) : Bytes := if u.hasQuery then u.path ++ [63] ++ u.query else u.path
def urlText (u : Url) : Bytes := [104,116,116,112,115,58,47,47] ++ hostText u.host u.port ++ urlTarget u ++ (if u.hasFrag then [35] ++ u.fragment else [])
end Wf
/- Contracts of the library on builders and strings. -/
set_option linter.all false
namespace Go.Proofs
open Go.Shelf Go.RowKit
end Go.Proofs
namespace Go.Proofs.YtejfjmcjicpodaaGreatDoor
open Go.RowKit Wf
structure Fr (own : Nat → Prop) (w w' : World) : Prop where
  os : w'.os = w.os
  tape : w'.tape = w.tape
  output : w'.output = w.output
  size : w.heap.size ≤ w'.heap.size
  block : ∀ k,k < w.heap.size → ¬ own k → w'.heap[k]? = w.heap[k]?

theorem Fr.of_below {own : Nat → Prop} {B : Nat} {w w' : World} (h : Below B w w') (ho : ∀ k,B ≤ k → k < w.heap.size → own k) : Fr own w w' :=
  ⟨h.os,h.tape,h.output,h.size,fun k hk hn => h.block k (by
    rcases Nat.lt_or_ge k B with h' | h'
    · exact h'
    · exact absurd (ho k h' hk) hn)⟩

theorem Fr.trans {own : Nat → Prop} {a b c : World} (h : Fr own a b) (k : Fr own b c) : Fr own a c :=
  ⟨k.os.trans h.os,k.tape.trans h.tape,k.output.trans h.output,Nat.le_trans h.size k.size,fun i hi hn => (k.block i (by have := h.size; omega) hn).trans (h.block i hi hn)⟩
theorem Fr.setCell {own : Nat → Prop} {a w : World} (h : Fr own a w) {b o : Nat} (hb : own b) (v : Value) : Fr own a (w.setCell ⟨b,o,none⟩ v) :=
  h.trans ⟨rfl,rfl,rfl,by simp [World.setCell],fun k _ hn => Below.heap_setCell _ _ _ _ (by rintro rfl; exact hn hb)⟩
theorem heap_set {w : World} {b o : Nat} {cs : Array Value} {T : TypeId} {fz : Nat × Nat} (h : w.heap[b]? = some (.cells cs T fz)) (v : Value) : (w.setCell ⟨b,o,none⟩ v).heap[b]? = some (.cells (cs.setIfInBounds o v) T fz) := by
  simp [World.setCell,Array.getElem?_modify,h]
def Bld (b : Nat) (l : Bytes) (w : World) : Prop := Lib.IsBuilderF 138 5 b b (Lib.byteCells l) w

theorem Bld.lt {b : Nat} {l : Bytes} {w : World} (h : Bld b l w) : b < w.heap.size := by
  have : ∀ p,Lib.BuilderAtF 138 5 b b p (Lib.byteCells l) w → b < w.heap.size := by
    rintro p ⟨_,v,hb,_⟩
    rcases Nat.lt_or_ge b w.heap.size with h' | h'
    · exact h'
    · simp [Array.getElem?_eq_none h'] at hb
  rcases h with h | h <;> exact this _ h

end Go.Proofs.YtejfjmcjicpodaaGreatDoor
namespace Go.Proofs.YtejfjmcjicpodaaGreatDoor
open Go.RowKit Wf
def Env (w : World) : Prop := ∃ m,w.cell? ⟨0,0,none⟩ = some (.int .i64 m)
theorem Env.lt {w : World} (h : Env w) : 0 < w.heap.size := by
  obtain ⟨m,hm⟩ := h
  unfold World.cell? at hm
  rcases Nat.lt_or_ge 0 w.heap.size with h' | h'
  · exact h'
  · simp [Array.getElem?_eq_none h'] at hm
theorem s_IndexByte (l : Bytes) (c : UInt8) (w : World) :
    Calls Tryz.prog 99 #[(Value.string ⟨List.toArray (l)⟩),.int .u8 c.toNat] w fun e w' => e = .returned (.int .i64 (Lib.indexByte l c)) ∧ w = w' := by
  refine (Tryz.strings_IndexByte ⟨List.toArray l⟩ c.toNat w).mono ?_
  rintro e w' ⟨rfl,rfl⟩
  exact ⟨by rw [show ((c.toNat : Int)).toNat.toUInt8 = c from by simp],rfl⟩
theorem s_HasPrefix (l p : Bytes) (w : World) :
    Calls Tryz.prog 97 #[(Value.string ⟨List.toArray (l)⟩),(Value.string ⟨List.toArray (p)⟩)] w fun e w' => e = .returned (.bool (Lib.hasPrefix l p)) ∧ w = w' := by
  refine (Tryz.strings_HasPrefix ⟨List.toArray l⟩ ⟨List.toArray p⟩ w).mono ?_
  rintro e w' ⟨rfl,rfl⟩
  exact ⟨rfl,rfl⟩
theorem s_CutPrefix (l p : Bytes) (w : World) :
    Calls Tryz.prog 60 #[(Value.string ⟨List.toArray (l)⟩),(Value.string ⟨List.toArray (p)⟩)] w fun e w' => e = .returned (.tuple #[(Value.string ⟨List.toArray (Lib.trimPrefix l p)⟩),.bool (Lib.hasPrefix l p)]) ∧ w = w' := by
  refine (Tryz.strings_CutPrefix ⟨List.toArray l⟩ ⟨List.toArray p⟩ w).mono ?_
  rintro e w' ⟨rfl,rfl⟩
  exact ⟨rfl,rfl⟩
theorem s_Cut (l : Bytes) (c : UInt8) (w : World) (hE : Env w) (hl : l.length < 4294967281) :
    Calls Tryz.prog 61 #[(Value.string ⟨List.toArray (l)⟩),(Value.string ⟨List.toArray ([c])⟩)] w fun e w' => e = .returned (.tuple #[(Value.string ⟨List.toArray ((cutC c l).1)⟩),(Value.string ⟨List.toArray ((cutC c l).2.1)⟩),.bool (cutC c l).2.2]) ∧ ∃ n,w' = w.drewN n := by
  obtain ⟨m,hm⟩ := hE
  refine (Tryz.strings_Cut ⟨List.toArray l⟩ ⟨#[c]⟩ m w hl hm).mono ?_
  rintro e w' ⟨rfl,hw⟩
  have := cut_one c l
  exact ⟨by rw [← this],hw⟩
end Go.Proofs.YtejfjmcjicpodaaGreatDoor
/- The calculus of conditions at this program. -/
set_option linter.all false
namespace Go.Proofs
open Go Vc Go.Proofs.YtejfjmcjicpodaaGreatDoor
noncomputable def Tryz.V : Vc.Cx where
  P := Tryz.prog
  Γ := Tryz.Γ
  E := Env
  G := 0 + 1
  esize := fun _ h => h.lt
  estays := fun w _ ⟨m,hm⟩ hk _ => ⟨m,(World.cell?_of_block (w := w) (hk _ (Nat.lt_succ_self _))).trans hm⟩
  gok := Tryz.gok
  mixed := by kernel_rfl
  M := fun _ _ => none
  mok := fun _ _ _ h => by cases h
theorem Tryz.VΓ : Tryz.V.Γ = Tryz.Γ := rfl
end Go.Proofs
/- A calculus of conditions: slices of the call's own. -/
set_option linter.all false
namespace Vc
open Go Go.RowKit Wf
def u8S (b : UInt8) : SV := .int .u8 b.toNat
def isU8 : SV → Bool
  | .int .u8 n => decide (0 ≤ n ∧ n < 256)
  | _ => false
def unU8 : SV → UInt8
  | .int _ n => n.toNat.toUInt8
  | _ => 0
theorem unU8_map (l : Bytes) : (l.map u8S).map unU8 = l := by
  rw [List.map_map]
  conv => rhs; rw [← List.map_id l]
  apply List.map_congr_left
  intro b _
  simp [u8S,unU8]
theorem isU8_map (l : Bytes) : (l.map u8S).all isU8 = true := by
  rw [List.all_map,List.all_eq_true]
  intro b _
  have := b.toNat_lt
  simp [u8S,isU8]
  omega
theorem conc_unU8 (β : Nat → Bt) {x : SV} (h : isU8 x = true) : conc β x = .int .u8 (unU8 x).toNat := by
  unfold isU8 at h
  split at h
  · rename_i n
    simp only [decide_eq_true_eq] at h
    simp only [conc,unU8]
    congr 1
    simp
    omega
  · cases h
def srcS (bs : List Res) (s : Nat) : SV → Option (Nat × List SV)
  | .nils => some (0,[])
  | .str l => if s = 1 then some (l.length,l.map u8S) else none
  | .o j m => match bs[j]? with
    | some (.own c _ s' n _) => if s' = s ∧ n = m then some (m,c) else none
    | _ => none
  | _ => none
def dstS (bs : List Res) (e s : Nat) : SV → Option (Nat × List SV × List Res)
  | .nils => some (0,[],bs)
  | .o j m => match bs[j]? with
    | some (.own c e' s' n true) => if e' = e ∧ s' = s ∧ n = m then some (m,c,bs.set j .gone) else none
    | _ => none
  | .f j m => match bs[j]? with
    | some (.own c e' s' n _) => if e' = e ∧ s' = s ∧ n = m then some (m,c,bs) else none
    | _ => none
  | _ => none
def capB : SV → Bool
  | .f _ _ => true
  | _ => false
def XP : Kd → Bool
  | .str => true
  | .slice _ => true
  | _ => false
def Xm (V : Cx) (dst : Option Tmp) (args : List Operand) (ts : List TypeId) (σ : St) : Option (Prop × St) := match args with
  | [s,x] => match ts with
    | [t,u] => match kd V.Γ t with
      | some (.slice e) => match kd V.Γ u with
        | some ku => match V.Γ e with
          | some ti => match ev σ.t s with
            | some s => match ev σ.t x with
              | some x => match dstS σ.b e ti.size s with
                | some (n,c,bs) => match srcS σ.b ti.size x with
                  | some (m,xs) => some ((capB s = true → 0 < m) ∧ XP ku = true ∧ 0 < ti.size ∧ xs.all one = true ∧ n + m ≤ maxLen ∧ (n + m) * ti.bytes ≤ 140737488355328,⟨put dst (.o σ.b.length (n + m)) σ.t,bs ++ [.own (c ++ xs) e ti.size (n + m) true]⟩)
                  | none => none
                | none => none
              | none => none
            | none => none
          | none => none
        | none => none
      | _ => none
    | _ => none
  | _ => none
def repS (z : List SV) : Nat → List SV
  | 0 => []
  | n + 1 => z ++ repS z n
def Yn (V : Cx) (dst : Option Tmp) (t : TypeId) (l c : Operand) (σ : St) : Option (Prop × St) := match kd V.Γ t with
  | some (.slice e) => match V.Γ e with
    | some ti => match ev σ.t l with
      | some (.int _ l) => match ev σ.t c with
        | some (.int _ c) => some (0 ≤ l ∧ l ≤ c ∧ (ti.bytes : Int) * c ≤ 281474976710656 ∧ c ≤ 9223372036854775807 ∧ 0 < ti.size,⟨put dst (.o σ.b.length l.toNat) σ.t,σ.b ++ [.own (repS ti.zero l.toNat) e ti.size l.toNat true]⟩)
        | _ => none
      | _ => none
    | none => none
  | _ => none
def Yi (s : Nat) : Nat → List (Nat × SV) → Option (List SV)
  | _,[] => some []
  | k,(i,x) :: r => if i = k ∧ isV x = false ∧ (cells x).length = s then match Yi s (k + 1) r with
      | some c => some (cells x ++ c)
      | none => none
    else none
def Xa (V : Cx) (dst : Option Tmp) (t : TypeId) (n : Nat) (ps : List (Nat × Operand)) (σ : St) : Option (Prop × St) := match kd V.Γ t with
  | some (.slice e) => match V.Γ e with
    | some ti => match Xl σ.t ps with
      | some ps => match Yi ti.size 0 ps with
        | some c => some (ps.length = n ∧ n * ti.size ≤ 16777216 ∧ 0 < ti.size,⟨put dst (.o σ.b.length n) σ.t,σ.b ++ [.own c e ti.size n true]⟩)
        | none => none
      | none => none
    | none => none
  | _ => none
def Ym (bs : List Res) (k : Int) : SV → Option (Prop × SV)
  | .o i n => match bs[i]? with
    | some (.own _ _ s n' _) => some (n' = n ∧ 0 < s ∧ 0 ≤ k ∧ k < n,.p i (k.toNat * s))
    | _ => none
  | _ => none
def Xc (V : Cx) (dst : Option Tmp) (t : TypeId) (x i : Operand) (σ : St) : Option (Prop × St) := match kd V.Γ t with
  | some (.slice e) => match sz V.Γ e with
    | some s => match ev σ.t x with
      | some x => match ev σ.t i with
        | some (.int _ k) => match Ym σ.b k x with
          | some (c,y) => some (c ∧ sizeIs σ.b x s,⟨put dst y σ.t,σ.b⟩)
          | none => none
        | _ => none
      | none => none
    | none => none
  | _ => none
where sizeIs (bs : List Res) (x : SV) (s : Nat) : Prop := match x with
  | .o i _ => match bs[i]? with
    | some (.own _ _ s' _ _) => s' = s
    | _ => False
  | _ => False
def reS (bs : List Res) (lo hi : Option SV) : SV → Option (Prop × Nat × List Res)
  | .o i n => match bs[i]? with
    | some (.own c e s n' m) => match bnds n lo hi with
      | some (k,f,u) => match lo with
        | none => match m with
          | true => some (k ∧ n' = n ∧ 0 < s,u,bs.set i .gone ++ [.own (c.take (u * s)) e s u true])
          | false => some (k ∧ n' = n ∧ 0 < s,u,bs ++ [.own (c.take (u * s)) e s u false])
        | some _ => some (k ∧ n' = n ∧ 0 < s,u - f,bs.set i (.own c e s n' false) ++ [.own ((c.take (u * s)).drop (f * s)) e s (u - f) false])
      | none => none
    | _ => none
  | _ => none
def Xj (V : Cx) (dst : Option Tmp) (t : TypeId) (x : Operand) (lo hi : Option Operand) (σ : St) : Option (Prop × St) := match kd V.Γ t with
  | some (.slice e) => match sz V.Γ e with
    | some s => match ev σ.t x with
      | some x => match optE σ.t lo with
        | some lo => match optE σ.t hi with
          | some hi => match reS σ.b lo hi x with
            | some (c,n,bs) => some (c ∧ Xc.sizeIs σ.b x s,⟨put dst (.o σ.b.length n) σ.t,bs⟩)
            | none => none
          | none => none
        | none => none
      | none => none
    | none => none
  | _ => none
def capS (bs : List Res) (s : Nat) (hi mx : Int) : SV → Option (Prop × SV)
  | .o i n => match bs[i]? with
    | some (.own _ _ s' n' _) => some (n' = n ∧ s' = s ∧ hi = (n : Int) ∧ mx = (n : Int),.f i n)
    | _ => none
  | .nils => some (hi = 0 ∧ mx = 0,.nils)
  | _ => none
def nCap (V : Cx) (dst : Option Tmp) (t : TypeId) (x hi mx : Operand) (σ : St) : Option (Prop × St) := match kd V.Γ t with
  | some (.slice e) => match sz V.Γ e with
    | some s => match ev σ.t x with
      | some x => match ev σ.t hi with
        | some (.int _ hi) => match ev σ.t mx with
          | some (.int _ mx) => match capS σ.b s hi mx x with
            | some (c,y) => some (c,⟨put dst y σ.t,σ.b⟩)
            | none => none
          | _ => none
        | _ => none
      | none => none
    | none => none
  | _ => none
def Yb (V : Cx) (dst : Option Tmp) (src d : TypeId) (x : Operand) (σ : St) : Option (Prop × St) := match kd V.Γ src with
  | some .str => match kd V.Γ d with
    | some (.slice e) => match kd V.Γ e with
      | some (.int .u8) => match ev σ.t x with
        | some (.str l) => some (l.length ≤ maxLen,⟨put dst (.o σ.b.length l.length) σ.t,σ.b ++ [.own (l.map u8S) e 1 l.length true]⟩)
        | _ => none
      | _ => none
    | _ => none
  | some (.slice e) => match kd V.Γ d with
    | some .str => match kd V.Γ e with
      | some (.int .u8) => match ev σ.t x with
        | some .nils => some (True,⟨put dst (.str []) σ.t,σ.b⟩)
        | some (.o i n) => match σ.b[i]? with
          | some (.own c _ s n' _) => some (n' = n ∧ s = 1 ∧ c.all isU8 = true,⟨put dst (.str (c.map unU8)) σ.t,σ.b⟩)
          | _ => none
        | _ => none
      | _ => none
    | _ => none
  | _ => none
def mmS (min : Bool) : SV → SV → Option SV
  | .int k x,.int _ y => some (.int k (if min then (if y < x then y else x) else (if x < y then y else x)))
  | _,_ => none
def Xq (min : Bool) (dst : Option Tmp) (args : List Operand) (σ : St) : Option (Prop × St) := match args with
  | [x,y] => match ev σ.t x with
    | some x => match ev σ.t y with
      | some y => (mmS min x y).map fun z => (True,⟨put dst z σ.t,σ.b⟩)
      | none => none
    | none => none
  | _ => none
def Yl (V : Cx) (dst : Option Tmp) : Op → St → Option (Prop × St)
  | .call ⟨.builtin .append,args,ts⟩,σ => Xm V dst args.toList ts.toList σ
  | .call ⟨.builtin .min,args,_⟩,σ => Xq true dst args.toList σ
  | .call ⟨.builtin .max,args,_⟩,σ => Xq false dst args.toList σ
  | .makeSlice t l c,σ => Yn V dst t l c σ
  | .buildSlice t n ps,σ => Xa V dst t n ps.toList σ
  | .indexAddr t x i,σ => Xc V dst t x i σ
  | .slice t x lo hi none,σ => Xj V dst t x lo hi σ
  | .slice t x none (some hi) (some mx),σ => nCap V dst t x hi mx σ
  | .convert s d x,σ => Yb V dst s d x σ
  | _,_ => none
section
variable {V : Cx} {F : Fx V} {β : Nat → Bt} {fp : Nat → Nat → Prop} {bs : List Res} {w : World} {t : List (Nat × SV)} {a : Act}
theorem Wd.own (h : Wd F β fp bs w) {i n s e : Nat} {c : List SV} {m : Bool} (hi : bs[i]? = some (.own c e s n m)) {β' : Nat → Bt} (hβ : Agr bs.length β β') : Holds β' (β' i) (fp i) w (.own c e s n m) := (h.bx β' hβ).holds i _ hi
theorem own_len (h : Wd F β fp bs w) {i n s e : Nat} {c : List SV} {m : Bool} (hi : bs[i]? = some (.own c e s n m)) : c.length = n * s := by
  rcases h.own hi (Agr.refl _ β) with ⟨-,rfl,rfl,-⟩ | ⟨-,-,-,h4,-⟩
  · simp
  · exact h4
theorem first0 {P : Program} {w : World} (s : Nat) (A : Option Addr) (n c : Nat) : (Builtin.firstCells s 0 (.slice A n c)).run P w = Result.ok #[] w := by
  cases A with
  | none => simp [Builtin.firstCells]
  | some a => simp [Builtin.firstCells,loadCells,loadCellsFrom]
theorem src_ok (h : Wd F β fp bs w) {s : Nat} (hs : 0 < s) {x : SV} {m : Nat} {xs : List SV} (hx : srcS bs s x = some (m,xs)) {β' : Nat → Bt} (hβ : Agr bs.length β β') (w' : World) (hw' : w'.heap = w.heap) (P : Program) :
    (Builtin.lenOf (conc β' x)).run P w' = Result.ok m w' ∧ (Builtin.firstCells s m (conc β' x)).run P w' = Result.ok (xs.map (conc β')).toArray w' ∧ xs.length = m * s := by
  unfold srcS at hx
  split at hx
  · cases hx
    simp [conc,Builtin.lenOf,Builtin.firstCells]
  · rename_i l
    split at hx
    · rename_i hs1
      cases hx
      subst hs1
      refine ⟨by simp [conc,Builtin.lenOf]; rfl,?_,by simp⟩
      simp only [conc,Builtin.firstCells,Sem.run_pure]
      congr 1
      apply Array.ext'
      have e : (⟨List.toArray l⟩ : ByteArray).extract 0 l.length = ⟨List.toArray l⟩ := by rw [ex_list]; simp
      rw [e]
      simp [u8S,conc,Function.comp_def]
    · cases hx
  · rename_i j m'
    split at hx
    · rename_i c e s' n mn hj
      split at hx
      · rename_i hc
        obtain ⟨rfl,rfl⟩ := hc
        cases hx
        have hl := own_len h hj
        have ho := h.own hj hβ
        refine ⟨?_,?_,hl⟩
        · simp only [conc,oV]; split <;> simp [Builtin.lenOf]
        · simp only [conc,oV]
          rcases ho with ⟨h1,h2,h3,-⟩ | ⟨h1,-,-,-,h5,-⟩
          · rw [if_pos h1]; subst h2 h3
            rw [first0]; rfl
          · rw [if_neg h1]
            refine run_firstCells_some (P := P) w' _ _ _ _ _ _ (by simpa using hl) (fun j v hv => ?_)
            rw [addr_plus]
            have := h5 j v hv
            rw [← this]
            exact World.cell?_of_block (w := w) (by rw [hw'])
      · cases hx
    · cases hx
  · cases hx
theorem run_app_room {P : Program} (w : World) (t u ty e : TypeId) (i : TypeInfo) (ht : P.underlying t = some (.slice e)) {d : TypeDesc} (hu : P.underlying u = some d) (hd : d = .string ∨ ∃ e',d = .slice e') (hi : P.info? e = some i)
    (g sLen sCap m : Nat) (x : Value) (news : List Value) (hlen : (Builtin.lenOf x).run P w = Result.ok m w) (hf : (Builtin.firstCells i.size m x).run P w = Result.ok news.toArray w) (hroom : sLen + m ≤ sCap) {w' : World}
    (hst : (storeCells ⟨g,sLen * i.size,none⟩ news).run P w = Result.ok () w') :
    (Builtin.append_ #[t,u] ty #[.slice (some ⟨g,0,none⟩) sLen sCap,x]).run P w = Result.ok (.slice (some ⟨g,0,none⟩) (sLen + m) sCap) w' := by
  rcases hd with rfl | ⟨e',rfl⟩ <;> simp [Builtin.append_,run_underlying ht,run_underlying hu,Go.sizeOf,typeInfo,hi,hlen,hroom,hf,addr_plus,hst]
theorem run_app_grow {P : Program} (w : World) (t u ty e : TypeId) (i : TypeInfo) (z : Value) (ht : P.underlying t = some (.slice e)) {d : TypeDesc} (hu : P.underlying u = some d) (hd : d = .string ∨ ∃ e',d = .slice e') (hi : P.info? e = some i) (hz : i.zero = some z)
    (b : Option Addr) (sLen sCap m : Nat) (x : Value) (olds news : List Value) (hlen : (Builtin.lenOf x).run P w = Result.ok m w) (hf : (Builtin.firstCells i.size m x).run P w.drew = Result.ok news.toArray w.drew)
    (ho : (Builtin.firstCells i.size sLen (.slice b sLen sCap)).run P w.drew = Result.ok olds.toArray w.drew)
    (hg : sCap < sLen + m) (h63 : sLen + m ≤ maxLen) (hbytes : (sLen + m) * i.bytes ≤ 140737488355328) :
    (Builtin.append_ #[t,u] ty #[.slice b sLen sCap,x]).run P w =
      Result.ok (.slice (some ⟨w.heap.size,0,none⟩) (sLen + m) (grownCap w (sLen + m) sCap e)) (w.drew.alloc (.cells ((olds ++ news).toArray ++ Builtin.zeroCells z.cells (grownCap w (sLen + m) sCap e - (sLen + m))) e)) := by
  have hn : ¬ (sLen + m ≤ sCap) := by omega
  have h63' : ¬ (9223372036854775807 < ((sLen : Int) + (m : Int))) := by unfold maxLen at h63; omega
  have h48' : ¬ (281474976710656 < Builtin.nextslicecap (sLen + m) sCap * i.bytes) := by have := growslice_fits hg hbytes; omega
  rcases hd with rfl | ⟨e',rfl⟩ <;> simp [Builtin.append_,run_underlying ht,run_underlying hu,Go.sizeOf,typeInfo,zeroValue,hi,hz,hlen,hn,h63',h48',Question.forced,hf,ho,newRow,grownCap]
  all_goals
    congr 2
    apply Array.ext'
    simp
theorem holds_row {w : World} {g cap e s n : Nat} {c : List SV} {β' : Nat → Bt} {rest : List Value} {fz : Nat × Nat} (hh : w.heap[g]? = some (.cells (c.map (conc β') ++ rest).toArray e fz)) (hfz : c.length + rest.length ≤ fz.1 ∨ fz.2 ≤ fz.1) (hc : c.length = n * s) (hn : n ≤ cap) (hcap : cap ≤ maxLen) (hsz : c.length + rest.length = cap * s) :
    Holds β' ⟨g,0,cap + 1⟩ (· = g) w (.own c e s n true) := by
  have hd : Head w g e (c.map (conc β')) rest fz := ⟨hh,by simp; omega⟩
  exact .inr ⟨by simp,hn,hcap,hc,hd.lies,fun _ => ⟨rfl,rest,fz,hd,hfz,hsz⟩,fun k => Iff.rfl⟩
theorem dst_len {e s : Nat} {sv : SV} {n : Nat} {c : List SV} {bs2 : List Res} (h : dstS bs e s sv = some (n,c,bs2)) : bs2.length = bs.length := by
  unfold dstS at h
  split at h
  · cases h; rfl
  · split at h
    · split at h
      · cases h; simp
      · cases h
    · cases h
  · split at h
    · split at h
      · cases h; rfl
      · cases h
    · cases h
  · cases h
theorem heap_size_of {w : World} {b : Nat} {x : Obj} (h : w.heap[b]? = some x) : b < w.heap.size := (Array.getElem?_eq_some_iff.1 h).1
theorem dst_new (h : Wd F β fp bs w) {e s : Nat} {sv : SV} {n : Nat} {c : List SV} {bs2 : List Res} (hs : dstS bs e s sv = some (n,c,bs2)) {w' : World} (hb : Below w.heap.size w w') (r : Res) (b : Bt) (f : Nat → Prop)
    (hr : ∀ β',Agr (bs.length + 1) (upd β bs.length b) β' → Holds β' b f w' r) (hf : ∀ k,f k → w.heap.size ≤ k ∧ k < w'.heap.size) : ∃ fp₂,Wd F (upd β bs.length b) fp₂ (bs2 ++ [r]) w' := by
  unfold dstS at hs
  split at hs
  · cases hs; exact ⟨_,h.more hb r b f hr hf⟩
  · split at hs
    · rename_i hj
      split at hs
      · cases hs
        exact ⟨_,h.swap hj rfl (FrW.of_below hb) r b f hr (fun k hk => ⟨.inr (hf k hk).1,(hf k hk).2⟩)⟩
      · cases hs
    · cases hs
  · split at hs
    · split at hs
      · cases hs; exact ⟨_,h.more hb r b f hr hf⟩
      · cases hs
    · cases hs
  · cases hs
theorem app_ok (h : Wd F β fp bs w) {t u e s : Nat} (ht : V.P.underlying t = some (.slice e)) {d : TypeDesc} (hu : V.P.underlying u = some d) (hd : d = .string ∨ ∃ e',d = .slice e') {ti : TI} (hti : V.Γ e = some ti) (hsz : ti.size = s) (hs0 : 0 < s)
    {sv xv : SV} {n m : Nat} {c xs : List SV} {bs2 : List Res} (hs : dstS bs e s sv = some (n,c,bs2)) (hx : srcS bs s xv = some (m,xs)) (hxv : ∀ β',Agr bs.length β β' → conc β xv = conc β' xv) (h1 : xs.all one = true) (h63 : n + m ≤ maxLen) (hby : (n + m) * ti.bytes ≤ 140737488355328) (h0m : capB sv = true → 0 < m) (ty : TypeId) :
    ∃ b fp₂ w',(Builtin.append_ #[t,u] ty #[conc β sv,conc β xv]).run V.P w = Result.ok (oV b (n + m)) w' ∧ Wd F (upd β bs.length b) fp₂ (bs2 ++ [.own (c ++ xs) e s (n + m) true]) w' := by
  obtain ⟨i,z,hi,hz,hisz,hiby,hzc⟩ := (V.gok e ti hti).info
  have hzl := (V.gok e ti hti).len
  have hiss : i.size = s := hisz.trans hsz
  obtain ⟨hl1,hf1,hxl⟩ := src_ok h hs0 hx (Agr.refl _ β) w rfl V.P
  obtain ⟨hl2,hf2,-⟩ := src_ok h hs0 hx (Agr.refl _ β) w.drew rfl V.P
  have hxa : ∀ β',Agr bs.length β β' → xs.map (conc β) = xs.map (conc β') := fun β' hβ => by
    have h2 := (src_ok h hs0 hx hβ w rfl V.P).2.1
    rw [← hxv β' hβ,hf1] at h2
    injection h2 with h2
    simpa using h2
  rw [← hiss] at hf1 hf2
  have hzs : z.cells.size = s := by rw [hzc]; simp [hzl,hsz]
  -- a new row
  have grow : ∀ (b : Option Addr) (cap : Nat) (hca : ∀ β',Agr bs.length β β' → c.map (conc β) = c.map (conc β')) (hcl : c.length = n * s),(Builtin.firstCells i.size n (.slice b n cap)).run V.P w.drew = Result.ok (c.map (conc β)).toArray w.drew → cap < n + m →
      ∃ b' fp₂ w',(Builtin.append_ #[t,u] ty #[.slice b n cap,conc β xv]).run V.P w = Result.ok (oV b' (n + m)) w' ∧ Wd F (upd β bs.length b') fp₂ (bs2 ++ [.own (c ++ xs) e s (n + m) true]) w' := fun b cap hca hcl ho hg => by
    have hrun := run_app_grow (P := V.P) w t u ty e i z ht hu hd hi hz b n cap m (conc β xv) (c.map (conc β)) (xs.map (conc β)) hl1 hf2 ho hg h63 (by rw [hiby]; exact hby)
    have hge := grownCap_ge w (n + m) cap e
    have hle := grownCap_le_maxLen w (n + m) cap e h63
    generalize grownCap w (n + m) cap e = cap' at hrun hge hle
    have hwd0 : ∃ fp₂,Wd F (upd β bs.length ⟨w.heap.size,0,cap' + 1⟩) fp₂ (bs2 ++ [.own (c ++ xs) e s (n + m) true]) (w.drew.alloc (.cells ((c.map (conc β) ++ xs.map (conc β)).toArray ++ Builtin.zeroCells z.cells (cap' - (n + m))) e)) := by
      refine dst_new h hs (((Below.refl _ _).drew).alloc (Nat.le_refl _) _) (.own (c ++ xs) e s (n + m) true) ⟨w.heap.size,0,cap' + 1⟩ (· = w.heap.size) (fun β' hβ => ?_) (fun k hk => ?_)
      · refine holds_row (rest := (Builtin.zeroCells z.cells (cap' - (n + m))).toList) (fz := (0,0)) ?_ (.inr (Nat.le_refl _)) (by rw [List.length_append,hcl,hxl,Nat.add_mul]) hge hle ?_
        · have e1 := heap_new w.drew (.cells ((c.map (conc β) ++ xs.map (conc β)).toArray ++ Builtin.zeroCells z.cells (cap' - (n + m))) e)
          have e2 : w.drew.heap.size = w.heap.size := rfl
          rw [e2] at e1
          rw [e1,hca β' hβ.of_upd,hxa β' hβ.of_upd]
          congr 2
          apply Array.ext'
          simp
        · rw [List.length_append,hcl,hxl]
          simp only [Array.length_toList,size_zeroCells,hzs]
          rw [← Nat.add_mul,← Nat.add_mul]
          congr 1
          omega
      · subst hk
        exact ⟨Nat.le_refl _,by rw [size_alloc]; exact Nat.lt_succ_self _⟩
    obtain ⟨fp₂,hwd⟩ := hwd0
    exact ⟨⟨w.heap.size,0,cap' + 1⟩,fp₂,_,by rw [hrun]; simp [oV],hwd⟩
  -- nothing at all
  have none0 : ∀ b0 : Bt,b0.cap = 0 → (m = 0 → b0.blk = 0) → c = [] → n = 0 → ∃ b' fp₂ w',(Builtin.append_ #[t,u] ty #[.slice (nilA b0) 0 0,conc β xv]).run V.P w = Result.ok (oV b' (n + m)) w' ∧ Wd F (upd β bs.length b') fp₂ (bs2 ++ [.own (c ++ xs) e s (n + m) true]) w' := fun b0 hb0 hbk hc0 hn0 => by
    subst hc0 hn0
    by_cases hm : m = 0
    · subst hm
      have hxs : xs = [] := List.eq_nil_of_length_eq_zero (by rw [hxl]; simp)
      subst hxs
      obtain ⟨fp₂,hwd⟩ := dst_new h hs (Below.refl _ w) (.own [] e s 0 true) b0 (fun _ => False) (fun β' _ => .inl ⟨hb0,rfl,rfl,by simp,fun _ => hbk rfl⟩) (fun k hk => hk.elim)
      refine ⟨b0,fp₂,w,?_,hwd⟩
      unfold oV
      rw [if_pos hb0]
      cases nilA b0 <;> rcases hd with rfl | ⟨e',rfl⟩ <;> simp [Builtin.append_,run_underlying ht,run_underlying hu,Go.sizeOf,typeInfo,hi,hl1,hf1,storeCells]
    · exact grow (nilA b0) 0 (fun _ _ => rfl) (by simp) (by rw [first0]; rfl) (by omega)
  have hs' := hs
  unfold dstS at hs'
  split at hs'
  · cases hs'
    simpa [conc,nilA] using none0 ⟨0,0,0⟩ rfl (fun _ => rfl) rfl rfl
  · rename_i j n0
    split at hs'
    · rename_i c0 e0 s0 n1 hj
      split at hs'
      · rename_i hcond
        obtain ⟨rfl,rfl,rfl⟩ := hcond
        cases hs'
        have ho := h.own hj (Agr.refl _ β)
        rcases ho with ⟨k1,k2,k3,-,k8⟩ | ⟨k1,k2,k3,k4,k5,k6,k7⟩
        · have := none0 _ k1 (fun _ => k8 rfl) k3 k2
          simp only [conc,oV,if_pos k1]
          rw [k2] at this ⊢
          exact this
        · obtain ⟨k8,rest,fz,k9,k10,k11⟩ := k6 rfl
          have hjlt : j < bs.length := (List.getElem?_eq_some_iff.1 hj).1
          have hgj : getB bs j = some (c,e0,true) := by simp [getB,hj]
          simp only [conc,oV,if_neg k1]
          by_cases hroom : n + m ≤ (β j).cap - 1
          · have hcl : (c.map (conc β)).length = n * s0 := by simpa using k4
            have hmul : n * s0 + m * s0 ≤ ((β j).cap - 1) * s0 := by rw [← Nat.add_mul]; exact Nat.mul_le_mul_right _ hroom
            have hst := run_storeCells_fz (P := V.P) (β j).blk (n * s0) e0 fz (xs.map (conc β)) 0 _ w k9.1 (by simp; omega) (by simp; omega) (fun v hv => by
              simp only [List.mem_map] at hv
              obtain ⟨x,hx',rfl⟩ := hv
              exact one_oneCell (List.all_eq_true.1 h1 x hx') β)
            have e1 : (List.take (n * s0 + 0) (c.map (conc β) ++ rest) ++ xs.map (conc β) ++ List.drop (n * s0 + 0 + (xs.map (conc β)).length) (c.map (conc β) ++ rest)) = (c ++ xs).map (conc β) ++ rest.drop (m * s0) := by
              simp only [Nat.add_zero,List.map_append]
              rw [List.take_append_of_le_length (by omega),List.take_of_length_le (by omega),List.drop_append,List.drop_of_length_le (by simp; omega)]
              simp [hxl,k4]
            simp only [e1] at hst
            have hrun := run_app_room (P := V.P) w t u ty e0 i ht hu hd hi (β j).blk n ((β j).cap - 1) m (conc β xv) (xs.map (conc β)) hl1 hf1 hroom (by rw [hiss]; exact hst)
            have hnew := setRow_heap w (β j).blk _ ((c ++ xs).map (conc β) ++ rest.drop (m * s0)).toArray _ _ k9.1
            have hcb : (β j).cap - 1 + 1 = (β j).cap := by omega
            have hwd := h.swap hj rfl (w' := w.setRow (β j).blk ((c ++ xs).map (conc β) ++ rest.drop (m * s0)).toArray) ⟨rfl,rfl,rfl,by simp,fun k hk hn => setRow_other _ _ _ _ (fun ek => hn ((k7 k).2 ek))⟩ (.own (c ++ xs) e0 s0 (n + m) true) ⟨(β j).blk,0,(β j).cap - 1 + 1⟩ (· = (β j).blk) (fun β' hβ => ?_) (fun k hk => ?_)
            · refine ⟨⟨(β j).blk,0,(β j).cap - 1 + 1⟩,_,_,?_,hwd⟩
              rw [k8,hrun]
              simp [oV]
            · refine holds_row (rest := rest.drop (m * s0)) (fz := fz) ?_ ?_ (by rw [List.length_append,k4,hxl,Nat.add_mul]) hroom k3 ?_
              · rw [hnew,List.map_append,h.agr hgj hβ.of_upd,hxa β' hβ.of_upd,← List.map_append]
              · simp only [List.length_append,List.length_drop]
                rcases k10 with k10 | k10
                · left; omega
                · exact .inr k10
              · simp only [List.length_append,List.length_drop]
                omega
            · subst hk
              refine ⟨.inl ((k7 _).2 rfl),?_⟩
              rw [setRow_size]
              exact heap_size_of k9.1
          · refine grow _ _ (fun β' hβ => h.agr hgj hβ) k4 ?_ (by omega)
            rw [hiss]
            refine run_firstCells_some (P := V.P) w.drew s0 n _ n _ (c.map (conc β)) (by simpa using k4) (fun q v hv => ?_)
            rw [addr_plus]
            exact k5 q v hv
      · cases hs'
    · cases hs'
  · rename_i j n0
    split at hs'
    · rename_i c0 e0 s0 n1 m1 hj
      split at hs'
      · rename_i hcond
        obtain ⟨rfl,rfl,rfl⟩ := hcond
        cases hs'
        have hm0 : 0 < m := h0m rfl
        have hgj : getB bs j = some (c,e0,m1) := by simp [getB,hj]
        have ho := h.own hj (Agr.refl _ β)
        rcases ho with ⟨k1,k2,k3,-⟩ | ⟨k1,k2,k3,k4,k5,k6,k7⟩
        · have := none0 _ k1 (fun hm => absurd hm (by omega)) k3 k2
          simp only [conc,fV,if_pos k1]
          rw [k2] at this ⊢
          exact this
        · simp only [conc,fV,if_neg k1]
          refine grow _ _ (fun β' hβ => h.agr hgj hβ) k4 ?_ (by omega)
          rw [hiss]
          refine run_firstCells_some (P := V.P) w.drew s0 n _ n _ (c.map (conc β)) (by simpa using k4) (fun q v hv => ?_)
          rw [addr_plus]
          exact k5 q v hv
      · cases hs'
    · cases hs'
  · cases hs'
theorem Wd.split (h : Wd F β fp bs w) {i : Nat} {r0 : Res} (hi : bs[i]? = some r0) (r1 r : Res) (b : Bt) (f1 f : Nat → Prop) (h1 : ∀ β',Agr bs.length β β' → Holds β' (β' i) f1 w r1) (hm1 : r1.mine = false) (hf1 : ∀ k,f1 k → fp i k)
    (hr : ∀ β',Agr (bs.length + 1) (upd β bs.length b) β' → Holds β' b f w r) (hf : ∀ k,f k → fp i k) (hm : r.mine = true → r0.mine = true ∧ ∀ k,¬ f1 k) :
    Wd F (upd β bs.length b) (fun j k => if j = bs.length then f k else if j = i then f1 k else fp j k) (bs.set i r1 ++ [r]) w := by
  have hilt : i < bs.length := (List.getElem?_eq_some_iff.1 hi).1
  have old : ∀ {j : Nat} {r' : Res},(bs.set i r1 ++ [r])[j]? = some r' → (j < bs.length ∧ j ≠ i ∧ bs[j]? = some r') ∨ (j = i ∧ r' = r1) ∨ (j = bs.length ∧ r' = r) := fun {j r'} hj => by
    rcases Nat.lt_or_ge j bs.length with hlt | hge
    · rw [List.getElem?_append_left (by simpa using hlt)] at hj
      by_cases hji : j = i
      · subst hji
        rw [List.getElem?_set_self hilt] at hj
        exact .inr (.inl ⟨rfl,by simpa using hj.symm⟩)
      · rw [List.getElem?_set_ne (fun e => hji e.symm)] at hj
        exact .inl ⟨hlt,hji,hj⟩
    · have hj' : j = bs.length := by
        have := (List.getElem?_eq_some_iff.1 hj).1
        rw [List.length_append,List.length_singleton,List.length_set] at this
        omega
      subst hj'
      rw [List.getElem?_append_right (by simp)] at hj
      simp at hj
      exact .inr (.inr ⟨rfl,hj.symm⟩)
  have hb0 := h.bx β (Agr.refl _ _)
  have fo : ∀ {j : Nat},j < bs.length → j ≠ i → (fun k => if j = bs.length then f k else if j = i then f1 k else fp j k) = fp j := fun {j} hj hne => by funext k; simp [show j ≠ bs.length by omega,hne]
  have fi : (fun k => if i = bs.length then f k else if i = i then f1 k else fp i k) = f1 := by funext k; simp [show i ≠ bs.length by omega]
  have fn : (fun k => if bs.length = bs.length then f k else if bs.length = i then f1 k else fp bs.length k) = f := by funext k; simp
  refine ⟨h.fr,fun β' hβ => ?_,fun j r' hj hm' k hk => ?_,?_,fun j r' hj k hk => ?_⟩
  · rw [List.length_append,List.length_singleton,List.length_set] at hβ
    have hb' := h.bx β' hβ.of_upd
    have hlast : β' bs.length = b := by rw [← hβ bs.length (by omega),upd_at]
    refine ⟨fun j r' hj => ?_,fun j r' hj k hk => ?_,fun j l r2 r3 hj hl hne hmm k hk hk' => ?_⟩
    · rcases old hj with ⟨hlt,hne,hj2⟩ | ⟨ej,e2⟩ | ⟨ej,e2⟩
      · simp only [fo hlt hne]; exact hb'.holds j r' hj2
      · subst ej e2
        rw [fi]
        exact h1 β' hβ.of_upd
      · subst ej e2
        rw [fn,hlast]
        exact hr β' hβ
    · rcases old hj with ⟨hlt,hne,hj2⟩ | ⟨ej,e2⟩ | ⟨ej,e2⟩
      · simp only [if_neg (show j ≠ bs.length by omega),if_neg hne] at hk
        exact hb0.lt j r' hj2 k hk
      · subst ej
        simp only [if_neg (show j ≠ bs.length by omega),if_true] at hk
        exact hb0.lt j r0 hi k (hf1 k hk)
      · subst ej
        simp only [if_true] at hk
        exact hb0.lt i r0 hi k (hf k hk)
    · rcases old hj with ⟨hlt,hnj,hj2⟩ | ⟨ej,e2⟩ | ⟨ej,e2⟩
      · simp only [if_neg (show j ≠ bs.length by omega),if_neg hnj] at hk
        rcases old hl with ⟨hlt',hnl,hl2⟩ | ⟨el,e3⟩ | ⟨el,e3⟩
        · simp only [if_neg (show l ≠ bs.length by omega),if_neg hnl] at hk'
          exact hb0.sep j l r2 r3 hj2 hl2 hne hmm k hk hk'
        · subst el e3
          simp only [if_neg (show l ≠ bs.length by omega),if_true] at hk'
          rcases hmm with hmm | hmm
          · exact hb0.sep j l r2 r0 hj2 hi hnj (.inl hmm) k hk (hf1 k hk')
          · rw [hm1] at hmm; cases hmm
        · subst el e3
          simp only [if_true] at hk'
          rcases hmm with hmm | hmm
          · exact hb0.sep j i r2 r0 hj2 hi hnj (.inl hmm) k hk (hf k hk')
          · exact hb0.sep j i r2 r0 hj2 hi hnj (.inr (hm hmm).1) k hk (hf k hk')
      · subst ej e2
        simp only [if_neg (show j ≠ bs.length by omega),if_true] at hk
        rcases old hl with ⟨hlt',hnl,hl2⟩ | ⟨el,e3⟩ | ⟨el,e3⟩
        · simp only [if_neg (show l ≠ bs.length by omega),if_neg hnl] at hk'
          rcases hmm with hmm | hmm
          · rw [hm1] at hmm; cases hmm
          · exact hb0.sep l j r3 r0 hl2 hi hnl (.inl hmm) k hk' (hf1 k hk)
        · exact hne el.symm
        · subst el e3
          rcases hmm with hmm | hmm
          · rw [hm1] at hmm; cases hmm
          · exact (hm hmm).2 k hk
      · subst ej e2
        simp only [if_true] at hk
        rcases old hl with ⟨hlt',hnl,hl2⟩ | ⟨el,e3⟩ | ⟨el,e3⟩
        · simp only [if_neg (show l ≠ bs.length by omega),if_neg hnl] at hk'
          rcases hmm with hmm | hmm
          · exact hb0.sep l i r3 r0 hl2 hi hnl (.inr (hm hmm).1) k hk' (hf k hk)
          · exact hb0.sep l i r3 r0 hl2 hi hnl (.inl hmm) k hk' (hf k hk)
        · subst el e3
          simp only [if_neg (show l ≠ bs.length by omega),if_true] at hk'
          rcases hmm with hmm | hmm
          · exact (hm hmm).2 k hk'
          · rw [hm1] at hmm; cases hmm
        · exact hne el.symm
  · rcases old hj with ⟨hlt,hne,hj2⟩ | ⟨ej,e2⟩ | ⟨ej,e2⟩
    · simp only [if_neg (show j ≠ bs.length by omega),if_neg hne] at hk
      exact h.mine j r' hj2 hm' k hk
    · subst e2; rw [hm1] at hm'; cases hm'
    · subst ej e2
      simp only [if_true] at hk
      exact h.mine i r0 hi (hm hm').1 k (hf k hk)
  · have hl := h.ini.len
    exact ⟨fun j hj => (h.ini.agr j hj).trans (upd_agr β _ _ j (by omega)),by rw [List.length_append,List.length_set]; omega⟩
  · rcases old hj with ⟨hlt,hne,hj2⟩ | ⟨ej,e2⟩ | ⟨ej,e2⟩
    · simp only [if_neg (show j ≠ bs.length by omega),if_neg hne] at hk
      exact h.foot j r' hj2 k hk
    · subst ej
      simp only [if_neg (show j ≠ bs.length by omega),if_true] at hk
      exact h.foot j r0 hi k (hf1 k hk)
    · subst ej
      simp only [if_true] at hk
      exact h.foot i r0 hi k (hf k hk)
theorem bnds_ok2 {n cap : Nat} (hle : n ≤ cap) {lo hi : Option SV} {c : Prop} {f u : Nat} {β : Nat → Bt} (h : bnds n lo hi = some (c,f,u)) (hc : c) (P : Program) (w : World) :
    (Instr.sliceBounds true n cap (lo.map (conc β)) (hi.map (conc β)) none).run P w = Result.ok (f,u,cap) w ∧ f ≤ u ∧ u ≤ n ∧ (lo = none → f = 0) := by
  unfold bnds at h
  split at h <;> simp only [Option.some.injEq,Prod.mk.injEq,reduceCtorEq] at h
  all_goals
    obtain ⟨rfl,rfl,rfl⟩ := h
    refine ⟨?_,by omega,by omega,by simp⟩
    simp [conc,Instr.sliceBounds,Instr.sliceBound,asIntOf,go_sem]
    try omega
  rw [if_pos (by omega),if_pos (by omega)]
theorem sz_run {e s : Nat} (hs : sz V.Γ e = some s) (w : World) : (Go.sizeOf e).run V.P w = Result.ok s w := by
  unfold sz at hs
  cases htt : V.Γ e with
  | none => simp [htt] at hs
  | some ti => simp [htt] at hs; rw [← hs]; exact (V.gok e ti htt).size w
theorem lies_take {w : World} {b off : Nat} {vs : List Value} (h : Lies w b off vs) (k j : Nat) : Lies w b (off + k) ((vs.take j).drop k) := fun q v hv => by
  have h1 := h (k + q) v (by
    rw [List.getElem?_drop] at hv
    rw [List.getElem?_take] at hv
    split at hv
    · exact hv
    · cases hv)
  rw [Nat.add_assoc]
  exact h1
theorem re_ok (h : Wd F β fp bs w) {t e s : Nat} (ht : V.P.underlying t = some (.slice e)) (hz : (Go.sizeOf e).run V.P w = Result.ok s w) {lo hi : Option SV} {x : SV} {c0 : Prop} {n0 : Nat} {bs2 : List Res} (ha : reS bs lo hi x = some (c0,n0,bs2)) (hc : c0) (hsi : Xc.sizeIs bs x s) :
    ∃ b fp₂,(Instr.sliceAt t (conc β x) (lo.map (conc β)) (hi.map (conc β)) none).run V.P w = Result.ok (oV b n0) w ∧ bs2.length = bs.length + 1 ∧ Wd F (upd β bs.length b) fp₂ bs2 w := by
  unfold reS at ha
  split at ha
  · rename_i i n
    split at ha
    · rename_i c e' s' n' m hi'
      simp only [Xc.sizeIs,hi'] at hsi
      subst hsi
      have hilt : i < bs.length := (List.getElem?_eq_some_iff.1 hi').1
      split at ha
      · rename_i k f u hb
        have hsame : k ∧ n' = n ∧ 0 < s' := by
          (repeat' split at ha) <;> (cases ha; exact hc)
        obtain ⟨hk,rfl,hs0⟩ := hsame
        have ho := h.own hi' (Agr.refl _ β)
        have hgi : getB bs i = some (c,e',m) := by simp [getB,hi']
        -- the new slice,as a thing that may only be read
        have hnew : ∃ b,(Instr.sliceAt t (conc β (.o i n')) (lo.map (conc β)) (hi.map (conc β)) none).run V.P w = Result.ok (oV b (u - f)) w ∧ f ≤ u ∧ u ≤ n' ∧ (lo = none → f = 0) ∧
            (∀ m',(m' = true → m = true ∧ lo = none) → ∀ β',Agr (bs.length + 1) (upd β bs.length b) β' → Holds β' b (fp i) w (.own ((c.take (u * s')).drop (f * s')) e' s' (u - f) m')) := by
          rcases ho with ⟨h1,h2,h3,h4⟩ | ⟨h1,h2,h3,h4,h5,h6,h7⟩
          · subst h2 h3
            obtain ⟨hsb,hfu,hun,hlo⟩ := bnds_ok2 (β := β) (Nat.le_refl 0) hb hk V.P w
            have hu : u = 0 := by omega
            have hf : f = 0 := by omega
            subst hu hf
            refine ⟨β i,?_,Nat.le_refl _,Nat.le_refl _,fun _ => rfl,fun m' hm' β' hβ => .inl ⟨h1,rfl,by simp,h4.1,fun hm => h4.2 (hm' hm).1⟩⟩
            simp only [conc,oV,if_pos h1]
            cases nilA (β i) <;> simp [Instr.sliceAt,Instr.slice,run_underlying ht,hsb,hz,Addr.add]
          · obtain ⟨hsb,hfu,hun,hlo⟩ := bnds_ok2 (β := β) h2 hb hk V.P w
            refine ⟨⟨(β i).blk,if (β i).cap - 1 = f then (β i).off else (β i).off + f * s',(β i).cap - 1 - f + 1⟩,?_,hfu,hun,hlo,fun m' hm' β' hβ => .inr ⟨by simp,by simp; omega,by simp; omega,?_,?_,fun hm => ?_,h7⟩⟩
            · simp only [conc,oV,if_neg h1]
              simp only [Instr.sliceAt,Instr.slice,run_underlying ht,hsb,hz,Sem.run_bind,Result.andThen_ok,Sem.run_pure,Option.map_some,addr_plus]
              simp
              split <;> rfl
            · rw [List.length_drop,List.length_take,h4,Nat.min_eq_left (Nat.mul_le_mul_right _ hun),Nat.sub_mul]
            · have := lies_take h5 (f * s') (u * s')
              rw [h.agr hgi hβ.of_upd] at this
              rw [List.map_drop,List.map_take]
              by_cases hcf : (β i).cap - 1 = f
              · have : u = f := by omega
                subst this
                intro q v hv
                rw [List.drop_of_length_le (by rw [List.length_take]; exact Nat.min_le_left _ _)] at hv
                cases hv
              · simp only [if_neg hcf]
                exact this
            · obtain ⟨hm1,hlo1⟩ := hm' hm
              have hf0 := hlo hlo1
              subst hf0
              obtain ⟨h8,rest,fz,h9,h10,h11⟩ := h6 hm1
              have hus : u * s' ≤ c.length := by rw [h4]; exact Nat.mul_le_mul_right _ hun
              refine ⟨by simp [h8],(c.drop (u * s')).map (conc β') ++ rest,fz,⟨?_,?_⟩,?_,?_⟩
              · rw [h9.1,Nat.zero_mul,List.drop_zero,← List.append_assoc,← List.map_append,List.take_append_drop,h.agr hgi hβ.of_upd]
              · have := h9.2
                simp at this ⊢
                omega
              · simp
                omega
              · simp
                omega
        obtain ⟨b,hrun,hfu,hun,hlo,hnw⟩ := hnew
        cases lo with
        | none =>
          have hf0 := hlo rfl
          subst hf0
          have hnw' := hnw m (fun hm => ⟨hm,rfl⟩)
          simp only [Nat.zero_mul,List.drop_zero,Nat.sub_zero] at hnw' hrun
          cases m with
          | false =>
            cases ha
            have hset : bs.set i (.own c e' s' n' false) = bs := by
              apply List.ext_getElem?
              intro q
              rw [List.getElem?_set]
              split
              · rename_i hq
                subst hq
                first | exact hi'.symm | (rw [if_pos hilt]; exact hi'.symm)
              · rfl
            have hs := h.split hi' (.own c e' s' n' false) _ b (fp i) (fp i) (fun β' hβ => h.own hi' hβ) rfl (fun k hk => hk) hnw' (fun k hk => hk) (fun hm => by cases hm)
            rw [hset] at hs
            exact ⟨b,_,hrun,by simp,hs⟩
          | true =>
          cases ha
          exact ⟨b,_,hrun,by simp,h.split hi' .gone _ b (fun _ => False) (fp i) (fun β' hβ k hk => hk) rfl (fun k hk => hk.elim) hnw' (fun k hk => hk) (fun hm => ⟨hm,fun k hk => hk⟩)⟩
        | some l =>
          cases ha
          refine ⟨b,_,hrun,by simp,h.split hi' (.own c e' s' n' false) _ b (fp i) (fp i) (fun β' hβ => ?_) rfl (fun k hk => hk) (hnw false (by simp)) (fun k hk => hk) (fun hm => by cases hm)⟩
          rcases h.own hi' hβ with hh | ⟨h1,h2,h3,h4,h5,-,h7⟩
          · exact .inl ⟨hh.1,hh.2.1,hh.2.2.1,hh.2.2.2.1,fun e => by cases e⟩
          · exact .inr ⟨h1,h2,h3,h4,h5,(by simp),h7⟩
      · cases ha
    · cases ha
  · cases ha
theorem cap_ok (h : Wd F β fp bs w) {t e s : Nat} (ht : V.P.underlying t = some (.slice e)) (hz : (Go.sizeOf e).run V.P w = Result.ok s w) {kh km : IntKind} {hi mx : Int} {x y : SV} {c0 : Prop} (ha : capS bs s hi mx x = some (c0,y)) (hc : c0) :
    (Instr.sliceAt t (conc β x) none (some (.int kh hi)) (some (.int km mx))).run V.P w = Result.ok (conc β y) w ∧ (∀ β',Agr bs.length β β' → conc β y = conc β' y) := by
  unfold capS at ha
  split at ha
  · rename_i i n
    split at ha
    · rename_i c e' s' n' m hi'
      cases ha
      obtain ⟨rfl,rfl,rfl,rfl⟩ := hc
      have hilt : i < bs.length := (List.getElem?_eq_some_iff.1 hi').1
      refine ⟨?_,fun β' hβ => by simp only [conc]; rw [hβ i hilt]⟩
      rcases h.own hi' (Agr.refl _ β) with ⟨h1,h2,h3,h4⟩ | ⟨h1,h2,h3,h4,h5,h6,h7⟩
      · subst h2 h3
        simp only [conc,oV,fV,if_pos h1]
        cases nilA (β i) <;> simp [Instr.sliceAt,Instr.slice,Instr.sliceBounds,Instr.sliceBound,asIntOf,run_underlying ht,hz,go_sem,Addr.add]
      · simp only [conc,oV,fV,if_neg h1]
        simp [Instr.sliceAt,Instr.slice,Instr.sliceBounds,Instr.sliceBound,asIntOf,run_underlying ht,hz,go_sem,h2,addr_plus]
    · cases ha
  · cases ha
    obtain ⟨rfl,rfl⟩ := hc
    exact ⟨by simp [conc,Instr.sliceAt,Instr.slice,Instr.sliceBounds,Instr.sliceBound,asIntOf,run_underlying ht,hz,go_sem],fun β' _ => rfl⟩
  · cases ha
theorem fillN_len {s : Nat} : ∀ {ps : List (Nat × SV)} {k : Nat} {c : List SV},Yi s k ps = some c → c.length = ps.length * s
  | [],k,c,h => by cases h; simp
  | (i,x) :: r,k,c,h => by
    simp only [Yi] at h
    split at h
    · rename_i hc
      split at h
      · rename_i c1 h1
        cases h
        rw [List.length_append,fillN_len h1,hc.2.2,List.length_cons,Nat.add_mul]
        omega
      · cases h
    · cases h
theorem fillN_ok (β : Nat → Bt) (s : Nat) : ∀ (ps : List (Nat × SV)) (k : Nat) (c : List SV),Yi s k ps = some c → ∀ (cs : Array Value),(k + ps.length) * s ≤ cs.size →
    Instr.fill (fun i => some (i * s,s)) cs (ps.map fun p => (p.1,conc β p.2)) = some (cs.toList.take (k * s) ++ c.map (conc β) ++ cs.toList.drop ((k + ps.length) * s)).toArray
  | [],k,c,h,cs,hcs => by
    cases h
    simp [Instr.fill]
  | (i,x) :: r,k,c,h,cs,hcs => by
    simp only [Yi] at h
    split at h
    · rename_i hc
      obtain ⟨rfl,hv,hl⟩ := hc
      split at h
      · rename_i c1 h1
        cases h
        have hcells := conc_cells' β x hv
        rw [List.length_cons] at hcs
        have e0 : (i + (r.length + 1)) * s = (i + 1 + r.length) * s := by congr 1; omega
        rw [e0] at hcs
        have e1 : (i + 1) * s = i * s + s := by rw [Nat.add_mul,Nat.one_mul]
        have e2 : (i + 1) * s ≤ (i + 1 + r.length) * s := Nat.mul_le_mul_right _ (by omega)
        simp only [List.map_cons,Instr.fill,hcells,List.size_toArray,List.length_map]
        rw [if_neg (by simp [hl]; omega)]
        have hz := zip_fold (i * s) ((cells x).map (conc β)) 0 cs (by simp; omega)
        rw [← Array.foldl_toList,Array.toList_zipIdx]
        simp only [Nat.add_zero,List.length_map] at hz
        rw [hz,fillN_ok β s r (i + 1) c1 h1 _ (by simp [hl]; omega)]
        congr 2
        rw [List.length_cons,e0]
        simp only [List.map_append,hl]
        have l1 : (cs.toList.take (i * s)).length = i * s := by simp; omega
        have l2 : (cs.toList.take (i * s) ++ (cells x).map (conc β)).length = (i + 1) * s := by rw [List.length_append,l1,List.length_map,hl,e1]
        rw [List.take_append_of_le_length (by omega),List.take_of_length_le (by omega),List.drop_append,List.drop_of_length_le (by omega),List.nil_append,l2,List.drop_drop]
        have e3 : i * s + s + ((i + 1 + r.length) * s - (i + 1) * s) = (i + 1 + r.length) * s := by omega
        rw [e3]
        simp
      · cases h
    · cases h
def repL : List Value → Nat → List Value
  | _,0 => []
  | z,n + 1 => z ++ repL z n
theorem repL_length (z : List Value) : ∀ n,(repL z n).length = n * z.length
  | 0 => by simp [repL]
  | n + 1 => by simp [repL,repL_length z n,Nat.add_mul,Nat.add_comm]
theorem repL_get (z : List Value) : ∀ (n j : Nat),j < n * z.length → (repL z n)[j]? = z[j % z.length]?
  | 0,j,h => by simp at h
  | n + 1,j,h => by
    simp only [repL]
    by_cases hj : j < z.length
    · rw [List.getElem?_append_left hj,Nat.mod_eq_of_lt hj]
    · rw [List.getElem?_append_right (by omega),repL_get z n (j - z.length) (by rw [Nat.add_mul] at h; omega)]
      congr 1
      rw [Nat.mod_eq_sub_mod (by omega : j ≥ z.length)]
theorem made_rep (z : Array Value) (n : Nat) (hz : 0 < z.size) : (madeCells z (n * z.size)).toList = repL z.toList n := by
  apply List.ext_getElem?
  intro j
  by_cases hj : j < n * z.size
  · rw [repL_get _ _ _ (by simpa using hj)]
    have hm : j % z.size < z.size := Nat.mod_lt _ hz
    simp [madeCells,hj,hm]
  · rw [List.getElem?_eq_none (by simp [madeCells]; omega),List.getElem?_eq_none (by rw [repL_length]; simpa using hj)]
theorem repL_take (z : List Value) : ∀ (n k : Nat),k ≤ n → repL z k = (repL z n).take (k * z.length)
  | _,0,_ => by simp [repL]
  | 0,k + 1,h => by omega
  | n + 1,k + 1,h => by
    simp only [repL]
    rw [Nat.add_mul,Nat.one_mul,Nat.add_comm,List.take_length_add_append,← repL_take z n k (by omega)]
theorem repS_map (z : List SV) (β : Nat → Bt) : ∀ n,(repS z n).map (conc β) = repL (z.map (conc β)) n
  | 0 => rfl
  | n + 1 => by simp [repS,repL,repS_map z β n]
theorem wpv {o : Oper} {v : Value} {w w' : World} {K : St → Prop} {Q : Exit → Act → World → Prop} (h : (execOp a.eval o).run V.P w = Result.ok (.value v) w') {σ : St} (hK : K σ) (hr : Rel F σ (a.put o.dst v) w') : o.wp V.P a w (fun a w => ∃ σ,K σ ∧ Rel F σ a w) Q :=
  wp_of_value h ⟨σ,hK,hr⟩
set_option maxHeartbeats 2000000 in
theorem stepN_sound {dst : Option Tmp} {op : Op} {σ σ' : St} {c : Prop} {K : St → Prop} (hfit : fits F.n dst = true) (h : Yl V dst op σ = some (c,σ')) (hc : c) (hK : K σ') {a : Act} {w : World} (hr : Rel F σ a w) (ty : TypeId) (pos : String) (after : Array Edge) (guard : Option (Nat × Bool)) (Q : Exit → Act → World → Prop) :
    (⟨dst,op,ty,pos,after,guard⟩ : Oper).wp V.P a w (fun a w => ∃ σ,K σ ∧ Rel F σ a w) Q := by
  obtain ⟨β,fp,hf,hw⟩ := hr
  have mm : ∀ (min : Bool) (args : Array Operand) (ts : Array TypeId),Xq min dst args.toList σ = some (c,σ') → (⟨dst,.call ⟨.builtin (if min then .min else .max),args,ts⟩,ty,pos,after,guard⟩ : Oper).wp V.P a w (fun a w => ∃ σ,K σ ∧ Rel F σ a w) Q := fun min args ts h => by
    unfold Xq at h
    split at h
    · rename_i x y hxy
      split at h
      · rename_i x' hx
        split at h
        · rename_i y' hy
          simp only [Option.map_eq_some_iff,Prod.mk.injEq] at h
          obtain ⟨z,hz,-,rfl⟩ := h
          have ea : args = #[x,y] := by apply Array.ext'; simpa using hxy
          subst ea
          have h1 := hf.ev hx (Agr.refl _ β)
          have h2 := hf.ev hy (Agr.refl _ β)
          unfold mmS at hz
          split at hz
          · cases hz
            simp only [conc] at h1 h2
            refine wpv (v := _) (w' := w) ?_ hK ⟨β,fp,hf.put hfit (fun β' _ => rfl),hw⟩
            cases min
            · simp only [Bool.false_eq_true,if_false,execOp,resolve,invoke,builtin,Builtin.max_,Builtin.max2,conc]
              generalize a.eval = ρ at h1 h2
              simp [h1,h2,Builtin.max_,Builtin.max2]
            · simp only [if_true,execOp,resolve,invoke,builtin,Builtin.min_,Builtin.min2,conc]
              generalize a.eval = ρ at h1 h2
              simp [h1,h2,Builtin.min_,Builtin.min2]
          · cases hz
        · cases h
      · cases h
    · cases h
  cases op <;> simp only [Yl,reduceCtorEq] at h
  case call cl =>
    obtain ⟨callee,args,ts⟩ := cl
    cases callee <;> (try simp only [reduceCtorEq] at h)
    rename_i bi
    cases bi <;> (try simp only [reduceCtorEq] at h)
    case append =>
      unfold Xm at h
      (repeat' split at h) <;> try (cases h; done)
      rename_i s x hargs _ t u hts _ e ht _ ku hu _ ti hti _ sv hs _ xv hx _ n c0 bs2 hd _ m xs hsrc
      cases h
      obtain ⟨h0m,hku,hs0,h1,h63,hby⟩ := hc
      have ea : args = #[s,x] := by apply Array.ext'; simpa using hargs
      have et : ts = #[t,u] := by apply Array.ext'; simpa using hts
      subst ea et
      obtain ⟨d1,hd1,hk1⟩ := kd_some V.gok ht
      obtain ⟨d2,hd2,hk2⟩ := kd_some V.gok hu
      simp only [undSays] at hk1
      subst hk1
      have hdd : d2 = .string ∨ ∃ e',d2 = .slice e' := by
        cases ku <;> simp [XP] at hku <;> simp only [undSays] at hk2
        · exact .inl hk2
        · exact .inr ⟨_,hk2⟩
      obtain ⟨b,fp₂,w',hrun,hwd⟩ := app_ok hw hd1 hd2 hdd hti rfl hs0 hd hsrc (fun β' hβ => by rw [← hf.ev hx (Agr.refl _ β),← hf.ev hx hβ]) h1 h63 hby h0m ty
      rw [← hf.ev hs (Agr.refl _ β),← hf.ev hx (Agr.refl _ β)] at hrun
      refine wpv (v := oV b (n + m)) (w' := w') ?_ hK ⟨_,fp₂,(hf.more (by simp [dst_len hd]) (upd_agr _ _ _)).put hfit (fun β' hβ => ?_),hwd⟩
      · show Sem.run V.P (do let d ← resolve a.eval ⟨.builtin .append,#[s,x],#[t,u]⟩ ty; invoke d.target d.args) w = _
        simp only [resolve,Sem.run_bind,Sem.run_pure,Result.andThen_ok,invoke,builtin,List.map_toArray,List.map_cons,List.map_nil,hrun]
      · simp only [conc]
        rw [← hβ σ.b.length (by simp [dst_len hd]),upd_at]
    case min => exact mm true args ts h
    case max => exact mm false args ts h
  case makeSlice ts l c' =>
    unfold Yn at h
    (repeat' split at h) <;> try (cases h; done)
    rename_i _ e ht _ ti hti _ kl l' hl _ kc c' hc'
    cases h
    obtain ⟨h0,hlc,hby,h63,hs0⟩ := hc
    obtain ⟨d1,hd1,hk1⟩ := kd_some V.gok ht
    simp only [undSays] at hk1
    subst hk1
    obtain ⟨i,z,hi,hz,hisz,hiby,hzc⟩ := (V.gok e ti hti).info
    have hzl := (V.gok e ti hti).len
    have hfl := (V.gok e ti hti).flat
    have hrun := run_make (P := V.P) w ts e i z hd1 hi hz kl kc l' c' h0 hlc (by rw [hiby]; exact hby) h63
    have e1 := hf.ev hl (Agr.refl _ β)
    have e2 := hf.ev hc' (Agr.refl _ β)
    simp only [conc] at e1 e2
    rw [← e1,← e2] at hrun
    have hnn : l'.toNat ≤ c'.toNat := by omega
    have hzs : z.cells.size = ti.size := by rw [hzc]; simp [hzl]
    have hzt : z.cells.toList = ti.zero.map (conc bt0) := by rw [hzc]
    have hM : (madeCells z.cells (c'.toNat * i.size)).toList = repL (ti.zero.map (conc bt0)) c'.toNat := by
      rw [hisz,← hzs,made_rep _ _ (by omega),hzt]
    have hlz : (ti.zero.map (conc bt0)).length = ti.size := by simpa using hzl
    have hsl : (repS ti.zero l'.toNat).length = l'.toNat * ti.size := by
      have := congrArg List.length (repS_map ti.zero bt0 l'.toNat)
      rw [repL_length,hlz] at this
      simpa using this
    have hmade : ∀ β',(madeCells z.cells (c'.toNat * i.size)).toList = (repS ti.zero l'.toNat).map (conc β') ++ (madeCells z.cells (c'.toNat * i.size)).toList.drop (l'.toNat * ti.size) := fun β' => by
      rw [hM,repS_map,hfl β',repL_take _ _ _ hnn,hlz,List.take_append_drop]
    have hwd := hw.more (w' := w.alloc (.cells (madeCells z.cells (c'.toNat * i.size)) e)) ((Below.refl _ _).alloc (Nat.le_refl _) _) (.own (repS ti.zero l'.toNat) e ti.size l'.toNat true) ⟨w.heap.size,0,c'.toNat + 1⟩ (· = w.heap.size) (fun β' hβ => holds_row (rest := (madeCells z.cells (c'.toNat * i.size)).toList.drop (l'.toNat * ti.size)) (fz := (0,0)) (by
        rw [heap_new,← hmade β']) (.inr (Nat.le_refl _)) hsl hnn (by unfold maxLen; omega) (by
        rw [hsl,List.length_drop,hM,repL_length,hlz]
        have : l'.toNat * ti.size ≤ c'.toNat * ti.size := Nat.mul_le_mul_right _ hnn
        omega)) (fun k hk => by subst hk; exact ⟨Nat.le_refl _,by rw [size_alloc]; exact Nat.lt_succ_self _⟩)
    refine wpv (run_val hrun) hK ⟨_,_,(hf.more (by simp) (upd_agr _ _ _)).put hfit (fun β' hβ => ?_),hwd⟩
    simp only [conc]
    rw [← hβ σ.b.length (by simp),upd_at]
    simp [oV]
  case indexAddr ts x i =>
    unfold Xc at h
    (repeat' split at h) <;> try (cases h; done)
    rename_i _ e ht _ s hs _ x' hx _ k kk hi _ c0 y ha
    cases h
    unfold Ym at ha
    split at ha
    · rename_i j n
      split at ha
      · rename_i cc ee ss nn mm' hj
        cases ha
        obtain ⟨⟨rfl,hss,hk0,hkn⟩,hsz⟩ := hc
        simp only [Xc.sizeIs,hj] at hsz
        subst hsz
        obtain ⟨d1,hd1,hk1⟩ := kd_some V.gok ht
        simp only [undSays] at hk1
        subst hk1
        have hz : (Go.sizeOf e).run V.P w = Result.ok ss w := by
          unfold sz at hs
          cases htt : V.Γ e with
          | none => simp [htt] at hs
          | some ti => simp [htt] at hs; rw [← hs]; exact (V.gok e ti htt).size w
        have hnz : (β j).cap ≠ 0 := by
          rcases hw.own hj (Agr.refl _ β) with ⟨-,h2,-⟩ | ⟨h2,-⟩
          · subst h2; omega
          · exact h2
        have e1 := hf.ev hx (Agr.refl _ β)
        have e2 := hf.ev hi (Agr.refl _ β)
        simp only [conc,oV,if_neg hnz] at e1 e2
        refine wpv (v := conc β (.p j (kk.toNat * ss))) (w' := w) ?_ hK ⟨β,fp,hf.put hfit (fun β' hβ => ?_),hw⟩
        · refine run_val ?_
          rw [e1,e2]
          simp [Instr.indexAt,asIntOf,run_underlying hd1,hk0,hkn,hz,conc,addr_plus]
        · simp only [conc]
          rw [hβ j (List.getElem?_eq_some_iff.1 hj).1]
      · cases ha
    · cases ha
  case slice ts x lo hi mx =>
    cases mx with
    | some mx =>
      cases lo <;> cases hi <;> simp only [reduceCtorEq] at h
      rename_i hi
      unfold nCap at h
      (repeat' split at h) <;> try (cases h; done)
      rename_i _ e ht _ s hs _ x' hx _ kh vh hh _ km vm hm _ c0 y ha
      cases h
      obtain ⟨d1,hd1,hk1⟩ := kd_some V.gok ht
      simp only [undSays] at hk1
      subst hk1
      obtain ⟨hrun,hy⟩ := cap_ok (kh := kh) (km := km) hw hd1 (sz_run hs w) ha hc
      have e1 := hf.ev hx (Agr.refl _ β)
      have e2 := hf.ev hh (Agr.refl _ β)
      have e3 := hf.ev hm (Agr.refl _ β)
      simp only [conc] at e2 e3
      have hv : (execOp a.eval (⟨dst,.slice ts x none (some hi) (some mx),ty,pos,after,guard⟩ : Oper)).run V.P w = Result.ok (.value (conc β y)) w := by
        refine run_val ?_
        simp only [Option.map_some,Option.map_none,e1,e2,e3]
        exact hrun
      exact wpv hv hK ⟨β,fp,hf.put hfit (fun β' hβ => hy β' hβ),hw⟩
    | none =>
    simp only at h
    unfold Xj at h
    (repeat' split at h) <;> try (cases h; done)
    rename_i _ e ht _ s hs _ x' hx _ lo' hlo _ hi' hhi _ c0 n0 bs2 ha
    cases h
    obtain ⟨hc,hsi⟩ := hc
    obtain ⟨d1,hd1,hk1⟩ := kd_some V.gok ht
    simp only [undSays] at hk1
    subst hk1
    have hz : (Go.sizeOf e).run V.P w = Result.ok s w := sz_run hs w
    obtain ⟨b,fp₂,hrun,hlen,hwd⟩ := re_ok hw hd1 hz ha hc hsi
    have hv : (execOp a.eval (⟨dst,.slice ts x lo hi none,ty,pos,after,guard⟩ : Oper)).run V.P w = Result.ok (.value (oV b n0)) w := by
      refine run_val ?_
      rw [hf.ev hx (Agr.refl _ β),opt_map (hf.ok β (Agr.refl _ _)) hlo,opt_map (hf.ok β (Agr.refl _ _)) hhi]
      exact hrun
    refine wpv hv hK ⟨_,fp₂,(hf.more (by rw [hlen]; exact Nat.le_succ _) (upd_agr _ _ _)).put hfit (fun β' hβ => ?_),hwd⟩
    simp only [conc]
    rw [← hβ σ.b.length (by rw [hlen]; exact Nat.lt_succ_self _),upd_at]
  case convert ts td x =>
    unfold Yb at h
    (repeat' split at h) <;> try (cases h; done)
    · rename_i _ hts _ e htd _ hte _ l hx
      cases h
      obtain ⟨d1,hd1,hk1⟩ := kd_some V.gok hts
      obtain ⟨d2,hd2,hk2⟩ := kd_some V.gok htd
      obtain ⟨d3,hd3,hk3⟩ := kd_some V.gok hte
      simp only [undSays] at hk1 hk2 hk3
      subst hk1 hk2 hk3
      have hrun := Lib.run_convert_string_bytes w ts td e ⟨List.toArray l⟩ hd1 hd2 hd3
      have hss : (⟨List.toArray l⟩ : ByteArray).size = l.length := rfl
      rw [hss] at hrun
      have hge := grownCap_ge w l.length 0 e
      have hle := grownCap_le_maxLen w l.length 0 e hc
      have hbc : Lib.bytesCells w e ⟨List.toArray l⟩ = ((l.map u8S).map (conc β) ++ List.replicate (grownCap w l.length 0 e - l.length) (Value.int .u8 0)).toArray := by
        apply Array.ext'
        simp [Lib.bytesCells,u8S,conc,Function.comp_def,hss]
      have hnew := Lib.bytesWorld_at_new w e ⟨List.toArray l⟩
      have hbel : Below w.heap.size w (Lib.bytesWorld w e ⟨List.toArray l⟩) := ⟨by simp [Lib.bytesWorld,World.freeze]; rfl,rfl,rfl,by rw [Lib.bytesWorld_size]; omega,fun k hk => Lib.bytesWorld_at_old _ _ _ k hk⟩
      have hsize := Lib.bytesWorld_size w e ⟨List.toArray l⟩
      rw [hbc] at hnew
      generalize Lib.bytesWorld w e ⟨List.toArray l⟩ = w1 at hrun hnew hbel hsize
      generalize grownCap w l.length 0 e = cap' at hrun hnew hge hle
      have hwd := hw.more hbel (.own (l.map u8S) e 1 l.length true) ⟨w.heap.size,0,cap' + 1⟩ (· = w.heap.size) (fun β' hβ => holds_row (by
        rw [hnew]
        congr 3
        rw [List.map_map,List.map_map]
        rfl) (by left; simp) (by simp) hge hle (by simp; omega)) (fun k hk => by subst hk; exact ⟨Nat.le_refl _,by rw [hsize]; exact Nat.lt_succ_self _⟩)
      have e1 := hf.ev hx (Agr.refl _ β)
      simp only [conc] at e1
      rw [← e1] at hrun
      refine wpv (run_val hrun) hK ⟨_,_,(hf.more (by simp) (upd_agr _ _ _)).put hfit (fun β' hβ => ?_),hwd⟩
      simp only [conc]
      rw [← hβ σ.b.length (by simp),upd_at]
      simp [oV]
    · rename_i _ e hts _ htd _ hte _ hx
      cases h
      obtain ⟨d1,hd1,hk1⟩ := kd_some V.gok hts
      obtain ⟨d2,hd2,hk2⟩ := kd_some V.gok htd
      obtain ⟨d3,hd3,hk3⟩ := kd_some V.gok hte
      simp only [undSays] at hk1 hk2 hk3
      subst hk1 hk2 hk3
      have e1 := hf.ev hx (Agr.refl _ β)
      simp only [conc] at e1
      have hrun := run_convert_bytes_nil w ts e hd1 hd3 0 0 td hd2
      rw [← e1] at hrun
      exact wpv (run_val hrun) hK ⟨β,fp,hf.put hfit (fun β' hβ => by simp [conc]; rfl),hw⟩
    · rename_i _ e hts _ htd _ hte _ i n hx _ c0 ee s n' mm' hi
      cases h
      obtain ⟨rfl,rfl,hall⟩ := hc
      obtain ⟨d1,hd1,hk1⟩ := kd_some V.gok hts
      obtain ⟨d2,hd2,hk2⟩ := kd_some V.gok htd
      obtain ⟨d3,hd3,hk3⟩ := kd_some V.gok hte
      simp only [undSays] at hk1 hk2 hk3
      subst hk1 hk2 hk3
      have e1 := hf.ev hx (Agr.refl _ β)
      simp only [conc,oV] at e1
      have hrun : (convert ts td (a.eval x)).run V.P w = Result.ok (.string ⟨List.toArray (c0.map unU8)⟩) w := by
        rw [e1]
        rcases hw.own hi (Agr.refl _ β) with ⟨h1,rfl,rfl,-⟩ | ⟨h1,h2,h3,h4,h5,-⟩
        · rw [if_pos h1]
          cases nilA (β i) with
          | none => exact run_convert_bytes_nil w ts e hd1 hd3 0 0 td hd2
          | some A => exact run_convert_bytes_back w ts td e A 0 [] hd1 hd3 hd2 (fun j hj => by simp at hj)
        · rw [if_neg h1]
          have hl : n' = (c0.map unU8).length := by simpa using h4.symm
          rw [hl]
          refine run_convert_bytes_back w ts td e _ _ (c0.map unU8) hd1 hd3 hd2 (fun j hj => ?_)
          rw [addr_plus]
          have hj' : j < c0.length := by simpa using hj
          refine h5 j _ ?_
          simp only [List.getElem?_map,List.getElem?_eq_getElem hj',Option.map_some,List.getElem_map]
          rw [conc_unU8 β (List.all_eq_true.1 hall _ (List.getElem_mem hj'))]
      exact wpv (run_val hrun) hK ⟨β,fp,hf.put hfit (fun β' hβ => by simp [conc]),hw⟩
  case buildSlice ts n ps =>
    unfold Xa at h
    (repeat' split at h) <;> try (cases h; done)
    rename_i _ e ht _ ti hti _ l hl _ c0 hfl
    cases h
    obtain ⟨hpn,h24,hs0⟩ := hc
    obtain ⟨d1,hd1,hk1⟩ := kd_some V.gok ht
    simp only [undSays] at hk1
    subst hk1
    obtain ⟨i,z,hi,hz,hisz,hiby,hzc⟩ := (V.gok e ti hti).info
    have hps := fun β' hβ => evParts_ok (β' := β') hf hβ hl
    have hcl := fillN_len hfl
    rw [hpn] at hcl
    have hfill := fun β' => fillN_ok β' ti.size l 0 c0 hfl ((Array.range (n * i.size)).map (z.cells[· % z.cells.size]!)) (by rw [Nat.zero_add,hpn]; simp [hisz])
    have hrun : ∀ β',Agr σ.b.length β β' → (Instr.buildSlice ts n (ps.map fun p => (p.1,a.eval p.2))).run V.P w = Result.ok (.slice (some ⟨w.heap.size,0,none⟩) n n) (w.alloc (.cells (c0.map (conc β')).toArray e)) := fun β' hβ => by
      have e2 := hps β' hβ
      by_cases hn : n = 0
      · subst hn
        have hl0 : l = [] := List.eq_nil_of_length_eq_zero hpn
        subst hl0
        have hc0 : c0 = [] := List.eq_nil_of_length_eq_zero (by rw [hcl]; simp)
        subst hc0
        have e3 : (ps.toList.map fun p => (p.1,a.eval p.2)) = [] := e2
        have e4 : Array.range 0 = #[] := rfl
        simp [Instr.buildSlice,run_underlying hd1,Go.sizeOf,typeInfo,hi,e3,Instr.fill,newRow,e4]
      · refine run_buildSlice (P := V.P) w ts e n (ps.map fun p => (p.1,a.eval p.2)) (c0.map (conc β')).toArray i z hd1 hi hz (by rw [hisz]; omega) (by rw [hisz]; exact Nat.ne_of_gt (Nat.mul_pos (by omega) hs0)) ?_
        have e3 := hfill β'
        rw [← hisz] at e3
        rw [Array.toList_map,e2,e3]
        congr 1
        apply Array.ext'
        rw [Nat.zero_add,hpn]
        simp
    have hag : ∀ β',Agr σ.b.length β β' → c0.map (conc β) = c0.map (conc β') := fun β' hβ => by
      have h1 := hrun β (Agr.refl _ _)
      rw [hrun β' hβ] at h1
      injection h1 with _ h1
      have h2 := congrArg (fun w' : World => w'.heap[w.heap.size]?) h1
      simp only [heap_new] at h2
      have h3 := (Obj.cells.inj (Option.some.inj h2)).1
      have h4 := congrArg Array.toList h3
      exact h4.symm
    have hwd := hw.more (w' := w.alloc (.cells (c0.map (conc β)).toArray e)) ((Below.refl _ _).alloc (Nat.le_refl _) _) (.own c0 e ti.size n true) ⟨w.heap.size,0,n + 1⟩ (· = w.heap.size) (fun β' hβ => holds_row (rest := []) (fz := (0,0)) (by
      rw [heap_new,hag β' hβ.of_upd,List.append_nil]) (.inr (Nat.le_refl _)) hcl (Nat.le_refl _) (by unfold maxLen; have : n * 1 ≤ n * ti.size := Nat.mul_le_mul_left _ hs0; omega) (by simpa using hcl)) (fun k hk => by subst hk; exact ⟨Nat.le_refl _,by rw [size_alloc]; exact Nat.lt_succ_self _⟩)
    refine wpv (run_val (hrun β (Agr.refl _ _))) hK ⟨_,_,(hf.more (by simp) (upd_agr _ _ _)).put hfit (fun β' hβ => ?_),hwd⟩
    simp only [conc]
    rw [← hβ σ.b.length (by simp),upd_at]
    simp [oV]
end
end Vc
/- The operations of a region in another order: what holds of that order's region holds of the text's. -/
set_option linter.all false
namespace Vc
open Go
def nthL : List Oper → Nat → List Oper
  | [],_ => []
  | o :: _,0 => [o]
  | _ :: r,k + 1 => nthL r k
def invL : List Nat → Nat → Nat
  | [],_ => 0
  | x :: r,j => if x = j then 0 else invL r j + 1
def permE (p : List Nat) (e : Edge) : Edge := ⟨invL p e.on,e.ground⟩
def permG (p : List Nat) : Option (Nat × Bool) → Option (Nat × Bool)
  | none => none
  | some (g,b) => some (invL p g,b)
def permO (p : List Nat) : Oper → Oper
  | ⟨dst,op,ty,pos,after,guard⟩ => ⟨dst,op,ty,pos,after.map (permE p),permG p guard⟩
def permL (ops : List Oper) (q : List Nat) : List Nat → List Oper
  | [] => []
  | x :: r => (nthL ops x).map (permO q) ++ permL ops q r
def permD (ops : Array Oper) : List Nat → Array Oper
  | [] => ops
  | x :: r => (permL ops.toList (x :: r) (x :: r)).toArray
def permBb (ops : Array Oper) (p : List Nat) : Bool := p.length == ops.size && p.all (fun i => decide (i < ops.size)) && (List.range ops.size).all (fun k => p.contains k && (decide (p.getD k 0 < ops.size) && invL p (p.getD k 0) == k))
def permB (ops : Array Oper) : List Nat → Prop
  | [] => True
  | x :: r => permBb ops (x :: r) = true
theorem nthL_eq (l : List Oper) (k : Nat) : nthL l k = l[k]?.toList := by
  induction l generalizing k with
  | nil => simp [nthL]
  | cons o r ih => cases k with
    | zero => simp [nthL]
    | succ k => simp [nthL,ih]
theorem permL_get (ops : List Oper) (q : List Nat) : ∀ (p : List Nat),(∀ i ∈ p,i < ops.length) → (permL ops q p).length = p.length ∧ ∀ k : Nat,(permL ops q p)[k]? = (p[k]?).bind fun i => (ops[i]?).map (permO q)
  | [],_ => ⟨rfl,fun k => by simp [permL]⟩
  | x :: r,h => by
    obtain ⟨h1,h2⟩ := permL_get ops q r (fun i hi => h i (List.mem_cons_of_mem _ hi))
    have hx : x < ops.length := h x (List.mem_cons_self ..)
    have e : nthL ops x = [ops[x]] := by rw [nthL_eq,List.getElem?_eq_getElem hx]; rfl
    refine ⟨by simp [permL,e,h1],fun k => ?_⟩
    cases k with
    | zero => simp [permL,e,List.getElem?_eq_getElem hx]
    | succ k => simp [permL,e,h2]
theorem invL_spec : ∀ (p : List Nat) (j : Nat),(j ∈ p → p[invL p j]? = some j) ∧ (j ∉ p → invL p j = p.length)
  | [],j => by simp [invL]
  | x :: r,j => by
    obtain ⟨h1,h2⟩ := invL_spec r j
    by_cases h : x = j
    · simp [invL,h]
    · have h' : ¬ j = x := fun e => h e.symm
      simp only [invL,if_neg h,List.mem_cons,h',false_or,List.getElem?_cons_succ,List.length_cons]
      exact ⟨h1,fun hn => by rw [h2 hn]⟩
theorem permO_dst (p : List Nat) (o : Oper) : (permO p o).dst = o.dst := by cases o; rfl
theorem permO_wp {P : Program} {p : List Nat} {o : Oper} {a : Act} {w : World} {K : Act → World → Prop} {Q : Exit → Act → World → Prop} (h : (permO p o).wp P a w K Q) : o.wp P a w K Q := by cases o; exact h
theorem permO_asks {P : Program} {p : List Nat} {o : Oper} {a : Act} {w : World} (h : (permO p o).asks P a w) : o.asks P a w := by cases o; exact h
structure OrdP (p : List Nat) (n : Nat) : Prop where
  len : p.length = n
  lt : ∀ i ∈ p,i < n
  mem : ∀ {i : Nat},i < n → i ∈ p
  onto : ∀ k,k < n → ∃ i,i < n ∧ invL p i = k
section
variable {ops : Array Oper} {p : List Nat} (hp : OrdP p ops.size)
def ops' (ops : Array Oper) (p : List Nat) : Array Oper := (permL ops.toList p p).toArray
include hp
theorem ops'_size : (ops' ops p).size = ops.size := by
  have := (permL_get ops.toList p p (fun i hi => by simpa using hp.lt i hi)).1
  simp [ops',this,hp.len]
theorem ops'_inv {i : Nat} (hi : i < ops.size) : (ops' ops p)[invL p i]? = (ops[i]?).map (permO p) := by
  have h2 := (permL_get ops.toList p p (fun i hi => by simpa using hp.lt i hi)).2 (invL p i)
  have h3 := (invL_spec p i).1 (hp.mem hi)
  simp only [ops',List.getElem?_toArray,h2,h3,Option.bind_some]
  simp
theorem inv_lt {i : Nat} (hi : i < ops.size) : invL p i < ops.size := by
  have h3 := (invL_spec p i).1 (hp.mem hi)
  have := (List.getElem?_eq_some_iff.1 h3).1
  rw [hp.len] at this
  exact this
theorem inv_ge {i : Nat} (hi : ¬ i < ops.size) : invL p i = ops.size := by
  rw [(invL_spec p i).2 (fun h => hi (hp.lt i h)),hp.len]
theorem inv_inj {i k : Nat} (hi : i < ops.size) (hk : k < ops.size) (h : invL p i = invL p k) : i = k := by
  have h1 := (invL_spec p i).1 (hp.mem hi)
  have h2 := (invL_spec p k).1 (hp.mem hk)
  rw [h,h2] at h1
  exact ((Option.some.injEq _ _).mp h1).symm
theorem yielded' (tmps : Array Value) (g : Nat) : yielded (ops' ops p) tmps (invL p g) = yielded ops tmps g := by
  unfold yielded
  have : ((ops' ops p)[invL p g]?).bind (·.dst) = (ops[g]?).bind (·.dst) := by
    by_cases h : g < ops.size
    · rw [ops'_inv hp h]
      rw [Array.getElem?_eq_getElem h]
      simp [permO_dst]
    · rw [inv_ge hp h,Array.getElem?_eq_none (by rw [ops'_size hp]; exact Nat.le_refl _),Array.getElem?_eq_none (by omega)]
  rw [this]
theorem wanted' (tmps : Array Value) (o : Oper) : Region.wanted (permO p o) (yielded (ops' ops p) tmps) = Region.wanted o (yielded ops tmps) := by
  obtain ⟨dst,op,ty,pos,after,guard⟩ := o
  cases guard with
  | none => rfl
  | some g =>
    obtain ⟨g,b⟩ := g
    simp only [permO,permG,Region.wanted,yielded' hp]
def Same' (ops : Array Oper) (p : List Nat) (L L' : Array Bool) : Prop := L.size = ops.size ∧ L'.size = ops.size ∧ ∀ i,i < ops.size → L'.getD (invL p i) false = L.getD i false
omit hp in
theorem getD_tf {L : Array Bool} {i : Nat} (h : i < L.size) : L.getD i true = L.getD i false := by simp [Array.getD,h]
theorem ready' {md : Region.Mode} {L L' : Array Bool} (hs : Same' ops p L L') {i : Nat} (hi : i < ops.size) : invL p i ∈ Region.ready md (ops' ops p) L' ↔ i ∈ Region.ready md ops L := by
  obtain ⟨s1,s2,s3⟩ := hs
  rw [mem_ready,mem_ready,getD_tf (by rw [s2]; exact inv_lt hp hi),getD_tf (by rw [s1]; exact hi),s3 i hi,ops'_inv hp hi]
  have ho : ops[i]? = some ops[i] := Array.getElem?_eq_getElem hi
  rw [ho]
  have hlk : ∀ n : Nat,L'.getD (invL p n) false = L.getD n false := fun n => by
    by_cases hn : n < ops.size
    · exact s3 n hn
    · rw [inv_ge hp hn]
      simp [Array.getD,s1,s2,hn]
  refine and_congr_right fun _ => ?_
  generalize ops[i] = o
  obtain ⟨dst,op,ty,pos,after,guard⟩ := o
  simp only [Option.map_some,Option.some.injEq,exists_eq_left',permO,Array.mem_map,forall_exists_index,and_imp,forall_apply_eq_imp_iff₂]
  refine forall_congr' fun e => forall_congr' fun he => ?_
  simp only [permE,hlk]
  rfl
theorem set' {L L' : Array Bool} (hs : Same' ops p L L') {i : Nat} (hi : i < ops.size) : Same' ops p (L.setIfInBounds i true) (L'.setIfInBounds (invL p i) true) := by
  obtain ⟨s1,s2,s3⟩ := hs
  refine ⟨by simpa using s1,by simpa using s2,fun k hk => ?_⟩
  by_cases h : i = k
  · subst h
    have := inv_lt hp hk
    simp [Array.getD,s1,s2,hk,this]
  · have h' : invL p i ≠ invL p k := fun e => h (inv_inj hp hi hk e)
    rw [getD_set_ne false h,getD_set_ne false h']
    exact s3 k hk
theorem none' {md : Region.Mode} {L L' : Array Bool} (hs : Same' ops p L L') : Region.ready md ops L = [] → Region.ready md (ops' ops p) L' = [] := fun h => by
  cases h' : Region.ready md (ops' ops p) L' with
  | nil => rfl
  | cons k r =>
    have hk : k ∈ Region.ready md (ops' ops p) L' := by rw [h']; exact List.mem_cons_self ..
    have hlt : k < ops.size := by
      obtain ⟨o,ho,_⟩ := (mem_ready.1 hk).2
      have := (Array.getElem?_eq_some_iff.1 ho).1
      rwa [ops'_size hp] at this
    obtain ⟨i,hi,e⟩ := hp.onto k hlt
    rw [← e,ready' hp hs hi,h] at hk
    cases hk
theorem wpAny_perm' {P : Program} {Q : Exit → Act → World → Prop} {md : Region.Mode} : ∀ (fuel : Nat) (L L' : Array Bool) (a : Act) (w : World),Same' ops p L L' → wpAny P md (ops' ops p) Q fuel L' a w → wpAny P md ops Q fuel L a w := by
  intro fuel
  induction fuel with
  | zero =>
    intro L L' a w hs h
    refine ⟨?_,h.2⟩
    cases h' : Region.ready md ops L with
    | nil => rfl
    | cons i r =>
      have hi : i ∈ Region.ready md ops L := by rw [h']; exact List.mem_cons_self ..
      have hlt : i < ops.size := by
        obtain ⟨o,ho,_⟩ := (mem_ready.1 hi).2
        exact (Array.getElem?_eq_some_iff.1 ho).1
      rw [← ready' hp hs hlt,h.1] at hi
      cases hi
  | succ fuel ih =>
    intro L L' a w hs h
    refine ⟨fun h0 => h.1 (none' hp hs h0),fun i hi => ?_⟩
    have hlt : i < ops.size := by
      obtain ⟨o,ho,_⟩ := (mem_ready.1 hi).2
      exact (Array.getElem?_eq_some_iff.1 ho).1
    have h1 := h.2 _ ((ready' hp hs hlt).2 hi)
    have ho : ops[i]? = some ops[i] := Array.getElem?_eq_getElem hlt
    unfold wpOp at h1 ⊢
    rw [ops'_inv hp hlt,ho] at h1
    rw [ho]
    simp only [Option.map_some,wanted' hp,permO_dst] at h1 ⊢
    have hK : ∀ a w,wpAny P md (ops' ops p) Q fuel (L'.setIfInBounds (invL p i) true) a w → wpAny P md ops Q fuel (L.setIfInBounds i true) a w := fun a w => ih _ _ a w (set' hp hs hlt)
    split
    · rename_i hw
      rw [if_pos hw] at h1
      exact h1.imp (fun h => Oper.wp_mono hK (permO_wp h)) (fun h => ⟨permO_asks h.1,h.2⟩)
    · rename_i hw
      rw [if_neg hw] at h1
      exact hK _ _ h1
end
theorem wpAny_perm {P : Program} {Q : Exit → Act → World → Prop} {md : Region.Mode} {ops : Array Oper} {a : Act} {w : World} : ∀ (p : List Nat),permB ops p → wpAny P md (permD ops p) Q (permD ops p).size (Array.replicate (permD ops p).size false) a w → wpAny P md ops Q ops.size (Array.replicate ops.size false) a w
  | [],_,h => h
  | x :: r,hb,h => by
    simp only [permB,permBb,Bool.and_eq_true,beq_iff_eq,decide_eq_true_eq,List.all_eq_true] at hb
    obtain ⟨⟨h1,h2⟩,h3⟩ := hb
    have hp : OrdP (x :: r) ops.size := ⟨h1,h2,fun {i} hi => List.contains_iff_mem.1 (h3 i (List.mem_range.2 hi)).1,fun k hk => ⟨_,(h3 k (List.mem_range.2 hk)).2⟩⟩
    have hs := ops'_size hp
    have e : permD ops (x :: r) = ops' ops (x :: r) := rfl
    rw [e,hs] at h
    refine wpAny_perm' hp _ _ _ _ _ ⟨by simp,by simp,fun i hi => ?_⟩ h
    have := inv_lt hp hi
    simp [Array.getD,hi,this]
end Vc
