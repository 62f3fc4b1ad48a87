/- Texts of this claim, laid together: RedirP, WorldP, FetchP, IdxAny, Ascii, Bytes, Ascii2, Lib, Comm, Number, Host, Host2, Own, RefHost, RefHost2, HostPC, ValsW, CutP, Body, Body2, Body3, RefBody, Law19, Row, Bld, Bld2, CutW, TrimW, TrimR, Pct, UrlW, Uri. -/
import Derived.Lib.Join
import Derived.Lib.OthersKept
import Derived.Deep.QuietTactic
import Derived.BigQuiet
import Derived.Test.YtfmafmgbfamaiaaGreatDoorProg
import Derived.Lib.ConvBytes
import Derived.Laws.IdiomStrings
import Derived.Lib.QuietBelow
import Derived.Lib.FrozenHead
import Derived.Deep.RegionWith
import Derived.StillTailTactics
import Derived.Test.YtfmafmgbfamaiaaGreatDoorM3
/- Plain functions and laws of package redirect; the values of a header field. -/
set_option linter.all false
namespace Wf
open Go Go.RowKit
def hdrVals (fs : List (Bytes × Bytes)) (name : Bytes) : List Bytes := (fs.filter fun f => lower f.1 == lower name).map (·.2)
def locS : Bytes := [108, 111, 99, 97, 116, 105, 111, 110]
def redirSt (n : Int) : Bool := n == 301 || n == 302 || n == 303 || n == 307 || n == 308
def redirEnd (r : Url × Int) (seen : List Url) : Url × Int :=
  if r.2 = 253 then (Url.none, 253) else if r.2 ≠ 0 then (Url.none, 252) else if r.1.bare ∈ seen then (Url.none, 251) else (r.1.bare, 0)
def redirOf (u : Url) (l : List Bytes) (seen : List Url) : Url × Int :=
  if l.length ≠ 1 then (Url.none, 252) else redirEnd (urlRelative u (l.head?.getD [])) seen
def redirNext (u : Url) (fs : List (Bytes × Bytes)) (seen : List Url) (hops : Int) : Url × Int :=
  if 5 ≤ hops then (Url.none, 250) else redirOf u (hdrVals fs locS) seen
theorem hdrVals_snoc (fs : List (Bytes × Bytes)) (f : Bytes × Bytes) (name : Bytes) : hdrVals (fs ++ [f]) name = hdrVals fs name ++ if lower f.1 = lower name then [f.2] else [] := by
  unfold hdrVals
  rw [List.filter_append, List.map_append]
  congr 1
  by_cases h : lower f.1 = lower name
  · simp [h]
  · simp [h]
theorem hdrVals_take {fs : List (Bytes × Bytes)} {k : Nat} (h : k < fs.length) (name : Bytes) : hdrVals (fs.take (k + 1)) name = hdrVals (fs.take k) name ++ if lower fs[k].1 = lower name then [fs[k].2] else [] := by
  rw [List.take_succ_eq_append_getElem h, hdrVals_snoc]
theorem hdrVals_len (fs : List (Bytes × Bytes)) (name : Bytes) : (hdrVals fs name).length ≤ fs.length := by
  unfold hdrVals
  rw [List.length_map]
  exact List.length_filter_le _ _
theorem redirNext_ok {u v : Url} {fs : List (Bytes × Bytes)} {seen : List Url} {hops : Int} (h : redirNext u fs seen hops = (v, 0)) : hops < 5 ∧ urlValid v = true ∧ v.hasFrag = false ∧ v ∉ seen := by
  unfold redirNext redirOf redirEnd at h
  split at h
  · simp at h
  rename_i h1
  split at h
  · simp at h
  split at h
  · simp at h
  split at h
  · simp at h
  rename_i h4
  split at h
  · simp at h
  rename_i h5
  simp only [Prod.mk.injEq, and_true] at h
  subst h
  have h4 := Decidable.not_not.1 h4
  refine ⟨by omega, ?_, rfl, h5⟩
  refine CanUrl.valid (CanUrl.bare ?_)
  generalize hr : urlRelative u _ = r at h4 ⊢
  obtain ⟨r, e⟩ := r
  simp only at h4
  subst h4
  unfold urlRelative at hr
  split at hr
  · simp at hr
  split at hr
  · rename_i k; exact absurd (Prod.mk.inj hr).2 k
  split at hr
  · simp at hr
  exact can_of_parse hr
end Wf
/- Plain functions and laws of package world. -/
set_option linter.all false
namespace Wf
open Go Go.RowKit
structure Ans where
  host : Bytes
  port : Int
  target : Bytes
  raw : Bytes
  fail : Int
  since : Int
  till : Int
  deriving DecidableEq
def Ans.none : Ans := ⟨[], 0, [], [], 0, 0, 0⟩
def ansFits (h : Bytes) (p : Int) (t : Bytes) (now : Int) (a : Ans) : Bool :=
  (a.host == h && a.port == p) && a.target == t && decide (a.since ≤ now) && (a.till == 0 || decide (now < a.till))
def ansOf (a : Ans) : Bytes × Int :=
  if a.fail = 1 then ([], 240) else if a.fail = 2 then ([], 241) else if a.fail = 3 then ([], 242) else if a.fail = 4 then ([], 243) else (a.raw, 0)
def askOf : Option Ans → Bytes × Int
  | Option.none => ([], 241)
  | Option.some a => ansOf a
def worldAsk (L : List Ans) (u : Url) (now : Int) : Bytes × Int :=
  if urlValid u = false then ([], 8) else askOf (L.find? (ansFits u.host u.port (urlTarget u) now))
def ansValid (a : Ans) : Bool :=
  decide ((hostPort (hostText a.host a.port)).2 = 0) && decide ((hostPort (hostText a.host a.port)).1 = (a.host, a.port)) && Lib.hasPrefix a.target [47] && decide (0 ≤ a.fail) && decide (a.fail ≤ 4)
def worldValid (L : List Ans) : Bool := decide (L.length ≤ 256) && L.all ansValid
def worldWithout (L : List Ans) (h : Bytes) (p : Int) : List Ans := L.filter fun a => !(a.host == h && a.port == p)
theorem find_none {α : Type} {p : α → Bool} {L : List α} (h : ∀ a ∈ L, p a = false) : L.find? p = none := by
  rw [List.find?_eq_none]
  intro a ha
  rw [h a ha]; simp
theorem find_at {α : Type} {p : α → Bool} {L : List α} {k : Nat} (hk : k < L.length) (h : ∀ a ∈ L.take k, p a = false) (hp : p L[k] = true) : L.find? p = some L[k] := by
  have e : L = L.take k ++ L[k] :: L.drop (k + 1) := by
    rw [← List.drop_eq_getElem_cons hk, List.take_append_drop]
  generalize L[k] = x at e hp
  rw [e, List.find?_append, find_none h]
  simp [List.find?_cons, hp]
def idxI {α : Type} (p : α → Bool) (L : List α) : Int := if L.any p then (L.findIdx p : Int) else -1
theorem idxI_none {α : Type} {p : α → Bool} {L : List α} (h : ∀ a ∈ L, p a = false) : idxI p L = -1 := by
  unfold idxI
  rw [if_neg]
  intro q
  obtain ⟨a, ha, hp⟩ := List.any_eq_true.1 q
  rw [h a ha] at hp
  cases hp
theorem idxI_at {α : Type} {p : α → Bool} {L : List α} {k : Nat} (hk : k < L.length) (h : ∀ a ∈ L.take k, p a = false) (hp : p L[k] = true) : idxI p L = k := by
  unfold idxI
  rw [if_pos (List.any_eq_true.2 ⟨_, List.getElem_mem hk, hp⟩)]
  congr 1
  refine (List.findIdx_eq hk).2 ⟨hp, fun j hj => ?_⟩
  have := h L[j] (by rw [List.mem_take_iff_getElem]; exact ⟨j, by omega, rfl⟩)
  exact this
theorem idxI_cases {α : Type} (p : α → Bool) (L : List α) : (idxI p L = -1 ∧ L.any p = false ∧ L.find? p = none) ∨ ∃ (k : Nat) (h : k < L.length), idxI p L = k ∧ L.any p = true ∧ L.find? p = some L[k] := by
  by_cases h : L.any p = true
  · right
    obtain ⟨a, ha, hpa⟩ := List.any_eq_true.1 h
    have hk : L.findIdx p < L.length := List.findIdx_lt_length_of_exists ⟨a, ha, hpa⟩
    refine ⟨L.findIdx p, hk, by unfold idxI; rw [if_pos h], h, ?_⟩
    refine find_at hk (fun b hb => ?_) (List.findIdx_getElem (w := hk))
    obtain ⟨j, hj, rfl⟩ := List.mem_take_iff_getElem.1 hb
    exact by simpa using List.not_of_lt_findIdx (p := p) (xs := L) (i := j) (by omega)
  · left
    have h := Bool.not_eq_true _ ▸ h
    have h2 : ∀ a ∈ L, p a = false := by simpa using h
    exact ⟨idxI_none h2, h, find_none h2⟩
end Wf
/- Plain functions of packages body (Read), reply and fetch; chains of redirects. -/
set_option linter.all false
namespace Wf
open Go Go.RowKit
def teN : Bytes := [116, 114, 97, 110, 115, 102, 101, 114, 45, 101, 110, 99, 111, 100, 105, 110, 103]
def clN : Bytes := [99, 111, 110, 116, 101, 110, 116, 45, 108, 101, 110, 103, 116, 104]
def chN : Bytes := [99, 104, 117, 110, 107, 101, 100]
def bodyLen (s : Bytes) : Option Nat :=
  if (splitC 44 s).all (fun p => trimB p == trimB (cutC 44 s).1) && digitsOk (trimB (cutC 44 s).1) then some (if (numParse isDigit 10 4611686018427387904 (trimB (cutC 44 s).1)).2 = 0 then (numParse isDigit 10 4611686018427387904 (trimB (cutC 44 s).1)).1 else 4611686018427387904) else none
def bodyRead (st : Int) (fs : List (Bytes × Bytes)) (rest : Bytes) (most : Int) : Bytes × Int :=
  if most < 0 then ([], 4)
  else if (100 ≤ st ∧ st ≤ 199) ∨ st = 204 ∨ st = 304 then ([], 0)
  else if hdrVals fs teN ≠ [] then (if hdrVals fs clN ≠ [] ∨ lower (Lib.join (hdrVals fs teN) [44, 32]) ≠ chN then ([], 190) else chunked rest most)
  else if hdrVals fs clN ≠ [] then (match bodyLen (Lib.join (hdrVals fs clN) [44, 32]) with
    | none => ([], 190)
    | some n => if most < n then ([], 142) else if rest.length < n then ([], 191) else (rest.take n, 0))
  else if most < rest.length then ([], 142) else (rest, 0)
structure Resp where
  url : Url
  minor : Int
  status : Int
  fields : List (Bytes × Bytes)
  body : Bytes
  deriving DecidableEq
def Resp.none : Resp := ⟨Url.none, 0, 0, [], []⟩
def replyOf (L : List Ans) (now : Int) (u : Url) : Resp × Int × Int :=
  if (worldAsk L u now).2 ≠ 0 then (Resp.none, 0, (worldAsk L u now).2)
  else if (headParse (worldAsk L u now).1).2.2 ≠ 0 then (Resp.none, 0, (headParse (worldAsk L u now).1).2.2)
  else if redirSt (headParse (worldAsk L u now).1).1.2.1 then (⟨u, (headParse (worldAsk L u now).1).1.1, (headParse (worldAsk L u now).1).1.2.1, (headParse (worldAsk L u now).1).1.2.2, []⟩, (headParse (worldAsk L u now).1).1.2.1, 0)
  else (⟨u, (headParse (worldAsk L u now).1).1.1, (headParse (worldAsk L u now).1).1.2.1, (headParse (worldAsk L u now).1).1.2.2, (bodyRead (headParse (worldAsk L u now).1).1.2.1 (headParse (worldAsk L u now).1).1.2.2 ((worldAsk L u now).1.drop (headParse (worldAsk L u now).1).2.1.toNat) 1048576).1⟩, (headParse (worldAsk L u now).1).1.2.1,
    (bodyRead (headParse (worldAsk L u now).1).1.2.1 (headParse (worldAsk L u now).1).1.2.2 ((worldAsk L u now).1.drop (headParse (worldAsk L u now).1).2.1.toNat) 1048576).2)
structure FetchS where
  next : Url
  hops : Int
  done : Bool
  err : Int
  resp : Resp
  trace : List (Url × Int × Int)
  seen : List Url
  deriving DecidableEq
def fetchStart (u : Url) : FetchS := if urlValid u = false then ⟨Url.none, 0, true, 8, Resp.none, [], []⟩ else ⟨u.bare, 0, false, 0, Resp.none, [], [u.bare]⟩
def fetchStep (L : List Ans) (now : Int) (f : FetchS) : FetchS :=
  if f.done then f
  else if (replyOf L now f.next).2.2 = 0 ∧ redirSt (replyOf L now f.next).2.1 = true then
    (if (redirNext f.next (replyOf L now f.next).1.fields f.seen f.hops).2 = 0
      then ⟨(redirNext f.next (replyOf L now f.next).1.fields f.seen f.hops).1, f.hops + 1, false, f.err, Resp.none, f.trace ++ [(f.next, (replyOf L now f.next).2)], f.seen ++ [(redirNext f.next (replyOf L now f.next).1.fields f.seen f.hops).1]⟩
      else ⟨f.next, f.hops, true, (redirNext f.next (replyOf L now f.next).1.fields f.seen f.hops).2, Resp.none, f.trace ++ [(f.next, (replyOf L now f.next).2)], f.seen⟩)
  else if (replyOf L now f.next).2.2 ≠ 0 then ⟨f.next, f.hops, true, (replyOf L now f.next).2.2, Resp.none, f.trace ++ [(f.next, (replyOf L now f.next).2)], f.seen⟩
  else ⟨f.next, f.hops, true, f.err, (replyOf L now f.next).1, f.trace ++ [(f.next, (replyOf L now f.next).2)], f.seen⟩
/-! Chains. -/
def rawText (st : Nat) (fs : List (Bytes × Bytes)) (body : Bytes) : Bytes := headText st (fs ++ [(clN, decS body.length)]) ++ body
def exS : Bytes := [46, 101, 120, 97, 109, 112, 108, 101]
def chainHosts : List Bytes := [104 :: exS, 104 :: 97 :: exS, 104 :: 98 :: exS, 104 :: 99 :: exS]
def chainUrl (h : Bytes) (i : Nat) : Url := ⟨h, 0, [47, (97 + i).toUInt8], [], [], false, false⟩
theorem chain_parse : ∀ h ∈ chainHosts, ∀ i < 9, urlParse (urlText (chainUrl h i)) = (chainUrl h i, 0) := by decide +kernel
theorem chain_value : ∀ h ∈ chainHosts, ∀ i < 9, valueB (urlText (chainUrl h i)) = true ∧ trimB (urlText (chainUrl h i)) = urlText (chainUrl h i) ∧ (urlText (chainUrl h i)).length ≤ 40 := by decide +kernel
theorem chain_valid : ∀ h ∈ chainHosts, ∀ i < 9, urlValid (chainUrl h i) = true := by decide +kernel
theorem chain_far : ∀ i < 9, ∀ j < 9, (97 + i).toUInt8 = (97 + j).toUInt8 → i = j := by decide +kernel
def chainRow (H : Nat → Bytes) (st k i : Nat) : Ans := ⟨H i, 0, [47, (97 + i).toUInt8], if i < k then rawText st [(locS, urlText (chainUrl (H (i + 1)) (i + 1)))] [] else rawText 200 [] [101, 110, 100], 0, 0, 0⟩
def chainL (H : Nat → Bytes) (st k : Nat) : List Ans := (List.range (k + 1)).map (chainRow H st k)
section
variable {H : Nat → Bytes} {st k : Nat}
theorem chain_ask (hH : ∀ i, H i ∈ chainHosts) (hk : k ≤ 8) {i : Nat} (hi : i ≤ k) : worldAsk (chainL H st k) (chainUrl (H i) i) 0 = ((chainRow H st k i).raw, 0) := by
  unfold worldAsk
  rw [if_neg (by rw [chain_valid _ (hH i) i (by omega)]; simp)]
  have ht : urlTarget (chainUrl (H i) i) = [47, (97 + i).toUInt8] := rfl
  have hlen : i < (chainL H st k).length := by simp [chainL]; omega
  have hget : ∀ j (h : j < (chainL H st k).length), (chainL H st k)[j] = chainRow H st k j := fun j h => by simp [chainL]
  rw [ht, find_at hlen (fun a ha => ?_) ?_, hget]
  · simp [askOf, ansOf, chainRow]
  · rw [hget]
    simp [ansFits, chainRow, chainUrl]
  · obtain ⟨j, hj, rfl⟩ := List.mem_take_iff_getElem.1 ha
    rw [hget]
    have hji : j < i := by omega
    have : ((97 + j).toUInt8 == (97 + i).toUInt8) = false := by
      rw [beq_eq_false_iff_ne]
      intro h
      exact absurd (chain_far j (by omega) i (by omega) h) (by omega)
    unfold ansFits
    simp only [chainRow, chainUrl]
    have h2 : (([47, (97 + j).toUInt8] : Bytes) == [47, (97 + i).toUInt8]) = false := by
      rw [beq_eq_false_iff_ne]
      intro h
      simp only [List.cons.injEq, true_and, and_true] at h
      rw [h, beq_self_eq_true] at this
      cases this
    rw [h2]
    simp
theorem field_loc {h : Bytes} {i : Nat} (hh : h ∈ chainHosts) (hi : i < 9) : FieldOk (locS, urlText (chainUrl h i)) := ⟨(by decide : nameB locS = true), (by decide +kernel : lower locS = locS), (chain_value h hh i hi).1, (chain_value h hh i hi).2.1⟩
theorem field_len0 : FieldOk (clN, decS 0) := by rw [decS_small (by omega)]; exact ⟨by decide, by decide +kernel, by decide, by decide⟩
theorem field_len3 : FieldOk (clN, decS 3) := by rw [decS_small (by omega)]; exact ⟨by decide, by decide +kernel, by decide, by decide⟩
theorem first_len {st : Nat} (h1 : 100 ≤ st) (h2 : st < 600) : (firstLine st).length = 14 := by
  unfold firstLine
  rw [decS_three h1 (by omega)]
  rfl
theorem chain_head (hH : ∀ i, H i ∈ chainHosts) (hk : k ≤ 8) (h1 : 100 ≤ st) (h2 : st < 600) {i : Nat} (hi : i < k) : headParse (chainRow H st k i).raw = ((1, (st : Int), [(locS, urlText (chainUrl (H (i + 1)) (i + 1))), (clN, decS 0)]), ((headText st [(locS, urlText (chainUrl (H (i + 1)) (i + 1))), (clN, decS 0)]).length : Int), 0) := by
  have hv := chain_value (H (i + 1)) (hH _) (i + 1) (by omega)
  unfold chainRow rawText
  simp only [if_pos hi]
  refine headParse_format h1 h2 _ (fun f hf => ?_) (by simp) ?_ []
  · simp only [List.cons_append, List.nil_append, List.mem_cons, List.not_mem_nil, or_false] at hf
    rcases hf with rfl | rfl
    · exact field_loc (hH _) (by omega)
    · exact field_len0
  · have hf := first_len h1 h2
    have hd : (decS 0).length = 1 := by rw [decS_small (by omega)]; rfl
    have hcl : clN.length = 14 := rfl
    have hlo : locS.length = 8 := rfl
    rw [headText_len]
    simp only [List.length_append, List.map_cons, List.map_nil, List.flatMap_cons, List.flatMap_nil, List.cons_append, List.nil_append, fieldLine, List.length_cons, List.length_nil, hf, List.length_nil, hd, hcl, hlo]
    omega
def chainF (H : Nat → Bytes) (i : Nat) : List (Bytes × Bytes) := [(locS, urlText (chainUrl (H (i + 1)) (i + 1))), (clN, decS 0)]
theorem chain_mid (hH : ∀ i, H i ∈ chainHosts) (hk : k ≤ 8) (h1 : 100 ≤ st) (h2 : st < 600) (hr : redirSt st = true) {i : Nat} (hi : i < k) : replyOf (chainL H st k) 0 (chainUrl (H i) i) = (⟨chainUrl (H i) i, 1, st, chainF H i, []⟩, (st : Int), 0) := by
  have ha := chain_ask (st := st) hH hk (Nat.le_of_lt hi)
  have hp := chain_head hH hk h1 h2 hi
  unfold replyOf
  rw [ha]
  simp only [ne_eq, not_true, if_false, hp, hr, if_true]
  rfl
theorem chain_last (hH : ∀ i, H i ∈ chainHosts) (hk : k ≤ 8) : replyOf (chainL H st k) 0 (chainUrl (H k) k) = (⟨chainUrl (H k) k, 1, 200, [(clN, decS 3)], [101, 110, 100]⟩, 200, 0) := by
  have ha := chain_ask (st := st) hH hk (Nat.le_refl k)
  have hraw : (chainRow H st k k).raw = headText 200 [(clN, decS 3)] ++ [101, 110, 100] := by simp [chainRow, rawText]
  have hf := first_len (st := 200) (by omega) (by omega)
  have hd : (decS 3).length = 1 := by rw [decS_small (by omega)]; rfl
  have hp := headParse_format (st := 200) (by omega) (by omega) [(clN, decS 3)] (fun f hf => by rw [List.mem_singleton.1 hf]; exact field_len3) (by simp) (by
    have hcl : clN.length = 14 := rfl
    rw [headText_len]
    simp only [List.length_append, List.map_cons, List.map_nil, List.flatMap_cons, List.flatMap_nil, fieldLine, List.length_cons, List.length_nil, hf, hd, hcl]
    omega) [101, 110, 100]
  have hb : bodyRead 200 [(clN, decS 3)] [101, 110, 100] 1048576 = ([101, 110, 100], 0) := by rw [decS_small (by omega)]; decide +kernel
  have hdr : (headText 200 [(clN, decS 3)] ++ [101, 110, 100]).drop (headText 200 [(clN, decS 3)]).length = [101, 110, 100] := List.drop_left
  unfold replyOf
  rw [ha, hraw]
  simp only [ne_eq, not_true, if_false, hp]
  rw [if_neg (by decide)]
  simp only [Int.toNat_natCast, Int.cast_ofNat_Int, hdr, hb]
theorem chain_next (hH : ∀ i, H i ∈ chainHosts) {i : Nat} (hi : i < 8) (h5 : i < 5) (seen : List Url) (hs : chainUrl (H (i + 1)) (i + 1) ∉ seen) : redirNext (chainUrl (H i) i) (chainF H i) seen i = (chainUrl (H (i + 1)) (i + 1), 0) := by
  have hv : hdrVals (chainF H i) locS = [urlText (chainUrl (H (i + 1)) (i + 1))] := by
    have hne : (lower clN == lower locS) = false := by decide +kernel
    unfold hdrVals chainF
    rw [List.filter_cons, if_pos (by simp), List.filter_cons, if_neg (by rw [hne]; simp)]
    rfl
  have hrel := rel_self (chain_valid _ (hH i) i (by omega)) (can_of_parse (chain_parse _ (hH (i + 1)) (i + 1) (by omega)))
  have hbare : (chainUrl (H (i + 1)) (i + 1)).bare = chainUrl (H (i + 1)) (i + 1) := rfl
  unfold redirNext
  rw [if_neg (by omega), hv]
  unfold redirOf redirEnd
  rw [if_neg (by simp)]
  simp only [List.head?_cons, Option.getD_some, hrel]
  rw [if_neg (by decide), if_neg (by decide), hbare, if_neg hs]
theorem chain_new (H : Nat → Bytes) {i m : Nat} (hm : m < 9) (hi : i ≤ m) : chainUrl (H m) m ∉ (List.range i).map fun j => chainUrl (H j) j := by
  intro h
  obtain ⟨j, hj, e⟩ := List.mem_map.1 h
  have hj := List.mem_range.1 hj
  have := congrArg Url.path e
  simp only [chainUrl, List.cons.injEq, true_and, and_true] at this
  have := chain_far j (by omega) m hm this
  omega
def chainState (H : Nat → Bytes) (st m : Nat) : FetchS := ⟨chainUrl (H m) m, m, false, 0, Resp.none, (List.range m).map fun i => (chainUrl (H i) i, (st : Int), 0), (List.range (m + 1)).map fun i => chainUrl (H i) i⟩
theorem chain_start (hH : ∀ i, H i ∈ chainHosts) (st : Nat) : fetchStart (chainUrl (H 0) 0) = chainState H st 0 := by
  unfold fetchStart
  rw [if_neg (by rw [chain_valid _ (hH 0) 0 (by omega)]; simp)]
  rfl
theorem chain_step (hH : ∀ i, H i ∈ chainHosts) (hk : k ≤ 8) (h1 : 100 ≤ st) (h2 : st < 600) (hr : redirSt st = true) {m : Nat} (hm : m < k) (h5 : m < 5) : fetchStep (chainL H st k) 0 (chainState H st m) = chainState H st (m + 1) := by
  have hp := chain_mid hH hk h1 h2 hr hm
  have hn := chain_next hH (i := m) (by omega) h5 ((List.range (m + 1)).map fun i => chainUrl (H i) i) (chain_new H (by omega) (Nat.le_refl _))
  unfold fetchStep chainState
  simp only [hp, Bool.false_eq_true, if_false, hr, and_self, if_true, hn]
  rw [List.range_succ (n := m + 1), List.range_succ (n := m), List.map_append, List.map_append]
  simp
theorem chain_over (hH : ∀ i, H i ∈ chainHosts) (hk : k ≤ 8) (h1 : 100 ≤ st) (h2 : st < 600) (hr : redirSt st = true) (hm : 5 < k) : fetchStep (chainL H st k) 0 (chainState H st 5) = ⟨chainUrl (H 5) 5, 5, true, 250, Resp.none, (List.range 6).map fun i => (chainUrl (H i) i, (st : Int), 0), (List.range 6).map fun i => chainUrl (H i) i⟩ := by
  have hp := chain_mid hH hk h1 h2 hr hm
  have hn : ∀ seen, redirNext (chainUrl (H 5) 5) (chainF H 5) seen ((5 : Nat) : Int) = (Url.none, 250) := fun seen => by unfold redirNext; rw [if_pos (by omega)]
  unfold fetchStep chainState
  simp only [hp, Bool.false_eq_true, if_false, hr, and_self, if_true, hn]
  rw [if_neg (by decide)]
  rfl
theorem chain_end (hH : ∀ i, H i ∈ chainHosts) (hk : k ≤ 8) : fetchStep (chainL H st k) 0 (chainState H st k) = ⟨chainUrl (H k) k, k, true, 0, ⟨chainUrl (H k) k, 1, 200, [(clN, decS 3)], [101, 110, 100]⟩, ((List.range k).map fun i => (chainUrl (H i) i, (st : Int), 0)) ++ [(chainUrl (H k) k, 200, 0)], (List.range (k + 1)).map fun i => chainUrl (H i) i⟩ := by
  have hp := chain_last (st := st) hH hk
  unfold fetchStep chainState
  simp only [hp, Bool.false_eq_true, if_false, ne_eq, not_true]
  rw [if_neg (by rintro ⟨-, h⟩; exact absurd h (by decide))]
end
end Wf
/- strings.IndexRune at a rune that is no ASCII, in an ASCII string; strings.IndexAny at an ASCII set. -/
set_option linter.all false
namespace Go.Proofs.YtfmafmgbfamaiaaGreatDoor
open Go.RowKit Wf
attribute [local go_sem] ex_list app_list get_list

theorem encode_high (r : Int) (h1 : 128 ≤ r) (h4 : Lib.validRune r = true) : ∃ el : Bytes, Utf8.encode r = ⟨List.toArray el⟩ ∧ 2 ≤ el.length ∧ el.length ≤ 4 ∧ ∀ h : el.length - 1 < el.length, 128 ≤ el[el.length - 1].toNat := by
  have hv : Utf8.valid r = true := by
    unfold Lib.validRune at h4
    have := of_decide_eq_true h4
    unfold Utf8.valid
    simp
    omega
  obtain ⟨n, rfl⟩ := Int.eq_ofNat_of_zero_le (show 0 ≤ r by omega)
  have hn : 128 ≤ n := by omega
  have key : ∀ m : Nat, 128 ≤ (UInt8.ofNat (0x80 + m % 64)).toNat := by
    intro m
    rw [UInt8.toNat_ofNat']
    omega
  unfold Utf8.encode
  rw [if_pos hv]
  simp only [Int.toNat_natCast]
  rw [if_neg (show ¬ n < 128 by omega)]
  split
  · exact ⟨_, rfl, by simp, by simp, fun _ => key _⟩
  · split
    · exact ⟨_, rfl, by simp, by simp, fun _ => key _⟩
    · exact ⟨_, rfl, by simp, by simp, fun _ => key _⟩

theorem indexByte_no (l : Bytes) (c : UInt8) (h : ∀ b ∈ l, b ≠ c) : Lib.indexByte l c = -1 := by
  induction l with
  | nil => rfl
  | cons b l ih =>
    have h1 := h b (by simp)
    have h2 := ih fun x hx => h x (by simp [hx])
    simp [Lib.indexByte, h1, h2]

set_option maxRecDepth 100000 in
set_option maxHeartbeats 400000 in
theorem indexRune_err (l : Bytes) (w : World) (ha : ∀ i (h : i < l.length), l[i].toNat < 128) (hl : l.length ≤ 1000000) :
    Calls Tryz.prog 91 #[(Value.string ⟨List.toArray (l)⟩), .int .i32 65533] w fun e w' => e = .returned (.int .i64 (-1)) ∧ Below w.heap.size w w' := by
  go_enter Tryz.func91, Tryz.ntmps91
  have Ha := hid ha
  clear ha
  go_wp2_with fail
  go_loopw [] (fun wr => ∃ i : Nat, i ≤ l.length ∧ wr = w.iter ⟨List.toArray l⟩ i) (fun wr => l.length - wr.iterPos w.heap.size)
  case atStart => exact ⟨0, by omega, rfl⟩
  case round =>
    obtain ⟨i, hi, rfl⟩ := hrel
    by_cases hlt : i < l.length
    · have hnx := fun ty => run_next_ascii (P := Tryz.prog) w ⟨List.toArray l⟩ i ty hlt (Ha.out i hlt)
      have hb := Ha.out i hlt
      have hx : ((l[i].toNat : Int) == 65533) = false := beq_eq_false_iff_ne.2 (by omega)
      simp only [get_list] at hnx
      go_wp2_with fail
      go_roundw
      case rel => exact ⟨i + 1, by omega, rfl⟩
      case measure => simp; omega
    · have hnx := run_next_end (P := Tryz.prog) w ⟨List.toArray l⟩ i
      have hsz : l.length ≤ i := by omega
      go_wp2_with fail
      go_ret
      exact ⟨rfl, (Below.refl _ _).alloc (Nat.le_refl _) _⟩
set_option maxRecDepth 100000 in
set_option maxHeartbeats 400000 in
theorem indexRune_bad (l : Bytes) (r : Int) (w : World) (h1 : 128 ≤ r) (h2 : r ≤ 2147483647) (h3 : (r == 65533) = false) (h4 : Lib.validRune r = false) :
    Calls Tryz.prog 91 #[(Value.string ⟨List.toArray (l)⟩), .int .i32 r] w fun e w' => e = .returned (.int .i64 (-1)) ∧ Below w.heap.size w w' := by
  have h5 := hid h4
  go_enter Tryz.func91, Tryz.ntmps91
  go_wp2_with (go_at_call 117; refine (Tryz.utf8_ValidRune _ _).mono ?_; rintro e w' ⟨rfl, rfl⟩)
  go_ret
  exact ⟨rfl, Below.refl _ _⟩
set_option maxRecDepth 100000 in
set_option maxHeartbeats 400000 in
theorem indexRune_high (l : Bytes) (r : Int) (w : World) (ha : ∀ i (h : i < l.length), l[i].toNat < 128) (hl : l.length ≤ 1000000) (h1 : 128 ≤ r) (h2 : r ≤ 2147483647) (h3 : (r == 65533) = false) (h4 : Lib.validRune r = true) :
    Calls Tryz.prog 91 #[(Value.string ⟨List.toArray (l)⟩), .int .i32 r] w fun e w' => e = .returned (.int .i64 (-1)) ∧ Below w.heap.size w w' := by
  have Ha := hid ha
  clear ha
  go_enter Tryz.func91, Tryz.ntmps91
  go_wp2_with (go_at_call 117; refine (Tryz.utf8_ValidRune _ _).mono ?_; rintro e w' ⟨rfl, rfl⟩)
  go_step3
  go_wp2_with fail
  obtain ⟨el, hel, he1, he2, he3⟩ := encode_high r h1 h4
  have He3 := hid he3
  clear he3
  rw [hel]
  have hx : wrap64 ((ByteArray.size ⟨List.toArray el⟩ : Int) - 1) = ((el.length - 1 : Nat) : Int) := by
    have : ByteArray.size ⟨List.toArray el⟩ = el.length := rfl
    rw [this, IntWalk.wrap64_in _ ⟨by omega, by omega⟩]
    omega
  rw [hx]
  clear hel hx h1 h2 h3 h4
  refine wp_loop_once ?_
  by_cases hlt : el.length - 1 < l.length
  · have hle : el.length - 1 < el.length := by omega
    have hbt := Ha.out _ hlt
    have hc := He3.out (by omega)
    have hne : ((l[el.length - 1].toNat : Int) != (el[el.length - 1].toNat : Int)) = true := by rw [bne_iff_ne]; omega
    have hno := indexByte_no (l.drop (el.length - 1 + 1)) el[el.length - 1] (fun b hb hx => by
      obtain ⟨j, hj, rfl⟩ := List.mem_iff_getElem.1 hb
      rw [List.getElem_drop] at hx
      have h1 := Ha.out (el.length - 1 + 1 + j) (by simp at hj; omega)
      rw [hx] at h1
      omega)
    have Hno := hid hno
    clear hno
    go_wp2_with fail
    go_step3
    go_wp2_with fail
    go_quiet (fail)
    go_wp2_with fail
    have hb : Below w'.heap.size w' (w'.drewN nq) := below_drewN (Below.refl _ _) _
    generalize w'.drewN nq = w2 at hb ⊢
    have hs1 : IntKind.i64.wrap (((el.length - 1 : Nat) : Int) + 1) = ((el.length - 1 : Nat) : Int) + 1 := IntWalk.i64_in _ (by omega)
    have hs2 : (0 : Int) ≤ ((el.length - 1 : Nat) : Int) + 1 := by omega
    have hs3 : (((el.length - 1 : Nat) : Int) + 1).toNat = el.length - 1 + 1 := by omega
    have hs4 : ((el.length - 1 : Nat) : Int) + 1 ≤ (l.length : Int) := by omega
    go_quiet ((go_at_call 63; refine Calls.quiet_of_same (Tryz.strings_IndexByte _ _ _)))
    clear hs1 hs2 hs3 hs4
    rw [show ((el[el.length - 1].toNat : Int)).toNat.toUInt8 = el[el.length - 1] from by simp, Hno.out]
    go_wp2_with fail
    rw [Exit.noGoto_ret]
    go_wp2_with fail
    rw [Exit.noGoto_ret]
    go_ret
    exact ⟨rfl, below_drewN hb _⟩
  · go_wp2_with fail
    rw [Exit.noGoto_ret]
    go_ret
    exact ⟨rfl, Below.refl _ _⟩
theorem noAny_high (s : ByteArray) (set : Bytes) (i k : Nat) (hn : Lib.NoAny s.data.toList set i) (hset : ∀ j (h : j < set.length), set[j].toNat < 128) (hh : ∀ j, i ≤ j → j < i + k → ∀ h : j < s.size, 128 ≤ s[j].toNat) : Lib.NoAny s.data.toList set (i + k) := by
  intro j b hj hb
  by_cases hji : j < i
  · exact hn j b hji hb
  · obtain ⟨hjs, rfl⟩ := List.getElem?_eq_some_iff.1 hb
    have hs : j < s.size := by rw [Lib.size_eq]; exact hjs
    have h1 : 128 ≤ (s.data.toList[j]).toNat := hh j (by omega) hj hs
    rw [Bool.eq_false_iff]
    intro hc
    have hmem := List.contains_iff_mem.1 hc
    obtain ⟨q, hq, he⟩ := List.mem_iff_getElem.1 hmem
    have h2 := hset q hq
    rw [he] at h2
    omega
theorem get_bang (s : ByteArray) (j : Nat) (h : j < s.size) : (s.get! j).toNat = s[j].toNat := by
  have := get_at s j h
  rw [Nat.add_zero] at this
  rw [this]
theorem cont_high (s : ByteArray) (j : Nat) (h : (decide (j < s.size) && (s.get! j).toNat / 64 == 2) = true) : j < s.size ∧ ∀ h : j < s.size, 128 ≤ s[j].toNat := by
  simp only [Bool.and_eq_true, decide_eq_true_eq, beq_iff_eq] at h
  refine ⟨h.1, fun hj => ?_⟩
  have := h.2
  rw [get_bang s j hj] at this
  omega
def Span (s : ByteArray) (i : Nat) (p : Nat × Nat) : Prop := i + p.2 ≤ s.size ∧ ∀ j, i ≤ j → j < i + p.2 → ∀ h : j < s.size, 128 ≤ s[j].toNat
theorem decode_span (s : ByteArray) (i : Nat) (h : i < s.size) (hx : 128 ≤ s[i].toNat) : Span s i (Utf8.decode s i) := by
  have one : ∀ e, Span s i (e, 1) := fun e => ⟨by dsimp only; omega, fun j h1 h2 h3 => by
    dsimp only at h2
    obtain rfl : j = i := by omega
    exact hx⟩
  unfold Utf8.decode
  dsimp only
  split
  · exact one _
  split
  · rename_i hc
    simp only [Bool.and_eq_true] at hc
    have c1 := cont_high s (i + 1) (by simpa using hc.2)
    split
    · refine ⟨by dsimp only; omega, fun j h1 h2 h3 => ?_⟩
      dsimp only at h2
      rcases Nat.lt_or_ge j (i + 1) with h' | h'
      · exact (one 0).2 j h1 h' h3
      · obtain rfl : j = i + 1 := by omega
        exact c1.2 h3
    · exact one _
  · split
    · rename_i hc
      simp only [Bool.and_eq_true] at hc
      have c1 := cont_high s (i + 1) (by simpa using hc.1.2)
      have c2 := cont_high s (i + 2) (by simpa using hc.2)
      split
      · refine ⟨by dsimp only; omega, fun j h1 h2 h3 => ?_⟩
        dsimp only at h2
        rcases Nat.lt_or_ge j (i + 1) with h' | h'
        · exact (one 0).2 j h1 h' h3
        · rcases Nat.lt_or_ge j (i + 2) with h'' | h''
          · obtain rfl : j = i + 1 := by omega
            exact c1.2 h3
          · obtain rfl : j = i + 2 := by omega
            exact c2.2 h3
      · exact one _
    · split
      · rename_i hc
        simp only [Bool.and_eq_true] at hc
        have c1 := cont_high s (i + 1) (by simpa using hc.1.1.2)
        have c2 := cont_high s (i + 2) (by simpa using hc.1.2)
        have c3 := cont_high s (i + 3) (by simpa using hc.2)
        split
        · refine ⟨by dsimp only; omega, fun j h1 h2 h3 => ?_⟩
          dsimp only at h2
          rcases Nat.lt_or_ge j (i + 1) with h' | h'
          · exact (one 0).2 j h1 h' h3
          · rcases Nat.lt_or_ge j (i + 2) with h'' | h''
            · obtain rfl : j = i + 1 := by omega
              exact c1.2 h3
            · rcases Nat.lt_or_ge j (i + 3) with h4 | h4
              · obtain rfl : j = i + 2 := by omega
                exact c2.2 h3
              · obtain rfl : j = i + 3 := by omega
                exact c3.2 h3
        · exact one _
      · exact one _
theorem indexRune_any (l : Bytes) (r : Int) (w : World) (ha : ∀ i (h : i < l.length), l[i].toNat < 128) (hl : l.length ≤ 1000000) (h1 : 128 ≤ r) (h2 : r ≤ 2147483647) :
    Calls Tryz.prog 91 #[(Value.string ⟨List.toArray (l)⟩), .int .i32 r] w fun e w' => e = .returned (.int .i64 (-1)) ∧ Below w.heap.size w w' := by
  by_cases h3 : r = 65533
  · subst h3
    exact indexRune_err l w ha hl
  · cases h4 : Lib.validRune r
    · exact indexRune_bad l r w h1 h2 (beq_eq_false_iff_ne.2 h3) h4
    · exact indexRune_high l r w ha hl h1 h2 (beq_eq_false_iff_ne.2 h3) h4

theorem iterPos_at {w : World} {k : Nat} {s : ByteArray} {p : Nat} (h : w.heap[k]? = some (.stringIter s p)) : w.iterPos k = p := by unfold World.iterPos; rw [h]

set_option maxRecDepth 100000 in
set_option maxHeartbeats 400000 in
theorem indexAny_short (s l : Bytes) (w : World) (ha : ∀ i (h : i < l.length), l[i].toNat < 128) (hl : l.length ≤ 1000000) (h2 : 2 ≤ l.length) (h8 : s.length ≤ 8) :
    Calls Tryz.prog 60 #[(Value.string ⟨List.toArray (s)⟩), (Value.string ⟨List.toArray (l)⟩)] w fun e w' => e = .returned (.int .i64 (Lib.indexAny s l)) ∧ Below w.heap.size w w' := by
  have Ha := hid ha
  clear ha
  have hemp : l.isEmpty = false := by cases l <;> simp at h2 ⊢
  have hn1 : ((l.length : Int) == 1) = false := beq_eq_false_iff_ne.2 (by omega)
  have h8z : decide ((8 : Int) < (s.length : Int)) = false := decide_eq_false (by omega)
  go_enter Tryz.func60, Tryz.ntmps60
  go_wp2_with (go_at_call 92; refine (Tryz.strings_shouldUseASCIISet _ _).mono ?_; rintro e w' ⟨rfl, hw⟩; rw [hw, h8z])
  go_loopw [] (fun wr => ∃ i : Nat, i ≤ s.length ∧ wr.heap[w.heap.size]? = some (.stringIter ⟨List.toArray s⟩ i) ∧ Below w.heap.size w wr ∧ Lib.NoAny s l i) (fun wr => s.length - wr.iterPos w.heap.size)
  case atStart => exact ⟨0, by omega, World.iter_heap _ _ _, (Below.refl _ _).alloc (Nat.le_refl _) _, Lib.NoAny.zero _ _⟩
  case round =>
    obtain ⟨i, hi, hit, hbl, hno⟩ := hrel
    have Hit := hid hit
    have Hbl := hid hbl
    have Hno := hid hno
    clear hit hbl hno
    have hpos : wr.iterPos w.heap.size = i := by unfold World.iterPos; rw [Hit.out]
    have Hpos := hid hpos
    clear hpos
    have hlt0 : w.heap.size < wr.heap.size := (Array.getElem?_eq_some_iff.1 Hit.out).1
    by_cases hlt : i < s.length
    · by_cases hx : s[i].toNat < 128
      · have hnx := fun ty => Lib.run_next_ascii_at (P := Tryz.prog) wr w.heap.size ⟨List.toArray s⟩ i ty Hit.out hlt hx
        simp only [get_list] at hnx
        have hcon := Lib.contains_iff_indexByte l s[i]
        have hback : ((s[i].toNat : Int)).toNat.toUInt8 = s[i] := by simp
        cases hin : l.contains s[i]
        · rw [hin] at hcon
          have hneg : ¬ ((0 : Int) ≤ Lib.indexByte l s[i]) := of_decide_eq_false hcon.symm
          clear hcon
          go_wp2_with (go_at_call 91; refine (Tryz.strings_IndexRune_ascii _ _ _ (by omega) (by omega)).mono ?_; rintro e w' ⟨rfl, hw⟩; rw [hw, hback])
          have hk := Lib.iterAt_heap wr w.heap.size ⟨List.toArray s⟩ i (i + 1) Hit.out
          have hxl : (⟨List.toArray s⟩ : ByteArray).data.toList[i]? = some s[i] := List.getElem?_eq_getElem hlt
          refine ⟨⟨i + 1, by omega, hk, Lib.below_iterAt Hbl.out (Nat.le_refl _) _ _, Hno.out.succ hxl hin⟩, ?_⟩
          rw [iterPos_at hk, Hpos.out]; omega
        · rw [hin] at hcon
          have hge : ((0 : Int) ≤ Lib.indexByte l s[i]) := of_decide_eq_true hcon.symm
          clear hcon
          go_wp2_with (go_at_call 91; refine (Tryz.strings_IndexRune_ascii _ _ _ (by omega) (by omega)).mono ?_; rintro e w' ⟨rfl, hw⟩; rw [hw, hback])
          have hxl : s[i]? = some s[i] := List.getElem?_eq_getElem hlt
          go_ret
          exact ⟨ret_int (by rw [Lib.indexAny_hit Hno.out hxl hin]), Lib.below_iterAt Hbl.out (Nat.le_refl _) _ _⟩
      · have hnx := fun ty => Lib.run_next_any_at (P := Tryz.prog) wr w.heap.size ⟨List.toArray s⟩ i ty Hit.out hlt
        have hd := decode_high ⟨List.toArray s⟩ i hlt (by simp only [get_list]; omega)
        have hd2 := decode_le ⟨List.toArray s⟩ i
        go_wp2_with (go_at_call 91; refine (indexRune_any l _ _ Ha.out hl (by omega) (by omega)).mono ?_; rintro e w' ⟨rfl, hw⟩)
        have hsp := decode_span ⟨List.toArray s⟩ i hlt (by simp only [get_list]; omega)
        have hk := Lib.iterAt_heap wr w.heap.size ⟨List.toArray s⟩ i (i + (Utf8.decode ⟨List.toArray s⟩ i).2) Hit.out
        have hk2 := (hw.block w.heap.size (by rw [Lib.iterAt_size]; exact hlt0)).trans hk
        have hle : i + (Utf8.decode ⟨List.toArray s⟩ i).2 ≤ s.length := hsp.1
        refine ⟨⟨_, hle, hk2, (Lib.below_iterAt Hbl.out (Nat.le_refl _) _ _).trans (hw.mono (by rw [Lib.iterAt_size]; omega)), noAny_high ⟨List.toArray s⟩ l i _ Hno.out Ha.out hsp.2⟩, ?_⟩
        rw [iterPos_at hk2, Hpos.out]; omega
    · have hnx := fun ty => Lib.run_next_end_at (P := Tryz.prog) wr w.heap.size ⟨List.toArray s⟩ i ty Hit.out hlt
      go_wp2_with fail
      go_ret
      exact ⟨ret_int (by rw [Lib.indexAny_none (by rw [show s.length = i by omega]; exact Hno.out)]), Hbl.out⟩

theorem strings_IndexAny (s l : Bytes) (w : World) (ha : ∀ i (h : i < l.length), l[i].toNat < 128) (hl : l.length ≤ 1000000) (h2 : 2 ≤ l.length) (hs : s.length < 4294967281) :
    Calls Tryz.prog 60 #[(Value.string ⟨List.toArray (s)⟩), (Value.string ⟨List.toArray (l)⟩)] w fun e w' => e = .returned (.int .i64 (Lib.indexAny s l)) ∧ Below w.heap.size w w' := by
  rcases Nat.lt_or_ge 8 s.length with h8 | h8
  · refine (Tryz.strings_IndexAny_long (fun _ => by kernel_rfl) ⟨List.toArray s⟩ ⟨List.toArray l⟩ w h2 h8 hs (show l.length < 4294967281 by omega) (fun j b hb => ?_)).mono ?_
    · obtain ⟨hj, rfl⟩ := List.getElem?_eq_some_iff.1 hb
      exact ha j hj
    · rintro e w' ⟨rfl, rfl⟩
      exact ⟨rfl, ((Below.refl _ _).alloc (Nat.le_refl _) _).alloc (by simp) _⟩
  · exact indexAny_short s l w ha hl h2 h8
end Go.Proofs.YtfmafmgbfamaiaaGreatDoor
/- The walks of package ascii. -/
set_option linter.all false
namespace Go.Proofs.YtfmafmgbfamaiaaGreatDoor
open Go.RowKit Wf
attribute [local go_sem] ex_list app_list get_list
set_option maxHeartbeats 400000 in
theorem ascii_IsDigit (c : UInt8) (w : World) : Calls Tryz.prog 96 #[.int .u8 c.toNat] w fun e w' => e = .returned (.bool (isDigit c)) ∧ w = w' := by
  go_enter Tryz.func96, Tryz.ntmps96
  go_wp2
  all_goals
    go_ret
    refine ⟨ret_bool ?_, rfl⟩
    have hb := or32 c
    have hc := c.toNat_lt
    rw [Bool.eq_iff_iff]
    simp [isDigit]
    try omega
set_option maxHeartbeats 400000 in
theorem ascii_IsAlpha (c : UInt8) (w : World) : Calls Tryz.prog 95 #[.int .u8 c.toNat] w fun e w' => e = .returned (.bool (isAlpha c)) ∧ w = w' := by
  go_enter Tryz.func95, Tryz.ntmps95
  go_wp2
  all_goals
    go_ret
    refine ⟨ret_bool ?_, rfl⟩
    have hb := or32 c
    have hc := c.toNat_lt
    rw [Bool.eq_iff_iff]
    simp [isAlpha]
    try omega
set_option maxHeartbeats 400000 in
theorem ascii_IsHex (c : UInt8) (w : World) : Calls Tryz.prog 101 #[.int .u8 c.toNat] w fun e w' => e = .returned (.bool (isHex c)) ∧ w = w' := by
  go_enter Tryz.func101, Tryz.ntmps101
  go_wp2
  all_goals
    go_ret
    refine ⟨ret_bool ?_, rfl⟩
    have hb := or32 c
    have hc := c.toNat_lt
    rw [Bool.eq_iff_iff]
    simp [isHex]
    try omega
end Go.Proofs.YtfmafmgbfamaiaaGreatDoor
/- Rows of bytes of the call's own: what a conversion lays, reads and stores; a string made of them. -/
set_option linter.all false
namespace Go.Proofs.YtfmafmgbfamaiaaGreatDoor
open Go.RowKit Wf
def u8V (b : UInt8) : Value := .int .u8 b.toNat
def RowU8 (w : World) (b : Nat) (l : Bytes) : Prop := ∃ (rest : List Value) (T : TypeId) (fz : Nat × Nat), w.heap[b]? = some (.cells (l.map u8V ++ rest).toArray T fz) ∧ (l.length ≤ fz.1 ∨ fz.2 ≤ fz.1)
theorem RowU8.cell {w : World} {b : Nat} {l : Bytes} (h : RowU8 w b l) {k : Nat} (hk : k < l.length) : w.cell? ⟨b, k, none⟩ = some (.int .u8 l[k].toNat) := by
  obtain ⟨rest, T, fz, hb, _⟩ := h
  rw [Lib.cell_of_heap hb k]
  simp [List.getElem?_append_left, hk, u8V]
theorem RowU8.frozen {w : World} {b : Nat} {l : Bytes} (h : RowU8 w b l) {k : Nat} (hk : k < l.length) : w.frozen? ⟨b, k, none⟩ = false := by
  obtain ⟨rest, T, fz, hb, hf⟩ := h
  simp only [World.frozen?, hb]
  simp
  omega
theorem RowU8.set {w : World} {b : Nat} {l : Bytes} (h : RowU8 w b l) {k : Nat} (hk : k < l.length) (x : UInt8) : RowU8 (w.setCell ⟨b, k, none⟩ (.int .u8 x.toNat)) b (l.set k x) := by
  obtain ⟨rest, T, fz, hb, hf⟩ := h
  refine ⟨rest, T, fz, ?_, by simpa using hf⟩
  rw [heap_set hb]
  congr 2
  simp [List.set_append_left, hk, List.map_set, u8V]
theorem RowU8.lt {w : World} {b : Nat} {l : Bytes} (h : RowU8 w b l) : b < w.heap.size := by
  obtain ⟨rest, T, fz, hb, _⟩ := h
  exact heap_lt hb
theorem RowU8.back {w : World} {b : Nat} {l : Bytes} (h : RowU8 w b l) (cap : Nat) :
    (convert 22 9 (.slice (some ⟨b, 0, none⟩) l.length cap)).run Tryz.prog w = .ok (Value.string ⟨List.toArray (l)⟩) w := by
  refine run_convert_bytes_back w _ _ 5 ⟨b, 0, none⟩ cap l Tryz.underlying22 Tryz.underlying5 Tryz.underlying9 (fun j hj => ?_)
  have : (⟨b, 0, none⟩ : Addr).add j = ⟨b, j, none⟩ := by
    unfold Addr.add
    split
    · subst j; rfl
    · simp
  rw [this]
  exact h.cell hj
theorem addr_add (b o j : Nat) : (⟨b, o, none⟩ : Addr).add j = ⟨b, o + j, none⟩ := by
  unfold Addr.add
  split
  · subst j; rfl
  · rfl
theorem RowU8.backAt {w : World} {b a : Nat} {y l : Bytes} (h : RowU8 w b (y ++ l)) (hy : y.length = a) (cap : Nat) :
    (convert 22 9 (.slice (some ⟨b, a, none⟩) l.length cap)).run Tryz.prog w = .ok (Value.string ⟨List.toArray (l)⟩) w := by
  refine run_convert_bytes_back w _ _ 5 ⟨b, a, none⟩ cap l Tryz.underlying22 Tryz.underlying5 Tryz.underlying9 (fun j hj => ?_)
  rw [addr_add]
  subst hy
  have h1 := h.cell (k := y.length + j) (by simp; omega)
  have h2 : (y ++ l)[y.length + j]'(by simp; omega) = l[j] := by rw [List.getElem_append_right (Nat.le_add_right _ _)]; simp
  rw [h2] at h1
  exact h1
theorem conv_bytes (w : World) (s : Bytes) : ∃ (w1 : World) (cap : Nat), (convert 9 22 (Value.string ⟨List.toArray (s)⟩)).run Tryz.prog w = .ok (.slice (some ⟨w.heap.size, 0, none⟩) s.length cap) w1 ∧ RowU8 w1 w.heap.size s ∧ Below w.heap.size w w1 := by
  refine ⟨_, _, Lib.run_convert_string_bytes w _ _ 5 ⟨List.toArray s⟩ Tryz.underlying9 Tryz.underlying22 Tryz.underlying5, ?_, ?_⟩
  · refine ⟨(Array.replicate (grownCap w s.length 0 5 - s.length) (Value.int .u8 0)).toList, 5, ((Lib.bytesCells w 5 ⟨List.toArray s⟩).size, (Lib.bytesCells w 5 ⟨List.toArray s⟩).size + 1), ?_, ?_⟩
    · rw [Lib.bytesWorld_at_new]
      congr 2
      apply Array.ext'
      simp [Lib.bytesCells]
      rfl
    · left
      simp [Lib.bytesCells]
  · exact ⟨by simp [Lib.bytesWorld, World.freeze]; rfl, rfl, rfl, by rw [Lib.bytesWorld_size]; omega, fun k hk => Lib.bytesWorld_at_old _ _ _ k hk⟩
end Go.Proofs.YtfmafmgbfamaiaaGreatDoor
/- The walks of package ascii: strings. -/
set_option linter.all false
namespace Go.Proofs.YtfmafmgbfamaiaaGreatDoor
open Go.RowKit Wf
attribute [local go_sem] ex_list app_list get_list

set_option maxHeartbeats 400000 in
theorem ascii_Lower (s : Bytes) (w : World) (hs : s.length ≤ 9223372036854775807) :
    Calls Tryz.prog 52 #[(Value.string ⟨List.toArray (s)⟩)] w fun e w' => e = .returned (Value.string ⟨List.toArray (lower s)⟩) ∧ Below w.heap.size w w' := by
  obtain ⟨w1, cap, hconv, hrow, hw1⟩ := conv_bytes w s
  have Hrow := hid hrow
  have Hw1 := hid hw1
  clear hrow hw1
  go_enter Tryz.func52, Tryz.ntmps52
  go_wp2_with fail
  go_loopw [10] (fun i wr => ∃ k : Nat, k ≤ s.length ∧ i = .int .i64 k ∧ RowU8 wr w.heap.size (lowTo k s) ∧ Below w.heap.size w wr) (fun i _ => s.length - (intOf i).toNat)
  case atStart => exact ⟨0, by omega, rfl, by rw [lowTo_zero]; exact Hrow.out, Hw1.out⟩
  case round =>
    obtain ⟨k, hk, rfl, hrow, hw⟩ := hrel
    have Hrow := hid hrow
    have Hw := hid hw
    clear hconv hrow hw
    by_cases hlt : k < s.length
    · have hll := lowTo_length k s
      have hcell := Hrow.out.cell (k := k) (by omega)
      have hfz := Hrow.out.frozen (k := k) (by omega)
      rw [lowTo_get hlt] at hcell
      clear hll
      by_cases hcap : 65 ≤ s[k].toNat ∧ s[k].toNat ≤ 90
      · obtain ⟨hc1, hc2⟩ := hcap
        have hst := Hrow.out.set (k := k) (by rw [lowTo_length]; exact hlt) (lowerC s[k])
        rw [lowTo_set hlt, lowerC_cap hc1 hc2] at hst
        have Hst := hid hst
        clear hst
        go_wp2_with fail
        go_roundw
        case rel => exact ⟨k + 1, by omega, by go_num, Hst.out, Hw.out.setCell (p := ⟨w.heap.size, k, none⟩) (Nat.le_refl _) _⟩
        case measure => simp [intOf]; omega
      · have Hn := hid (lowTo_next hlt (lowerC_no hcap))
        have hor : s[k].toNat < 65 ∨ 90 < s[k].toNat := by omega
        rcases hor with h | h
        all_goals
          go_wp2_with fail
          go_roundw
          case rel => exact ⟨k + 1, by omega, by go_num, Hn.out ▸ Hrow.out, Hw.out⟩
          case measure => simp [intOf]; omega
    · have hl : k = s.length := by omega
      have hrow2 := Hrow.out
      rw [hl, lowTo_all] at hrow2
      have hback := hrow2.back cap
      rw [show (lower s).length = s.length by simp [lower]] at hback
      clear hl hrow2
      go_wp2_with fail
      go_ret
      exact ⟨rfl, Hw.out⟩

set_option maxHeartbeats 400000 in
theorem ascii_every (s : Bytes) (w : World) (hs : s.length ≤ 9223372036854775807) :
    Calls Tryz.prog 115 #[(Value.string ⟨List.toArray (s)⟩), .func (.func 96) #[] #[]] w fun e w' => e = .returned (.bool (s.all isDigit)) ∧ w = w' := by
  go_enter Tryz.func115, Tryz.ntmps115
  go_wp2_with fail
  go_loop [8] (fun i => ∃ k : Nat, k ≤ s.length ∧ i = .int .i64 k ∧ (s.take k).all isDigit = true) (fun i => s.length - (intOf i).toNat)
  case atStart => exact ⟨0, by omega, rfl, rfl⟩
  case round =>
    obtain ⟨k, hk, rfl, hall⟩ := hrel
    have Hall := hid hall
    clear hall
    by_cases hlt : k < s.length
    · cases hc : isDigit s[k]
      · have Ha := hid (all_not hlt hc)
        go_wp2_with (go_at_call 96; refine (ascii_IsDigit _ _).mono ?_; rintro e w' ⟨rfl, rfl⟩)
        go_ret
        exact ⟨ret_bool Ha.out.symm, rfl⟩
      · go_wp2_with (go_at_call 96; refine (ascii_IsDigit _ _).mono ?_; rintro e w' ⟨rfl, rfl⟩)
        go_round
        case rel => exact ⟨k + 1, by omega, by go_num, all_take_snoc hlt Hall.out hc⟩
        case measure => simp [intOf]; omega
    · have hall := Hall.out
      rw [List.take_of_length_le (by omega)] at hall
      have Ha := hid hall
      clear hall Hall
      go_wp2_with fail
      go_ret
      exact ⟨ret_bool Ha.out.symm, rfl⟩
set_option maxHeartbeats 400000 in
theorem ascii_Digits (s : Bytes) (w : World) (hs : s.length ≤ 9223372036854775807) :
    Calls Tryz.prog 87 #[(Value.string ⟨List.toArray (s)⟩)] w fun e w' => e = .returned (.bool (digitsOk s)) ∧ w = w' := by
  cases hn : s.isEmpty
  all_goals
    have Hd := hid (show digitsOk s = (!s.isEmpty && s.all isDigit) from rfl)
    rw [hn] at Hd
    go_enter Tryz.func87, Tryz.ntmps87
    go_wp2_with (go_at_call 115; refine (ascii_every _ _ hs).mono ?_; rintro e w' ⟨rfl, rfl⟩)
    go_ret
    exact ⟨ret_bool (by rw [Hd.out]; simp), rfl⟩
end Go.Proofs.YtfmafmgbfamaiaaGreatDoor
/- The library's contracts on strings, for the calculus of conditions. -/
set_option linter.all false
namespace Go.Proofs.YtfmafmgbfamaiaaGreatDoor
open Go Vc Go.RowKit Wf
theorem below_draws {w w' : World} (h : ∃ n, w' = w.drewN n) : Below w.heap.size w w' := by
  obtain ⟨n, rfl⟩ := h
  exact below_drewN (Below.refl _ _) _
theorem below_same {w w' : World} (h : w = w') : Below w.heap.size w w' := by subst h; exact Below.refl _ _
theorem p_IndexByte (l : Bytes) (c : UInt8) : PC Tryz.V 63 [.str l, .int .u8 c.toNat] (.int .i64 (Lib.indexByte l c)) :=
  ⟨Tryz.call63, by simp [flat, flat.flatL], by simp [flat, flat.flatL], fun w hE => (s_IndexByte l c w).mono fun _ _ ⟨h, k⟩ => ⟨h, below_same k⟩⟩
theorem p_HasPrefix (l p : Bytes) : PC Tryz.V 69 [.str l, .str p] (.bool (Lib.hasPrefix l p)) :=
  ⟨Tryz.call69, by simp [flat, flat.flatL], by simp [flat, flat.flatL], fun w hE => (s_HasPrefix l p w).mono fun _ _ ⟨h, k⟩ => ⟨h, below_same k⟩⟩
theorem p_CutPrefix (l p : Bytes) : PC Tryz.V 62 [.str l, .str p] (.tup [.str (Lib.trimPrefix l p), .bool (Lib.hasPrefix l p)]) :=
  ⟨Tryz.call62, by simp [flat, flat.flatL], by simp [flat, flat.flatL], fun w hE => (s_CutPrefix l p w).mono fun _ _ ⟨h, k⟩ => ⟨h, below_same k⟩⟩
theorem p_TrimPrefix (l p : Bytes) : PC Tryz.V 70 [.str l, .str p] (.str (Lib.trimPrefix l p)) :=
  ⟨Tryz.call70, by simp [flat, flat.flatL], by simp [flat, flat.flatL], fun w hE => (s_TrimPrefix l p w).mono fun _ _ ⟨h, k⟩ => ⟨h, below_same k⟩⟩
theorem p_Cut (l : Bytes) (c : UInt8) (hl : l.length < 4294967281) : PC Tryz.V 49 [.str l, .str [c]] (.tup [.str (cutC c l).1, .str (cutC c l).2.1, .bool (cutC c l).2.2]) :=
  ⟨Tryz.call49, by simp [flat, flat.flatL], by simp [flat, flat.flatL], fun w hE => (s_Cut l c w hE hl).mono fun _ _ ⟨h, k⟩ => ⟨h, below_draws k⟩⟩
theorem p_IndexAny (s l : Bytes) (ha : ∀ i (h : i < l.length), l[i].toNat < 128) (hl : l.length ≤ 1000000) (h2 : 2 ≤ l.length) (hs : s.length < 4294967281) :
    PC Tryz.V 60 [.str s, .str l] (.int .i64 (Lib.indexAny s l)) :=
  ⟨Tryz.call60, by simp [flat, flat.flatL], by simp [flat, flat.flatL], fun w hE => strings_IndexAny s l w ha hl h2 hs⟩
def lastB (s : Bytes) (c : UInt8) : Int := Lib.lastIndexByte ⟨List.toArray s⟩ c.toNat
theorem lastB_eq (s : Bytes) (c : UInt8) : lastB s c = ((s.reverse.dropWhile (· != c)).length : Int) - 1 := by
  have h : ∀ k, k ≤ s.length → Lib.lastIdx ⟨List.toArray s⟩ c.toNat k = (((s.take k).reverse.dropWhile (· != c)).length : Int) - 1 := by
    intro k
    induction k with
    | zero => intro _; simp [Lib.lastIdx]
    | succ k ih =>
      intro hk
      have hk' : k < s.length := by omega
      have e : (⟨List.toArray s⟩ : ByteArray).data[k]! = s[k] := by simp [hk']
      rw [List.take_succ_eq_append_getElem hk', List.reverse_append, List.reverse_singleton, List.singleton_append, Lib.lastIdx, e]
      by_cases hc : s[k] = c
      · rw [if_pos (by rw [hc]), List.dropWhile_cons_of_neg (by simp [hc])]
        simp
        omega
      · rw [if_neg (fun h => hc (UInt8.toNat_inj.1 (by exact_mod_cast h))), List.dropWhile_cons_of_pos (by simp [hc]), ih (by omega)]
  have := h s.length (Nat.le_refl _)
  rw [List.take_length] at this
  exact this
theorem p_LastIndexByte (s : Bytes) (c : UInt8) (hs : s.length < 4611686018427387904) : PC Tryz.V 71 [.str s, .int .u8 c.toNat] (.int .i64 (lastB s c)) :=
  ⟨Tryz.call71, by simp [flat, flat.flatL], by simp [flat, flat.flatL], fun w hE => (Tryz.strings_LastIndexByte ⟨List.toArray s⟩ c.toNat hs w).mono fun _ _ ⟨h, k⟩ => ⟨h, below_same k.symm⟩⟩
theorem hp_no {p q : Bytes} (h : Lib.hasPrefix p q = false) : ¬ (q.isPrefixOf p = true) := by unfold Lib.hasPrefix at h; simp [h]
theorem hp_len {p q : Bytes} (h : Lib.hasPrefix p q = true) : q.length ≤ p.length := (List.isPrefixOf_iff_prefix.1 h).length_le
theorem trim_len (s p : Bytes) : (Lib.trimPrefix s p).length ≤ s.length := by
  unfold Lib.trimPrefix; split <;> simp
theorem byte_is {s : Bytes} {k : Nat} (hk : k < s.length) (c : UInt8) {n : Int} (hn : n = c.toNat) : (((s.getD k 0).toNat : Int) == n) = (s[k] == c) := by
  subst hn
  rw [show s.getD k 0 = s[k] by simp [List.getD, hk], Bool.eq_iff_iff]
  simp only [beq_iff_eq]
  exact ⟨fun h => UInt8.toNat_inj.1 (by exact_mod_cast h), fun h => by rw [h]⟩
theorem one_u8 (l : Bytes) : (l.map u8S).all Vc.one = true := by simp [u8S, Vc.one]
end Go.Proofs.YtfmafmgbfamaiaaGreatDoor
/- Small parts of the calculus that many walks use. -/
set_option linter.all false
set_option maxRecDepth 20000
namespace Go.Proofs.YtfmafmgbfamaiaaGreatDoor
open Go Vc Go.RowKit Wf
def lkI (i : Nat) (σ : St) : Nat := match lk i σ.t with
  | some (.int _ n) => n.toNat
  | _ => 0
theorem lkI_eq {i : Nat} {σ : St} {k : IntKind} {n : Int} (h : lk i σ.t = some (.int k n)) : lkI i σ = n.toNat := by simp [lkI, h]
def uc (u : Url) : List SV := [.str u.host, .int .i64 u.port, .str u.path, .str u.query, .str u.fragment, .bool u.hasQuery, .bool u.hasFrag]
def fc (f : Bytes × Bytes) : List SV := [.str f.1, .str f.2]
theorem rows_at {ρ : Type} (cl : ρ → List SV) (s : Nat) (hs : ∀ r, (cl r).length = s) : ∀ (L : List ρ) (k : Nat) (h : k < L.length), ((L.flatMap cl).drop (k * s)).take s = cl L[k]
  | [], k, h => by simp at h
  | r :: L, 0, _ => by
    have := hs r
    simp [List.take_append, List.take_of_length_le (Nat.le_of_eq this), this]
  | r :: L, k + 1, h => by
    have h1 := hs r
    have h2 : ((r :: L).flatMap cl).drop ((k + 1) * s) = (L.flatMap cl).drop (k * s) := by
      rw [List.flatMap_cons, List.drop_append, List.drop_of_length_le (by rw [Nat.add_mul]; omega), List.nil_append, show (k + 1) * s - (cl r).length = k * s by rw [Nat.add_mul]; omega]
    rw [h2]
    simpa using rows_at cl s hs L k (by simpa using h)
theorem rows_len {ρ : Type} (cl : ρ → List SV) (s : Nat) (hs : ∀ r, (cl r).length = s) : ∀ (L : List ρ), (L.flatMap cl).length = L.length * s
  | [] => by simp
  | r :: L => by rw [List.flatMap_cons, List.length_append, hs r, rows_len cl s hs L, List.length_cons, Nat.add_mul]; omega
theorem sc_forget {V : Cx} {f : FuncId} {args : List SV} {bs : List Res} {x : SV} (hx : flat x = true) (h : SC V f args bs (fun r b => r = x ∧ Kp bs b)) : SC V f args bs (fun r b => r = x ∧ b = bs) := by
  refine ⟨h.1, fun β fp w hbx hG hE => (h.2 β fp w hbx hG hE).mono ?_⟩
  rintro e w' ⟨r, bs', β₂, fp₂, ⟨rfl, hlen, hkp⟩, hag, -, hall, hfr, hmine, hfoot⟩
  have old : ∀ {i r}, bs[i]? = some r → bs'[i]? = some r := fun {i r} hi => (hkp i (List.getElem?_eq_some_iff.1 hi).1).trans hi
  refine ⟨r, bs, β₂, fp₂, ⟨rfl, rfl⟩, hag, Nat.le_refl _, fun β' hβ => ?_, hfr, fun i r' hi => hmine i r' (old hi), fun i r' hi => hfoot i r' (old hi)⟩
  have hc : ∀ i, i < bs.length → (if i < bs.length then β' i else β₂ i) = β' i := fun i hi => if_pos hi
  have hall2 := hall (fun i => if i < bs.length then β' i else β₂ i) (fun i _ => by
    by_cases hi : i < bs.length
    · exact (hβ i hi).trans (hc i hi).symm
    · exact (if_neg hi).symm)
  have hb1 := hbx (fun i => if i < bs.length then β' i else β₂ i) (fun i hi => ((hag i hi).trans (hβ i hi)).trans (hc i hi).symm)
  have hb2 := hbx β' (fun i hi => (hag i hi).trans (hβ i hi))
  obtain ⟨he, hbx2⟩ := hall2
  refine ⟨by rw [he, conc_flat _ hx _ β'], ⟨fun i r hi => ?_, fun i r hi => hbx2.lt i r (old hi), fun i j r r' hi hj => hbx2.sep i j r r' (old hi) (old hj)⟩⟩
  have h1 := hb1.holds i r hi
  have h2 := hb2.holds i r hi
  have h3 := hbx2.holds i r (old hi)
  have e := hc i (List.getElem?_eq_some_iff.1 hi).1
  simp only [e] at h1 h3
  exact res_agr h1 h2 h3
theorem sc_quiet {V : Cx} {f : FuncId} {args : List SV} {bs : List Res} {x : SV} (hen : Vc.Enters V f) (fx : flat x = true) (h : ∀ β fp w, BxOK β fp w bs → Calls V.P f (concL β args).toArray w fun e w' => e = .returned (conc β x) ∧ Below w.heap.size w w') : SC V f args bs (fun r b => r = x ∧ b = bs) := by
  refine ⟨hen, fun β fp w hbx hG hE => (h β fp w (hbx β (Agr.refl _ _))).mono ?_⟩
  rintro e w' ⟨he, hb⟩
  have hb0 := hbx β (Agr.refl _ _)
  refine ⟨x, bs, β, fp, ⟨rfl, rfl⟩, Agr.refl _ _, Nat.le_refl _, fun β' hβ => ⟨by rw [he, conc_flat x fx β β'], ⟨fun i r hi => ((hbx β' hβ).holds i r hi).stays (fun k hk => hb.block k (hb0.lt i r hi k hk)), fun i r hi k hk => Nat.lt_of_lt_of_le (hb0.lt i r hi k hk) hb.size, hb0.sep⟩⟩, FrW.of_below hb, fun i r hi hm k hk => .inr ⟨i, r, hi, hm, hk⟩, fun i r hi k hk => .inr ⟨i, r, hi, hk⟩⟩
theorem sc_Join {bs : List Res} {j : Nat} {L : List Bytes} {m : Bool} (hj : bs[j]? = some (.own (L.map SV.str) 9 1 L.length m)) (h0 : 0 < L.length) (hn : L.length ≤ 140737488355328) (sep : Bytes) (hlen : (Lib.join L sep).length ≤ 140737488355328) :
    SC Tryz.V 79 [.o j L.length, .str sep] bs (fun r b => r = .str (Lib.join L sep) ∧ b = bs) := by
  refine sc_quiet Tryz.call79 (by simp [flat]) (fun β fp w hb => ?_)
  have hh := hb.holds j _ hj
  rcases hh with ⟨-, h, -, -⟩ | ⟨h1, h2, h3, h4, h5, -, h7⟩
  · omega
  have e1 : (L.map fun l => (⟨⟨l⟩⟩ : ByteArray)).map (fun x => x.data.toList) = L := by rw [List.map_map]; exact (List.map_congr_left (fun _ _ => rfl)).trans (List.map_id L)
  have hc := Tryz.strings_Join (β j).blk (β j).off ((β j).cap - 1) (L.map fun l => (⟨⟨l⟩⟩ : ByteArray)) ⟨⟨sep⟩⟩ w (fun i x hi => by
    have := h5 i (.string x) (by
      rw [List.getElem?_map] at hi
      obtain ⟨l, hl, rfl⟩ := Option.map_eq_some_iff.1 hi
      simp [hl, conc])
    exact this) (hb.lt j _ hj _ ((h7 _).2 rfl)) (by simpa using hn) (by simpa using h2) (by rw [e1]; exact hlen)
  rw [e1, List.length_map] at hc
  have e2 : (concL β [.o j L.length, .str sep]).toArray = #[.slice (some ⟨(β j).blk, (β j).off, none⟩) L.length ((β j).cap - 1), .string ⟨⟨sep⟩⟩] := by simp [concL, conc, oV, h1]
  rw [e2]
  exact hc.mono fun e w' h => by simpa [conc] using h
theorem sc_Join0 {bs : List Res} (sep : Bytes) : SC Tryz.V 79 [.nils, .str sep] bs (fun r b => r = .str [] ∧ b = bs) := by
  refine sc_quiet Tryz.call79 (by simp [flat]) (fun β fp w hb => ?_)
  have hc := Tryz.strings_Join_none none 0 ⟨⟨sep⟩⟩ w
  exact hc.mono fun e w' h => ⟨by simpa [conc] using h.1, below_same h.2.symm⟩
theorem sc_JoinN {bs : List Res} {j : Nat} {L : List Bytes} {m : Bool} (hj : bs[j]? = some (.own (L.map SV.str) 9 1 L.length m)) (hn : L.length ≤ 140737488355328) (sep : Bytes) (hlen : (Lib.join L sep).length ≤ 140737488355328) :
    SC Tryz.V 79 [.o j L.length, .str sep] bs (fun r b => r = .str (Lib.join L sep) ∧ b = bs) := by
  by_cases h0 : 0 < L.length
  · exact sc_Join hj h0 hn sep hlen
  · obtain rfl : L = [] := List.length_eq_zero_iff.1 (by omega)
    refine sc_quiet Tryz.call79 (by simp [flat]) (fun β fp w hb => ?_)
    have e2 : ∃ a c, (concL β [.o j ([] : List Bytes).length, .str sep]).toArray = #[.slice a 0 c, .string ⟨⟨sep⟩⟩] := by
      by_cases h : (β j).cap = 0
      · exact ⟨none, 0, by simp [concL, conc, oV, h]⟩
      · exact ⟨some ⟨(β j).blk, (β j).off, none⟩, (β j).cap - 1, by simp [concL, conc, oV, h]⟩
    obtain ⟨a, c, e2⟩ := e2
    rw [e2]
    exact (Tryz.strings_Join_none a c ⟨⟨sep⟩⟩ w).mono fun e w' h => ⟨by simpa [conc, Lib.join] using h.1, below_same h.2.symm⟩
end Go.Proofs.YtfmafmgbfamaiaaGreatDoor
/- The walks of package number. -/
set_option linter.all false
namespace Go.Proofs.YtfmafmgbfamaiaaGreatDoor
open Go.RowKit Wf
attribute [local go_sem] ex_list app_list get_list

set_option maxHeartbeats 400000 in
theorem number_value (c : UInt8) (w : World) (h : isHex c = true) : Calls Tryz.prog 125 #[.int .u8 c.toNat] w fun e w' => e = .returned (.int .u64 (hexVal c)) ∧ w = w' := by
  cases hd : isDigit c
  all_goals
    go_enter Tryz.func125, Tryz.ntmps125
    go_wp2_with (go_at_call 96; refine (ascii_IsDigit _ _).mono ?_; rintro e w' ⟨rfl, rfl⟩)
    go_ret
    refine ⟨ret_int ?_, rfl⟩
    have hb := or32 c
    simp [isHex, isDigit] at h hd
    unfold hexVal
    split <;> (try split) <;> omega

set_option maxHeartbeats 1000000 in
theorem number_parse16 (s : Bytes) (m : Nat) (w : World) (hs : s.length ≤ 9223372036854775807) (hm : m ≤ 4611686018427387904) :
    Calls Tryz.prog 116 #[(Value.string ⟨List.toArray (s)⟩), .int .u64 16, .int .u64 m, .func (.func 101) #[] #[]] w fun e w' => e = .returned (.tuple #[.int .u64 (numParse isHex 16 m s).1, .int .i64 (numParse isHex 16 m s).2]) ∧ w = w' := by
  cases hne : s.isEmpty
  · go_enter Tryz.func116, Tryz.ntmps116
    go_wp2_with fail
    go_loop [18] (fun i => ∃ k : Nat, k ≤ s.length ∧ i = .int .i64 k ∧ (s.take k).all isHex = true) (fun i => s.length - (intOf i).toNat)
    case atStart => exact ⟨0, by omega, rfl, rfl⟩
    case round =>
      obtain ⟨k, hk, rfl, hall⟩ := hrel
      have Hall := hid hall
      clear hall
      by_cases hlt : k < s.length
      · cases hc : isHex s[k]
        · go_wp2_with (go_at_call 101; refine (ascii_IsHex _ _).mono ?_; rintro e w' ⟨rfl, rfl⟩)
          go_ret2
          exact ⟨ret_ni (by simp [numParse, hne, all_not hlt hc]), rfl⟩
        · go_wp2_with (go_at_call 101; refine (ascii_IsHex _ _).mono ?_; rintro e w' ⟨rfl, rfl⟩)
          go_round
          case rel => exact ⟨k + 1, by omega, by go_num, all_take_snoc hlt Hall.out hc⟩
          case measure => simp [intOf]; omega
      · have hall : s.all isHex = true := by have := Hall.out; rwa [List.take_of_length_le (by omega)] at this
        clear Hall
        have Hall := hid hall
        clear hall
        go_wp2_with fail
        go_loop [11, 30] (fun n i => ∃ k a : Nat, k ≤ s.length ∧ i = .int .i64 k ∧ a ≤ m ∧ n = .int .u64 a ∧ numGo 16 m a (s.drop k) = numGo 16 m 0 s) (fun _ i => s.length - (intOf i).toNat)
        case atStart => exact ⟨0, 0, by omega, rfl, by omega, rfl, rfl⟩
        case round =>
          obtain ⟨j, a, hj, rfl, ha, rfl, heq⟩ := hrel
          have Heq := hid heq
          clear heq
          by_cases hjt : j < s.length
          · have hv := hexVal_le (show isHex s[j] = true by have := all_get Hall.out hjt; first | exact this | (simp [isDigit, isHex] at this ⊢; omega))
            go_wp2_with (go_at_call 125; refine (number_value _ _ (by have := all_get Hall.out hjt; first | exact this | (simp [isDigit, isHex] at this ⊢; omega))).mono ?_; rintro e w' ⟨rfl, rfl⟩)
            all_goals first
              | (go_ret2; exact ⟨ret_ni (numParse_err hne Hall.out Heq.out hjt (by omega)), rfl⟩)
              | (go_round
                 case rel => exact ⟨j + 1, a * 16 + hexVal s[j], by omega, by go_num, by omega, by go_num, numParse_next Heq.out hjt (by omega)⟩
                 case measure => simp [intOf]; omega)
          · go_wp2_with fail
            go_ret2
            exact ⟨ret_ni (numParse_done hne Hall.out Heq.out hjt), rfl⟩
  · go_enter Tryz.func116, Tryz.ntmps116
    go_wp2_with fail
    go_ret2
    exact ⟨ret_ni (by simp [numParse, hne]), rfl⟩
set_option maxHeartbeats 1000000 in
theorem number_parse10 (s : Bytes) (m : Nat) (w : World) (hs : s.length ≤ 9223372036854775807) (hm : m ≤ 4611686018427387904) :
    Calls Tryz.prog 116 #[(Value.string ⟨List.toArray (s)⟩), .int .u64 10, .int .u64 m, .func (.func 96) #[] #[]] w fun e w' => e = .returned (.tuple #[.int .u64 (numParse isDigit 10 m s).1, .int .i64 (numParse isDigit 10 m s).2]) ∧ w = w' := by
  cases hne : s.isEmpty
  · go_enter Tryz.func116, Tryz.ntmps116
    go_wp2_with fail
    go_loop [18] (fun i => ∃ k : Nat, k ≤ s.length ∧ i = .int .i64 k ∧ (s.take k).all isDigit = true) (fun i => s.length - (intOf i).toNat)
    case atStart => exact ⟨0, by omega, rfl, rfl⟩
    case round =>
      obtain ⟨k, hk, rfl, hall⟩ := hrel
      have Hall := hid hall
      clear hall
      by_cases hlt : k < s.length
      · cases hc : isDigit s[k]
        · go_wp2_with (go_at_call 96; refine (ascii_IsDigit _ _).mono ?_; rintro e w' ⟨rfl, rfl⟩)
          go_ret2
          exact ⟨ret_ni (by simp [numParse, hne, all_not hlt hc]), rfl⟩
        · go_wp2_with (go_at_call 96; refine (ascii_IsDigit _ _).mono ?_; rintro e w' ⟨rfl, rfl⟩)
          go_round
          case rel => exact ⟨k + 1, by omega, by go_num, all_take_snoc hlt Hall.out hc⟩
          case measure => simp [intOf]; omega
      · have hall : s.all isDigit = true := by have := Hall.out; rwa [List.take_of_length_le (by omega)] at this
        clear Hall
        have Hall := hid hall
        clear hall
        go_wp2_with fail
        go_loop [11, 30] (fun n i => ∃ k a : Nat, k ≤ s.length ∧ i = .int .i64 k ∧ a ≤ m ∧ n = .int .u64 a ∧ numGo 10 m a (s.drop k) = numGo 10 m 0 s) (fun _ i => s.length - (intOf i).toNat)
        case atStart => exact ⟨0, 0, by omega, rfl, by omega, rfl, rfl⟩
        case round =>
          obtain ⟨j, a, hj, rfl, ha, rfl, heq⟩ := hrel
          have Heq := hid heq
          clear heq
          by_cases hjt : j < s.length
          · have hv := hexVal_le (show isHex s[j] = true by have := all_get Hall.out hjt; first | exact this | (simp [isDigit, isHex] at this ⊢; omega))
            go_wp2_with (go_at_call 125; refine (number_value _ _ (by have := all_get Hall.out hjt; first | exact this | (simp [isDigit, isHex] at this ⊢; omega))).mono ?_; rintro e w' ⟨rfl, rfl⟩)
            all_goals first
              | (go_ret2; exact ⟨ret_ni (numParse_err hne Hall.out Heq.out hjt (by omega)), rfl⟩)
              | (go_round
                 case rel => exact ⟨j + 1, a * 10 + hexVal s[j], by omega, by go_num, by omega, by go_num, numParse_next Heq.out hjt (by omega)⟩
                 case measure => simp [intOf]; omega)
          · go_wp2_with fail
            go_ret2
            exact ⟨ret_ni (numParse_done hne Hall.out Heq.out hjt), rfl⟩
  · go_enter Tryz.func116, Tryz.ntmps116
    go_wp2_with fail
    go_ret2
    exact ⟨ret_ni (by simp [numParse, hne]), rfl⟩
set_option maxHeartbeats 400000 in
theorem number_Hex (s : Bytes) (m : Nat) (w : World) (hs : s.length ≤ 9223372036854775807) (hm : m ≤ 4611686018427387904) :
    Calls Tryz.prog 112 #[(Value.string ⟨List.toArray (s)⟩), .int .u64 m] w fun e w' => e = .returned (.tuple #[.int .u64 (numParse isHex 16 m s).1, .int .i64 (numParse isHex 16 m s).2]) ∧ w = w' := by
  go_enter Tryz.func112, Tryz.ntmps112
  go_wp2_with (go_at_call 116; refine (number_parse16 _ _ _ hs hm).mono ?_; rintro e w' ⟨rfl, rfl⟩)
  go_ret2
  exact ⟨rfl, rfl⟩
theorem number_Hex62 (s : Bytes) (w : World) (hs : s.length ≤ 9223372036854775807) :
    Calls Tryz.prog 112 #[(Value.string ⟨List.toArray (s)⟩), .int .u64 4611686018427387904] w fun e w' => e = .returned (.tuple #[.int .u64 (numParse isHex 16 4611686018427387904 s).1, .int .i64 (numParse isHex 16 4611686018427387904 s).2]) ∧ w = w' :=
  number_Hex s 4611686018427387904 w hs (Nat.le_refl _)
set_option maxHeartbeats 400000 in
theorem number_Parse (s : Bytes) (m : Nat) (w : World) (hs : s.length ≤ 9223372036854775807) (hm : m ≤ 4611686018427387904) :
    Calls Tryz.prog 88 #[(Value.string ⟨List.toArray (s)⟩), .int .u64 m] w fun e w' => e = .returned (.tuple #[.int .u64 (numParse isDigit 10 m s).1, .int .i64 (numParse isDigit 10 m s).2]) ∧ w = w' := by
  go_enter Tryz.func88, Tryz.ntmps88
  go_wp2_with (go_at_call 116; refine (number_parse10 _ _ _ hs hm).mono ?_; rintro e w' ⟨rfl, rfl⟩)
  go_ret2
  exact ⟨rfl, rfl⟩
set_option maxHeartbeats 400000 in
theorem number_Strict (s : Bytes) (m : Nat) (w : World) (hs : s.length ≤ 9223372036854775807) (hm : m ≤ 4611686018427387904) :
    Calls Tryz.prog 75 #[(Value.string ⟨List.toArray (s)⟩), .int .u64 m] w fun e w' => e = .returned (.tuple #[.int .u64 (numStrict m s).1, .int .i64 (numStrict m s).2]) ∧ w = w' := by
  by_cases hd : digitsOk s = true
  · by_cases h1 : 1 < s.length
    · by_cases h0 : s[0] = 48
      · have Hq := hid (show numStrict m s = (0, 6) from if_pos ⟨hd, h1, by rw [head_get (by omega), h0]⟩)
        have hx : ((s[0].toNat : Int) == 48) = true := by simp [h0]
        clear h0
        go_enter Tryz.func75, Tryz.ntmps75
        go_wp2_with (go_at_call 87; refine (ascii_Digits _ _ hs).mono ?_; rintro e w' ⟨rfl, rfl⟩)
        go_ret2
        rw [Hq.out]
        exact ⟨rfl, rfl⟩
      · have Hq := hid (show numStrict m s = numParse isDigit 10 m s from if_neg (by rintro ⟨_, _, h⟩; rw [head_get (by omega)] at h; exact h0 (by simpa using h)))
        have hx : ((s[0].toNat : Int) == 48) = false := u8_ne h0
        clear h0
        go_enter Tryz.func75, Tryz.ntmps75
        go_wp2_with (first
          | (go_at_call 87; refine (ascii_Digits _ _ hs).mono ?_; rintro e w' ⟨rfl, rfl⟩)
          | (go_at_call 88; refine (number_Parse _ _ _ hs hm).mono ?_; rintro e w' ⟨rfl, rfl⟩))
        go_ret2
        rw [Hq.out]
        exact ⟨rfl, rfl⟩
    · have Hq := hid (show numStrict m s = numParse isDigit 10 m s from if_neg (by rintro ⟨_, h, _⟩; exact h1 h))
      go_enter Tryz.func75, Tryz.ntmps75
      go_wp2_with (first
        | (go_at_call 87; refine (ascii_Digits _ _ hs).mono ?_; rintro e w' ⟨rfl, rfl⟩)
        | (go_at_call 88; refine (number_Parse _ _ _ hs hm).mono ?_; rintro e w' ⟨rfl, rfl⟩))
      go_ret2
      rw [Hq.out]
      exact ⟨rfl, rfl⟩
  · have Hq := hid (show numStrict m s = numParse isDigit 10 m s from if_neg (by rintro ⟨h, _, _⟩; exact hd h))
    have hd2 : digitsOk s = false := by simpa using hd
    clear hd
    go_enter Tryz.func75, Tryz.ntmps75
    go_wp2_with (first
      | (go_at_call 87; refine (ascii_Digits _ _ hs).mono ?_; rintro e w' ⟨rfl, rfl⟩)
      | (go_at_call 88; refine (number_Parse _ _ _ hs hm).mono ?_; rintro e w' ⟨rfl, rfl⟩))
    go_ret2
    rw [Hq.out]
    exact ⟨rfl, rfl⟩
end Go.Proofs.YtfmafmgbfamaiaaGreatDoor
/- The walks of package host. -/
set_option linter.all false
namespace Go.Proofs.YtfmafmgbfamaiaaGreatDoor
open Go.RowKit Wf
attribute [local go_sem] ex_list app_list get_list

theorem labelOk_eq (s : Bytes) (h1 : s.isEmpty = false) (h2 : s.length ≤ 63) (h3 : ¬ s[0]? = some 45) (h4 : ¬ s[s.length - 1]? = some 45) : labelOk s = s.all ldh := by
  unfold labelOk
  rw [List.getLast?_eq_getElem?, List.head?_eq_getElem?]
  simp [h1, h2, h3, h4]

set_option maxHeartbeats 1000000 in
theorem host_label (s : Bytes) (w : World) (hs : s.length ≤ 9223372036854775807) :
    Calls Tryz.prog 119 #[(Value.string ⟨List.toArray (s)⟩)] w fun e w' => e = .returned (.bool (labelOk s)) ∧ w = w' := by
  cases h1 : s.isEmpty
  · by_cases h2 : 63 < s.length
    · have Hq := hid (show labelOk s = false by unfold labelOk; simp; omega)
      go_enter Tryz.func119, Tryz.ntmps119
      go_wp2_with fail
      go_ret
      exact ⟨ret_bool Hq.out.symm, rfl⟩
    · have hl : 0 < s.length := by cases s <;> simp at h1 ⊢
      by_cases h3 : s[0] = 45
      · have Hq := hid (show labelOk s = false by unfold labelOk; rw [head_get hl, h3]; simp)
        have hx : ((s[0].toNat : Int) == 45) = true := by simp [h3]
        clear h3
        go_enter Tryz.func119, Tryz.ntmps119
        go_wp2_with fail
        go_ret
        exact ⟨ret_bool Hq.out.symm, rfl⟩
      · have hx : ((s[0].toNat : Int) == 45) = false := u8_ne h3
        by_cases h4 : s[s.length - 1] = 45
        · have Hq := hid (show labelOk s = false by
            unfold labelOk
            rw [List.getLast?_eq_getElem?, List.getElem?_eq_getElem (by omega), h4]; simp)
          have hy : ((s[s.length - 1].toNat : Int) == 45) = true := by simp [h4]
          clear h4 h3
          go_enter Tryz.func119, Tryz.ntmps119
          go_wp2_with fail
          go_ret
          exact ⟨ret_bool Hq.out.symm, rfl⟩
        · have hy : ((s[s.length - 1].toNat : Int) == 45) = false := u8_ne h4
          have Hq := hid (labelOk_eq s h1 (by omega) (by rw [List.getElem?_eq_getElem hl]; simpa using h3) (by rw [List.getElem?_eq_getElem (by omega)]; simpa using h4))
          have hdec : decide (63 < (s.length : Int)) = false := decide_eq_false (by omega)
          clear h3 h4
          go_enter Tryz.func119, Tryz.ntmps119
          go_wp2_with fail
          go_loop [26] (fun i => ∃ k : Nat, k ≤ s.length ∧ i = .int .i64 k ∧ (s.take k).all ldh = true) (fun i => s.length - (intOf i).toNat)
          case atStart => exact ⟨0, by omega, rfl, rfl⟩
          case round => (
            obtain ⟨k, hk, rfl, hall⟩ := hrel
            have Hall := hid hall
            clear hall
            by_cases hlt : k < s.length
            · cases hc : ldh s[k]
              · have Ha := hid (all_not hlt hc)
                have hc' := hc
                unfold ldh at hc'
                simp only [Bool.or_eq_false_iff] at hc'
                obtain ⟨⟨c1, c2⟩, c3⟩ := hc'
                have c4 : ((s[k].toNat : Int) != 45) = true := by
                  have : s[k] ≠ 45 := by simpa using c3
                  rw [bne_iff_ne]
                  intro h
                  exact this (UInt8.toNat_inj.1 (by simp; omega))
                clear c3 hc
                go_wp2_with (first
                  | (go_at_call 95; refine (ascii_IsAlpha _ _).mono ?_; rintro e w' ⟨rfl, rfl⟩)
                  | (go_at_call 96; refine (ascii_IsDigit _ _).mono ?_; rintro e w' ⟨rfl, rfl⟩))
                go_ret
                exact ⟨ret_bool (by rw [Hq.out, Ha.out]), rfl⟩
              · have Hc := hid (all_take_snoc hlt Hall.out hc)
                unfold ldh at hc
                simp only [Bool.or_eq_true, beq_iff_eq] at hc
                rcases hc with (hc | hc) | hc
                · go_wp2_with (first
                  | (go_at_call 95; refine (ascii_IsAlpha _ _).mono ?_; rintro e w' ⟨rfl, rfl⟩)
                  | (go_at_call 96; refine (ascii_IsDigit _ _).mono ?_; rintro e w' ⟨rfl, rfl⟩))
                  go_round
                  case rel => exact ⟨k + 1, by omega, by go_num, Hc.out⟩
                  case measure => simp [intOf]; omega
                · cases hca : isAlpha s[k]
                  all_goals
                    go_wp2_with (first
                      | (go_at_call 95; refine (ascii_IsAlpha _ _).mono ?_; rintro e w' ⟨rfl, rfl⟩)
                      | (go_at_call 96; refine (ascii_IsDigit _ _).mono ?_; rintro e w' ⟨rfl, rfl⟩))
                    go_round
                    case rel => exact ⟨k + 1, by omega, by go_num, Hc.out⟩
                    case measure => simp [intOf]; omega
                · have c4 : ((s[k].toNat : Int) != 45) = false := by simp [hc]
                  clear hc
                  cases hca : isAlpha s[k] <;> cases hcd : isDigit s[k]
                  all_goals
                    go_wp2_with (first
                      | (go_at_call 95; refine (ascii_IsAlpha _ _).mono ?_; rintro e w' ⟨rfl, rfl⟩)
                      | (go_at_call 96; refine (ascii_IsDigit _ _).mono ?_; rintro e w' ⟨rfl, rfl⟩))
                    go_round
                    case rel => exact ⟨k + 1, by omega, by go_num, Hc.out⟩
                    case measure => simp [intOf]; omega
            · have hall := Hall.out
              rw [List.take_of_length_le (by omega)] at hall
              have Ha := hid hall
              clear hall Hall
              go_wp2_with fail
              go_ret
              exact ⟨ret_bool (by rw [Hq.out, Ha.out]), rfl⟩)
  · have Hq := hid (show labelOk s = false by unfold labelOk; simp [h1])
    go_enter Tryz.func119, Tryz.ntmps119
    go_wp2_with fail
    go_ret
    exact ⟨ret_bool Hq.out.symm, rfl⟩
set_option maxHeartbeats 1000000 in
theorem host_name (s : Bytes) (w : World) (hE : Env w) (hs : s.length < 4294967281) :
    Calls Tryz.prog 100 #[(Value.string ⟨List.toArray (s)⟩)] w fun e w' => e = .returned (.bool (nameOk s)) ∧ Below w.heap.size w w' := by
  go_enter Tryz.func100, Tryz.ntmps100
  go_wp2_with fail
  go_loopw [0] (fun v wr => ∃ r : Bytes, v = (Value.string ⟨List.toArray (r)⟩) ∧ r.length ≤ s.length ∧ Below w.heap.size w wr ∧ nameOk r = nameOk s) (fun v _ => sLen v)
  case atStart => exact ⟨s, rfl, by omega, Below.refl _ _, rfl⟩
  case round =>
    obtain ⟨r, rfl, hr, hw, heq⟩ := hrel
    have Hw := hid hw
    have HE := hid (hE.below hw)
    have Heq := hid heq
    clear hw heq
    by_cases hp : pre (· == 46) r < r.length
    · have hcut := hid (show cutC 46 r = (r.take (pre (· == 46) r), r.drop (pre (· == 46) r + 1), true) from if_pos hp)
      have hnl : nameOk r = (labelOk (r.take (pre (· == 46) r)) && nameOk (r.drop (pre (· == 46) r + 1))) := by
        unfold nameOk
        rw [splitC_hit hp]
        have := splitC_ne 46 (r.drop (pre (· == 46) r + 1))
        cases hsp : splitC 46 (r.drop (pre (· == 46) r + 1)) with
        | nil => exact absurd hsp this
        | cons y l => rfl
      cases hl : labelOk (r.take (pre (· == 46) r))
      all_goals
        rw [hl] at hnl
        have Hnl := hid (hnl.symm.trans Heq.out)
        clear hnl
        go_wp2_with fail
        refine (s_Cut r 46 wr HE.out (by omega)).mono ?_
        rintro e w2 ⟨rfl, n, hw2⟩
        rw [hcut.out]
        have Hw2 : Hid (Below w.heap.size w w2) := hid (by rw [hw2]; exact below_drewN Hw.out _)
        clear hw2
        go_wp2_with (go_at_call 119; refine (host_label _ _ (by simp; omega)).mono ?_; rintro e w' ⟨rfl, rfl⟩)
      · go_ret
        exact ⟨ret_bool Hnl.out, Hw2.out⟩
      · go_roundw
        case rel => exact ⟨_, rfl, by simp; omega, Hw2.out, Hnl.out⟩
        case measure => simp [sLen_mk]; omega
    · have hcut := hid (show cutC 46 r = (r, [], false) from if_neg hp)
      have hnl : nameOk r = (labelOk r && !digitsOk r) := by unfold nameOk; rw [splitC_miss hp]; rfl
      have Hnl := hid (hnl.symm.trans Heq.out)
      clear hnl
      cases hl : labelOk r
      all_goals
        rw [hl] at Hnl
        go_wp2_with fail
        refine (s_Cut r 46 wr HE.out (by omega)).mono ?_
        rintro e w2 ⟨rfl, n, hw2⟩
        rw [hcut.out]
        have Hw2 : Hid (Below w.heap.size w w2) := hid (by rw [hw2]; exact below_drewN Hw.out _)
        clear hw2
        go_wp2_with (first
          | (go_at_call 119; refine (host_label _ _ (by omega)).mono ?_; rintro e w' ⟨rfl, rfl⟩)
          | (go_at_call 87; refine (ascii_Digits _ _ (by omega)).mono ?_; rintro e w' ⟨rfl, rfl⟩))
        go_ret
        exact ⟨ret_bool (by have := Hnl.out; simpa using this), Hw2.out⟩
set_option maxHeartbeats 1000000 in
theorem host_IsIPv4 (s : Bytes) (w : World) (hE : Env w) (hs : s.length < 4294967281) :
    Calls Tryz.prog 99 #[(Value.string ⟨List.toArray (s)⟩)] w fun e w' => e = .returned (.bool (ipv4 s)) ∧ Below w.heap.size w w' := by
  have hq : ipv4 s = ((splitC 46 s).length == 4 && (splitC 46 s).all octetOk) := rfl
  have hsp := s_Split s 46 w hE hs
  have hlen : ∀ x ∈ splitC 46 s, x.length ≤ s.length := splitC_len 46 s
  generalize splitC 46 s = parts at hq hsp hlen
  have Hq := hid hq
  have Hsp := hid hsp
  have Hlen := hid hlen
  clear hq hsp hlen
  by_cases h4 : parts.length = 4
  · have hx : ((parts.length : Int) != 4) = false := by simp [h4]
    go_enter Tryz.func99, Tryz.ntmps99
    go_wp2_with fail
    refine Hsp.out.mono ?_
    rintro e w1 ⟨rfl, hw1⟩
    have Hrow : Hid (RowStr w1 w.heap.size parts) := hid (by rw [hw1]; have := RowStr.alloc w parts [] 9; simpa using this)
    have Hw1 : Hid (Below w.heap.size w w1) := hid (by rw [hw1]; exact (Below.refl _ _).alloc (Nat.le_refl _) _)
    clear hw1
    go_wp2_with fail
    go_loop [15] (fun i => ∃ k : Nat, k ≤ 4 ∧ i = .int .i64 k ∧ (parts.take k).all octetOk = true) (fun i => 4 - (intOf i).toNat)
    case atStart => exact ⟨0, by omega, rfl, rfl⟩
    case round =>
      obtain ⟨k, hk, rfl, hall⟩ := hrel
      have Hall := hid hall
      clear hall
      by_cases hlt : k < 4
      · have hkl : k < parts.length := by omega
        have hcell := Hrow.out k hkl
        have hln := Hlen.out parts[k] (List.getElem_mem hkl)
        have hoc : octetOk parts[k] = ((numStrict 255 parts[k]).2 == 0) := rfl
        cases hc : octetOk parts[k]
        · have Ha := hid (all_not hkl hc)
          have hn : ((numStrict 255 parts[k]).2 != 0) = true := by rw [hc] at hoc; simp only [bne]; rw [← hoc]; rfl
          clear hoc
          go_wp2_with (go_at_call 75; refine (number_Strict _ 255 _ (by omega) (by omega)).mono ?_; rintro e w' ⟨rfl, rfl⟩)
          go_ret
          exact ⟨ret_bool (by rw [Hq.out, Ha.out]; simp), Hw1.out⟩
        · have Hn := hid (all_take_snoc hkl Hall.out hc)
          have hn : ((numStrict 255 parts[k]).2 != 0) = false := by rw [hc] at hoc; simp only [bne]; rw [← hoc]; rfl
          clear hoc
          go_wp2_with (go_at_call 75; refine (number_Strict _ 255 _ (by omega) (by omega)).mono ?_; rintro e w' ⟨rfl, rfl⟩)
          go_round
          case rel => exact ⟨k + 1, by omega, by go_num, Hn.out⟩
          case measure => simp [intOf]; omega
      · have hall := Hall.out
        rw [List.take_of_length_le (by omega)] at hall
        have Ha := hid hall
        clear hall Hall
        go_wp2_with fail
        go_ret
        exact ⟨ret_bool (by rw [Hq.out, Ha.out, h4]; rfl), Hw1.out⟩
  · have hx : ((parts.length : Int) != 4) = true := by simp; omega
    go_enter Tryz.func99, Tryz.ntmps99
    go_wp2_with fail
    refine Hsp.out.mono ?_
    rintro e w1 ⟨rfl, hw1⟩
    have Hw1 : Hid (Below w.heap.size w w1) := hid (by rw [hw1]; exact (Below.refl _ _).alloc (Nat.le_refl _) _)
    clear hw1
    go_wp2_with fail
    go_ret
    exact ⟨ret_bool (by rw [Hq.out]; simp [h4]), Hw1.out⟩
set_option maxHeartbeats 1000000 in
theorem host_Host (s : Bytes) (w : World) (hE : Env w) (hs : s.length < 4294967281) :
    Calls Tryz.prog 64 #[(Value.string ⟨List.toArray (s)⟩)] w fun e w' => e = .returned (.tuple #[(Value.string ⟨List.toArray ((hostM s).1)⟩), .int .i64 (hostM s).2]) ∧ Below w.heap.size w w' := by
  cases h1 : s.isEmpty
  · by_cases h2 : 253 < s.length
    · have Hq := hid (show hostM s = ([], 5) by unfold hostM; simp [h1, h2])
      go_enter Tryz.func64, Tryz.ntmps64
      go_wp2_with fail
      go_ret2
      rw [Hq.out]
      exact ⟨rfl, Below.refl _ _⟩
    · cases h3 : ipv4 s
      · cases h4 : nameOk s
        · have Hq := hid (show hostM s = ([], 50) by unfold hostM; simp [h1, h2, h3, h4])
          go_enter Tryz.func64, Tryz.ntmps64
          go_wp2_with (first
            | (go_at_call 99; refine (host_IsIPv4 _ _ hE hs).mono ?_; rintro e w1 ⟨rfl, hw1⟩)
            | (go_at_call 100; refine (host_name _ _ (hE.below ‹_›) hs).mono ?_; rintro e w2 ⟨rfl, hw2⟩))
          go_ret2
          rw [Hq.out]
          exact ⟨rfl, below_all ‹_› ‹_›⟩
        · have Hq := hid (show hostM s = (lower s, 0) by unfold hostM; simp [h1, h2, h3, h4])
          go_enter Tryz.func64, Tryz.ntmps64
          go_wp2_with (first
            | (go_at_call 99; refine (host_IsIPv4 _ _ hE hs).mono ?_; rintro e w1 ⟨rfl, hw1⟩)
            | (go_at_call 100; refine (host_name _ _ (hE.below hw1) hs).mono ?_; rintro e w2 ⟨rfl, hw2⟩)
            | (go_at_call 52; refine (ascii_Lower _ _ (by omega)).mono ?_; rintro e w3 ⟨rfl, hw3⟩))
          go_ret2
          rw [Hq.out]
          exact ⟨rfl, below_all (below_all hw1 hw2) hw3⟩
      · have Hq := hid (show hostM s = (lower s, 0) by unfold hostM; simp [h1, h2, h3])
        go_enter Tryz.func64, Tryz.ntmps64
        go_wp2_with (first
          | (go_at_call 99; refine (host_IsIPv4 _ _ hE hs).mono ?_; rintro e w1 ⟨rfl, hw1⟩)
          | (go_at_call 52; refine (ascii_Lower _ _ (by omega)).mono ?_; rintro e w3 ⟨rfl, hw3⟩))
        go_ret2
        rw [Hq.out]
        exact ⟨rfl, below_all hw1 hw3⟩
  · have Hq := hid (show hostM s = ([], 3) by unfold hostM; simp [h1])
    go_enter Tryz.func64, Tryz.ntmps64
    go_wp2_with fail
    go_ret2
    rw [Hq.out]
    exact ⟨rfl, Below.refl _ _⟩
end Go.Proofs.YtfmafmgbfamaiaaGreatDoor
/- The walks of package host: ports, hosts with ports, texts. -/
set_option linter.all false
namespace Go.Proofs.YtfmafmgbfamaiaaGreatDoor
open Go.RowKit Go.Sort Wf
attribute [local go_sem] ex_list app_list get_list

set_option maxHeartbeats 400000 in
theorem host_Port (s : Bytes) (w : World) (hs : s.length ≤ 9223372036854775807) :
    Calls Tryz.prog 65 #[(Value.string ⟨List.toArray (s)⟩)] w fun e w' => e = .returned (.tuple #[.int .i64 (portM s).1, .int .i64 (portM s).2]) ∧ w = w' := by
  have hle := numStrict_le 65535 s
  have hq : portM s = if (numStrict 65535 s).2 ≠ 0 ∨ (numStrict 65535 s).1 = 0 then (0, 51) else (((numStrict 65535 s).1 : Int), 0) := rfl
  have hc := number_Strict s 65535 w (by omega) (by omega)
  generalize numStrict 65535 s = np at hle hq hc
  obtain ⟨n, e⟩ := np
  simp only at hle hq hc
  have Hc := hid hc
  clear hc
  by_cases he : e = 0
  · subst he
    by_cases hn : n = 0
    · rw [if_pos (Or.inr hn)] at hq
      have Hq := hid hq
      have hx : ((n : Int) == 0) = true := by simp [hn]
      clear hq hn
      go_enter Tryz.func65, Tryz.ntmps65
      go_wp2_with fail
      refine Hc.out.mono ?_
      rintro e w' ⟨rfl, rfl⟩
      go_wp2_with fail
      go_ret2
      rw [Hq.out]
      exact ⟨rfl, rfl⟩
    · rw [if_neg (by simp [hn])] at hq
      have Hq := hid hq
      have hx : ((n : Int) == 0) = false := by simp [hn]
      clear hq hn
      go_enter Tryz.func65, Tryz.ntmps65
      go_wp2_with fail
      refine Hc.out.mono ?_
      rintro e w' ⟨rfl, rfl⟩
      go_wp2_with fail
      go_ret2
      rw [Hq.out]
      exact ⟨rfl, rfl⟩
  · rw [if_pos (Or.inl he)] at hq
    have Hq := hid hq
    have hx : (e != 0) = true := by simp [he]
    clear hq
    go_enter Tryz.func65, Tryz.ntmps65
    go_wp2_with fail
    refine Hc.out.mono ?_
    rintro e w' ⟨rfl, rfl⟩
    go_wp2_with fail
    go_ret2
    rw [Hq.out]
    exact ⟨rfl, rfl⟩
set_option maxHeartbeats 1000000 in
theorem host_Parse (s : Bytes) (w : World) (hE : Env w) (hs : s.length < 4294967281) :
    Calls Tryz.prog 38 #[(Value.string ⟨List.toArray (s)⟩)] w fun e w' => e = .returned (.tuple #[.agg #[(Value.string ⟨List.toArray ((hostPort s).1.1)⟩), .int .i64 (hostPort s).1.2], .int .i64 (hostPort s).2]) ∧ Below w.heap.size w w' := by
  have hcl := cutC_len 58 s
  have hct := fun w hE => s_Cut s 58 w hE hs
  have hq : hostPort s = hostPortOf (hostM (cutC 58 s).1) (cutC 58 s).2.2 (portM (cutC 58 s).2.1) := rfl
  generalize cutC 58 s = C at hcl hct hq
  obtain ⟨first, rest, colon⟩ := C
  simp only at hcl hct hq
  have hh := fun w hE => host_Host first w hE (by omega)
  have hp := fun w => host_Port rest w (by omega)
  generalize hostM first = H at hq hh
  generalize portM rest = P at hq hp
  obtain ⟨h, e⟩ := H
  obtain ⟨p, f⟩ := P
  simp only at hh hp
  have Hct := hid hct
  have Hh := hid hh
  have Hp := hid hp
  clear hct hh hp hcl
  have ha := heap_new w (.cells #[(Value.string ⟨List.toArray ([])⟩), .int .i64 0] 50)
  have hba : Below w.heap.size w (w.alloc (.cells #[(Value.string ⟨List.toArray ([])⟩), .int .i64 0] 50)) := (Below.refl _ _).alloc (Nat.le_refl _) _
  generalize hwa : w.alloc (.cells #[(Value.string ⟨List.toArray ([])⟩), .int .i64 0] 50) = wa at ha hba
  have Ha := hid ha
  have Hba := hid hba
  have Hwa := hid hwa
  clear ha hba hwa
  by_cases he : e = 0
  · subst he
    cases colon
    · have Hq := hid (show hostPort s = ((h, 0), 0) from hq)
      clear hq
      go_enter Tryz.func38, Tryz.ntmps38
      go_wp2_with fail
      rw [Hwa.out]
      refine (Hct.out _ (hE.below Hba.out)).mono ?_
      rintro e w1 ⟨rfl, n, hw1⟩
      have Hw1 : Hid (Below w.heap.size w w1) := hid (by rw [hw1]; exact below_drewN Hba.out _)
      have Ha1 : Hid (w1.heap[w.heap.size]? = some (.cells #[(Value.string ⟨List.toArray ([])⟩), .int .i64 0] 50 (0, 0))) := hid (by rw [hw1]; exact Ha.out)
      clear hw1
      go_wp2_with fail
      refine (Hh.out _ (hE.below Hw1.out)).mono ?_
      rintro e w2 ⟨rfl, hw2⟩
      have Ha2 := hid ((hw2.block _ (heap_lt Ha1.out)).trans Ha1.out)
      have Hw2 := hid (below_all Hw1.out hw2)
      clear hw2
      have hlt := heap_lt Ha2.out
      have c0 := Lib.cell_of_heap Ha2.out 0
      have c1 := Lib.cell_of_heap Ha2.out 1
      have z0 := Lib.frozen_of_heap Ha2.out 0
      have z1 := Lib.frozen_of_heap Ha2.out 1
      go_wp2_with fail
      refine bodyPost_ret (v := .tuple #[.agg #[(Value.string ⟨List.toArray (h)⟩), .int .i64 0], .int .i64 0]) (by simp [results, Tryz.results38, go_sem, c0, c1, hlt]) rfl ⟨?_, ?_⟩
      · rw [Hq.out]
      · repeat (first | exact Hw2.out | (refine Below.setCell (p := ⟨_, _, none⟩) ?_ (by simp <;> omega) _) | (refine Below.alloc ?_ (by simp <;> omega) _) | refine Below.drew ?_)
    · by_cases hf : f = 0
      · subst hf
        by_cases h443 : p = 443
        · have Hq := hid (show hostPort s = ((h, 0), 0) by rw [hq]; unfold hostPortOf; simp [h443])
          have hx : (p == 443) = true := by simp [h443]
          clear hq h443
          go_enter Tryz.func38, Tryz.ntmps38
          go_wp2_with fail
          rw [Hwa.out]
          refine (Hct.out _ (hE.below Hba.out)).mono ?_
          rintro e w1 ⟨rfl, n, hw1⟩
          have Hw1 : Hid (Below w.heap.size w w1) := hid (by rw [hw1]; exact below_drewN Hba.out _)
          have Ha1 : Hid (w1.heap[w.heap.size]? = some (.cells #[(Value.string ⟨List.toArray ([])⟩), .int .i64 0] 50 (0, 0))) := hid (by rw [hw1]; exact Ha.out)
          clear hw1
          go_wp2_with fail
          refine (Hh.out _ (hE.below Hw1.out)).mono ?_
          rintro e w2 ⟨rfl, hw2⟩
          have Ha2 := hid ((hw2.block _ (heap_lt Ha1.out)).trans Ha1.out)
          have Hw2 := hid (below_all Hw1.out hw2)
          clear hw2
          have hlt := heap_lt Ha2.out
          have c0 := Lib.cell_of_heap Ha2.out 0
          have c1 := Lib.cell_of_heap Ha2.out 1
          have z0 := Lib.frozen_of_heap Ha2.out 0
          have z1 := Lib.frozen_of_heap Ha2.out 1
          go_wp2_with (go_at_call 65; refine (Hp.out _).mono ?_; rintro e w3 ⟨rfl, rfl⟩)
          refine bodyPost_ret (v := .tuple #[.agg #[(Value.string ⟨List.toArray (h)⟩), .int .i64 0], .int .i64 0]) (by simp [results, Tryz.results38, go_sem, c0, c1, hlt]) rfl ⟨?_, ?_⟩
          · rw [Hq.out]
          · repeat (first | exact Hw2.out | (refine Below.setCell (p := ⟨_, _, none⟩) ?_ (by simp <;> omega) _) | (refine Below.alloc ?_ (by simp <;> omega) _) | refine Below.drew ?_)
        · have Hq := hid (show hostPort s = ((h, p), 0) by rw [hq]; unfold hostPortOf; simp [h443])
          have hx : (p == 443) = false := by simp [h443]
          clear hq h443
          go_enter Tryz.func38, Tryz.ntmps38
          go_wp2_with fail
          rw [Hwa.out]
          refine (Hct.out _ (hE.below Hba.out)).mono ?_
          rintro e w1 ⟨rfl, n, hw1⟩
          have Hw1 : Hid (Below w.heap.size w w1) := hid (by rw [hw1]; exact below_drewN Hba.out _)
          have Ha1 : Hid (w1.heap[w.heap.size]? = some (.cells #[(Value.string ⟨List.toArray ([])⟩), .int .i64 0] 50 (0, 0))) := hid (by rw [hw1]; exact Ha.out)
          clear hw1
          go_wp2_with fail
          refine (Hh.out _ (hE.below Hw1.out)).mono ?_
          rintro e w2 ⟨rfl, hw2⟩
          have Ha2 := hid ((hw2.block _ (heap_lt Ha1.out)).trans Ha1.out)
          have Hw2 := hid (below_all Hw1.out hw2)
          clear hw2
          have hlt := heap_lt Ha2.out
          have c0 := Lib.cell_of_heap Ha2.out 0
          have c1 := Lib.cell_of_heap Ha2.out 1
          have z0 := Lib.frozen_of_heap Ha2.out 0
          have z1 := Lib.frozen_of_heap Ha2.out 1
          go_wp2_with (go_at_call 65; refine (Hp.out _).mono ?_; rintro e w3 ⟨rfl, rfl⟩)
          refine bodyPost_ret (v := .tuple #[.agg #[(Value.string ⟨List.toArray (h)⟩), .int .i64 p], .int .i64 0]) (by simp [results, Tryz.results38, go_sem, c0, c1, hlt]) rfl ⟨?_, ?_⟩
          · rw [Hq.out]
          · repeat (first | exact Hw2.out | (refine Below.setCell (p := ⟨_, _, none⟩) ?_ (by simp <;> omega) _) | (refine Below.alloc ?_ (by simp <;> omega) _) | refine Below.drew ?_)
      · have Hq := hid (show hostPort s = (([], 0), f) by rw [hq]; unfold hostPortOf; simp [hf])
        have hx : (f != 0) = true := by simp [hf]
        clear hq hf
        go_enter Tryz.func38, Tryz.ntmps38
        go_wp2_with fail
        rw [Hwa.out]
        refine (Hct.out _ (hE.below Hba.out)).mono ?_
        rintro e w1 ⟨rfl, n, hw1⟩
        have Hw1 : Hid (Below w.heap.size w w1) := hid (by rw [hw1]; exact below_drewN Hba.out _)
        have Ha1 : Hid (w1.heap[w.heap.size]? = some (.cells #[(Value.string ⟨List.toArray ([])⟩), .int .i64 0] 50 (0, 0))) := hid (by rw [hw1]; exact Ha.out)
        clear hw1
        go_wp2_with fail
        refine (Hh.out _ (hE.below Hw1.out)).mono ?_
        rintro e w2 ⟨rfl, hw2⟩
        have Ha2 := hid ((hw2.block _ (heap_lt Ha1.out)).trans Ha1.out)
        have Hw2 := hid (below_all Hw1.out hw2)
        clear hw2
        have hlt := heap_lt Ha2.out
        have c0 := Lib.cell_of_heap Ha2.out 0
        have c1 := Lib.cell_of_heap Ha2.out 1
        have z0 := Lib.frozen_of_heap Ha2.out 0
        have z1 := Lib.frozen_of_heap Ha2.out 1
        go_wp2_with (go_at_call 65; refine (Hp.out _).mono ?_; rintro e w3 ⟨rfl, rfl⟩)
        refine bodyPost_ret (v := .tuple #[.agg #[(Value.string ⟨List.toArray ([])⟩), .int .i64 0], .int .i64 f]) (by simp [results, Tryz.results38, go_sem, c0, c1, hlt]) rfl ⟨?_, ?_⟩
        · rw [Hq.out]
        · repeat (first | exact Hw2.out | (refine Below.setCell (p := ⟨_, _, none⟩) ?_ (by simp <;> omega) _) | (refine Below.alloc ?_ (by simp <;> omega) _) | refine Below.drew ?_)
  · have hx : (e != 0) = true := by simp [he]
    have Hq := hid (show hostPort s = (([], 0), e) by rw [hq]; unfold hostPortOf; rw [if_pos he])
    clear hq he
    go_enter Tryz.func38, Tryz.ntmps38
    go_wp2_with fail
    rw [Hwa.out]
    refine (Hct.out _ (hE.below Hba.out)).mono ?_
    rintro e w1 ⟨rfl, n, hw1⟩
    have Hw1 : Hid (Below w.heap.size w w1) := hid (by rw [hw1]; exact below_drewN Hba.out _)
    have Ha1 : Hid (w1.heap[w.heap.size]? = some (.cells #[(Value.string ⟨List.toArray ([])⟩), .int .i64 0] 50 (0, 0))) := hid (by rw [hw1]; exact Ha.out)
    clear hw1
    go_wp2_with fail
    refine (Hh.out _ (hE.below Hw1.out)).mono ?_
    rintro e w2 ⟨rfl, hw2⟩
    have Ha2 := hid ((hw2.block _ (heap_lt Ha1.out)).trans Ha1.out)
    have Hw2 := hid (below_all Hw1.out hw2)
    clear hw2
    have hlt := heap_lt Ha2.out
    have c0 := Lib.cell_of_heap Ha2.out 0
    have c1 := Lib.cell_of_heap Ha2.out 1
    have z0 := Lib.frozen_of_heap Ha2.out 0
    have z1 := Lib.frozen_of_heap Ha2.out 1
    go_wp2_with fail
    refine bodyPost_ret (v := .tuple #[.agg #[(Value.string ⟨List.toArray ([])⟩), .int .i64 0], .int .i64 e]) (by simp [results, Tryz.results38, go_sem, c0, c1]) rfl ⟨?_, ?_⟩
    · rw [Hq.out]
    · repeat (first | exact Hw2.out | (refine Below.setCell (p := ⟨_, _, none⟩) ?_ (by simp <;> omega) _) | (refine Below.alloc ?_ (by simp <;> omega) _) | refine Below.drew ?_)
theorem slice_buf (B a : Nat) (ha : a ≤ 19) (W : World) : (Instr.sliceAt 151 (.pointer (some ⟨B, 0, none⟩)) (some (.int .i64 a)) none none).run Tryz.prog W = .ok (.slice (some ⟨B, a, none⟩) (20 - a) (20 - a)) W := by
  have h20 : Tryz.prog.arrayLen 151 = 20 := by kernel_rfl
  have he : Tryz.prog.elem 151 = 5 := by kernel_rfl
  have hu : Tryz.prog.underlying 151 = some (.array (Tryz.prog.arrayLen 151) (Tryz.prog.elem 151)) := by kernel_rfl
  rw [run_sliceAt_array_l W _ ⟨B, 0, none⟩ hu .i64 a (by omega) (by rw [h20]; omega), he, h20, Tryz.sizeOf5]
  have : ¬ (20 = a) := by omega
  simp [Result.andThen, slicedAt, addr_add, this]
set_option maxHeartbeats 400000 in
theorem number_Format (n : Nat) (w : World) (hn : n ≤ 18446744073709551615) :
    Calls Tryz.prog 72 #[.int .u64 n] w fun e w' => e = .returned (Value.string ⟨List.toArray (decS n)⟩) ∧ Below w.heap.size w w' := by
  have hlen : (decS n).length ≤ 20 := decS_length 19 n (by omega)
  go_enter Tryz.func72, Tryz.ntmps72
  go_wp2_with fail
  go_loopw [0, 4] (fun v i wr => ∃ (k a : Nat) (x ds : Bytes), v = .int .u64 k ∧ i = .int .i64 a ∧ k ≤ 18446744073709551615 ∧ a ≤ 19 ∧ RowU8 wr w.heap.size (x ++ ds) ∧ x.length = a + 1 ∧ ds.length = 19 - a ∧ decS k ++ ds = decS n ∧ (decS k).length ≤ a + 1 ∧ Below w.heap.size w wr) (fun v _ _ => (intOf v).toNat)
  case atStart =>
    refine ⟨n, 19, List.replicate 20 0, [], rfl, rfl, hn, by omega, ?_, by simp, rfl, by simp, hlen, (Below.refl _ _).alloc (Nat.le_refl _) _⟩
    exact ⟨[], _, (0, 0), heap_new _ _, Or.inr (by simp)⟩
  case round =>
    obtain ⟨k, a, x, ds, rfl, rfl, hk, ha, hrow, hx, hds, heq, hl, hw⟩ := hrel
    obtain ⟨y, z, rfl, hy⟩ := snoc_of hx
    have e : y ++ [z] ++ ds = y ++ z :: ds := by simp
    rw [e] at hrow
    obtain ⟨cv, hcell⟩ : ∃ q : Int, wr.cell? ⟨w.heap.size, a, none⟩ = some (.int .u8 q) := ⟨_, hrow.cell (k := a) (by simp; omega)⟩
    have hfz := hrow.frozen (k := a) (by simp; omega)
    have Hrow := hid hrow
    have Heq := hid heq
    have Hw := hid hw
    have Hy := hid hy
    have Hds := hid hds
    clear hrow heq hw hy hds hx e
    by_cases h10 : k < 10
    · have hst := Hrow.out.set (k := a) (by have := Hy.out; simp; omega) (dig k)
      have hset : (y ++ z :: ds).set a (dig k) = y ++ (dig k) :: ds := by rw [← Hy.out]; exact set_mid y z _ ds
      rw [hset, digit_toNat h10] at hst
      have hback := fun cap => hst.backAt Hy.out cap
      have hdl : ((dig k) :: ds).length = 20 - a := by have := Hds.out; simp; omega
      rw [hdl] at hback
      have Hds2 := hid (show decS n = (dig k) :: ds by rw [← Heq.out, decS_small h10]; rfl)
      have hsl := slice_buf w.heap.size a ha
      clear hst hset hdl
      go_wp2_with fail
      go_ret
      exact ⟨ret_str Hds2.out.symm, Hw.out.setCell (p := ⟨w.heap.size, a, none⟩) (Nat.le_refl _) _⟩
    · have hst := Hrow.out.set (k := a) (by have := Hy.out; simp; omega) (dig (k % 10))
      have hset : (y ++ z :: ds).set a (dig (k % 10)) = y ++ (dig (k % 10)) :: ds := by rw [← Hy.out]; exact set_mid y z _ ds
      rw [hset, digit_toNat (show k % 10 < 10 by omega)] at hst
      have Hst := hid hst
      have Heq2 := hid (show decS (k / 10) ++ (dig (k % 10)) :: ds = decS n by rw [← Heq.out, decS_big h10]; simp)
      have hl2 := decS_big_length h10
      have hp2 := decS_pos (k / 10)
      have Hl2 := hid hl2
      clear hst hset hl2
      go_wp2_with fail
      have h1 := Hl2.out
      refine ⟨⟨k / 10, a - 1, y, _, congrArg (Value.int .u64) (by omega), congrArg (Value.int .i64) (by omega), by omega, by omega, Hst.out, by have := Hy.out; omega, by have := Hds.out; simp; omega, Heq2.out, by omega, Hw.out.setCell (p := ⟨w.heap.size, a, none⟩) (Nat.le_refl _) _⟩, ?_⟩
      simp [intOf]; omega
theorem neg_u64 (p : Int) (h : p < 0) (h1 : -9223372036854775808 ≤ p) : IntKind.u64.wrap (-(IntKind.u64.wrap p)) = (p.natAbs : Int) := by
  simp only [IntKind.wrap, IntKind.signed, IntKind.bits]
  simp
  omega
set_option maxHeartbeats 400000 in
theorem host_Format (h : Bytes) (p : Int) (w : World) (hh : h.length ≤ 4611686018427387904) (h1 : -9223372036854775808 ≤ p) (h2 : p ≤ 9223372036854775807) :
    Calls Tryz.prog 41 #[.agg #[(Value.string ⟨List.toArray (h)⟩), .int .i64 p]] w fun e w' => e = .returned (Value.string ⟨List.toArray (hostText h p)⟩) ∧ Below w.heap.size w w' := by
  have ha := heap_new w (.cells #[(Value.string ⟨List.toArray (h)⟩), .int .i64 p] 50)
  have hba : Below w.heap.size w (w.alloc (.cells #[(Value.string ⟨List.toArray (h)⟩), .int .i64 p] 50)) := (Below.refl _ _).alloc (Nat.le_refl _) _
  generalize hwa : w.alloc (.cells #[(Value.string ⟨List.toArray (h)⟩), .int .i64 p] 50) = wa at ha hba
  have hlt := heap_lt ha
  have c0 : wa.cell? ⟨w.heap.size, 0, none⟩ = some (Value.string ⟨List.toArray (h)⟩) := Lib.cell_of_heap ha 0
  have c1 : wa.cell? ⟨w.heap.size, 1, none⟩ = some (.int .i64 p) := Lib.cell_of_heap ha 1
  have Hba := hid hba
  have Hwa := hid hwa
  clear ha hba hwa
  by_cases h0 : p = 0
  · subst h0
    have Hq := hid (show hostText h 0 = h from if_pos rfl)
    go_enter Tryz.func41, Tryz.ntmps41
    go_wp2_with fail
    rw [Hwa.out]
    go_wp2_with fail
    go_ret
    exact ⟨ret_str Hq.out.symm, Hba.out⟩
  · have hx : (p == 0) = false := by simp [h0]
    by_cases hneg : p < 0
    · have Hq := hid (show hostText h p = h ++ [58, 45] ++ decS p.natAbs by unfold hostText; rw [if_neg h0, if_pos hneg])
      clear h0
      go_enter Tryz.func41, Tryz.ntmps41
      go_wp2_with fail
      rw [Hwa.out]
      go_wp2_with fail
      have hd := decS_length 19 p.natAbs (by omega)
      have hu := neg_u64 p hneg h1
      have n1 : ¬ 9223372036854775807 < h.length + 2 := by omega
      have n2 : ¬ 9223372036854775807 < h.length + 2 + (decS p.natAbs).length := by omega
      have hpn : p.natAbs ≤ 18446744073709551615 := by omega
      have k0 := cell_regrown c0
      have k1 := cell_regrown c1
      clear c0 c1 hx
      refine wp_region_quiet_below (by kernel_rfl) (by kernel_rfl) ?_
      repeat (quiet_step ((go_at_call 72; exact Calls.regrown_of (number_Format _ _ hpn))))
      refine wpQuiet_nil ?_
      intro _ hw'
      obtain ⟨⟨dq, osq⟩, hw''⟩ := hw'
      subst hw''
      have hbq := below_regrown wa dq osq
      generalize grow (redrawn wa dq) osq = wq at hbq ⊢
      clear hu n1 n2 k0 k1
      go_wp2_with fail
      go_ret
      exact ⟨ret_str (by rw [Hq.out]; simp), below_all Hba.out hbq⟩
    · have Hq := hid (show hostText h p = h ++ [58] ++ decS p.natAbs by unfold hostText; rw [if_neg h0, if_neg hneg])
      clear h0
      go_enter Tryz.func41, Tryz.ntmps41
      go_wp2_with fail
      rw [Hwa.out]
      go_wp2_with fail
      have hd := decS_length 19 p.natAbs (by omega)
      have hu : IntKind.u64.wrap p = (p.natAbs : Int) := (u64_in (show 0 ≤ p by omega) h2).trans (by omega)
      have n1 : ¬ 9223372036854775807 < h.length + 1 := by omega
      have n2 : ¬ 9223372036854775807 < h.length + 1 + (decS p.natAbs).length := by omega
      have hpn : p.natAbs ≤ 18446744073709551615 := by omega
      have k0 := cell_regrown c0
      have k1 := cell_regrown c1
      clear c0 c1 hx
      refine wp_region_quiet_below (by kernel_rfl) (by kernel_rfl) ?_
      repeat (quiet_step ((go_at_call 72; exact Calls.regrown_of (number_Format _ _ hpn))))
      refine wpQuiet_nil ?_
      intro _ hw'
      obtain ⟨⟨dq, osq⟩, hw''⟩ := hw'
      subst hw''
      have hbq := below_regrown wa dq osq
      generalize grow (redrawn wa dq) osq = wq at hbq ⊢
      clear hu n1 n2 k0 k1
      go_wp2_with fail
      go_ret
      exact ⟨ret_str (by rw [Hq.out]; simp), below_all Hba.out hbq⟩
end Go.Proofs.YtfmafmgbfamaiaaGreatDoor
/- Slices of the call's own: one element appended. -/
set_option linter.all false
namespace Wf
open Go Go.RowKit
end Wf
/- The walks of the reference of package host. -/
set_option linter.all false
namespace Go.Proofs.YtfmafmgbfamaiaaGreatDoor
open Go.RowKit Go.Sort Wf
attribute [local go_sem] ex_list app_list get_list

def RetStrs (w : World) (l : List Bytes) (e : Ending) (w' : World) : Prop := ∃ v, e = .returned v ∧ w'.ownsRow w.heap.size 9 1 v l.length (l.map strV) ∧ Below w.heap.size w w'

end Go.Proofs.YtfmafmgbfamaiaaGreatDoor
/- The walks of the reference of package host: hosts, ports, texts. -/
set_option linter.all false
namespace Go.Proofs.YtfmafmgbfamaiaaGreatDoor
open Go.RowKit Go.Sort Wf
attribute [local go_sem] ex_list app_list get_list

set_option maxHeartbeats 400000 in
theorem ref04_Format (n : Nat) (w : World) (hn : n ≤ 18446744073709551615) :
    Calls Tryz.prog 23 #[.int .u64 n] w fun e w' => e = .returned (Value.string ⟨List.toArray (decS n)⟩) ∧ Below w.heap.size w w' := by
  have hlen : (decS n).length ≤ 20 := decS_length 19 n (by omega)
  go_enter Tryz.func23, Tryz.ntmps23
  go_wp2_with fail
  go_loopw [0, 3] (fun v o wr => ∃ (k : Nat) (ds : Bytes), v = .int .u64 k ∧ o = (Value.string ⟨List.toArray (ds)⟩) ∧ k ≤ 18446744073709551615 ∧ (decS k).length + ds.length ≤ 20 ∧ decS k ++ ds = decS n ∧ Below w.heap.size w wr) (fun v _ _ => (intOf v).toNat)
  case atStart => exact ⟨n, [], rfl, rfl, hn, by simpa using hlen, by simp, Below.refl _ _⟩
  case round =>
    obtain ⟨k, ds, rfl, rfl, hk, hl, heq, hw⟩ := hrel
    have hrow : ∀ T, RowU8 (wr.alloc (.cells #[.int .u8 (48 + (k : Int) % 10)] T)) wr.heap.size [dig (k % 10)] := fun T =>
      ⟨[], T, (0, 0), by rw [heap_new]; simp only [List.map_cons, List.map_nil, List.append_nil, u8V, digit_toNat (show k % 10 < 10 by omega)]; rfl, Or.inr (by simp)⟩
    have hback := fun T => (hrow T).back 1
    simp only [List.length_cons, List.length_nil, Nat.zero_add] at hback
    have Heq := hid heq
    have Hw := hid hw
    clear heq hw hrow
    by_cases h10 : k < 10
    · have hz : ((k : Int) / 10 == 0) = true := by simp; omega
      have hm : k % 10 = k := by omega
      have Hn := hid (show decS n = dig (k % 10) :: ds by rw [← Heq.out, decS_small h10, hm]; rfl)
      have hll : ds.length ≤ 20 := by omega
      clear hm
      go_wp2_with fail
      go_ret
      refine ⟨ret_str (by rw [Hn.out]), ?_⟩
      exact Hw.out.alloc Hw.out.size _
    · have hz : ((k : Int) / 10 == 0) = false := by simp; omega
      have Hn := hid (show decS (k / 10) ++ dig (k % 10) :: ds = decS n by rw [← Heq.out, decS_big h10]; simp)
      have hl2 := decS_big_length h10
      have Hl2 := hid hl2
      have hll : ds.length ≤ 20 := by omega
      clear hl2
      go_wp2_with fail
      have h1 := Hl2.out
      refine ⟨⟨k / 10, dig (k % 10) :: ds, congrArg (Value.int .u64) (by omega), rfl, by omega, by simp; omega, Hn.out, Hw.out.alloc Hw.out.size _⟩, ?_⟩
      simp [intOf]; omega
set_option maxHeartbeats 400000 in
theorem ref05_Decimal (p : Int) (w : World) (h1 : -9223372036854775808 ≤ p) (h2 : p ≤ 9223372036854775807) :
    Calls Tryz.prog 16 #[.int .i64 p] w fun e w' => e = .returned (Value.string ⟨List.toArray ((if p < 0 then [45] else []) ++ decS p.natAbs)⟩) ∧ Below w.heap.size w w' := by
  have hd := decS_length 19 p.natAbs (by omega)
  by_cases hneg : p < 0
  · rw [if_pos hneg]
    have hp : -(p + 1) + 1 = (p.natAbs : Int) := by omega
    have hnn : p.natAbs ≤ 18446744073709551615 := by omega
    go_enter Tryz.func16, Tryz.ntmps16
    go_wp2_with fail
    clear hp
    go_wp2_with (go_at_call 23; refine (ref04_Format _ _ hnn).mono ?_; rintro e w1 ⟨rfl, hw1⟩)
    go_ret
    exact ⟨rfl, hw1⟩
  · rw [if_neg hneg]
    obtain ⟨n, rfl⟩ := Int.eq_ofNat_of_zero_le (show 0 ≤ p by omega)
    go_enter Tryz.func16, Tryz.ntmps16
    go_wp2_with (go_at_call 23; refine (ref04_Format _ _ (by omega)).mono ?_; rintro e w1 ⟨rfl, hw1⟩)
    go_ret
    exact ⟨rfl, hw1⟩
set_option maxHeartbeats 400000 in
theorem ref05_Format (h : Bytes) (p : Int) (w : World) (hh : h.length ≤ 4611686018427387904) (h1 : -9223372036854775808 ≤ p) (h2 : p ≤ 9223372036854775807) :
    Calls Tryz.prog 11 #[.agg #[(Value.string ⟨List.toArray (h)⟩), .int .i64 p]] w fun e w' => e = .returned (Value.string ⟨List.toArray (hostText h p)⟩) ∧ Below w.heap.size w w' := by
  have ha := heap_new w (.cells #[(Value.string ⟨List.toArray (h)⟩), .int .i64 p] 50)
  have hba : Below w.heap.size w (w.alloc (.cells #[(Value.string ⟨List.toArray (h)⟩), .int .i64 p] 50)) := (Below.refl _ _).alloc (Nat.le_refl _) _
  generalize hwa : w.alloc (.cells #[(Value.string ⟨List.toArray (h)⟩), .int .i64 p] 50) = wa at ha hba
  have hlt := heap_lt ha
  have c0 : wa.cell? ⟨w.heap.size, 0, none⟩ = some (Value.string ⟨List.toArray (h)⟩) := Lib.cell_of_heap ha 0
  have c1 : wa.cell? ⟨w.heap.size, 1, none⟩ = some (.int .i64 p) := Lib.cell_of_heap ha 1
  have Hba := hid hba
  have Hwa := hid hwa
  clear ha hba hwa
  by_cases h0 : p = 0
  · subst h0
    have Hq := hid (show hostText h 0 = h from if_pos rfl)
    go_enter Tryz.func11, Tryz.ntmps11
    go_wp2_with fail
    rw [Hwa.out]
    go_wp2_with fail
    go_ret
    exact ⟨ret_str Hq.out.symm, Hba.out⟩
  · have hx : (p == 0) = false := by simp [h0]
    have hq : hostText h p = h ++ 58 :: ((if p < 0 then [45] else []) ++ decS p.natAbs) := by
      unfold hostText
      rw [if_neg h0]
      split <;> simp
    have hd := decS_length 19 p.natAbs (by omega)
    have hdl : ((if p < 0 then [45] else []) ++ decS p.natAbs).length ≤ 21 := by split <;> simp <;> omega
    have hdc := fun w => ref05_Decimal p w h1 h2
    generalize (if p < 0 then [45] else []) ++ decS p.natAbs = ds at hq hdl hdc
    have Hq := hid hq
    have Hdc := hid hdc
    clear h0 hq hdc hd
    go_enter Tryz.func11, Tryz.ntmps11
    go_wp2_with fail
    rw [Hwa.out]
    go_wp2_with fail
    have n1 : ¬ 9223372036854775807 < h.length + 1 := by omega
    have n2 : ¬ 9223372036854775807 < h.length + 1 + ds.length := by omega
    have k0 := cell_regrown c0
    have k1 := cell_regrown c1
    clear c0 c1 hx
    refine wp_region_quiet_below (by kernel_rfl) (by kernel_rfl) ?_
    repeat (quiet_step ((go_at_call 16; exact Calls.regrown_of (Hdc.out _))))
    refine wpQuiet_nil ?_
    intro _ hw'
    obtain ⟨⟨dq, osq⟩, hw''⟩ := hw'
    subst hw''
    have hbq := below_regrown wa dq osq
    generalize grow (redrawn wa dq) osq = wq at hbq ⊢
    clear n1 n2 k0 k1
    go_wp2_with fail
    go_ret
    exact ⟨ret_str Hq.out.symm, below_all Hba.out hbq⟩
end Go.Proofs.YtfmafmgbfamaiaaGreatDoor
/- The contracts of package host and its reference, for the calculus of conditions. -/
set_option linter.all false
set_option maxRecDepth 20000
namespace Go.Proofs.YtfmafmgbfamaiaaGreatDoor
open Go Vc Go.RowKit Wf
theorem p_host_Parse (s : Bytes) (hs : s.length < 4294967281) : PC Tryz.V 38 [.str s] (.tup [.agg [.str (hostPort s).1.1, .int .i64 (hostPort s).1.2], .int .i64 (hostPort s).2]) :=
  ⟨Tryz.call38, by simp [flat, flat.flatL], by simp [flat, flat.flatL], fun w hE => (host_Parse s w hE hs).mono fun _ _ ⟨h, k⟩ => ⟨h, k⟩⟩
theorem p_host_Format (h : Bytes) (p : Int) (hh : h.length ≤ 4611686018427387904) (h1 : -9223372036854775808 ≤ p) (h2 : p ≤ 9223372036854775807) : PC Tryz.V 41 [.agg [.str h, .int .i64 p]] (.str (hostText h p)) :=
  ⟨Tryz.call41, by simp [flat, flat.flatL], by simp [flat, flat.flatL], fun w hE => (host_Format h p w hh h1 h2).mono fun _ _ ⟨h, k⟩ => ⟨h, k⟩⟩
theorem p_r5_Format (h : Bytes) (p : Int) (hh : h.length ≤ 4611686018427387904) (h1 : -9223372036854775808 ≤ p) (h2 : p ≤ 9223372036854775807) : PC Tryz.V 11 [.agg [.str h, .int .i64 p]] (.str (hostText h p)) :=
  ⟨Tryz.call11, by simp [flat, flat.flatL], by simp [flat, flat.flatL], fun w hE => (ref05_Format h p w hh h1 h2).mono fun _ _ ⟨h, k⟩ => ⟨h, k⟩⟩
theorem p_Lower (s : Bytes) (hs : s.length ≤ 9223372036854775807) : PC Tryz.V 52 [.str s] (.str (lower s)) :=
  ⟨Tryz.call52, by simp [flat, flat.flatL], by simp [flat, flat.flatL], fun w hE => (ascii_Lower s w hs).mono fun _ _ ⟨h, k⟩ => ⟨h, k⟩⟩
theorem p_Equal (s t : Bytes) (hs : s.length ≤ 9223372036854775807) (ht : t.length ≤ 9223372036854775807) : PC Tryz.V 36 [.str s, .str t] (.bool (lower s == lower t)) := by
  refine pc_of 3000 Tryz.func36 rfl Tryz.ntmps36 Tryz.results36 Tryz.call36 (by simp) (by simp [flat, flat.flatL]) (by simp [flat, flat.flatL]) ?_
  simp only [lawG, ↓Xn, ↓Xo, ↓Xg, ↓Xd, ↓Xe, ↓Xf, Tryz.VΓ, Tryz.Γs, Xp, Xi, Nat.reduceAdd, Nat.reduceSub, Nat.reduceLT, Nat.reduceLeDiff, reduceIte, reduceCtorEq, Nat.reduceEqDiff, implies_true, forall_const, lawV]
  (refine callV_pc (p_Lower s hs) ?_; simp only [lawG, ↓Xn, ↓Xo, ↓Xg, ↓Xd, ↓Xe, ↓Xf, Tryz.VΓ, Tryz.Γs, Xp, Xi, Nat.reduceAdd, Nat.reduceSub, Nat.reduceLT, Nat.reduceLeDiff, reduceIte, reduceCtorEq, Nat.reduceEqDiff, implies_true, forall_const, lawV])
  (refine callV_pc (p_Lower t ht) ?_; simp only [lawG, ↓Xn, ↓Xo, ↓Xg, ↓Xd, ↓Xe, ↓Xf, Tryz.VΓ, Tryz.Γs, Xp, Xi, Nat.reduceAdd, Nat.reduceSub, Nat.reduceLT, Nat.reduceLeDiff, reduceIte, reduceCtorEq, Nat.reduceEqDiff, implies_true, forall_const, lawV])
end Go.Proofs.YtfmafmgbfamaiaaGreatDoor
/- The walk of head.Values. -/
set_option linter.all false
set_option maxRecDepth 20000
namespace Go.Proofs.YtfmafmgbfamaiaaGreatDoor
open Go Vc Go.RowKit Wf
set_option linter.unusedSimpArgs false
theorem fc_at (L : List (Bytes × Bytes)) (k : Nat) (h : k < L.length) : ((L.flatMap fc).drop (k * 2)).take 2 = fc L[k] := rows_at fc 2 (fun _ => rfl) L k h
theorem fc_len (L : List (Bytes × Bytes)) : (L.flatMap fc).length = L.length * 2 := rows_len fc 2 (fun _ => rfl) L
theorem fc_one (fs : List (Bytes × Bytes)) : (fs.flatMap fc).all Vc.one = true := by
  rw [List.all_eq_true]
  intro x hx
  obtain ⟨f, -, hf⟩ := List.mem_flatMap.1 hx
  simp only [fc, List.mem_cons, List.not_mem_nil, or_false] at hf
  rcases hf with rfl | rfl <;> rfl
set_option maxHeartbeats 2000000 in
theorem sc_head_Values {bs : List Res} {j : Nat} {fs : List (Bytes × Bytes)} {m : Bool} (hj : bs[j]? = some (.own (fs.flatMap fc) 31 2 fs.length m)) (hn : fs.length ≤ 1000000) (hl : ∀ f ∈ fs, f.1.length ≤ 9223372036854775807) (name : Bytes) (hname : name.length ≤ 9223372036854775807) (a c : Int) :
    SC Tryz.V 32 [.agg [.int .i64 a, .int .i64 c, .o j fs.length], .str name] bs (fun r b => Kp bs b ∧ Sl 9 1 bs.length r b ((hdrVals fs name).map .str) (hdrVals fs name).length) := by
  have hjl : j < bs.length := (List.getElem?_eq_some_iff.1 hj).1
  refine sc_of 3000 Tryz.func32 rfl Tryz.ntmps32 Tryz.results32 Tryz.call32 (by simp) (fun β β' hb => concL_within bs.length _ (by simp [within, within.withinL, hjl]) β β' hb) ?_
  simp only [lawG, ↓Xn, ↓Xo, ↓Xg, ↓Xd, ↓Xe, ↓Xf, Tryz.VΓ, Tryz.Γs, Xp, Xi, Nat.reduceAdd, Nat.reduceSub, Nat.reduceLT, Nat.reduceLeDiff, reduceIte, reduceCtorEq, Nat.reduceEqDiff, implies_true, forall_const, lawV, lawB]
  have hp := at_old hj [.cells [.int .i64 a, .int .i64 c, .o j fs.length] 37 true]
  refine loopV_mk (fun σ => ∃ (k : Nat) (x : SV), k ≤ fs.length ∧ lk 1 σ.t = some (.str name) ∧ lk 5 σ.t = some x ∧ lk 9 σ.t = some (.o j fs.length) ∧ lk 10 σ.t = some (.int .i64 fs.length) ∧ lk 11 σ.t = some (.int .i64 k) ∧ σ.b[j]? = some (.own (fs.flatMap fc) 31 2 fs.length m) ∧
    Kp bs σ.b ∧ Sl 9 1 bs.length x σ.b ((hdrVals (fs.take k) name).map .str) (hdrVals (fs.take k) name).length) (fun σ => fs.length - lkI 11 σ) ⟨0, .nils, by omega, rfl, rfl, rfl, rfl, rfl, hp, (Kp.refl _).app _, .inl ⟨rfl, rfl, rfl⟩⟩ ?_
  rintro ⟨t, b⟩ ⟨k, x, hk, h1, h5, h9, h10, h11, hb, hkp, hsl⟩
  simp only at h1 h5 h9 h10 h11 hb hkp hsl
  rw [lkI_eq h11]
  by_cases hlt : k < fs.length
  · have hu := fc_at fs k hlt
    have hul := fc_len fs
    have hx := hdrVals_take hlt name
    have hll := hdrVals_len (fs.take k) name
    rw [List.length_take] at hll
    have he := p_Equal fs[k].1 name (hl _ (List.getElem_mem hlt)) hname
    unfold fc at hb hu hul
    rcases hsl with ⟨rfl, hc0, hn0⟩ | ⟨i, rfl, hLi, hi⟩
    · simp only [lawG, ↓Xn, ↓Xo, ↓Xg, ↓Xd, ↓Xe, ↓Xf, Tryz.VΓ, Tryz.Γs, Xp, Xi, Nat.reduceAdd, Nat.reduceSub, Nat.reduceLT, Nat.reduceLeDiff, reduceIte, reduceCtorEq, Nat.reduceEqDiff, implies_true, forall_const, lawV, h1, h5, h9, h10, h11, hb, hu, hul, lawB, Int.toNat_natCast]
      refine ⟨fun _ => ⟨⟨by omega, by omega⟩, by omega, ?_⟩, fun h => absurd h (by simp; omega)⟩
      have hb1 := fun X => at_old hb [X]
      have hb2 := fun X Y => at_old (hb1 X) [Y]
      have hb3 := fun X Y Z => at_old (hb2 X Y) [Z]
      (refine callV_pc (he) ?_; simp only [lawG, ↓Xn, ↓Xo, ↓Xg, ↓Xd, ↓Xe, ↓Xf, Tryz.VΓ, Tryz.Γs, Xp, Xi, Nat.reduceAdd, Nat.reduceSub, Nat.reduceLT, Nat.reduceLeDiff, reduceIte, reduceCtorEq, Nat.reduceEqDiff, implies_true, forall_const, lawV, h1, h5, h9, h10, h11, hb, lawB, hb1, hb2, hb3])
      refine ⟨fun hq => ⟨by omega, ⟨by unfold maxLen; omega, by omega⟩, ⟨by omega, by omega⟩, ⟨k + 1, _, by omega, rfl, rfl, rfl, ((hkp.app _).app _).app _, .inr ⟨(b ++ [Res.cells [.str fs[k].1, .str fs[k].2] 31 true] ++ [Res.own [.str fs[k].2] 9 1 1 true]).length, ?_, ?_, ?_⟩⟩, ?_⟩, fun hq => ⟨⟨by omega, by omega⟩, ⟨k + 1, _, by omega, rfl, rfl, rfl, hkp.app _, .inl ⟨rfl, ?_, ?_⟩⟩, ?_⟩⟩
      · rw [hx, if_pos (by simpa using hq), List.length_eq_zero_iff.1 hn0]; rfl
      · have := hkp.1; simp; omega
      · rw [hx, if_pos (by simpa using hq), List.length_eq_zero_iff.1 hn0, at_new]; rfl
      · rw [lkI_eq (k := .i64) (n := (k : Int) + 1) rfl]; omega
      · rw [hx, if_neg (by simpa using hq), List.append_nil]; exact hc0
      · rw [hx, if_neg (by simpa using hq), List.append_nil]; exact hn0
      · rw [lkI_eq (k := .i64) (n := (k : Int) + 1) rfl]; omega
    · simp only [lawG, ↓Xn, ↓Xo, ↓Xg, ↓Xd, ↓Xe, ↓Xf, Tryz.VΓ, Tryz.Γs, Xp, Xi, Nat.reduceAdd, Nat.reduceSub, Nat.reduceLT, Nat.reduceLeDiff, reduceIte, reduceCtorEq, Nat.reduceEqDiff, implies_true, forall_const, lawV, h1, h5, h9, h10, h11, hb, hu, hul, lawB, Int.toNat_natCast]
      refine ⟨fun _ => ⟨⟨by omega, by omega⟩, by omega, ?_⟩, fun h => absurd h (by simp; omega)⟩
      have hi1 := fun X => at_old hi [X]
      have hi2 := fun X Y => at_old (hi1 X) [Y]
      have hb1 := fun X => at_old hb [X]
      (refine callV_pc (he) ?_; simp only [lawG, ↓Xn, ↓Xo, ↓Xg, ↓Xd, ↓Xe, ↓Xf, Tryz.VΓ, Tryz.Γs, Xp, Xi, Nat.reduceAdd, Nat.reduceSub, Nat.reduceLT, Nat.reduceLeDiff, reduceIte, reduceCtorEq, Nat.reduceEqDiff, implies_true, forall_const, lawV, h1, h5, h9, h10, h11, hb, lawB, hi, hi1, hi2])
      have hK := fun X => ((((hkp.app [.cells [.str fs[k].1, .str fs[k].2] 31 true]).app [.own [.str fs[k].2] 9 1 1 true]).set hLi .gone).app [X])
      refine ⟨fun hq => ⟨by omega, ⟨by unfold maxLen; omega, by omega⟩, ⟨by omega, by omega⟩, ⟨k + 1, _, by omega, rfl, rfl, (hK _).at hj, hK _, .inr ⟨(b ++ [Res.cells [.str fs[k].1, .str fs[k].2] 31 true] ++ [Res.own [.str fs[k].2] 9 1 1 true]).length, ?_, ?_, ?_⟩⟩, ?_⟩, fun hq => ⟨⟨by omega, by omega⟩, ⟨k + 1, _, by omega, rfl, rfl, (hkp.app _).at hj, hkp.app _, .inr ⟨i, ?_, hLi, ?_⟩⟩, ?_⟩⟩
      · rw [hx, if_pos (by simpa using hq)]; simp
      · have := hkp.1; simp; omega
      · rw [hx, if_pos (by simpa using hq), List.map_append, List.getElem?_append_right (by simp)]; simp
      · rw [lkI_eq (k := .i64) (n := (k : Int) + 1) rfl]; omega
      · rw [hx, if_neg (by simpa using hq), List.append_nil]
      · rw [hx, if_neg (by simpa using hq), List.append_nil]; exact hi1 _
      · rw [lkI_eq (k := .i64) (n := (k : Int) + 1) rfl]; omega
  · have hie : k = fs.length := by omega
    subst hie
    rw [List.take_length] at hsl
    simp only [lawG, ↓Xn, ↓Xo, ↓Xg, ↓Xd, ↓Xe, ↓Xf, Tryz.VΓ, Tryz.Γs, Xp, Xi, Nat.reduceAdd, Nat.reduceSub, Nat.reduceLT, Nat.reduceLeDiff, reduceIte, reduceCtorEq, Nat.reduceEqDiff, implies_true, forall_const, lawV, h1, h5, h9, h10, h11, hb]
    exact ⟨fun h => absurd h (by simp), fun _ => ⟨hkp, hsl⟩⟩
end Go.Proofs.YtfmafmgbfamaiaaGreatDoor
/- Chunked bodies that are cut off. -/
set_option linter.all false
namespace Wf
open Go Go.RowKit
end Wf
/- The walks of package body. -/
set_option linter.all false
namespace Go.Proofs.YtfmafmgbfamaiaaGreatDoor
open Go.RowKit Wf
attribute [local go_sem] ex_list app_list get_list

set_option maxHeartbeats 400000 in
theorem chunks_newline (cb : Nat) (r : Bytes) (n : Int) (w : World) (hr : r.length ≤ 4000000000) (hc : w.heap[cb]? = some (.cells #[(Value.string ⟨List.toArray (r)⟩), .int .u64 n] 131 (0, 0))) :
    Calls Tryz.prog 83 #[.pointer (some ⟨cb, 0, none⟩)] w fun e w' => e = .returned (.int .i64 (newline r).1) ∧ w'.heap[cb]? = some (.cells #[(Value.string ⟨List.toArray ((newline r).2)⟩), .int .u64 n] 131 (0, 0)) ∧ Fr (· = cb) w w' := by
  have hc0 : w.cell? ⟨cb, 0, none⟩ = some (Value.string ⟨List.toArray (r)⟩) := Lib.cell_of_heap hc 0
  have hf := Lib.frozen_of_heap hc 0
  have Hc := hid hc
  clear hc
  rcases newline_cases r with ⟨t, rfl⟩ | rfl | rfl | ⟨h1, h2, h3, h4⟩
  · have hp : Lib.hasPrefix (13 :: 10 :: t) [13, 10] = true := rfl
    simp at hr
    go_enter Tryz.func83, Tryz.ntmps83
    go_wp2_with (go_at_call 69; refine (Tryz.strings_HasPrefix _ _ _).mono ?_; rintro e w' ⟨rfl, rfl⟩)
    go_ret
    exact ⟨rfl, heap_set Hc.out _, Fr.set1 _ _⟩
  · have hp : Lib.hasPrefix [] [13, 10] = false := rfl
    go_enter Tryz.func83, Tryz.ntmps83
    go_wp2_with (go_at_call 69; refine (Tryz.strings_HasPrefix _ _ _).mono ?_; rintro e w' ⟨rfl, rfl⟩)
    go_ret
    exact ⟨rfl, Hc.out, Fr.refl _ _⟩
  · have hp : Lib.hasPrefix [13] [13, 10] = false := rfl
    go_enter Tryz.func83, Tryz.ntmps83
    go_wp2_with (go_at_call 69; refine (Tryz.strings_HasPrefix _ _ _).mono ?_; rintro e w' ⟨rfl, rfl⟩)
    go_ret
    exact ⟨rfl, Hc.out, Fr.refl _ _⟩
  · have H4 := hid h4
    clear h4
    go_enter Tryz.func83, Tryz.ntmps83
    go_wp2_with (go_at_call 69; refine (Tryz.strings_HasPrefix _ _ _).mono ?_; rintro e w' ⟨rfl, rfl⟩)
    go_ret
    rw [H4.out]
    exact ⟨rfl, Hc.out, Fr.refl _ _⟩

set_option maxHeartbeats 400000 in
theorem chunks_line (cb : Nat) (r : Bytes) (n : Int) (w : World) (hr : r.length ≤ 4000000000) (hc : w.heap[cb]? = some (.cells #[(Value.string ⟨List.toArray (r)⟩), .int .u64 n] 131 (0, 0))) :
    Calls Tryz.prog 84 #[.pointer (some ⟨cb, 0, none⟩)] w fun e w' => e = .returned (.tuple #[(Value.string ⟨List.toArray (r.take (pre isNL r))⟩), .int .i64 (newline (r.drop (pre isNL r))).1]) ∧ w'.heap[cb]? = some (.cells #[(Value.string ⟨List.toArray ((newline (r.drop (pre isNL r))).2)⟩), .int .u64 n] 131 (0, 0)) ∧ Fr (· = cb) w w' := by
  have hc0 : w.cell? ⟨cb, 0, none⟩ = some (Value.string ⟨List.toArray (r)⟩) := Lib.cell_of_heap hc 0
  have hf := Lib.frozen_of_heap hc 0
  have Hc := hid hc
  have hix : Lib.indexAny r [13, 10] = if pre isNL r < r.length then (pre isNL r : Int) else -1 := indexAny_pre r [13, 10]
  have hle := pre_le isNL r
  have Hix := hid hix
  clear hc hix
  go_enter Tryz.func84, Tryz.ntmps84
  go_wp2_with fail
  refine (strings_IndexAny _ _ _ (by decide) (by decide) (by decide) (by omega)).mono ?_
  rintro e w1 ⟨rfl, hb1⟩
  rw [Hix.out]
  have hc1 : w1.cell? ⟨cb, 0, none⟩ = some (Value.string ⟨List.toArray (r)⟩) := (hb1.cell (heap_lt Hc.out)).trans hc0
  have hf1 : w1.frozen? ⟨cb, 0, none⟩ = false := (hb1.frozen (heap_lt Hc.out)).trans hf
  have Hc1 := hid ((hb1.block cb (heap_lt Hc.out)).trans Hc.out)
  have Hb1 := hid hb1
  clear hc0 hf hb1
  by_cases hlt : pre isNL r < r.length
  · rw [if_pos hlt]
    go_wp2_with (go_at_call 83; refine (chunks_newline cb (r.drop (pre isNL r)) n _ (by simp; omega) (by exact heap_set Hc1.out _)).mono ?_; rintro e w2 ⟨rfl, hc2, hf2⟩)
    go_ret2
    exact ⟨rfl, hc2, ((Fr.of_below Hb1.out (fun k h1 h2 => by omega)).trans (Fr.set1 _ _)).trans hf2⟩
  · have hd : r.drop (pre isNL r) = [] := List.drop_of_length_le (by omega)
    have ht : r.take (pre isNL r) = r := List.take_of_length_le (by omega)
    have Hd := hid hd
    have Ht := hid ht
    clear hd ht
    rw [if_neg hlt]
    go_wp2_with (go_at_call 83; refine (chunks_newline cb [] n _ (by simp) (by exact heap_set Hc1.out _)).mono ?_; rintro e w2 ⟨rfl, hc2, hf2⟩)
    go_ret2
    rw [Hd.out, Ht.out]
    exact ⟨rfl, hc2, ((Fr.of_below Hb1.out (fun k h1 h2 => by omega)).trans (Fr.set1 _ _)).trans hf2⟩

end Go.Proofs.YtfmafmgbfamaiaaGreatDoor
/- The walks of package body: size lines, chunked bodies. -/
set_option linter.all false
namespace Go.Proofs.YtfmafmgbfamaiaaGreatDoor
open Go.RowKit Wf
attribute [local go_sem] ex_list app_list get_list

set_option maxHeartbeats 1000000 in
theorem chunks_sizes (cb : Nat) (r : Bytes) (n : Nat) (w : World) (hr : r.length ≤ 4000000000) (hc : w.heap[cb]? = some (.cells #[(Value.string ⟨List.toArray (r)⟩), .int .u64 n] 131 (0, 0))) :
    Calls Tryz.prog 80 #[.pointer (some ⟨cb, 0, none⟩)] w fun e w' => e = .returned (.int .i64 (sizes r n).1) ∧ w'.heap[cb]? = some (.cells #[(Value.string ⟨List.toArray ((sizes r n).2.2)⟩), .int .u64 (sizes r n).2.1] 131 (0, 0)) ∧ Fr (· = cb) w w' := by
  have hc0 : w.cell? ⟨cb, 0, none⟩ = some (Value.string ⟨List.toArray (r)⟩) := Lib.cell_of_heap hc 0
  have Hc := hid hc
  have hle := pre_le (fun c => !isHex c) r
  change hexLen r ≤ r.length at hle
  clear hc
  go_enter Tryz.func80, Tryz.ntmps80
  go_wp2_with fail
  go_loop [3] (fun i => ∃ k : Nat, k ≤ hexLen r ∧ i = .int .i64 k) (fun i => hexLen r - (intOf i).toNat)
  case atStart => exact ⟨0, by omega, rfl⟩
  case round =>
    obtain ⟨k, hk, rfl⟩ := hrel
    by_cases hlt : k < hexLen r
    · have hx : isHex r[k] = true := by have := pre_get (p := fun c => !isHex c) hlt (by omega); simpa using this
      go_wp2_with (go_at_call 101; refine (ascii_IsHex _ _).mono ?_; rintro e w' ⟨rfl, rfl⟩)
      go_round
      case rel => exact ⟨k + 1, by omega, by go_num⟩
      case measure => simp [intOf]; omega
    · obtain rfl : k = hexLen r := by omega
      clear hk hlt
      by_cases hend : hexLen r = r.length
      · have hb1 : ((hexLen r : Int) == (r.length : Int)) = true := by simp [hend]
        have Hs := hid (show sizes r n = (191, n, r) by unfold sizes; rw [if_pos hend])
        go_wp2_with (go_at_call 101; refine (ascii_IsHex _ _).mono ?_; rintro e w' ⟨rfl, rfl⟩)
        go_ret
        rw [Hs.out]
        exact ⟨rfl, Hc.out, Fr.refl _ _⟩
      · have hln : hexLen r < r.length := by omega
        have hb1 : ((hexLen r : Int) == (r.length : Int)) = false := beq_eq_false_iff_ne.2 (by omega)
        have hx : isHex r[hexLen r] = false := by
          have h := pre_at (p := fun c => !isHex c) (l := r) hln
          simp only [Bool.not_eq_true'] at h
          exact h
        clear hend
        have Hsep := hid (sepAt_get hln)
        by_cases hz : hexLen r = 0
        · have Hs := hid (show sizes r n = (190, n, r) by unfold sizes; rw [if_neg (by omega), if_pos (Or.inl hz)])
          have hb2 : ((hexLen r : Int) == 0) = true := by simp [hz]
          clear hz
          go_wp2_with (go_at_call 101; refine (ascii_IsHex _ _).mono ?_; rintro e w' ⟨rfl, rfl⟩)
          go_ret
          rw [Hs.out]
          exact ⟨rfl, Hc.out, Fr.refl _ _⟩
        · have hb2 : ((hexLen r : Int) == 0) = false := beq_eq_false_iff_ne.2 (by omega)
          have hix := semi_at r[hexLen r]
          cases hsep : sepAt r
          · have Hs := hid (show sizes r n = (190, n, r) by unfold sizes; rw [if_neg (by omega), if_pos (Or.inr hsep)])
            have hi : Lib.indexByte [59, 13] r[hexLen r] = -1 := by
              rw [hix]; have := Hsep.out; rw [hsep] at this; simp at this; rw [if_neg (by simp_all), if_neg (by simp_all)]
            have Hi := hid hi
            clear hi hix hsep
            go_wp2_with (first
              | (go_at_call 101; refine (ascii_IsHex _ _).mono ?_; rintro e w' ⟨rfl, rfl⟩)
              | (go_at_call 63; refine (s_IndexByte _ _ _).mono ?_; rintro e w' ⟨rfl, rfl⟩; rw [Hi.out]))
            go_ret
            rw [Hs.out]
            exact ⟨rfl, Hc.out, Fr.refl _ _⟩
          · have hi : ¬ Lib.indexByte [59, 13] r[hexLen r] < 0 := by
              rw [hix]; have := Hsep.out; rw [hsep] at this; simp at this
              rcases this with h | h
              · rw [if_pos h]; decide
              · rw [h]; decide
            have Hs := hid (show sizes r n = if (newline (r.drop (pre isNL r))).1 = 0 then (0, sizeOf' r (hexLen r), (newline (r.drop (pre isNL r))).2) else ((newline (r.drop (pre isNL r))).1, n, (newline (r.drop (pre isNL r))).2) by
              unfold sizes; rw [if_neg (by omega), if_neg (by simp [hz, hsep])])
            clear hix hsep hz
            by_cases he : (newline (r.drop (pre isNL r))).1 = 0
            · have Hs2 := hid (Hs.out.trans (if_pos he))
              have he2 : ((newline (r.drop (pre isNL r))).1 != 0) = false := by simp [he]
              clear he
              have hso : sizeOf' r (hexLen r) = if (numParse isHex 16 4611686018427387904 (r.take (hexLen r))).2 = 0 then (numParse isHex 16 4611686018427387904 (r.take (hexLen r))).1 else 4611686018427387904 := rfl
              generalize hnp : numParse isHex 16 4611686018427387904 (r.take (hexLen r)) = np at hso
              have Hnp := hid hnp
              have Hso := hid hso
              clear hnp hso
              by_cases he3 : np.2 = 0
              · have Hso2 := hid (Hso.out.trans (if_pos he3))
                have he4 : (np.2 != 0) = false := by simp [he3]
                clear he3
                go_wp2_with (first
                  | (go_at_call 101; refine (ascii_IsHex _ _).mono ?_; rintro e w' ⟨rfl, rfl⟩)
                  | (go_at_call 63; refine (s_IndexByte _ _ _).mono ?_; rintro e w' ⟨rfl, rfl⟩)
                  | (go_at_call 112; refine (number_Hex62 _ _ (by simp; omega)).mono ?_; rintro e w3 ⟨rfl, hw3⟩; subst hw3; rw [Hnp.out])
                  | (go_at_call 84; refine (chunks_line cb r n _ hr Hc.out).mono ?_; rintro e w2 ⟨rfl, hc2, hf2⟩; have hk2 := Lib.cell_of_heap hc2 1; have hz2 := Lib.frozen_of_heap hc2 1; replace hc2 := hid hc2))
                go_ret
                rw [Hs2.out, Hso2.out]
                exact ⟨rfl, heap_set hc2.out _, hf2.trans (Fr.set1 _ _)⟩
              · have Hso2 := hid (Hso.out.trans (if_neg he3))
                have he4 : (np.2 != 0) = true := by simp [he3]
                clear he3
                go_wp2_with (first
                  | (go_at_call 101; refine (ascii_IsHex _ _).mono ?_; rintro e w' ⟨rfl, rfl⟩)
                  | (go_at_call 63; refine (s_IndexByte _ _ _).mono ?_; rintro e w' ⟨rfl, rfl⟩)
                  | (go_at_call 112; refine (number_Hex62 _ _ (by simp; omega)).mono ?_; rintro e w3 ⟨rfl, hw3⟩; subst hw3; rw [Hnp.out])
                  | (go_at_call 84; refine (chunks_line cb r n _ hr Hc.out).mono ?_; rintro e w2 ⟨rfl, hc2, hf2⟩; have hk2 := Lib.cell_of_heap hc2 1; have hz2 := Lib.frozen_of_heap hc2 1; replace hc2 := hid hc2))
                go_ret
                rw [Hs2.out, Hso2.out]
                exact ⟨rfl, heap_set hc2.out _, hf2.trans (Fr.set1 _ _)⟩
            · have Hs2 := hid (Hs.out.trans (if_neg he))
              have he2 : ((newline (r.drop (pre isNL r))).1 != 0) = true := by simp [he]
              clear he
              go_wp2_with (first
                | (go_at_call 101; refine (ascii_IsHex _ _).mono ?_; rintro e w' ⟨rfl, rfl⟩)
                | (go_at_call 63; refine (s_IndexByte _ _ _).mono ?_; rintro e w' ⟨rfl, rfl⟩)
                | (go_at_call 84; refine (chunks_line cb r n _ hr Hc.out).mono ?_; rintro e w2 ⟨rfl, hc2, hf2⟩))
              go_ret
              rw [Hs2.out]
              exact ⟨rfl, hc2, hf2⟩

end Go.Proofs.YtfmafmgbfamaiaaGreatDoor
/- The walk of body.Chunked. -/
set_option linter.all false
namespace Go.Proofs.YtfmafmgbfamaiaaGreatDoor
open Go.RowKit Wf
attribute [local go_sem] ex_list app_list get_list
def cellLen (w : World) (b : Nat) : Nat := sLen ((w.cell? ⟨b, 0, none⟩).getD undef)
theorem cellLen_of {w : World} {b : Nat} {r : Bytes} {x : Value} {T : TypeId} (h : w.heap[b]? = some (.cells #[(Value.string ⟨List.toArray (r)⟩), x] T (0, 0))) : cellLen w b = r.length := by
  unfold cellLen; rw [Lib.cell_of_heap h 0]; rfl

set_option maxRecDepth 100000 in
set_option maxHeartbeats 2000000 in
theorem body_Chunked (s : Bytes) (most : Int) (w : World) (hs : s.length ≤ 4000000) (h1 : -9223372036854775808 ≤ most) (h2 : most ≤ 9223372036854775807) :
    Calls Tryz.prog 55 #[(Value.string ⟨List.toArray (s)⟩), .int .i64 most] w fun e w' => e = .returned (.tuple #[(Value.string ⟨List.toArray ((chunked s most).1)⟩), .int .i64 (chunked s most).2]) ∧ Below w.heap.size w w' := by
  go_enter Tryz.func55, Tryz.ntmps55
  go_wp2_with fail
  go_step3
  go_wp2_with fail
  go_step3
  go_wp2_with fail
  go_loopw [] (fun wr => ∃ (f : Nat) (acc r : Bytes) (old : Nat), r.length < f ∧ r.length + acc.length ≤ s.length ∧ (0 ≤ most → (acc.length : Int) ≤ most) ∧ old ≤ 4611686018427387904 ∧ Bld w.heap.size acc wr ∧ wr.heap[w.heap.size + 1]? = some (.cells #[(Value.string ⟨List.toArray (r)⟩), .int .u64 old] 131 (0, 0)) ∧ Below w.heap.size w wr ∧ chunkGo most f acc r old = chunked s most) (fun wr => cellLen wr (w.heap.size + 1))
  case atStart =>
    refine ⟨s.length + 1, [], s, 0, by omega, by simp, by simp, by omega, ?_, ?_, ((Below.refl _ _).alloc (Nat.le_refl _) _).alloc (by simp) _, rfl⟩
    · exact (Bld.fresh w).alloc _
    · have := heap_new (w.alloc (.cells #[.pointer none, .slice none 0 0] 128)) (.cells #[(Value.string ⟨List.toArray (s)⟩), .int .u64 0] 131)
      rw [size_alloc] at this
      exact this
  case round =>
    obtain ⟨f, acc, r, old, hf, hra, hm, ho, hb, hc, hw, heq⟩ := hrel
    have Hb := hid hb
    have Hc := hid hc
    have Hw := hid hw
    have Hcl := hid (cellLen_of hc)
    cases f with
    | zero => omega
    | succ f =>
    have hsl := sizes_len r old
    have hsk := sizes_ok (r := r) (old := old)
    have hsb := sizes_bound r old ho
    rw [chunkGo] at heq
    have hsz := chunks_sizes (w.heap.size + 1) r old wr (by omega) hc
    generalize sizes r old = S at hsl hsk hsb heq hsz
    obtain ⟨e, n, r2⟩ := S
    simp only at hsl hsk hsb heq hsz
    have Heq := hid heq
    have Hsz := hid hsz
    clear hb hc hw heq hsz
    by_cases he : e = 0
    · have Hsk := hid (hsk he)
      clear hsk
      subst he
      go_wp2_with fail
      refine Hsz.out.mono ?_
      rintro e w2 ⟨rfl, hc2, hf2⟩
      have hb2 : Bld w.heap.size acc w2 := Hb.out.fr hf2 Hc.out (by decide) (by omega)
      have hw2 := Hw.out.trans (hf2.below (B := w.heap.size) (fun k hk => by omega) (Nat.le_of_lt Hb.out.lt))
      have hn2 := Lib.cell_of_heap hc2 1
      have hr2 := Lib.cell_of_heap hc2 0
      have hz2 := Lib.frozen_of_heap hc2 0
      have Hb2 := hid hb2
      have Hw2 := hid hw2
      have Hc2 := hid hc2
      have Hf2 := hid hf2
      clear hb2 hw2 hc2 hf2
      by_cases hneg : most < 0
      · have Hq := hid ((if_pos (Or.inl hneg)).symm.trans Heq.out)
        go_wp2_with fail
        go_quiet (fail)
        go_wp2_with fail
        rw [Exit.noGoto_ret]
        go_ret2
        rw [← Hq.out]
        exact ⟨rfl, below_drewN Hw2.out _⟩
      · have hm' := hm (by omega)
        have hs1 : IntKind.i64.wrap (most - (acc.length : Int)) = most - (acc.length : Int) := IntWalk.i64_in _ (by omega)
        have hs2 : IntKind.u64.wrap (most - (acc.length : Int)) = most - (acc.length : Int) := u64_in (by omega) (by omega)
        by_cases hbig : most - acc.length < n
        · have Hq := hid ((if_pos (Or.inr hbig)).symm.trans Heq.out)
          go_wp2_with fail
          go_quiet ((go_at_call 81; refine quiet_left (builder_Len _ acc _ (by exact Hb2.out))))
          clear hs1 hs2
          go_wp2_with fail
          rw [Exit.noGoto_ret]
          go_ret2
          rw [← Hq.out]
          exact ⟨rfl, below_drewN Hw2.out _⟩
        · have Hq := hid ((if_neg (show ¬ (most < 0 ∨ most - acc.length < n) by omega)).symm.trans Heq.out)
          have hbg : decide (most - (acc.length : Int) < (n : Int)) = false := decide_eq_false hbig
          by_cases hn0 : n = 0
          · have Hq2 := hid ((if_pos hn0).symm.trans Hq.out)
            have hn0' : ((n : Int) == 0) = true := by simp [hn0]
            go_wp2_with fail
            go_quiet ((go_at_call 81; refine quiet_left (builder_Len _ acc _ (by exact Hb2.out))))
            clear hs1 hs2
            subst hn0
            have Hb3 : Hid (Bld w.heap.size acc (w2.drewN nq)) := hid Hb2.out
            have Hw3 : Hid (Below w.heap.size w (w2.drewN nq)) := hid (below_drewN Hw2.out _)
            have Hc3 : Hid ((w2.drewN nq).heap[w.heap.size + 1]? = some (.cells #[(Value.string ⟨List.toArray (r2)⟩), .int .u64 ((0 : Nat) : Int)] 131 (0, 0))) := hid Hc2.out
            clear Hb Hc Hw Hcl Heq Hsz hn2 hr2 hz2 Hb2 Hw2 Hc2 Hf2 hm ho Hq hsb Hsk hbg hn0'
            have hbg0 : decide (most - (acc.length : Int) < 0) = false := decide_eq_false (by omega)
            generalize w2.drewN nq = w3 at Hb3 Hw3 Hc3 ⊢
            have hn3 := Lib.cell_of_heap Hc3.out 1
            have hr3 := Lib.cell_of_heap Hc3.out 0
            have hng0 : decide (most < 0) = false := decide_eq_false (by omega)
            go_wp2_with fail
            clear hn3 hr3
            simp only [hbg0, hng0, Bool.or_self]
            go_loopw [] (fun wq => ∃ (g : Nat) (q : Bytes), q.length < g ∧ q.length ≤ r2.length ∧ Bld w.heap.size acc wq ∧ wq.heap[w.heap.size + 1]? = some (.cells #[(Value.string ⟨List.toArray (q)⟩), .int .u64 ((0 : Nat) : Int)] 131 (0, 0)) ∧ Below w.heap.size w wq ∧ trailerGo g q = trailerGo (r2.length + 1) r2) (fun wq => cellLen wq (w.heap.size + 1))
            case atStart => exact ⟨r2.length + 1, r2, by omega, by omega, Hb3.out, Hc3.out, Hw3.out, rfl⟩
            case round =>
              obtain ⟨g, q, hg, hq, hb, hc, hw, htr⟩ := hrel
              have Hb4 := hid hb
              have Hc4 := hid hc
              have Hw4 := hid hw
              have Hcl := hid (cellLen_of hc)
              cases g with
              | zero => omega
              | succ g =>
              rw [trailerGo] at htr
              have hln := chunks_line (w.heap.size + 1) q (0 : Nat) wr (by omega) hc
              have hnk := newline_ok (r := q.drop (pre isNL q))
              have hple := pre_le isNL q
              have htl : (q.take (pre isNL q)).length = pre isNL q := by simp; omega
              simp only [List.length_drop] at hnk
              generalize newline (q.drop (pre isNL q)) = E at hln hnk htr
              generalize q.take (pre isNL q) = tk at hln htr htl
              obtain ⟨e, q2⟩ := E
              simp only at hln hnk htr
              have Hln := hid hln
              have Htr := hid htr
              clear hb hc hw hln htr
              by_cases he : e = 0
              · have hnk' := hnk he
                clear hnk
                subst he
                by_cases htk : tk = []
                · have htk' : tk.isEmpty = true := by simp [htk]
                  have Htr2 := hid ((if_pos htk).symm.trans ((if_neg (show ¬ ((0 : Int) ≠ 0) by simp)).symm.trans Htr.out))
                  go_wp2_with fail
                  refine Hln.out.mono ?_
                  rintro e w2 ⟨rfl, hc2, hf2⟩
                  have Hc2 := hid hc2
                  have Hf2 := hid hf2
                  have Hb5 := hid (Hb4.out.fr hf2 Hc4.out (by decide) (by omega))
                  have Hw5 := hid (Hw4.out.trans (hf2.below (B := w.heap.size) (fun k hk => by omega) (Nat.le_of_lt Hb4.out.lt)))
                  clear hc2 hf2
                  go_wp2_with (go_at_call 85; refine (builder_String _ acc _ Hb5.out).mono ?_; rintro e w6 ⟨rfl, hb6, hw6, ho6⟩)
                  rw [Exit.noGoto_ret]
                  go_ret2
                  have hq := Hq2.out
                  rw [← Htr2.out, if_neg (by simp)] at hq
                  rw [← hq]
                  exact ⟨rfl, Hw5.out.trans hw6⟩
                · have htk' : tk.isEmpty = false := by simp [htk]
                  have Htr2 := hid ((if_neg htk).symm.trans ((if_neg (show ¬ ((0 : Int) ≠ 0) by simp)).symm.trans Htr.out))
                  go_wp2_with fail
                  refine Hln.out.mono ?_
                  rintro e w2 ⟨rfl, hc2, hf2⟩
                  have Hc2 := hid hc2
                  have Hb5 := hid (Hb4.out.fr hf2 Hc4.out (by decide) (by omega))
                  have Hw5 := hid (Hw4.out.trans (hf2.below (B := w.heap.size) (fun k hk => by omega) (Nat.le_of_lt Hb4.out.lt)))
                  clear hc2 hf2
                  go_wp2_with fail
                  refine ⟨⟨g, q2, by omega, by omega, Hb5.out, Hc2.out, Hw5.out, Htr2.out⟩, ?_⟩
                  rw [cellLen_of Hc2.out, Hcl.out]
                  omega
              · have he2 : (e != 0) = true := by simp [he]
                go_wp2_with fail
                refine Hln.out.mono ?_
                rintro e w2 ⟨rfl, hc2, hf2⟩
                have Htr2 := hid ((if_pos he).symm.trans Htr.out)
                go_wp2_with fail
                rw [Exit.noGoto_ret]
                go_ret2
                have hq := Hq2.out
                rw [← Htr2.out, if_pos he] at hq
                rw [← hq]
                exact ⟨rfl, Hw4.out.trans (hf2.below (B := w.heap.size) (fun k hk => by omega) (Nat.le_of_lt Hb4.out.lt))⟩
          · have Hq2 := hid ((if_neg hn0).symm.trans Hq.out)
            have hn0' : ((n : Int) == 0) = false := by simp [hn0]
            clear Heq Hq
            go_wp2_with fail
            go_quiet ((go_at_call 81; refine quiet_left (builder_Len _ acc _ (by exact Hb2.out))))
            clear hs1 hs2
            have Hb3 : Hid (Bld w.heap.size acc (w2.drewN nq)) := hid Hb2.out
            have Hw3 : Hid (Below w.heap.size w (w2.drewN nq)) := hid (below_drewN Hw2.out _)
            have Hc3 : Hid ((w2.drewN nq).heap[w.heap.size + 1]? = some (.cells #[(Value.string ⟨List.toArray (r2)⟩), .int .u64 (n : Int)] 131 (0, 0))) := hid Hc2.out
            clear Hb Hc Hw Hsz hn2 hr2 hz2 Hb2 Hw2 Hc2 Hf2 hm ho hbg
            generalize w2.drewN nq = w3 at Hb3 Hw3 Hc3 ⊢
            have hn3 := Lib.cell_of_heap Hc3.out 1
            have hr3 := Lib.cell_of_heap Hc3.out 0
            have hz3 := Lib.frozen_of_heap Hc3.out 0
            have hs3 : IntKind.u64.wrap (r2.length : Int) = (r2.length : Int) := u64_in (by omega) (by omega)
            by_cases hsh : r2.length < n
            · have Hq3 := hid ((if_pos hsh).symm.trans Hq2.out)
              go_wp2_with fail
              go_quiet (fail)
              clear hs3
              go_wp2_with fail
              rw [Exit.noGoto_ret]
              go_ret2
              rw [← Hq3.out]
              exact ⟨rfl, below_drewN Hw3.out _⟩
            · have Hq3 := hid ((if_neg hsh).symm.trans Hq2.out)
              have hsh' : decide ((r2.length : Int) < (n : Int)) = false := decide_eq_false (by omega)
              go_wp2_with fail
              go_quiet (fail)
              clear hs3
              go_wp2_with fail
              have hr4 : (w3.drewN nq).cell? ⟨w.heap.size + 1, 0, none⟩ = some (Value.string ⟨List.toArray (r2)⟩) := hr3
              have hn4 : (w3.drewN nq).cell? ⟨w.heap.size + 1, 1, none⟩ = some (.int .u64 n) := hn3
              have Hb4 : Hid (Bld w.heap.size acc (w3.drewN nq)) := hid Hb3.out
              have Hw4 : Hid (Below w.heap.size w (w3.drewN nq)) := hid (below_drewN Hw3.out _)
              have Hc4 : Hid ((w3.drewN nq).heap[w.heap.size + 1]? = some (.cells #[(Value.string ⟨List.toArray (r2)⟩), .int .u64 (n : Int)] 131 (0, 0))) := hid Hc3.out
              clear hr3 hn3 hz3
              have hle4 : n ≤ r2.length := by omega
              generalize w3.drewN nq = w4 at hr4 hn4 Hb4 Hw4 Hc4 ⊢
              go_still_tail 9, (by kernel_rfl)
              change wpList _ _ _ _ _ w4.drew
              have hb4 : Bld w.heap.size acc w4.drew := Hb4.out
              have hw4 : Below w.heap.size w w4.drew := Hw4.out.drew
              have hc4 : w4.drew.heap[w.heap.size + 1]? = some (.cells #[(Value.string ⟨List.toArray (r2)⟩), .int .u64 (n : Int)] 131 (0, 0)) := Hc4.out
              have Hb5 := hid hb4
              have Hw5 := hid hw4
              have Hc5 := hid hc4
              clear hr4 hn4 Hb4 Hw4 Hc4 hb4 hw4 hc4
              generalize w4.drew = w5 at Hb5 Hw5 Hc5 ⊢
              go_wp2_with (go_at_call 82; refine (builder_WriteString _ acc (r2.take n) _ (by exact Hb5.out) (by simp; omega)).mono ?_; rintro e w6 ⟨rfl, hb6, hw6, ho6⟩)
              have hc6 := Fr.kept ho6 Hc5.out (by omega) (by decide)
              have hr6 := Lib.cell_of_heap hc6 0
              have hn6 := Lib.cell_of_heap hc6 1
              have hz6 := Lib.frozen_of_heap hc6 0
              have Hb6 := hid hb6
              have Hw6 := hid (Hw5.out.trans hw6)
              have Hc6 := hid hc6
              clear Hb5 Hw5 Hc5 hb6 hw6 ho6 hc6
              go_still_tail 12, (by kernel_rfl)
              change wpList _ _ _ _ _ w6.drew
              go_wp2_with fail
              have hnl := chunks_newline (w.heap.size + 1) (r2.drop n) n (w6.setCell ⟨w.heap.size + 1, 0, none⟩ (Value.string ⟨List.toArray (r2.drop n)⟩)).drew (by simp; omega) (by exact heap_set Hc6.out _)
              have hnk := newline_le (r2.drop n)
              simp only [List.length_drop] at hnk
              have hq4 := Hq3.out
              clear Hq2 Hq3 hr6 hn6 hz6
              generalize newline (r2.drop n) = E at hnl hnk hq4
              obtain ⟨e2, q2⟩ := E
              simp only at hnl hnk hq4
              have Hnl := hid hnl
              have Hq4 := hid hq4
              clear hnl hq4
              have Hw7 : Hid (Below w.heap.size w (w6.setCell ⟨w.heap.size + 1, 0, none⟩ (Value.string ⟨List.toArray (r2.drop n)⟩)).drew) := hid ((Hw6.out.setCell (p := ⟨w.heap.size + 1, 0, none⟩) (by simp) _).drew)
              have Hb7 : Hid (Bld w.heap.size (acc ++ r2.take n) (w6.setCell ⟨w.heap.size + 1, 0, none⟩ (Value.string ⟨List.toArray (r2.drop n)⟩)).drew) := hid (Hb6.out.fr (Fr.set1 _ _).drew Hc6.out (by decide) (by omega))
              have Hc7 : Hid ((w6.setCell ⟨w.heap.size + 1, 0, none⟩ (Value.string ⟨List.toArray (r2.drop n)⟩)).drew.heap[w.heap.size + 1]? = some (.cells #[(Value.string ⟨List.toArray (r2.drop n)⟩), .int .u64 (n : Int)] 131 (0, 0))) := hid (heap_set Hc6.out _)
              clear Hb6 Hw6 Hc6
              have hml : (r2.take n).length = n := by simp; omega
              have Hml := hid hml
              clear hml
              generalize (w6.setCell ⟨w.heap.size + 1, 0, none⟩ (Value.string ⟨List.toArray (r2.drop n)⟩)).drew = w7 at Hnl Hw7 Hb7 Hc7 ⊢
              refine Hnl.out.mono ?_
              rintro e w8 ⟨rfl, hc8, hf8⟩
              have Hc8 := hid hc8
              have Hw8 := hid (Hw7.out.trans (hf8.below (B := w.heap.size) (fun k hk => by omega) (Nat.le_of_lt Hb7.out.lt)))
              have Hb8 := hid (Hb7.out.fr hf8 Hc7.out (by decide) (by omega))
              clear hc8 hf8 Hb7 Hw7 Hc7
              by_cases hee : e2 = 0
              · have Hq5 := hid ((if_neg (show ¬ (e2 ≠ 0) by simp [hee])).symm.trans Hq4.out)
                have he2 : (e2 != 0) = false := by simp [hee]
                clear hee Hq4
                go_wp2_with fail
                have hsk2 := Hsk.out
                refine ⟨⟨f, acc ++ r2.take n, q2, n, by omega, by simp; omega, fun _ => by simp only [List.length_append, Hml.out]; omega, by omega, Hb8.out, Hc8.out, Hw8.out, Hq5.out⟩, ?_⟩
                rw [cellLen_of Hc8.out, Hcl.out]
                omega
              · have Hq5 := hid ((if_pos (show e2 ≠ 0 from hee)).symm.trans Hq4.out)
                have he2 : (e2 != 0) = true := by simp [hee]
                clear hee Hq4
                go_wp2_with fail
                rw [Exit.noGoto_ret]
                go_ret2
                rw [← Hq5.out]
                exact ⟨rfl, Hw8.out⟩
    · have he2 : (e != 0) = true := by simp [he]
      clear hsk
      go_wp2_with fail
      refine Hsz.out.mono ?_
      rintro e w2 ⟨rfl, hc2, hf2⟩
      go_wp2_with fail
      rw [Exit.noGoto_ret]
      go_ret2
      rw [if_pos he] at Heq
      rw [← Heq.out]
      exact ⟨rfl, Hw.out.trans (hf2.below (B := w.heap.size) (fun k hk => by omega) (Nat.le_of_lt Hb.out.lt))⟩
end Go.Proofs.YtfmafmgbfamaiaaGreatDoor
/- The walks of the reference of package body. -/
set_option linter.all false
namespace Go.Proofs.YtfmafmgbfamaiaaGreatDoor
open Go.RowKit Wf
attribute [local go_sem] ex_list app_list get_list

set_option maxHeartbeats 400000 in
theorem ref19_hex (n : Nat) (w : World) (h0 : 0 < n) (hn : n ≤ 1000000000) :
    Calls Tryz.prog 17 #[.int .i64 n] w fun e w' => e = .returned (Value.string ⟨List.toArray (hexS n)⟩) ∧ w = w' := by
  go_enter Tryz.func17, Tryz.ntmps17
  go_wp2
  go_loop [0, 3] (fun t i => ∃ (k : Nat) (l : Bytes), 0 < k ∧ k + l.length ≤ n ∧ t = .int .i64 k ∧ i = (Value.string ⟨List.toArray (l)⟩) ∧ hexS k ++ l = hexS n) (fun t i => (intOf t).toNat)
  case atStart => exact ⟨n, [], h0, by simp, rfl, rfl, by simp⟩
  case round =>
    obtain ⟨k, l, hk0, hk, rfl, rfl, heq⟩ := hrel
    have Heq := hid (hex_next hk0 heq)
    clear heq
    by_cases hz : k / 16 = 0
    · have hz' : ((k : Int) / 16 == 0) = true := by simp; omega
      go_wp2
      go_ret
      refine ⟨ret_str ?_, rfl⟩
      have := Heq.out
      rw [hz, hexS_zero] at this
      rw [hex_at]
      exact this
    · have hz' : ((k : Int) / 16 == 0) = false := by simp; omega
      go_wp2
      go_round
      case rel => exact ⟨k / 16, hexDig (k % 16) :: l, by omega, by simp; omega, by go_num, by rw [hex_at]; rfl, Heq.out⟩
      case measure => simp [intOf]; omega

set_option maxHeartbeats 400000 in
theorem ref19_Encode (s : Bytes) (size : Int) (w : World) (hs : s.length ≤ 1000000) (h1 : -9223372036854775808 ≤ size) (h2 : size ≤ 9223372036854775807) :
    Calls Tryz.prog 9 #[(Value.string ⟨List.toArray (s)⟩), .int .i64 size] w fun e w' => e = .returned (Value.string ⟨List.toArray (encode size s)⟩) ∧ Below w.heap.size w w' := by
  go_enter Tryz.func9, Tryz.ntmps9
  go_wp2
  go_loopw [0, 5] (fun v o wr => ∃ s' acc : Bytes, v = (Value.string ⟨List.toArray (s')⟩) ∧ o = (Value.string ⟨List.toArray (acc)⟩) ∧ s'.length ≤ s.length ∧ Below w.heap.size w wr ∧ acc.length + 100 * s'.length ≤ 100 * s.length ∧ acc ++ encode size s' = encode size s) (fun v _ _ => sLen v)
  case atStart => exact ⟨s, [], rfl, rfl, by omega, Below.refl _ _, by simp, by simp⟩
  case round =>
    obtain ⟨s', acc, rfl, rfl, hs', hw, hl, heq⟩ := hrel
    have Heq := hid heq
    have Hw := hid hw
    clear heq hw
    cases hn : s'.isEmpty
    · have hne : s' ≠ [] := by rintro rfl; simp at hn
      obtain ⟨hp1, hp2⟩ := chunkLen_pos (size := size) hne
      have hcl : min (max 1 size) (s'.length : Int) = (chunkLen size s' : Int) := by unfold chunkLen; omega
      have hnx := encode_next (size := size) hne Heq.out
      clear Heq
      generalize chunkLen size s' = n at *
      have hxl := hexS_length n
      have Hnx := hid hnx
      have Hcl := hid hcl
      clear hcl hnx hne
      go_wp2
      rw [Hcl.out]
      go_quiet ((go_at_call 17; exact quiet_left (ref19_hex _ _ hp1 (by omega))))
      go_wp2
      refine ⟨⟨s'.drop n, _, rfl, rfl, by simp; omega, below_drewN Hw.out _, by simp; omega, Hnx.out⟩, ?_⟩
      simp [sLen_mk]; omega
    · have hne : s' = [] := by simpa using hn
      have heq := Heq.out
      rw [hne, encode_nil] at heq
      have Heq2 := hid heq
      clear heq
      go_wp2_with fail
      go_ret
      exact ⟨ret_str Heq2.out, Hw.out⟩
end Go.Proofs.YtfmafmgbfamaiaaGreatDoor
/- The walks of the statements on package body. -/
set_option linter.all false
namespace Go.Proofs.YtfmafmgbfamaiaaGreatDoor
open Go.RowKit Wf
attribute [local go_sem] ex_list app_list get_list
end Go.Proofs.YtfmafmgbfamaiaaGreatDoor
/- A library call that makes a row, as a contract of the calculus. -/
set_option linter.all false
namespace Go.Proofs.YtfmafmgbfamaiaaGreatDoor
open Go Vc Go.RowKit
theorem heap_new0 (w : World) (o : Obj) : (w.alloc o).heap[w.heap.size]? = some o := by
  show (w.heap.push o)[w.heap.size]? = some o
  simp
theorem heap_size0 (w : World) (o : Obj) : (w.alloc o).heap.size = w.heap.size + 1 := by
  show (w.heap.push o).size = _
  simp
theorem sc_row {V : Cx} {f : FuncId} {args : List SV} {bs : List Res} {c : List SV} {T : TypeId} (hent : Vc.Enters V f) (hfa : flat.flatL args = true) (hfc : flat.flatL c = true) (hn : c.length ≤ maxLen)
    (h : ∀ w, V.E w → Calls V.P f (concL bt0 args).toArray w fun e w' => e = .returned (.slice (some ⟨w.heap.size, 0, none⟩) c.length c.length) ∧ w' = w.alloc (.cells (concL bt0 c).toArray T)) :
    SC V f args bs (fun r b => r = .o bs.length c.length ∧ b = bs ++ [.own c T 1 c.length true]) := by
  refine ⟨hent, fun β fp w hbx hG hE => ?_⟩
  rw [concL_flat args hfa β bt0]
  refine (h w hE).mono ?_
  rintro e w' ⟨rfl, rfl⟩
  have hb : Below w.heap.size w (w.alloc (.cells (concL bt0 c).toArray T)) := Below.alloc (Below.refl _ _) (Nat.le_refl _) _
  refine ⟨.o bs.length c.length, bs ++ [.own c T 1 c.length true], fun i => if i < bs.length then β i else ⟨w.heap.size, 0, c.length + 1⟩,
    fun i k => if i < bs.length then fp i k else (i = bs.length ∧ k = w.heap.size), ⟨rfl, rfl⟩, fun i hi => by simp [hi], by simp, fun β' hβ => ?_, FrW.of_below hb, ?_⟩
  · have hAgr : Agr bs.length β β' := fun i hi => by
      have := hβ i (by rw [List.length_append]; omega)
      simpa [hi] using this
    have hn1 : β' bs.length = ⟨w.heap.size, 0, c.length + 1⟩ := by
      have := hβ bs.length (by simp)
      simpa using this.symm
    have hbw := hbx β' hAgr
    refine ⟨?_, ?_, ?_, ?_⟩
    · simp [conc, hn1, oV]
    · intro i r hi
      rcases Nat.lt_or_ge i bs.length with hlt | hge
      · rw [List.getElem?_append_left hlt] at hi
        have := (hbw.holds i r hi).stays (w' := w.alloc (.cells (concL bt0 c).toArray T)) (fun k hk => hb.block k (hbw.lt i r hi k hk))
        simpa [hlt] using this
      · rw [List.getElem?_append_right hge] at hi
        obtain rfl : i = bs.length := by
          rcases Nat.eq_or_lt_of_le hge with e | e
          · exact e.symm
          · rw [List.getElem?_eq_none (by simp; omega)] at hi; cases hi
        simp only [Nat.sub_self, List.getElem?_cons_zero, Option.some.injEq] at hi
        subst hi
        right
        have hc : (concL bt0 c) = c.map (conc β') := by rw [← concL_map, concL_flat c hfc bt0 β']
        have hhd : Head (w.alloc (.cells (concL bt0 c).toArray T)) w.heap.size T (c.map (conc β')) [] (0, 0) := ⟨by rw [List.append_nil, ← hc]; exact heap_new0 _ _, .inr (Nat.le_refl _)⟩
        rw [hn1]
        exact ⟨by simp, by simp, by simpa using hn, by simp, hhd.lies, fun _ => ⟨rfl, [], (0, 0), hhd, .inr (Nat.le_refl _), by simp⟩, fun k => by simp⟩
    · intro i r hi k hk
      rcases Nat.lt_or_ge i bs.length with hlt | hge
      · rw [List.getElem?_append_left hlt] at hi
        simp only [hlt, if_true] at hk
        exact Nat.lt_of_lt_of_le (hbw.lt i r hi k hk) hb.size
      · simp only [show ¬ i < bs.length by omega, if_false] at hk
        rw [hk.2, heap_size0]
        omega
    · intro i j r r' hi hj hij hm k hk hk'
      rcases Nat.lt_or_ge i bs.length with hlt | hge
      · rw [List.getElem?_append_left hlt] at hi
        simp only [hlt, if_true] at hk
        rcases Nat.lt_or_ge j bs.length with hjt | hjg
        · rw [List.getElem?_append_left hjt] at hj
          simp only [hjt, if_true] at hk'
          exact hbw.sep i j r r' hi hj hij hm k hk hk'
        · simp only [show ¬ j < bs.length by omega, if_false] at hk'
          have := hbw.lt i r hi k hk
          omega
      · simp only [show ¬ i < bs.length by omega, if_false] at hk
        rcases Nat.lt_or_ge j bs.length with hjt | hjg
        · rw [List.getElem?_append_left hjt] at hj
          simp only [hjt, if_true] at hk'
          have := hbw.lt j r' hj k hk'
          omega
        · simp only [show ¬ j < bs.length by omega, if_false] at hk'
          omega
  · refine ⟨fun i r' hi hm k hk => ?_, fun i r' hi k hk => ?_⟩
    · rcases Nat.lt_or_ge i bs.length with hlt | hge
      · rw [List.getElem?_append_left hlt] at hi
        simp only [hlt, if_true] at hk
        exact .inr ⟨i, r', hi, hm, hk⟩
      · simp only [show ¬ i < bs.length by omega, if_false] at hk
        exact .inl (by omega)
    · rcases Nat.lt_or_ge i bs.length with hlt | hge
      · rw [List.getElem?_append_left hlt] at hi
        simp only [hlt, if_true] at hk
        exact .inr ⟨i, r', hi, hk⟩
      · simp only [show ¬ i < bs.length by omega, if_false] at hk
        exact .inl (by omega)
end Go.Proofs.YtfmafmgbfamaiaaGreatDoor
/- Builders: the contracts on their methods. -/
set_option linter.all false
set_option maxRecDepth 20000
namespace Go.Proofs.YtfmafmgbfamaiaaGreatDoor
open Go Vc Go.RowKit Wf
set_option linter.unusedSimpArgs false
theorem sc_copyCheck {bs : List Res} {i : Nat} {x y : SV} (hi : bs[i]? = some (.cells [x, y] 128 true)) (hx : x = .v (.pointer none) ∨ x = .p i 0) :
    SC Tryz.V 113 [.p i 0] bs (fun r bs' => r = .tup [] ∧ bs' = bs.set i (.cells [.p i 0, y] 128 true)) := by
  have hil : i < bs.length := (List.getElem?_eq_some_iff.1 hi).1
  refine sc_direct hi rfl Tryz.call113 rfl (fun β fp w hE hh => ?_)
  obtain ⟨h0, ⟨rest, fz, hd, rfl⟩, h3⟩ := hh β (Agr.refl _ _)
  have ea : (concL β [.p i 0]).toArray = #[.pointer (some ⟨(β i).blk, 0, none⟩)] := by simp [concL, conc, h0]
  rw [ea]
  have hc0 : w.cell? ⟨(β i).blk, 0, none⟩ = some (conc β x) := hd.lies 0 _ (by simp)
  rcases hx with rfl | rfl
  · have hsz := hd.1
    have hfz := hd.2
    refine (Any.Builder_copyCheck_fresh { Tryz.lay166 with } Tryz.extra166.toX72 (β i).blk w hc0 ?_ ?_).mono ?_
    · simp [World.shape?, hsz]
      rfl
    · simp [World.frozen?, hsz]
      simp at hfz
      omega
    · rintro e w' ⟨rfl, rfl⟩
      refine ⟨rfl, ?_, fp i, fun k hk => hk, fun β' hβ => ?_⟩
      · exact ⟨rfl, rfl, rfl, by simp [World.setCell], fun k _ hn => Below.heap_setCell _ _ _ _ (fun e => hn ((h3 k).2 e))⟩
      · have hb := hβ i hil
        obtain ⟨k0, ⟨rest, fz', hd', rfl⟩, k3⟩ := hh β' hβ
        refine ⟨k0, ⟨[], fz', ⟨?_, by simpa using hd'.2⟩, rfl⟩, k3⟩
        rw [hb, heap_set hd'.1]
        simp [conc, k0]
  · refine (Any.Builder_copyCheck_used { Tryz.lay166 with } Tryz.extra166.toX72 (β i).blk w ?_).mono ?_
    · rw [hc0]; simp [conc, h0]
    · rintro e w' ⟨rfl, rfl⟩
      exact ⟨rfl, FrW.refl _ _, fp i, fun k hk => hk, hh⟩
theorem w_WriteString {bs : List Res} {i j : Nat} {x : SV} {l s : Bytes} (hi : bs[i]? = some (.cells [x, .o j l.length] 128 true)) (hx : x = .v (.pointer none) ∨ x = .p i 0) (hj : bs[j]? = some (.own (l.map u8S) 5 1 l.length true)) (hij : i ≠ j) (hlen : l.length + s.length ≤ 140737488355328) :
    SC Tryz.V 82 [.p i 0, .str s] bs (fun r bs' => r = .tup [.int .i64 s.length, .v .nilIface] ∧ bs'[i]? = some (.cells [.p i 0, .o bs.length (l ++ s).length] 128 true) ∧ bs'[bs.length]? = some (.own ((l ++ s).map u8S) 5 1 (l ++ s).length true) ∧ ∀ k, k < bs.length → k ≠ i → k ≠ j → bs'[k]? = bs[k]?) := by
  have hil : i < bs.length := (List.getElem?_eq_some_iff.1 hi).1
  refine sc_of 3000 Tryz.func82 rfl Tryz.ntmps82 Tryz.results82 Tryz.call82 (by simp) (fun β β' hb => concL_within bs.length _ (by simp [within, within.withinL, hil]) β β' hb) ?_
  simp only [lawG, ↓Xn, ↓Xo, ↓Xg, ↓Xd, ↓Xe, ↓Xf, Tryz.VΓ, Tryz.Γs, Xp, Xi, Nat.reduceAdd, Nat.reduceSub, Nat.reduceLT, Nat.reduceLeDiff, reduceIte, reduceCtorEq, Nat.reduceEqDiff, implies_true, forall_const, lawV]
  refine callV_sc (sc_copyCheck hi hx) ?_
  rintro r bs1 ⟨rfl, rfl⟩
  have h1 : (bs.set i (.cells [.p i 0, .o j l.length] 128 true))[i]? = some (.cells [.p i 0, .o j l.length] 128 true) := List.getElem?_set_self hil
  have h2 : (bs.set i (.cells [.p i 0, .o j l.length] 128 true))[j]? = some (.own (l.map u8S) 5 1 l.length true) := by rw [List.getElem?_set_ne hij]; exact hj
  have h3 : ∀ k, k ≠ i → (bs.set i (.cells [.p i 0, .o j l.length] 128 true))[k]? = bs[k]? := fun k hk => List.getElem?_set_ne (fun e => hk e.symm)
  have h4 : (bs.set i (.cells [.p i 0, .o j l.length] 128 true)).length = bs.length := List.length_set ..
  generalize bs.set i (.cells [.p i 0, .o j l.length] 128 true) = bs1 at h1 h2 h3 h4 ⊢
  have h5 : ∀ X, (bs1.set j .gone ++ [X])[i]? = some (.cells [.p i 0, .o j l.length] 128 true) := fun X => by
    rw [List.getElem?_append_left (by simp; omega), List.getElem?_set_ne (fun e => hij e.symm)]; exact h1
  simp only [lawG, ↓Xn, ↓Xo, ↓Xg, ↓Xd, ↓Xe, ↓Xf, Tryz.VΓ, Tryz.Γs, Xp, Xi, Nat.reduceAdd, Nat.reduceSub, Nat.reduceLT, Nat.reduceLeDiff, reduceIte, reduceCtorEq, Nat.reduceEqDiff, implies_true, forall_const, lawV, h1, h2, h5]
  refine ⟨⟨one_u8 _, by unfold maxLen; omega, by omega⟩, ?_, ?_, fun k hk hki hkj => ?_⟩
  · rw [List.getElem?_set_self (by simp; omega), h4, List.length_append]
  · rw [List.getElem?_set_ne (by omega), List.getElem?_append_right (by simp; omega)]
    simp [h4]
  · rw [List.getElem?_set_ne (fun e => hki e.symm), List.getElem?_append_left (by simp; omega), List.getElem?_set_ne (fun e => hkj e.symm), h3 k hki]
theorem sc_WriteString {bs : List Res} {i : Nat} {l s : Bytes} (hi : bs[i]? = some (.ext (BldR 128 5 l))) (hlen : l.length + s.length ≤ 140737488355328) :
    SC Tryz.V 82 [.p i 0, .str s] bs (fun r bs' => r = .tup [.int .i64 s.length, .v .nilIface] ∧ bs' = bs.set i (.ext (BldR 128 5 (l ++ s)))) := by
  have hil : i < bs.length := (List.getElem?_eq_some_iff.1 hi).1
  refine sc_open (R' := fun r bs' => r = .tup [.int .i64 s.length, .v .nilIface] ∧ bs'[i]? = some (.cells [.p i 0, .o (bs.length + 1) (l ++ s).length] 128 true) ∧ bs'[bs.length + 1]? = some (.own ((l ++ s).map u8S) 5 1 (l ++ s).length true) ∧ ∀ k, k < bs.length → k ≠ i → bs'[k]? = bs[k]?) hi (fun x hx => (w_WriteString (j := bs.length) (l := l) (s := s) ?_ hx ?_ (by omega) hlen).mono ?_) ?_ (by simp [within, within.withinL, hil])
  · rw [List.getElem?_append_left (by simpa using hil), List.getElem?_set_self hil]
  · rw [List.getElem?_append_right (by simp)]; simp
  · rintro r bs' ⟨rfl, h1, h2, h3⟩
    simp only [List.length_append, List.length_set, List.length_cons, List.length_nil] at h1 h2 h3
    refine ⟨rfl, by simpa using h1, by simpa using h2, fun k hk hki => ?_⟩
    rw [h3 k (by omega) hki (by omega), List.getElem?_append_left (by simpa using hk), List.getElem?_set_ne (fun e => hki e.symm)]
  · rintro r bs' ⟨rfl, h1, h2, h3⟩
    exact ⟨.p i 0, bs.length + 1, l ++ s, rfl, .inr rfl, ⟨rfl, rfl⟩, h1, h2, by omega, h3⟩
set_option maxHeartbeats 4000000 in
set_option maxRecDepth 100000 in
theorem x_String {b : Nat} {p : Value} {t2 : Bt} {f2 : Nat → Prop} {l : Bytes} {w : World} {fz : Nat × Nat} (hd : Head w b 128 [p, oV t2 l.length] [] fz) (hr : Holds bt0 t2 f2 w (.own (l.map u8S) 5 1 l.length true)) :
    Calls Tryz.prog 85 #[.pointer (some ⟨b, 0, none⟩)] w fun e w' => e = .returned (Value.string ⟨List.toArray (l)⟩) ∧ FrW f2 w w' := by
  have mixed : Tryz.prog.follows .mixedOrders = true := by kernel_rfl
  have hb : w.heap[b]? = some (.cells #[p, oV t2 l.length] 128 fz) := by simpa using hd.1
  have hdr : FrW f2 w w.drew := ⟨rfl, rfl, rfl, Nat.le_refl _, fun _ _ _ => rfl⟩
  have hUN : ∀ (W : World) (q : Option Addr), (Builtin.unsafeString_ #[154, 3] 9 #[.pointer q, .int .i64 0]).run Tryz.prog W = .ok (.string .empty) W := fun W q => Lib.run_unsafeString_none W _ _ _ q
  have hcell : ∀ (W : World), W.heap[b]? = w.heap[b]? → W.cell? ⟨b, 1, none⟩ = some (oV t2 l.length) := fun W hW => by
    rw [Lib.cell_of_heap (hW.trans hb)]; rfl
  rcases hr with ⟨h1, h2, h3, h4⟩ | ⟨h1, h2, h3, h4, h5, h6, h7⟩
  · have hl : l = [] := by simpa using h3
    subst hl
    have hv : oV t2 ([] : Bytes).length = .slice none 0 0 := by simp [oV, h1]
    rw [hv] at hb hcell
    have c1 : w.drew.cell? ⟨b, 1, none⟩ = some (.slice none 0 0) := hcell _ rfl
    have hSD : (Builtin.unsafeSliceData_ #[22] 154 #[.slice none 0 0]).run Tryz.prog w.drew = .ok (.pointer none) w.drew := rfl
    go_enter Tryz.func85, Tryz.ntmps85
    go_wp2
    go_region_o
    all_goals (go_wp2; go_ret; exact ⟨rfl, hdr⟩)
  · obtain ⟨h8, rest, fr, h9, h10, h11⟩ := h6 rfl
    obtain ⟨blk, off, cap⟩ := t2
    simp only at h1 h2 h3 h8 h9 h11 h7
    subst h8
    obtain ⟨cap, rfl⟩ : ∃ c, cap = c + 1 := ⟨cap - 1, by omega⟩
    have hv : oV ⟨blk, 0, cap + 1⟩ l.length = .slice (some ⟨blk, 0, none⟩) l.length cap := by simp [oV]
    rw [hv] at hb hcell
    have hg : w.heap[blk]? = some (.cells ((l.map u8S).map (conc bt0) ++ rest).toArray 5 fr) := h9.1
    have hsz : ((l.map u8S).map (conc bt0) ++ rest).toArray.size = cap := by
      simp at h11 ⊢; omega
    by_cases hl : l = []
    · subst hl
      simp only [List.map_nil, List.nil_append, List.length_nil] at hb hcell hg hsz
      have c1 : w.drew.cell? ⟨b, 1, none⟩ = some (.slice (some ⟨blk, 0, none⟩) 0 cap) := hcell _ rfl
      by_cases hc : cap = 0
      · subst hc
        have hbl : b < w.heap.size := (Array.getElem?_eq_some_iff.1 hb).1
        have hSD : (Builtin.unsafeSliceData_ #[22] 154 #[.slice (some ⟨blk, 0, none⟩) 0 0]).run Tryz.prog w.drew = .ok (.pointer (some ⟨w.drew.heap.size, 0, none⟩)) (w.drew.alloc (.view ⟨blk, 0, none⟩ 5)) :=
          Lib.run_unsafeSliceData_zero w.drew _ _ 5 Tryz.underlying154 ⟨blk, 0, none⟩ 0 (5, rest.toArray.size) (by have hg' : w.drew.heap[blk]? = _ := hg; simp [World.shape?, hg'])
        have c2 : (w.drew.alloc (.view ⟨blk, 0, none⟩ 5)).cell? ⟨b, 1, none⟩ = some (.slice (some ⟨blk, 0, none⟩) 0 0) := hcell _ (Lib.alloc_old w.drew _ b hbl)
        have c3 : (w.alloc (.view ⟨blk, 0, none⟩ 5)).drew.cell? ⟨b, 1, none⟩ = some (.slice (some ⟨blk, 0, none⟩) 0 0) := c2
        have c0 : w.cell? ⟨b, 1, none⟩ = some (.slice (some ⟨blk, 0, none⟩) 0 0) := c1
        have hfin : FrW f2 w (w.drew.alloc (.view ⟨blk, 0, none⟩ 5)) := ⟨rfl, rfl, rfl, by simp, fun k hk _ => Lib.alloc_old w.drew _ k hk⟩
        go_enter Tryz.func85, Tryz.ntmps85
        go_wp2
        go_region_o
        all_goals (go_wp2; go_ret; exact ⟨rfl, hfin⟩)
      · have hSD : (Builtin.unsafeSliceData_ #[22] 154 #[.slice (some ⟨blk, 0, none⟩) 0 cap]).run Tryz.prog w.drew = .ok (.pointer (some ⟨blk, 0, none⟩)) w.drew :=
          Lib.run_unsafeSliceData_row _ _ _ _ _ _ hc
        clear hc
        go_enter Tryz.func85, Tryz.ntmps85
        go_wp2
        go_region_o
        all_goals (go_wp2; go_ret; exact ⟨rfl, hdr⟩)
    · have hl0 : l.length ≠ 0 := by simpa using hl
      have c1 : w.drew.cell? ⟨b, 1, none⟩ = some (.slice (some ⟨blk, 0, none⟩) l.length cap) := hcell _ rfl
      have hSD : (Builtin.unsafeSliceData_ #[22] 154 #[.slice (some ⟨blk, 0, none⟩) l.length cap]).run Tryz.prog w.drew = .ok (.pointer (some ⟨blk, 0, none⟩)) w.drew :=
        Lib.run_unsafeSliceData_row _ _ _ _ _ _ (by omega)
      have hUS : (Builtin.unsafeString_ #[154, 3] 9 #[.pointer (some ⟨blk, 0, none⟩), .int .i64 l.length]).run Tryz.prog w.drew = .ok (Value.string ⟨List.toArray (l)⟩) (w.drew.freeze ⟨blk, 0, none⟩ l.length) := by
        refine Lib.run_unsafeString_row w.drew 154 3 9 5 Tryz.underlying154 Tryz.extra166.cellsByte blk cap (by have hg' : w.drew.heap[blk]? = _ := hg; simp only [World.shape?, hg']; simp only [hsz]) l hl (by omega) (by unfold maxLen at h3; omega) ?_
        intro j x hx
        have := h5 j (conc bt0 (u8S x)) (by simp [hx])
        rw [addr_plus]
        simpa [u8S, conc] using this
      have hfin : FrW f2 w (w.drew.freeze ⟨blk, 0, none⟩ l.length) := by
        unfold World.freeze
        split
        · exact hdr
        · refine ⟨rfl, rfl, rfl, by simp, fun k hk hn => ?_⟩
          have hne : k ≠ blk := fun e => hn ((h7 k).2 e)
          simp only [Array.getElem?_modify]
          rw [if_neg (fun e => hne e.symm)]
          rfl
      go_enter Tryz.func85, Tryz.ntmps85
      go_wp2
      go_region_o
      all_goals (go_wp2; go_ret; exact ⟨rfl, hfin⟩)
theorem sc_String {bs : List Res} {i : Nat} {l : Bytes} (hi : bs[i]? = some (.ext (BldR 128 5 l))) :
    SC Tryz.V 85 [.p i 0] bs (fun r bs' => r = .str l ∧ bs' = bs.set i .gone) := by
  refine sc_direct hi rfl Tryz.call85 rfl (fun β fp w hE hh => ?_)
  obtain ⟨h0, p, t2, f2, hp, ⟨fz, hd⟩, h3, h4, h5⟩ := hh β (Agr.refl _ _)
  have ea : (concL β [.p i 0]).toArray = #[.pointer (some ⟨(β i).blk, 0, none⟩)] := by simp [concL, conc, h0]
  rw [ea]
  refine (x_String hd h3).mono ?_
  rintro e w' ⟨rfl, hf⟩
  exact ⟨rfl, hf.mono (fun k hk => (h5 k).2 (.inr hk)), fun _ => False, fun _ h => h.elim, fun _ _ _ h => h⟩
end Go.Proofs.YtfmafmgbfamaiaaGreatDoor
/- Builders with a text, perhaps not yet written to; strings.Split. -/
set_option linter.all false
set_option maxRecDepth 20000
namespace Go.Proofs.YtfmafmgbfamaiaaGreatDoor
open Go Vc Go.RowKit Wf
set_option linter.unusedSimpArgs false
theorem p_CutS (l p : Bytes) (hl : l.length < 4294967281) : PC Tryz.V 49 [.str l, .str p] (.tup [.str (Lib.cut l p).1, .str (Lib.cut l p).2.1, .bool (Lib.cut l p).2.2]) :=
  ⟨Tryz.call49, by simp [flat, flat.flatL], by simp [flat, flat.flatL], fun w ⟨m, hm⟩ => (Tryz.strings_Cut ⟨List.toArray l⟩ ⟨List.toArray p⟩ m w hl hm).mono fun _ _ ⟨h, k⟩ => ⟨h, below_draws k⟩⟩
theorem flat_strs : ∀ L : List Bytes, flat.flatL (L.map SV.str) = true
  | [] => by simp [flat.flatL]
  | x :: L => by simp [flat.flatL, flat, flat_strs L]
theorem sc_strSplit {bs : List Res} (s sep : Bytes) (L : List Bytes) (hL : Lib.splitK sep 0 (Lib.count s sep) s = L) (hs : s.length ≤ 1100000) (hp : 1 ≤ sep.length) :
    SC Tryz.V 86 [.str s, .str sep] bs (fun r b => r = .o bs.length L.length ∧ b = bs ++ [.own (L.map SV.str) 9 1 L.length true]) := by
  have hd := Lib.splitB_data ⟨List.toArray sep⟩ 0 (Lib.countB ⟨List.toArray s⟩ ⟨List.toArray sep⟩) ⟨List.toArray s⟩
  have hlen := Lib.splitB_all ⟨List.toArray sep⟩ hp 0 _ ⟨List.toArray s⟩ rfl
  have hle := Lib.countB_le ⟨List.toArray sep⟩ hp s.length ⟨List.toArray s⟩ (Nat.le_refl _)
  have hz : (⟨List.toArray s⟩ : ByteArray).size = s.length := rfl
  have hcl : Lib.countB ⟨List.toArray s⟩ ⟨List.toArray sep⟩ + 1 = L.length := by
    rw [← hlen, ← hL]
    have := congrArg List.length hd
    rw [List.length_map] at this
    exact this
  have e : (Lib.splitB ⟨List.toArray sep⟩ 0 (Lib.countB ⟨List.toArray s⟩ ⟨List.toArray sep⟩) ⟨List.toArray s⟩).map Value.string = L.map strV := by
    rw [← hL]
    refine Eq.trans ?_ (congrArg (List.map strV) hd)
    rw [List.map_map]
    exact List.map_congr_left fun x _ => rfl
  refine (sc_row (V := Tryz.V) (c := L.map SV.str) (T := 9) Tryz.call86 (by simp [flat, flat.flatL]) ?_ ?_ fun w ⟨m, hm⟩ => ?_).mono ?_
  · exact flat_strs L
  · unfold maxLen; rw [List.length_map]; omega
  · refine (Tryz.strings_Split ⟨List.toArray s⟩ ⟨List.toArray sep⟩ m w (show s.length < 4294967281 by omega) hm hp).mono fun _ _ ⟨h, k⟩ => ⟨?_, ?_⟩
    · rw [h, hcl, List.length_map]
    · rw [k, e]
      congr 2
      rw [concL_map, List.map_map]
      exact congrArg List.toArray (List.map_congr_left fun x _ => rfl)
  · rintro r b ⟨h1, h2⟩
    rw [List.length_map] at h1 h2
    exact ⟨h1, h2⟩
def BAt (i : Nat) (l : Bytes) (b : List Res) : Prop := b[i]? = some (.ext (BldR 128 5 l)) ∨ (l = [] ∧ b[i]? = some (.cells [.v (.pointer none), .nils] 128 true))
theorem BAt.lt {i : Nat} {l : Bytes} {b : List Res} (h : BAt i l b) : i < b.length := by
  rcases h with h | ⟨-, h⟩ <;> exact (List.getElem?_eq_some_iff.1 h).1
theorem BAt.set {i : Nat} {l m : Bytes} {b : List Res} (h : BAt i l b) : BAt i m (b.set i (.ext (BldR 128 5 m))) := .inl (List.getElem?_set_self h.lt)
end Go.Proofs.YtfmafmgbfamaiaaGreatDoor
/- The walks of body.Read, of head.Get and of what they call, where a field stands alone. -/
set_option linter.all false
set_option maxRecDepth 20000
namespace Go.Proofs.YtfmafmgbfamaiaaGreatDoor
open Go Vc Go.RowKit Wf
set_option linter.unusedSimpArgs false
theorem p_ascii_Digits (s : Bytes) (hs : s.length ≤ 9223372036854775807) : PC Tryz.V 87 [.str s] (.bool (digitsOk s)) :=
  ⟨Tryz.call87, by simp [flat, flat.flatL], by simp [flat, flat.flatL], fun w _ => (ascii_Digits s w hs).mono fun _ _ ⟨h, k⟩ => ⟨by rw [h]; simp [conc, concL], by subst k; exact below_same rfl⟩⟩
theorem p_num_Parse (s : Bytes) (m : Nat) (hs : s.length ≤ 9223372036854775807) (hm : m ≤ 4611686018427387904) : PC Tryz.V 88 [.str s, .int .u64 m] (.tup [.int .u64 (numParse isDigit 10 m s).1, .int .i64 (numParse isDigit 10 m s).2]) :=
  ⟨Tryz.call88, by simp [flat, flat.flatL], by simp [flat, flat.flatL], fun w _ => (number_Parse s m w hs hm).mono fun _ _ ⟨h, k⟩ => ⟨by rw [h]; simp [conc, concL], by subst k; exact below_same rfl⟩⟩
def Digs (D : Bytes) : Prop := D ≠ [] ∧ D.length ≤ 1000 ∧ ∀ c ∈ D, isDigit c = true
set_option maxHeartbeats 2000000 in
theorem sc_head_Get {bs : List Res} {j : Nat} {fs : List (Bytes × Bytes)} {m : Bool} (hj : bs[j]? = some (.own (fs.flatMap fc) 31 2 fs.length m)) (hn : fs.length ≤ 1000000) (hl : ∀ f ∈ fs, f.1.length ≤ 9223372036854775807) (name : Bytes) (hname : name.length ≤ 9223372036854775807) (a c : Int) (v : Bytes) (hv : Lib.join (hdrVals fs name) [44, 32] = v) (hlen : v.length ≤ 1000000) (ok : Bool) (hok : decide (0 < ((hdrVals fs name).length : Int)) = ok) :
    SC Tryz.V 54 [.agg [.int .i64 a, .int .i64 c, .o j fs.length], .str name] bs (fun r b => r = .tup [.str v, .bool ok] ∧ Kp bs b) := by
  have hjl : j < bs.length := (List.getElem?_eq_some_iff.1 hj).1
  refine sc_of 3000 Tryz.func54 rfl Tryz.ntmps54 Tryz.results54 Tryz.call54 (by simp) (fun β β' hb => concL_within bs.length _ (by simp [within, within.withinL, hjl]) β β' hb) ?_
  simp only [lawG, ↓Xn, ↓Xo, ↓Xg, ↓Xd, ↓Xe, ↓Xf, Tryz.VΓ, Tryz.Γs, Xp, Xi, Nat.reduceAdd, Nat.reduceSub, Nat.reduceLT, Nat.reduceLeDiff, reduceIte, reduceCtorEq, Nat.reduceEqDiff, implies_true, forall_const, lawV, lawB]
  have hj2 := fun X => at_old hj [X]
  have w1 := fun X => sc_head_Values (bs := bs ++ [X]) (hj2 X) hn hl name hname a c
  refine callV_sc (w1 _) ?_
  rintro r b ⟨hkp, hsl⟩
  have hkp2 := ((Kp.refl bs).app [.cells [.int .i64 a, .int .i64 c, .o j fs.length] 37 true]).trans hkp
  have hvl := hdrVals_len fs name
  rcases hsl with ⟨rfl, hc, hn0⟩ | ⟨i, rfl, hLi, hi⟩
  · have he : hdrVals fs name = [] := List.length_eq_zero_iff.1 hn0
    rw [he] at hv hok
    have hv : ([] : Bytes) = v := by rw [← hv]; rfl
    have hok : false = ok := by rw [← hok]; rfl
    subst hv hok
    simp only [lawG, ↓Xn, ↓Xo, ↓Xg, ↓Xd, ↓Xe, ↓Xf, Tryz.VΓ, Tryz.Γs, Xp, Xi, Nat.reduceAdd, Nat.reduceSub, Nat.reduceLT, Nat.reduceLeDiff, reduceIte, reduceCtorEq, Nat.reduceEqDiff, implies_true, forall_const, lawV, lawB, beq_self_eq_true, bne_self_eq_false, Int.reduceBEq, Int.reduceBNe, Int.reduceLT, Int.reduceLE]
    refine callV_sc (sc_Join0 _) ?_
    rintro r b ⟨rfl, rfl⟩
    simp only [lawG, ↓Xn, ↓Xo, ↓Xg, ↓Xd, ↓Xe, ↓Xf, Tryz.VΓ, Tryz.Γs, Xp, Xi, Nat.reduceAdd, Nat.reduceSub, Nat.reduceLT, Nat.reduceLeDiff, reduceIte, reduceCtorEq, Nat.reduceEqDiff, implies_true, forall_const, lawV, lawB, beq_self_eq_true, bne_self_eq_false, Int.reduceBEq, Int.reduceBNe, Int.reduceLT, Int.reduceLE]
    exact hkp2
  · simp only [lawG, ↓Xn, ↓Xo, ↓Xg, ↓Xd, ↓Xe, ↓Xf, Tryz.VΓ, Tryz.Γs, Xp, Xi, Nat.reduceAdd, Nat.reduceSub, Nat.reduceLT, Nat.reduceLeDiff, reduceIte, reduceCtorEq, Nat.reduceEqDiff, implies_true, forall_const, lawV, lawB, beq_self_eq_true, bne_self_eq_false, Int.reduceBEq, Int.reduceBNe, Int.reduceLT, Int.reduceLE]
    have s1 := sc_JoinN hi (by omega) [44, 32] (by rw [hv]; omega)
    rw [hv] at s1
    refine callV_sc s1 ?_
    rintro r b ⟨rfl, rfl⟩
    simp only [lawG, ↓Xn, ↓Xo, ↓Xg, ↓Xd, ↓Xe, ↓Xf, Tryz.VΓ, Tryz.Γs, Xp, Xi, Nat.reduceAdd, Nat.reduceSub, Nat.reduceLT, Nat.reduceLeDiff, reduceIte, reduceCtorEq, Nat.reduceEqDiff, implies_true, forall_const, lawV, lawB, beq_self_eq_true, bne_self_eq_false, Int.reduceBEq, Int.reduceBNe, Int.reduceLT, Int.reduceLE, hok]
    exact hkp2
def teS : Bytes := ([116, 114, 97, 110, 115, 102, 101, 114, 45, 101, 110, 99, 111, 100, 105, 110, 103] : List UInt8)
def clS : Bytes := ([99, 111, 110, 116, 101, 110, 116, 45, 108, 101, 110, 103, 116, 104] : List UInt8)
def chS : Bytes := ([99, 104, 117, 110, 107, 101, 100] : List UInt8)
end Go.Proofs.YtfmafmgbfamaiaaGreatDoor
/- The walk of ascii.Trim, of body.length and body.Read, in general. -/
set_option linter.all false
set_option maxRecDepth 20000
namespace Go.Proofs.YtfmafmgbfamaiaaGreatDoor
open Go Vc Go.RowKit Wf
set_option linter.unusedSimpArgs false
theorem p_blankB (c : UInt8) : PC Tryz.V 78 [.int .u8 c.toNat] (.bool (blankB c)) := by
  refine pc_of 3000 Tryz.func78 rfl Tryz.ntmps78 Tryz.results78 Tryz.call78 (by simp) (by simp [flat, flat.flatL]) (by simp [flat, flat.flatL]) ?_
  simp only [lawG, ↓Xn, ↓Xo, ↓Xg, ↓Xd, ↓Xe, ↓Xf, Tryz.VΓ, Tryz.Γs, Xp, Xi, Nat.reduceAdd, Nat.reduceSub, Nat.reduceLT, Nat.reduceLeDiff, reduceIte, reduceCtorEq, Nat.reduceEqDiff, implies_true, forall_const, lawV, beq_self_eq_true, bne_self_eq_false, Int.reduceBEq, Int.reduceBNe, Int.reduceLT, Int.reduceLE]
  have e1 : ((c.toNat : Int) == 32) = (c == 32) := by
    have := all256 (p := fun c => decide (((c.toNat : Int) == 32) = (c == 32))) (by decide +kernel) c
    exact of_decide_eq_true this
  have e2 : ((c.toNat : Int) == 9) = (c == 9) := by
    have := all256 (p := fun c => decide (((c.toNat : Int) == 9) = (c == 9))) (by decide +kernel) c
    exact of_decide_eq_true this
  rw [e1, e2]
  unfold blankB
  refine ⟨fun h => by rw [h]; simp, fun h => by rw [h]; simp⟩
theorem trim_last (r : Bytes) (c : UInt8) : ((r ++ [c]).reverse.dropWhile blankB).reverse = if blankB c then (r.reverse.dropWhile blankB).reverse else r ++ [c] := by
  rw [List.reverse_append, List.reverse_singleton, List.singleton_append, List.dropWhile_cons]
  split
  · rfl
  · simp
set_option maxHeartbeats 2000000 in
theorem p_TrimB (s : Bytes) (hs : s.length ≤ 9223372036854775807) : PC Tryz.V 53 [.str s] (.str (trimB s)) := by
  refine pc_of 3000 Tryz.func53 rfl Tryz.ntmps53 Tryz.results53 Tryz.call53 (by simp) (by simp [flat, flat.flatL]) (by simp [flat, flat.flatL]) ?_
  simp only [lawG, ↓Xn, ↓Xo, ↓Xg, ↓Xd, ↓Xe, ↓Xf, Tryz.VΓ, Tryz.Γs, Xp, Xi, Nat.reduceAdd, Nat.reduceSub, Nat.reduceLT, Nat.reduceLeDiff, reduceIte, reduceCtorEq, Nat.reduceEqDiff, implies_true, forall_const, lawV, beq_self_eq_true, bne_self_eq_false, Int.reduceBEq, Int.reduceBNe, Int.reduceLT, Int.reduceLE]
  refine loopV_mk (fun σ => ∃ r : Bytes, r.length ≤ s.length ∧ r.dropWhile blankB = s.dropWhile blankB ∧ lk 0 σ.t = some (.str r)) (fun σ => match lk 0 σ.t with | some (.str r) => r.length | _ => 0) ⟨s, Nat.le_refl _, rfl, rfl⟩ ?_
  rintro ⟨t, b⟩ ⟨r, hr, he, g0⟩
  simp only at g0
  cases r with
  | nil =>
    simp only [lawG, ↓Xn, ↓Xo, ↓Xg, ↓Xd, ↓Xe, ↓Xf, Tryz.VΓ, Tryz.Γs, Xp, Xi, Nat.reduceAdd, Nat.reduceSub, Nat.reduceLT, Nat.reduceLeDiff, reduceIte, reduceCtorEq, Nat.reduceEqDiff, implies_true, forall_const, lawV, g0, beq_self_eq_true, bne_self_eq_false, Int.reduceBEq, Int.reduceBNe, Int.reduceLT, Int.reduceLE]
    refine ⟨fun h => absurd h (by decide), fun _ => ?_⟩
    refine loopV_mk (fun σ => ∃ r : Bytes, r.length ≤ s.length ∧ (r.reverse.dropWhile blankB).reverse = trimB s ∧ lk 0 σ.t = some (.str r)) (fun σ => match lk 0 σ.t with | some (.str r) => r.length | _ => 0) ⟨[], by simp, by unfold trimB; rw [← he]; rfl, g0⟩ ?_
    rintro ⟨t, b⟩ ⟨r, hr, he, g0⟩
    simp only at g0
    rcases List.eq_nil_or_concat r with rfl | ⟨r, c, rfl⟩
    · simp only [lawG, ↓Xn, ↓Xo, ↓Xg, ↓Xd, ↓Xe, ↓Xf, Tryz.VΓ, Tryz.Γs, Xp, Xi, Nat.reduceAdd, Nat.reduceSub, Nat.reduceLT, Nat.reduceLeDiff, reduceIte, reduceCtorEq, Nat.reduceEqDiff, implies_true, forall_const, lawV, g0, beq_self_eq_true, bne_self_eq_false, Int.reduceBEq, Int.reduceBNe, Int.reduceLT, Int.reduceLE]
      refine ⟨fun h => absurd h (by decide), fun _ => ?_⟩
      rw [← he]
      rfl
    · simp only [List.concat_eq_append] at hr he g0
      have pb := p_blankB c
      have e1 : decide ((0 : Int) < ((r ++ [c]).length : Int)) = true := decide_eq_true (by rw [List.length_append]; simp only [List.length_cons]; omega)
      have e3 : (((r ++ [c]).length : Int) - 1).toNat = r.length := by simp
      have e2 : (r ++ [c]).getD r.length 0 = c := by simp [List.getD]
      have e4 : (r ++ [c]).take r.length = r := by simp
      have hr1 : (r ++ [c]).length = r.length + 1 := by simp
      have ht := trim_last r c
      simp only [lawG, ↓Xn, ↓Xo, ↓Xg, ↓Xd, ↓Xe, ↓Xf, Tryz.VΓ, Tryz.Γs, Xp, Xi, Nat.reduceAdd, Nat.reduceSub, Nat.reduceLT, Nat.reduceLeDiff, reduceIte, reduceCtorEq, Nat.reduceEqDiff, implies_true, forall_const, lawV, g0, beq_self_eq_true, bne_self_eq_false, Int.reduceBEq, Int.reduceBNe, Int.reduceLT, Int.reduceLE, e1, e3, e2]
      refine ⟨⟨by omega, by omega⟩, ⟨by omega, by omega⟩, ?_⟩
      (refine callV_pc (pb) ?_; simp only [lawG, ↓Xn, ↓Xo, ↓Xg, ↓Xd, ↓Xe, ↓Xf, Tryz.VΓ, Tryz.Γs, Xp, Xi, Nat.reduceAdd, Nat.reduceSub, Nat.reduceLT, Nat.reduceLeDiff, reduceIte, reduceCtorEq, Nat.reduceEqDiff, implies_true, forall_const, lawV, g0, beq_self_eq_true, bne_self_eq_false, Int.reduceBEq, Int.reduceBNe, Int.reduceLT, Int.reduceLE, e3, e4])
      refine ⟨fun h => ⟨⟨by omega, by omega⟩, ⟨by omega, by omega⟩, ⟨r, by omega, by rw [← he, ht, if_pos h], rfl⟩, by omega⟩, fun h => ?_⟩
      rw [← he, ht, if_neg (by rw [h]; simp)]
  | cons c r =>
    have e1 : decide ((0 : Int) < ((r.length + 1 : Nat) : Int)) = true := decide_eq_true (by omega)
    have e2 : (c :: r).getD (Int.toNat 0) 0 = c := rfl
    have pb := p_blankB c
    simp only [List.length_cons] at hr
    simp only [lawG, ↓Xn, ↓Xo, ↓Xg, ↓Xd, ↓Xe, ↓Xf, Tryz.VΓ, Tryz.Γs, Xp, Xi, Nat.reduceAdd, Nat.reduceSub, Nat.reduceLT, Nat.reduceLeDiff, reduceIte, reduceCtorEq, Nat.reduceEqDiff, implies_true, forall_const, lawV, g0, beq_self_eq_true, bne_self_eq_false, Int.reduceBEq, Int.reduceBNe, Int.reduceLT, Int.reduceLE, e1, e2]
    refine ⟨by omega, ?_⟩
    (refine callV_pc (pb) ?_; simp only [lawG, ↓Xn, ↓Xo, ↓Xg, ↓Xd, ↓Xe, ↓Xf, Tryz.VΓ, Tryz.Γs, Xp, Xi, Nat.reduceAdd, Nat.reduceSub, Nat.reduceLT, Nat.reduceLeDiff, reduceIte, reduceCtorEq, Nat.reduceEqDiff, implies_true, forall_const, lawV, g0, beq_self_eq_true, bne_self_eq_false, Int.reduceBEq, Int.reduceBNe, Int.reduceLT, Int.reduceLE])
    refine ⟨fun h => ⟨by omega, ⟨r, by omega, by rw [← he, List.dropWhile_cons, if_pos h], rfl⟩, by simp⟩, fun h => ?_⟩
    refine loopV_mk (fun σ => ∃ r : Bytes, r.length ≤ s.length ∧ (r.reverse.dropWhile blankB).reverse = trimB s ∧ lk 0 σ.t = some (.str r)) (fun σ => match lk 0 σ.t with | some (.str r) => r.length | _ => 0) ⟨c :: r, by simp; omega, by unfold trimB; rw [← he, List.dropWhile_cons, if_neg (by rw [h]; simp)], g0⟩ ?_
    rintro ⟨t, b⟩ ⟨r, hr, he, g0⟩
    simp only at g0
    rcases List.eq_nil_or_concat r with rfl | ⟨r, c, rfl⟩
    · simp only [lawG, ↓Xn, ↓Xo, ↓Xg, ↓Xd, ↓Xe, ↓Xf, Tryz.VΓ, Tryz.Γs, Xp, Xi, Nat.reduceAdd, Nat.reduceSub, Nat.reduceLT, Nat.reduceLeDiff, reduceIte, reduceCtorEq, Nat.reduceEqDiff, implies_true, forall_const, lawV, g0, beq_self_eq_true, bne_self_eq_false, Int.reduceBEq, Int.reduceBNe, Int.reduceLT, Int.reduceLE]
      refine ⟨fun h => absurd h (by decide), fun _ => ?_⟩
      rw [← he]
      rfl
    · simp only [List.concat_eq_append] at hr he g0
      have pb := p_blankB c
      have e1 : decide ((0 : Int) < ((r ++ [c]).length : Int)) = true := decide_eq_true (by rw [List.length_append]; simp only [List.length_cons]; omega)
      have e3 : (((r ++ [c]).length : Int) - 1).toNat = r.length := by simp
      have e2 : (r ++ [c]).getD r.length 0 = c := by simp [List.getD]
      have e4 : (r ++ [c]).take r.length = r := by simp
      have hr1 : (r ++ [c]).length = r.length + 1 := by simp
      have ht := trim_last r c
      simp only [lawG, ↓Xn, ↓Xo, ↓Xg, ↓Xd, ↓Xe, ↓Xf, Tryz.VΓ, Tryz.Γs, Xp, Xi, Nat.reduceAdd, Nat.reduceSub, Nat.reduceLT, Nat.reduceLeDiff, reduceIte, reduceCtorEq, Nat.reduceEqDiff, implies_true, forall_const, lawV, g0, beq_self_eq_true, bne_self_eq_false, Int.reduceBEq, Int.reduceBNe, Int.reduceLT, Int.reduceLE, e1, e3, e2]
      refine ⟨⟨by omega, by omega⟩, ⟨by omega, by omega⟩, ?_⟩
      (refine callV_pc (pb) ?_; simp only [lawG, ↓Xn, ↓Xo, ↓Xg, ↓Xd, ↓Xe, ↓Xf, Tryz.VΓ, Tryz.Γs, Xp, Xi, Nat.reduceAdd, Nat.reduceSub, Nat.reduceLT, Nat.reduceLeDiff, reduceIte, reduceCtorEq, Nat.reduceEqDiff, implies_true, forall_const, lawV, g0, beq_self_eq_true, bne_self_eq_false, Int.reduceBEq, Int.reduceBNe, Int.reduceLT, Int.reduceLE, e3, e4])
      refine ⟨fun h => ⟨⟨by omega, by omega⟩, ⟨by omega, by omega⟩, ⟨r, by omega, by rw [← he, ht, if_pos h], rfl⟩, by omega⟩, fun h => ?_⟩
      rw [← he, ht, if_neg (by rw [h]; simp)]
def lenSV (o : Option Nat) : SV := match o with
  | some n => .tup [.int .u64 n, .bool true]
  | none => .tup [.int .u64 0, .bool false]
theorem len_flat (o : Option Nat) : flat (lenSV o) = true := by cases o <;> simp [lenSV, flat, flat.flatL]
theorem sc1_at' (L : List Bytes) (k : Nat) (h : k < L.length) : (L.map SV.str)[k * 1]? = some (.str L[k]) := by simp [h]
set_option maxHeartbeats 2000000 in
theorem p_body_lengthG (s : Bytes) (hs : s.length ≤ 1000000) : PC Tryz.V 56 [.str s] (lenSV (bodyLen s)) := by
  have hl1 := cutC_len 44 s
  have p1 := p_Cut s 44 (by omega)
  generalize hC : (cutC 44 s).1 = C at p1 hl1
  have hF : trimB C = trimB (cutC 44 s).1 := by rw [hC]
  have p2 := p_TrimB C (by omega)
  have hFl : (trimB C).length ≤ C.length := by
    unfold trimB
    rw [List.length_reverse]
    refine Nat.le_trans (List.Sublist.length_le (List.dropWhile_sublist _)) ?_
    rw [List.length_reverse]
    exact List.Sublist.length_le (List.dropWhile_sublist _)
  have hb : bodyLen s = if (splitC 44 s).all (fun p => trimB p == trimB C) && digitsOk (trimB C) then some (if (numParse isDigit 10 4611686018427387904 (trimB C)).2 = 0 then (numParse isDigit 10 4611686018427387904 (trimB C)).1 else 4611686018427387904) else none := by unfold bodyLen; rw [hF]
  rw [hb]
  generalize trimB C = F at p2 hFl
  have p3 := p_ascii_Digits F (by omega)
  have p4 := p_num_Parse F 4611686018427387904 (by omega) (by omega)
  have hsp := splitC_len 44 s
  have hne := splitC_ne 44 s
  have s1 := fun bs => sc_strSplit (bs := bs) s [44] (splitC 44 s) (splitK_one 44 _ s (Lib.count_one 44 s).symm) (by omega) (by simp)
  have hll := splitC_length 44 s
  have hcl := List.count_le_length (a := (44 : UInt8)) (l := s)
  generalize splitC 44 s = L at hsp hne s1 hll
  refine pc_of 3000 Tryz.func56 rfl Tryz.ntmps56 Tryz.results56 Tryz.call56 (by simp) (by simp [flat, flat.flatL]) (len_flat _) ?_
  simp only [lawG, ↓Xn, ↓Xo, ↓Xg, ↓Xd, ↓Xe, ↓Xf, Tryz.VΓ, Tryz.Γs, Xp, Xi, Nat.reduceAdd, Nat.reduceSub, Nat.reduceLT, Nat.reduceLeDiff, reduceIte, reduceCtorEq, Nat.reduceEqDiff, implies_true, forall_const, lawV, beq_self_eq_true, bne_self_eq_false, Int.reduceBEq, Int.reduceBNe, Int.reduceLT, Int.reduceLE]
  (refine callV_pc (p1) ?_; simp only [lawG, ↓Xn, ↓Xo, ↓Xg, ↓Xd, ↓Xe, ↓Xf, Tryz.VΓ, Tryz.Γs, Xp, Xi, Nat.reduceAdd, Nat.reduceSub, Nat.reduceLT, Nat.reduceLeDiff, reduceIte, reduceCtorEq, Nat.reduceEqDiff, implies_true, forall_const, lawV, beq_self_eq_true, bne_self_eq_false, Int.reduceBEq, Int.reduceBNe, Int.reduceLT, Int.reduceLE])
  (refine callV_pc (p2) ?_; simp only [lawG, ↓Xn, ↓Xo, ↓Xg, ↓Xd, ↓Xe, ↓Xf, Tryz.VΓ, Tryz.Γs, Xp, Xi, Nat.reduceAdd, Nat.reduceSub, Nat.reduceLT, Nat.reduceLeDiff, reduceIte, reduceCtorEq, Nat.reduceEqDiff, implies_true, forall_const, lawV, beq_self_eq_true, bne_self_eq_false, Int.reduceBEq, Int.reduceBNe, Int.reduceLT, Int.reduceLE])
  refine callV_sc (s1 _) ?_
  rintro r b ⟨rfl, rfl⟩
  simp only [lawG, ↓Xn, ↓Xo, ↓Xg, ↓Xd, ↓Xe, ↓Xf, Tryz.VΓ, Tryz.Γs, Xp, Xi, Nat.reduceAdd, Nat.reduceSub, Nat.reduceLT, Nat.reduceLeDiff, reduceIte, reduceCtorEq, Nat.reduceEqDiff, implies_true, forall_const, lawV, beq_self_eq_true, bne_self_eq_false, Int.reduceBEq, Int.reduceBNe, Int.reduceLT, Int.reduceLE]
  refine loopV_mk (fun σ => ∃ k : Nat, k ≤ L.length ∧ lk 4 σ.t = some (.str F) ∧ lk 20 σ.t = some (.o 0 L.length) ∧ lk 21 σ.t = some (.int .i64 L.length) ∧ lk 22 σ.t = some (.int .i64 k) ∧ σ.b = [.own (L.map SV.str) 9 1 L.length true] ∧ ∀ p ∈ L.take k, trimB p = F ∧ digitsOk F = true) (fun σ => L.length - lkI 22 σ) ⟨0, by omega, rfl, rfl, rfl, rfl, rfl, by simp⟩ ?_
  rintro ⟨t, b⟩ ⟨k, hk, g4, g20, g21, g22, hb2, hok⟩
  simp only at g4 g20 g21 g22 hb2
  subst hb2
  rw [lkI_eq g22]
  by_cases hlt : k < L.length
  · have e1 : decide ((k : Int) < L.length) = true := decide_eq_true (by omega)
    have hu := sc1_at' L k hlt
    have ht := List.take_succ_eq_append_getElem hlt
    have hmem := List.getElem_mem hlt
    have hxl := hsp _ hmem
    generalize L[k] = x at hu ht hmem hxl
    have p5 := p_TrimB x (by omega)
    simp only [lawG, ↓Xn, ↓Xo, ↓Xg, ↓Xd, ↓Xe, ↓Xf, Tryz.VΓ, Tryz.Γs, Xp, Xi, Nat.reduceAdd, Nat.reduceSub, Nat.reduceLT, Nat.reduceLeDiff, reduceIte, reduceCtorEq, Nat.reduceEqDiff, implies_true, forall_const, lawV, g4, g20, g21, g22, beq_self_eq_true, bne_self_eq_false, Int.reduceBEq, Int.reduceBNe, Int.reduceLT, Int.reduceLE, lawB, e1, hu, Int.toNat_natCast, List.length_map]
    refine ⟨⟨by omega, by omega⟩, by omega, ?_⟩
    (refine callV_pc (p5) ?_; simp only [lawG, ↓Xn, ↓Xo, ↓Xg, ↓Xd, ↓Xe, ↓Xf, Tryz.VΓ, Tryz.Γs, Xp, Xi, Nat.reduceAdd, Nat.reduceSub, Nat.reduceLT, Nat.reduceLeDiff, reduceIte, reduceCtorEq, Nat.reduceEqDiff, implies_true, forall_const, lawV, g4, g20, g21, g22, beq_self_eq_true, bne_self_eq_false, Int.reduceBEq, Int.reduceBNe, Int.reduceLT, Int.reduceLE, lawB])
    refine ⟨fun q1 => ?_, fun q1 => ?_⟩
    · have q1 : trimB x = F := by simpa using q1
      (refine callV_pc (p3) ?_; simp only [lawG, ↓Xn, ↓Xo, ↓Xg, ↓Xd, ↓Xe, ↓Xf, Tryz.VΓ, Tryz.Γs, Xp, Xi, Nat.reduceAdd, Nat.reduceSub, Nat.reduceLT, Nat.reduceLeDiff, reduceIte, reduceCtorEq, Nat.reduceEqDiff, implies_true, forall_const, lawV, g4, g20, g21, g22, beq_self_eq_true, bne_self_eq_false, Int.reduceBEq, Int.reduceBNe, Int.reduceLT, Int.reduceLE, lawB])
      refine ⟨fun q2 => ?_, fun q2 => ⟨⟨by omega, by omega⟩, ⟨k + 1, by omega, rfl, ?_⟩, ?_⟩⟩
      · have q2 : digitsOk F = false := by simpa using q2
        rw [q2, Bool.and_false]
        rfl
      · intro y hy
        rw [ht] at hy
        rcases List.mem_append.1 hy with hy | hy
        · exact hok y hy
        · rw [List.mem_singleton.1 hy]; exact ⟨q1, by simpa using q2⟩
      · rw [lkI_eq (k := .i64) (n := (k : Int) + 1) rfl]; omega
    · have q1 : (trimB x == F) = false := by simpa using q1
      rw [show (L.all fun p => trimB p == F) = false by rw [List.all_eq_false]; exact ⟨x, hmem, by rw [q1]; simp⟩]
      rfl
  · have hie : k = L.length := by omega
    subst hie
    rw [List.take_length] at hok
    have e1 : decide ((L.length : Int) < L.length) = false := by simp
    simp only [lawG, ↓Xn, ↓Xo, ↓Xg, ↓Xd, ↓Xe, ↓Xf, Tryz.VΓ, Tryz.Γs, Xp, Xi, Nat.reduceAdd, Nat.reduceSub, Nat.reduceLT, Nat.reduceLeDiff, reduceIte, reduceCtorEq, Nat.reduceEqDiff, implies_true, forall_const, lawV, g4, g20, g21, g22, beq_self_eq_true, bne_self_eq_false, Int.reduceBEq, Int.reduceBNe, Int.reduceLT, Int.reduceLE, lawB, e1]
    (refine callV_pc (p4) ?_; simp only [lawG, ↓Xn, ↓Xo, ↓Xg, ↓Xd, ↓Xe, ↓Xf, Tryz.VΓ, Tryz.Γs, Xp, Xi, Nat.reduceAdd, Nat.reduceSub, Nat.reduceLT, Nat.reduceLeDiff, reduceIte, reduceCtorEq, Nat.reduceEqDiff, implies_true, forall_const, lawV, g4, g20, g21, g22, beq_self_eq_true, bne_self_eq_false, Int.reduceBEq, Int.reduceBNe, Int.reduceLT, Int.reduceLE, lawB])
    have h1 : (L.all fun p => trimB p == F) = true := by rw [List.all_eq_true]; exact fun p hp => by rw [(hok p hp).1]; simp
    have h2 : digitsOk F = true := by
      obtain ⟨y, hy⟩ := List.exists_mem_of_ne_nil L hne
      exact (hok y hy).2
    rw [h1, h2]
    simp only [Bool.and_self, if_true]
    refine ⟨fun q => ?_, fun q => ?_⟩
    · rw [if_neg (by simpa using q)]
      rfl
    · rw [if_pos (by simpa using q)]
      rfl
end Go.Proofs.YtfmafmgbfamaiaaGreatDoor
/- The walk of body.Read in general. -/
set_option linter.all false
set_option maxRecDepth 20000
namespace Go.Proofs.YtfmafmgbfamaiaaGreatDoor
open Go Vc Go.RowKit Wf
set_option linter.unusedSimpArgs false
def rdOf (st : Int) (c1 : Bool) (v1 : Bytes) (c2 : Bool) (v2 rest : Bytes) (most : Int) : Bytes × Int :=
  if most < 0 then ([], 4)
  else if (100 ≤ st ∧ st ≤ 199) ∨ st = 204 ∨ st = 304 then ([], 0)
  else if c1 = true then (if c2 = true ∨ lower v1 ≠ chN then ([], 190) else chunked rest most)
  else if c2 = true then (match bodyLen v2 with
    | none => ([], 190)
    | some n => if most < n then ([], 142) else if rest.length < n then ([], 191) else (rest.take n, 0))
  else if most < rest.length then ([], 142) else (rest, 0)
theorem bodyRead_eq (st : Int) (fs : List (Bytes × Bytes)) (rest : Bytes) (most : Int) : bodyRead st fs rest most = rdOf st (decide (0 < ((hdrVals fs teN).length : Int))) (Lib.join (hdrVals fs teN) [44, 32]) (decide (0 < ((hdrVals fs clN).length : Int))) (Lib.join (hdrVals fs clN) [44, 32]) rest most := by
  unfold bodyRead rdOf
  generalize hdrVals fs teN = A
  generalize hdrVals fs clN = B
  have h : ∀ (x : Bytes) (l : List Bytes), decide (0 < ((x :: l).length : Int)) = true := fun x l => decide_eq_true (by simp)
  have h0 : decide (0 < (([] : List Bytes).length : Int)) = false := rfl
  cases A <;> cases B <;> simp only [h, h0, ne_eq, not_true, if_false, reduceCtorEq, not_false_eq_true, if_true, Bool.false_eq_true, true_or, false_or]
  all_goals rfl
set_option maxHeartbeats 4000000 in
theorem sc_body_Read {bs : List Res} {j : Nat} {fs : List (Bytes × Bytes)} {m : Bool} (hj : bs[j]? = some (.own (fs.flatMap fc) 31 2 fs.length m)) (hn : fs.length ≤ 1000000) (hl : ∀ f ∈ fs, f.1.length ≤ 9223372036854775807) (a st : Int) (rest : Bytes) (most : Int) (hr : rest.length ≤ 4000000) (hm1 : -9223372036854775808 ≤ most) (hm2 : most ≤ 9223372036854775807)
    (hte : (Lib.join (hdrVals fs teN) [44, 32]).length ≤ 1000000) (hcl : (Lib.join (hdrVals fs clN) [44, 32]).length ≤ 1000000) :
    SC Tryz.V 31 [.agg [.int .i64 a, .int .i64 st, .o j fs.length], .str rest, .int .i64 most] bs (fun r b => r = .tup [.str (bodyRead st fs rest most).1, .int .i64 (bodyRead st fs rest most).2] ∧ Kp bs b) := by
  have hjl : j < bs.length := (List.getElem?_eq_some_iff.1 hj).1
  have hj2 := fun X => at_old hj [X]
  have g1 := fun X => sc_forget (by simp [flat, flat.flatL]) (sc_head_Get (bs := bs ++ [X]) (hj2 X) hn hl teN (by decide) a st _ rfl hte _ rfl)
  have g2 := fun X => sc_forget (by simp [flat, flat.flatL]) (sc_head_Get (bs := bs ++ [X]) (hj2 X) hn hl clN (by decide) a st _ rfl hcl _ rfl)
  have p1 := p_Lower (Lib.join (hdrVals fs teN) [44, 32]) (by omega)
  have p2 : PC Tryz.V 55 [.str rest, .int .i64 most] (.tup [.str (chunked rest most).1, .int .i64 (chunked rest most).2]) :=
    ⟨Tryz.call55, by simp [flat, flat.flatL], by simp [flat, flat.flatL], fun w _ => (body_Chunked rest most w hr hm1 hm2).mono fun _ _ ⟨h, k⟩ => ⟨by rw [h]; simp [conc, concL], k⟩⟩
  have p3 := p_body_lengthG (Lib.join (hdrVals fs clN) [44, 32]) hcl
  rw [bodyRead_eq]
  generalize decide (0 < ((hdrVals fs teN).length : Int)) = c1 at g1
  generalize decide (0 < ((hdrVals fs clN).length : Int)) = c2 at g2
  generalize Lib.join (hdrVals fs teN) [44, 32] = v1 at g1 p1
  generalize Lib.join (hdrVals fs clN) [44, 32] = v2 at g2 p3
  refine sc_of 3000 Tryz.func31 rfl Tryz.ntmps31 Tryz.results31 Tryz.call31 (by simp) (fun β β' hb => concL_within bs.length _ (by simp [within, within.withinL, hjl]) β β' hb) ?_
  unfold teN at g1
  unfold clN at g2
  simp only [lawG, ↓Xn, ↓Xo, ↓Xg, ↓Xd, ↓Xe, ↓Xf, Tryz.VΓ, Tryz.Γs, Xp, Xi, Nat.reduceAdd, Nat.reduceSub, Nat.reduceLT, Nat.reduceLeDiff, reduceIte, reduceCtorEq, Nat.reduceEqDiff, implies_true, forall_const, lawV, lawB, beq_self_eq_true, bne_self_eq_false, Int.reduceBEq, Int.reduceBNe, Int.reduceLT, Int.reduceLE]
  refine ⟨fun q => ⟨?_, (Kp.refl _).app _⟩, fun q => ?_⟩
  · unfold rdOf; rw [if_pos (of_decide_eq_true q)]
  have q := of_decide_eq_false q
  refine callV_sc (g1 _) ?_
  rintro r b ⟨rfl, rfl⟩
  simp only [lawG, ↓Xn, ↓Xo, ↓Xg, ↓Xd, ↓Xe, ↓Xf, Tryz.VΓ, Tryz.Γs, Xp, Xi, Nat.reduceAdd, Nat.reduceSub, Nat.reduceLT, Nat.reduceLeDiff, reduceIte, reduceCtorEq, Nat.reduceEqDiff, implies_true, forall_const, lawV, lawB, beq_self_eq_true, bne_self_eq_false, Int.reduceBEq, Int.reduceBNe, Int.reduceLT, Int.reduceLE]
  refine callV_sc (g2 _) ?_
  rintro r b ⟨rfl, rfl⟩
  have hK := (Kp.refl bs).app [.cells [.int .i64 a, .int .i64 st, .o j fs.length] 37 true]
  by_cases hnb : (100 ≤ st ∧ st ≤ 199) ∨ st = 204 ∨ st = 304
  · have e : rdOf st c1 v1 c2 v2 rest most = ([], 0) := by unfold rdOf; rw [if_neg q, if_pos hnb]
    rw [e]
    cases h1 : decide (100 ≤ st) <;> cases h2 : decide (st ≤ 199) <;> cases h3 : (st == 204) <;> cases h4 : (st == 304)
    all_goals first
    | (exfalso; simp only [decide_eq_false_iff_not, decide_eq_true_eq, beq_eq_false_iff_ne, beq_iff_eq, ne_eq] at h1 h2 h3 h4; omega)
    | (simp only [lawG, ↓Xn, ↓Xo, ↓Xg, ↓Xd, ↓Xe, ↓Xf, Tryz.VΓ, Tryz.Γs, Xp, Xi, Nat.reduceAdd, Nat.reduceSub, Nat.reduceLT, Nat.reduceLeDiff, reduceIte, reduceCtorEq, Nat.reduceEqDiff, implies_true, forall_const, lawV, lawB, beq_self_eq_true, bne_self_eq_false, Int.reduceBEq, Int.reduceBNe, Int.reduceLT, Int.reduceLE, h1, h2, h3, h4]; exact hK)
  · have h3 : (st == 204) = false := by rw [beq_eq_false_iff_ne]; omega
    have h4 : (st == 304) = false := by rw [beq_eq_false_iff_ne]; omega
    have er : rdOf st c1 v1 c2 v2 rest most = if c1 = true then (if c2 = true ∨ lower v1 ≠ chN then ([], 190) else chunked rest most)
      else if c2 = true then (match bodyLen v2 with
        | none => ([], 190)
        | some n => if most < n then ([], 142) else if rest.length < n then ([], 191) else (rest.take n, 0))
      else if most < rest.length then ([], 142) else (rest, 0) := by unfold rdOf; rw [if_neg q, if_neg hnb]
    rw [er]
    cases c1 <;> cases c2
    · rw [if_neg (by decide), if_neg (by decide)]
      cases h1 : decide (100 ≤ st) <;> cases h2 : decide (st ≤ 199)
      all_goals first
      | (exfalso; simp only [decide_eq_true_eq] at h1 h2; omega)
      | (simp only [lawG, ↓Xn, ↓Xo, ↓Xg, ↓Xd, ↓Xe, ↓Xf, Tryz.VΓ, Tryz.Γs, Xp, Xi, Nat.reduceAdd, Nat.reduceSub, Nat.reduceLT, Nat.reduceLeDiff, reduceIte, reduceCtorEq, Nat.reduceEqDiff, implies_true, forall_const, lawV, lawB, beq_self_eq_true, bne_self_eq_false, Int.reduceBEq, Int.reduceBNe, Int.reduceLT, Int.reduceLE, h1, h2, h3, h4]; exact ⟨fun h => ⟨by rw [if_pos (of_decide_eq_true h)], hK⟩, fun h => ⟨by rw [if_neg (of_decide_eq_false h)], hK⟩⟩)
    · rw [if_neg (by decide), if_pos rfl]
      have w1 : IntKind.u64.wrap most = most := by simp [IntKind.wrap, IntKind.bits, IntKind.signed]; omega
      have w2 : IntKind.u64.wrap (rest.length : Int) = rest.length := by simp [IntKind.wrap, IntKind.bits, IntKind.signed]; omega
      cases hb : bodyLen v2 with
      | none =>
        rw [hb] at p3
        unfold lenSV at p3
        cases h1 : decide (100 ≤ st) <;> cases h2 : decide (st ≤ 199)
        all_goals first
        | (exfalso; simp only [decide_eq_true_eq] at h1 h2; omega)
        | (simp only [lawG, ↓Xn, ↓Xo, ↓Xg, ↓Xd, ↓Xe, ↓Xf, Tryz.VΓ, Tryz.Γs, Xp, Xi, Nat.reduceAdd, Nat.reduceSub, Nat.reduceLT, Nat.reduceLeDiff, reduceIte, reduceCtorEq, Nat.reduceEqDiff, implies_true, forall_const, lawV, lawB, beq_self_eq_true, bne_self_eq_false, Int.reduceBEq, Int.reduceBNe, Int.reduceLT, Int.reduceLE, h1, h2, h3, h4]; refine callV_pc p3 ?_; simp only [lawG, ↓Xn, ↓Xo, ↓Xg, ↓Xd, ↓Xe, ↓Xf, Tryz.VΓ, Tryz.Γs, Xp, Xi, Nat.reduceAdd, Nat.reduceSub, Nat.reduceLT, Nat.reduceLeDiff, reduceIte, reduceCtorEq, Nat.reduceEqDiff, implies_true, forall_const, lawV, lawB, beq_self_eq_true, bne_self_eq_false, Int.reduceBEq, Int.reduceBNe, Int.reduceLT, Int.reduceLE, h1, h2, h3, h4]; exact hK)
      | some n =>
        rw [hb] at p3
        unfold lenSV at p3
        cases h1 : decide (100 ≤ st) <;> cases h2 : decide (st ≤ 199)
        all_goals first
        | (exfalso; simp only [decide_eq_true_eq] at h1 h2; omega)
        | (simp only [lawG, ↓Xn, ↓Xo, ↓Xg, ↓Xd, ↓Xe, ↓Xf, Tryz.VΓ, Tryz.Γs, Xp, Xi, Nat.reduceAdd, Nat.reduceSub, Nat.reduceLT, Nat.reduceLeDiff, reduceIte, reduceCtorEq, Nat.reduceEqDiff, implies_true, forall_const, lawV, lawB, beq_self_eq_true, bne_self_eq_false, Int.reduceBEq, Int.reduceBNe, Int.reduceLT, Int.reduceLE, h1, h2, h3, h4]; refine callV_pc p3 ?_; simp only [lawG, ↓Xn, ↓Xo, ↓Xg, ↓Xd, ↓Xe, ↓Xf, Tryz.VΓ, Tryz.Γs, Xp, Xi, Nat.reduceAdd, Nat.reduceSub, Nat.reduceLT, Nat.reduceLeDiff, reduceIte, reduceCtorEq, Nat.reduceEqDiff, implies_true, forall_const, lawV, lawB, beq_self_eq_true, bne_self_eq_false, Int.reduceBEq, Int.reduceBNe, Int.reduceLT, Int.reduceLE, h1, h2, h3, h4, w1, w2]; exact ⟨fun h => ⟨by rw [if_pos (of_decide_eq_true h)], hK⟩, fun h => ⟨fun k => ⟨by rw [if_neg (of_decide_eq_false h), if_pos (by have := of_decide_eq_true k; omega)], hK⟩, fun k => ⟨⟨by omega, by have := of_decide_eq_false k; omega⟩, by rw [if_neg (of_decide_eq_false h), if_neg (by have := of_decide_eq_false k; omega)], hK⟩⟩⟩)
    · rw [if_pos rfl]
      cases h1 : decide (100 ≤ st) <;> cases h2 : decide (st ≤ 199)
      all_goals first
      | (exfalso; simp only [decide_eq_true_eq] at h1 h2; omega)
      | (simp only [lawG, ↓Xn, ↓Xo, ↓Xg, ↓Xd, ↓Xe, ↓Xf, Tryz.VΓ, Tryz.Γs, Xp, Xi, Nat.reduceAdd, Nat.reduceSub, Nat.reduceLT, Nat.reduceLeDiff, reduceIte, reduceCtorEq, Nat.reduceEqDiff, implies_true, forall_const, lawV, lawB, beq_self_eq_true, bne_self_eq_false, Int.reduceBEq, Int.reduceBNe, Int.reduceLT, Int.reduceLE, h1, h2, h3, h4]; refine callV_pc p1 ?_; simp only [lawG, ↓Xn, ↓Xo, ↓Xg, ↓Xd, ↓Xe, ↓Xf, Tryz.VΓ, Tryz.Γs, Xp, Xi, Nat.reduceAdd, Nat.reduceSub, Nat.reduceLT, Nat.reduceLeDiff, reduceIte, reduceCtorEq, Nat.reduceEqDiff, implies_true, forall_const, lawV, lawB, beq_self_eq_true, bne_self_eq_false, Int.reduceBEq, Int.reduceBNe, Int.reduceLT, Int.reduceLE, h1, h2, h3, h4]; refine ⟨fun h => ⟨by rw [if_pos (Or.inr (by simpa [chN] using h))], hK⟩, fun h => ?_⟩; rw [if_neg (by simpa [chN] using h)]; refine callV_pc p2 ?_; simp only [lawG, ↓Xn, ↓Xo, ↓Xg, ↓Xd, ↓Xe, ↓Xf, Tryz.VΓ, Tryz.Γs, Xp, Xi, Nat.reduceAdd, Nat.reduceSub, Nat.reduceLT, Nat.reduceLeDiff, reduceIte, reduceCtorEq, Nat.reduceEqDiff, implies_true, forall_const, lawV, lawB, beq_self_eq_true, bne_self_eq_false, Int.reduceBEq, Int.reduceBNe, Int.reduceLT, Int.reduceLE, h1, h2, h3, h4]; exact hK)
    · rw [if_pos rfl, if_pos (Or.inl rfl)]
      cases h1 : decide (100 ≤ st) <;> cases h2 : decide (st ≤ 199)
      all_goals first
      | (exfalso; simp only [decide_eq_true_eq] at h1 h2; omega)
      | (simp only [lawG, ↓Xn, ↓Xo, ↓Xg, ↓Xd, ↓Xe, ↓Xf, Tryz.VΓ, Tryz.Γs, Xp, Xi, Nat.reduceAdd, Nat.reduceSub, Nat.reduceLT, Nat.reduceLeDiff, reduceIte, reduceCtorEq, Nat.reduceEqDiff, implies_true, forall_const, lawV, lawB, beq_self_eq_true, bne_self_eq_false, Int.reduceBEq, Int.reduceBNe, Int.reduceLT, Int.reduceLE, h1, h2, h3, h4]; exact hK)
end Go.Proofs.YtfmafmgbfamaiaaGreatDoor
/- The walks of package percent, and of the classes of bytes that it uses. -/
set_option linter.all false
set_option maxRecDepth 20000
namespace Go.Proofs.YtfmafmgbfamaiaaGreatDoor
open Go Vc Go.RowKit Wf
theorem p_IsAlpha (c : UInt8) : PC Tryz.V 95 [.int .u8 c.toNat] (.bool (isAlpha c)) :=
  ⟨Tryz.call95, by simp [flat, flat.flatL], by simp [flat, flat.flatL], fun w _ => (ascii_IsAlpha c w).mono fun _ _ ⟨h, k⟩ => ⟨h, below_same k⟩⟩
theorem p_IsDigit (c : UInt8) : PC Tryz.V 96 [.int .u8 c.toNat] (.bool (isDigit c)) :=
  ⟨Tryz.call96, by simp [flat, flat.flatL], by simp [flat, flat.flatL], fun w _ => (ascii_IsDigit c w).mono fun _ _ ⟨h, k⟩ => ⟨h, below_same k⟩⟩
theorem p_IsHex (c : UInt8) : PC Tryz.V 101 [.int .u8 c.toNat] (.bool (isHex c)) :=
  ⟨Tryz.call101, by simp [flat, flat.flatL], by simp [flat, flat.flatL], fun w _ => (ascii_IsHex c w).mono fun _ _ ⟨h, k⟩ => ⟨h, below_same k⟩⟩
theorem idx_geq (set : Bytes) (c : UInt8) : decide (0 ≤ Lib.indexByte set c) = set.contains c := by
  rw [indexByte_pre]
  by_cases h : pre (· == c) set < set.length
  · rw [if_pos h]
    have := pre_at (p := (· == c)) h
    simp only [beq_iff_eq] at this
    simp only [Int.natCast_nonneg, decide_true]
    symm
    rw [List.contains_iff_mem, ← this]
    exact List.getElem_mem h
  · rw [if_neg h]
    simp only [show ¬ (0 : Int) ≤ -1 by omega, decide_false]
    symm
    rw [← Bool.not_eq_true, List.contains_iff_mem]
    intro hm
    obtain ⟨k, hk, rfl⟩ := List.getElem_of_mem hm
    have h2 := pre_le (· == set[k]) set
    have := pre_get (p := (· == set[k])) (l := set) (k := k) (by omega) hk
    simp at this
theorem p_among (c : UInt8) (set : Bytes) : PC Tryz.V 104 [.int .u8 c.toNat, .str set] (.bool (set.contains c)) := by
  refine pc_of 3000 Tryz.func104 rfl Tryz.ntmps104 Tryz.results104 Tryz.call104 (by simp) (by simp [flat, flat.flatL]) (by simp [flat, flat.flatL]) ?_
  simp only [lawG, ↓Xn, ↓Xo, ↓Xg, ↓Xd, ↓Xe, ↓Xf, Tryz.VΓ, Tryz.Γs, Xp, Xi, Nat.reduceAdd, Nat.reduceSub, Nat.reduceLT, Nat.reduceLeDiff, reduceIte, reduceCtorEq, Nat.reduceEqDiff, implies_true, forall_const, lawV]
  (refine callV_pc (p_IndexByte set c) ?_; simp only [lawG, ↓Xn, ↓Xo, ↓Xg, ↓Xd, ↓Xe, ↓Xf, Tryz.VΓ, Tryz.Γs, Xp, Xi, Nat.reduceAdd, Nat.reduceSub, Nat.reduceLT, Nat.reduceLeDiff, reduceIte, reduceCtorEq, Nat.reduceEqDiff, implies_true, forall_const, lawV])
  rw [idx_geq]
theorem p_alnum (c : UInt8) : PC Tryz.V 103 [.int .u8 c.toNat] (.bool (isAlpha c || isDigit c)) := by
  refine pc_of 3000 Tryz.func103 rfl Tryz.ntmps103 Tryz.results103 Tryz.call103 (by simp) (by simp [flat, flat.flatL]) (by simp [flat, flat.flatL]) ?_
  simp only [lawG, ↓Xn, ↓Xo, ↓Xg, ↓Xd, ↓Xe, ↓Xf, Tryz.VΓ, Tryz.Γs, Xp, Xi, Nat.reduceAdd, Nat.reduceSub, Nat.reduceLT, Nat.reduceLeDiff, reduceIte, reduceCtorEq, Nat.reduceEqDiff, implies_true, forall_const, lawV]
  (refine callV_pc (p_IsAlpha c) ?_; simp only [lawG, ↓Xn, ↓Xo, ↓Xg, ↓Xd, ↓Xe, ↓Xf, Tryz.VΓ, Tryz.Γs, Xp, Xi, Nat.reduceAdd, Nat.reduceSub, Nat.reduceLT, Nat.reduceLeDiff, reduceIte, reduceCtorEq, Nat.reduceEqDiff, implies_true, forall_const, lawV])
  refine ⟨fun h => ?_, fun h => by rw [h]; rfl⟩
  (refine callV_pc (p_IsDigit c) ?_; simp only [lawG, ↓Xn, ↓Xo, ↓Xg, ↓Xd, ↓Xe, ↓Xf, Tryz.VΓ, Tryz.Γs, Xp, Xi, Nat.reduceAdd, Nat.reduceSub, Nat.reduceLT, Nat.reduceLeDiff, reduceIte, reduceCtorEq, Nat.reduceEqDiff, implies_true, forall_const, lawV])
  rw [h]; rfl
theorem p_IsUnreserved (c : UInt8) : PC Tryz.V 67 [.int .u8 c.toNat] (.bool (unres c)) := by
  refine pc_of 3000 Tryz.func67 rfl Tryz.ntmps67 Tryz.results67 Tryz.call67 (by simp) (by simp [flat, flat.flatL]) (by simp [flat, flat.flatL]) ?_
  simp only [lawG, ↓Xn, ↓Xo, ↓Xg, ↓Xd, ↓Xe, ↓Xf, Tryz.VΓ, Tryz.Γs, Xp, Xi, Nat.reduceAdd, Nat.reduceSub, Nat.reduceLT, Nat.reduceLeDiff, reduceIte, reduceCtorEq, Nat.reduceEqDiff, implies_true, forall_const, lawV]
  (refine callV_pc (p_alnum c) ?_; simp only [lawG, ↓Xn, ↓Xo, ↓Xg, ↓Xd, ↓Xe, ↓Xf, Tryz.VΓ, Tryz.Γs, Xp, Xi, Nat.reduceAdd, Nat.reduceSub, Nat.reduceLT, Nat.reduceLeDiff, reduceIte, reduceCtorEq, Nat.reduceEqDiff, implies_true, forall_const, lawV])
  refine ⟨fun h => ?_, fun h => by unfold unres; rw [h]; rfl⟩
  (refine callV_pc (p_among c [45, 46, 95, 126]) ?_; simp only [lawG, ↓Xn, ↓Xo, ↓Xg, ↓Xd, ↓Xe, ↓Xf, Tryz.VΓ, Tryz.Γs, Xp, Xi, Nat.reduceAdd, Nat.reduceSub, Nat.reduceLT, Nat.reduceLeDiff, reduceIte, reduceCtorEq, Nat.reduceEqDiff, implies_true, forall_const, lawV])
  unfold unres; rw [h]; rfl
theorem dig_low (c : UInt8) (h : isDigit c = true) : IntKind.u8.wrap ((c.toNat : Int) - 48) = hexVal c := by
  have := all256 (p := fun c => !isDigit c || decide (IntKind.u8.wrap ((c.toNat : Int) - 48) = hexVal c)) (by decide +kernel) c
  simpa [h] using this
theorem dig_high (c : UInt8) (h : isHex c = true) (h2 : isDigit c = false) : IntKind.u8.wrap (IntKind.u8.wrap (bitI .or .u8 (c.toNat : Int) 32 - 97) + 10) = hexVal c := by
  have := all256 (p := fun c => !isHex c || isDigit c || decide (IntKind.u8.wrap (IntKind.u8.wrap (bitI .or .u8 (c.toNat : Int) 32 - 97) + 10) = hexVal c)) (by decide +kernel) c
  simpa [h, h2] using this
theorem p_digit (c : UInt8) (hc : isHex c = true) : PC Tryz.V 102 [.int .u8 c.toNat] (.int .u8 (hexVal c)) := by
  refine pc_of 3000 Tryz.func102 rfl Tryz.ntmps102 Tryz.results102 Tryz.call102 (by simp) (by simp [flat, flat.flatL]) (by simp [flat, flat.flatL]) ?_
  simp only [lawG, ↓Xn, ↓Xo, ↓Xg, ↓Xd, ↓Xe, ↓Xf, Tryz.VΓ, Tryz.Γs, Xp, Xi, Nat.reduceAdd, Nat.reduceSub, Nat.reduceLT, Nat.reduceLeDiff, reduceIte, reduceCtorEq, Nat.reduceEqDiff, implies_true, forall_const, lawV]
  (refine callV_pc (p_IsDigit c) ?_; simp only [lawG, ↓Xn, ↓Xo, ↓Xg, ↓Xd, ↓Xe, ↓Xf, Tryz.VΓ, Tryz.Γs, Xp, Xi, Nat.reduceAdd, Nat.reduceSub, Nat.reduceLT, Nat.reduceLeDiff, reduceIte, reduceCtorEq, Nat.reduceEqDiff, implies_true, forall_const, lawV])
  refine ⟨fun h => ?_, fun h => ?_⟩
  · rw [dig_low c h]
  · rw [dig_high c hc h]
theorem unhex_bits (a b : UInt8) (ha : isHex a = true) (hb : isHex b = true) : bitI .or .u8 (shI .shl .u8 (hexVal a) 4) (hexVal b) = ((unhex a b).toNat : Int) := by
  have h1 := hexVal_le ha
  have h2 := hexVal_le hb
  have : ∀ x, x < 16 → ∀ y, y < 16 → bitI .or .u8 (shI .shl .u8 (x : Nat) 4) (y : Nat) = (((x * 16 + y).toUInt8).toNat : Int) := by decide +kernel
  exact this _ (by omega) _ (by omega)
def escAt (s : Bytes) (i : Nat) : Option UInt8 := (hexPair (s.drop (i + 1))).map fun x => unhex x.1 x.2.1
theorem hexPair_drop (s : Bytes) (i : Nat) : hexPair (s.drop (i + 1)) = if i + 2 < s.length then (if isHex (s.getD (i + 1) 0) && isHex (s.getD (i + 2) 0) then some (s.getD (i + 1) 0, s.getD (i + 2) 0, s.drop (i + 3)) else none) else none := by
  by_cases h : i + 2 < s.length
  · rw [if_pos h, List.drop_eq_getElem_cons (by omega : i + 1 < s.length), List.drop_eq_getElem_cons (by omega : i + 1 + 1 < s.length)]
    simp only [hexPair, List.getD_eq_getElem?_getD]
    simp [show i + 1 < s.length by omega, h]
  · rw [if_neg h]
    have hl : (s.drop (i + 1)).length ≤ 1 := by simp; omega
    match hm : s.drop (i + 1), hl with
    | [], _ => rfl
    | [_], _ => rfl
set_option maxHeartbeats 1000000 in
set_option maxRecDepth 20000 in
theorem p_escaped (s : Bytes) (i : Nat) (hi : i < s.length) (hs : s.length ≤ 9223372036854775807) : PC Tryz.V 66 [.str s, .int .i64 i] (.tup [.int .u8 (((escAt s i).getD 0).toNat : Int), .bool (escAt s i).isSome]) := by
  refine pc_of 3000 Tryz.func66 rfl Tryz.ntmps66 Tryz.results66 Tryz.call66 (by simp) (by simp [flat, flat.flatL]) (by simp [flat, flat.flatL]) ?_
  simp only [lawG, ↓Xn, ↓Xo, ↓Xg, ↓Xd, ↓Xe, ↓Xf, Tryz.VΓ, Tryz.Γs, Xp, Xi, Nat.reduceAdd, Nat.reduceSub, Nat.reduceLT, Nat.reduceLeDiff, reduceIte, reduceCtorEq, Nat.reduceEqDiff, implies_true, forall_const, lawV]
  unfold escAt
  rw [hexPair_drop]
  refine ⟨⟨by omega, by omega⟩, fun hl => ?_, fun hl => ?_⟩
  · have hl : i + 2 < s.length := (by simp at hl; omega)
    rw [if_pos hl]
    refine ⟨⟨by omega, by omega⟩, ⟨by omega, by omega⟩, ?_⟩
    (refine callV_pc (p_IsHex _) ?_; simp only [lawG, ↓Xn, ↓Xo, ↓Xg, ↓Xd, ↓Xe, ↓Xf, Tryz.VΓ, Tryz.Γs, Xp, Xi, Nat.reduceAdd, Nat.reduceSub, Nat.reduceLT, Nat.reduceLeDiff, reduceIte, reduceCtorEq, Nat.reduceEqDiff, implies_true, forall_const, lawV])
    refine ⟨fun ha => ⟨⟨by omega, by omega⟩, ⟨by omega, by omega⟩, ?_⟩, fun ha => ?_⟩
    · have ha : isHex (s.getD (i + 1) 0) = true := by simpa using ha
      (refine callV_pc (p_IsHex _) ?_; simp only [lawG, ↓Xn, ↓Xo, ↓Xg, ↓Xd, ↓Xe, ↓Xf, Tryz.VΓ, Tryz.Γs, Xp, Xi, Nat.reduceAdd, Nat.reduceSub, Nat.reduceLT, Nat.reduceLeDiff, reduceIte, reduceCtorEq, Nat.reduceEqDiff, implies_true, forall_const, lawV])
      refine ⟨fun hb => ?_, fun hb => ⟨⟨by omega, by omega⟩, ⟨by omega, by omega⟩, ?_⟩⟩
      · have hb : isHex (s.getD (i + 2) 0) = false := by simpa using hb
        rw [ha, hb]; rfl
      · have hb : isHex (s.getD (i + 2) 0) = true := by simpa using hb
        (refine callD_pc (p_digit _ ha) ?_; simp only [lawG, ↓Xn, ↓Xo, ↓Xg, ↓Xd, ↓Xe, ↓Xf, Tryz.VΓ, Tryz.Γs, Xp, Xi, Nat.reduceAdd, Nat.reduceSub, Nat.reduceLT, Nat.reduceLeDiff, reduceIte, reduceCtorEq, Nat.reduceEqDiff, implies_true, forall_const, lawV])
        refine ⟨by omega, ⟨by omega, by omega⟩, ⟨by omega, by omega⟩, ?_⟩
        (refine callD_pc (p_digit _ hb) ?_; simp only [lawG, ↓Xn, ↓Xo, ↓Xg, ↓Xd, ↓Xe, ↓Xf, Tryz.VΓ, Tryz.Γs, Xp, Xi, Nat.reduceAdd, Nat.reduceSub, Nat.reduceLT, Nat.reduceLeDiff, reduceIte, reduceCtorEq, Nat.reduceEqDiff, implies_true, forall_const, lawV])
        refine ⟨(OkD_fast (by kernel_rfl)), ?_⟩
        rw [unhex_bits _ _ ha hb, ha, hb]; rfl
    · have ha : isHex (s.getD (i + 1) 0) = false := by simpa using ha
      rw [ha]; rfl
  · have hl : ¬ i + 2 < s.length := (by simp at hl; omega)
    rw [if_neg hl]; rfl
theorem shr4 (c : UInt8) : shI .shr .u8 (c.toNat : Int) 4 = ((c.toNat / 16 : Nat) : Int) := by
  have := all256 (p := fun c => decide (shI .shr .u8 (c.toNat : Int) 4 = ((c.toNat / 16 : Nat) : Int))) (by decide +kernel) c
  simpa using this
theorem and15 (c : UInt8) : bitI .and .u8 (c.toNat : Int) 15 = ((c.toNat % 16 : Nat) : Int) := by
  have := all256 (p := fun c => decide (bitI .and .u8 (c.toNat : Int) 15 = ((c.toNat % 16 : Nat) : Int))) (by decide +kernel) c
  simpa using this
theorem digs_at : ∀ n, n < 16 → ([48, 49, 50, 51, 52, 53, 54, 55, 56, 57, 65, 66, 67, 68, 69, 70] : Bytes).getD n 0 = hexU n := by decide
theorem esc_cells (c : UInt8) : (esc c).map u8S = [.int .u8 37, .int .u8 ((hexU (c.toNat / 16)).toNat : Int), .int .u8 ((hexU (c.toNat % 16)).toNat : Int)] := rfl
structure TxAt (bs : List Res) (i L : Nat) (x : SV) (l : Bytes) : Prop where
  box : bs[i]? = some (.cells [x] 116 true)
  sl : Sl 5 1 L x bs (l.map u8S) l.length
  lt : i < L
theorem TxAt.ne {bs : List Res} {i L j n : Nat} {l : Bytes} (h : TxAt bs i L (.o j n) l) : i ≠ j := by
  rcases h.sl with ⟨h1, -⟩ | ⟨j', h1, h2, -⟩
  · cases h1
  · cases h1; have := h.lt; omega
set_option maxRecDepth 20000 in
set_option maxHeartbeats 1000000 in
theorem sc_escape {bs : List Res} {i L : Nat} {x : SV} {l : Bytes} (h : TxAt bs i L x l) (hL : L ≤ bs.length) (hl : l.length ≤ 1000000) (c : UInt8) :
    SC Tryz.V 68 [.p i 0, .int .u8 c.toNat] bs (fun r b => r = .tup [] ∧ ∃ x', TxAt b i L x' (l ++ esc c) ∧ bs.length ≤ b.length ∧ ∀ k, k < L → k ≠ i → b[k]? = bs[k]?) := by
  have hil : i < bs.length := (List.getElem?_eq_some_iff.1 h.box).1
  have hc := c.toNat_lt
  have d1 := digs_at (c.toNat / 16) (by omega)
  have d2 := digs_at (c.toNat % 16) (by omega)
  have s1 := shr4 c
  have s2 := and15 c
  have hbox := h.box
  have ec := esc_cells c
  refine sc_of 3000 Tryz.func68 rfl Tryz.ntmps68 Tryz.results68 Tryz.call68 (by simp) (fun β β' hb => concL_within bs.length _ (by simp [within, within.withinL, hil]) β β' hb) ?_
  rcases h.sl with ⟨rfl, hc0, hn0⟩ | ⟨j, rfl, hLj, hj⟩
  · obtain rfl : l = [] := by simpa using hc0
    have ho : ∀ X, (bs ++ [X])[i]? = some (.cells [.nils] 116 true) := fun X => at_old hbox [X]
    have ho2 : ∀ X Y, (bs ++ [X] ++ [Y])[i]? = some (.cells [.nils] 116 true) := fun X Y => at_old (ho X) [Y]
    simp only [lawG, ↓Xn, ↓Xo, ↓Xg, ↓Xd, ↓Xe, ↓Xf, Tryz.VΓ, Tryz.Γs, Xp, Xi, Nat.reduceAdd, Nat.reduceSub, Nat.reduceLT, Nat.reduceLeDiff, reduceIte, reduceCtorEq, Nat.reduceEqDiff, implies_true, forall_const, lawV, hbox, s1, s2, Int.toNat_natCast, d1, d2, at_new, ho, ho2]
    rw [← ec]
    have n1 : ¬ bs.length = i := by omega
    have n2 : ∀ X, ¬ (bs ++ [X]).length = i := fun X => by simp; omega
    refine ⟨by omega, ⟨by omega, by omega⟩, ⟨by omega, by omega⟩, by omega, ⟨by unfold maxLen; omega, by omega⟩, ?_, _, ⟨List.getElem?_set_self (by simp; omega), .inr ⟨_, rfl, by simp; omega, ?_⟩, h.lt⟩, by simp, fun k hk hki => ?_⟩
    · exact (by
      refine OkD_ren (fun n => if n = i then 0 else 1) ?_
      simp only [List.map_cons, List.map_nil, renRk, renT, reduceIte, n1, n2]
      exact OkD_fast (by kernel_rfl))
    · rw [List.getElem?_set_ne (fun e => n2 _ e.symm), at_new]; rfl
    · rw [List.getElem?_set_ne (fun e => hki e.symm), List.getElem?_append_left (by simp; omega), List.getElem?_append_left (by omega)]
  · have hij := h.ne
    have hjl : j < bs.length := (List.getElem?_eq_some_iff.1 hj).1
    have ho : ∀ X, (bs ++ [X])[j]? = some (.own (l.map u8S) 5 1 l.length true) := fun X => at_old hj [X]
    have ho2 : ∀ X Y, ((bs ++ [X]).set j .gone ++ [Y])[i]? = some (.cells [.o j l.length] 116 true) := fun X Y => by
      rw [List.getElem?_append_left (by simp; omega), List.getElem?_set_ne hij.symm]; exact at_old hbox [X]
    simp only [lawG, ↓Xn, ↓Xo, ↓Xg, ↓Xd, ↓Xe, ↓Xf, Tryz.VΓ, Tryz.Γs, Xp, Xi, Nat.reduceAdd, Nat.reduceSub, Nat.reduceLT, Nat.reduceLeDiff, reduceIte, reduceCtorEq, Nat.reduceEqDiff, implies_true, forall_const, lawV, hbox, s1, s2, Int.toNat_natCast, d1, d2, at_new, ho, ho2]
    rw [← ec, ← List.map_append]
    have n1 : ¬ bs.length = i := by omega
    have n2 : ∀ X, ¬ (bs ++ [X]).length = i := fun X => by simp; omega
    have n3 : ¬ j = i := fun e => hij e.symm
    refine ⟨by omega, ⟨by omega, by omega⟩, ⟨by omega, by omega⟩, by omega, ⟨by unfold maxLen; omega, by omega⟩, ?_, _, ⟨List.getElem?_set_self (by simp; omega), .inr ⟨(bs ++ [Res.own ((esc c).map u8S) 5 1 3 true]).length, by simp [esc], by simp; omega, ?_⟩, h.lt⟩, by simp; omega, fun k hk hki => ?_⟩
    · exact (by
      refine OkD_ren (fun n => if n = i then 0 else 1) ?_
      simp only [List.map_cons, List.map_nil, renRk, renT, reduceIte, n1, n2, n3]
      exact OkD_fast (by kernel_rfl))
    · rw [List.getElem?_set_ne (fun e => n2 _ e.symm), List.getElem?_append_right (by simp)]; simp [esc]
    · rw [List.getElem?_set_ne (fun e => hki e.symm), List.getElem?_append_left (by simp; omega), List.getElem?_set_ne (by omega), List.getElem?_append_left (by omega)]
theorem TxAt.app {bs : List Res} {i L : Nat} {x : SV} {l : Bytes} (h : TxAt bs i L x l) (X : List Res) : TxAt (bs ++ X) i L x l := ⟨at_old h.box X, h.sl.app X, h.lt⟩
theorem txt_one {bs : List Res} {i L : Nat} {x : SV} {l : Bytes} (h : TxAt bs i L x l) (hL : L ≤ bs.length) (c : UInt8) (hx : x = .nils) : TxAt ((bs ++ [Res.own [u8S c] 5 1 1 true] ++ [Res.own [u8S c] 5 1 1 true]).set i (Res.cells [.o (bs ++ [Res.own [u8S c] 5 1 1 true]).length 1] 116 true)) i L (.o (bs ++ [Res.own [u8S c] 5 1 1 true]).length 1) (l ++ [c]) := by
  have hil : i < bs.length := (List.getElem?_eq_some_iff.1 h.box).1
  have hl : l = [] := by
    rcases h.sl with ⟨-, h1, -⟩ | ⟨j, h1, -, -⟩
    · simpa using h1
    · rw [hx] at h1; cases h1
  subst hl
  have n2 : ∀ X, ¬ (bs ++ [X]).length = i := fun X => by simp; omega
  refine ⟨List.getElem?_set_self (by simp; omega), .inr ⟨_, rfl, by simp; omega, ?_⟩, h.lt⟩
  rw [List.getElem?_set_ne (fun e => n2 _ e.symm), at_new]
  rfl
theorem txt_more {bs : List Res} {i L j : Nat} {l : Bytes} (h : TxAt bs i L (.o j l.length) l) (hL : L ≤ bs.length) (c : UInt8) (hLj : L ≤ j) : TxAt (((bs ++ [Res.own [u8S c] 5 1 1 true]).set j .gone ++ [Res.own (l.map u8S ++ [u8S c]) 5 1 (l.length + 1) true]).set i (Res.cells [.o (bs ++ [Res.own [u8S c] 5 1 1 true]).length (l.length + 1)] 116 true)) i L (.o (bs ++ [Res.own [u8S c] 5 1 1 true]).length (l.length + 1)) (l ++ [c]) := by
  have hil : i < bs.length := (List.getElem?_eq_some_iff.1 h.box).1
  refine ⟨List.getElem?_set_self (by simp; omega), .inr ⟨(bs ++ [Res.own [u8S c] 5 1 1 true]).length, by simp, by simp; omega, ?_⟩, h.lt⟩
  rw [List.getElem?_set_ne (by simp; omega), List.getElem?_append_right (by simp)]
  simp
def NoI (also s : Bytes) (σ : St) : Prop := ∃ (i : Nat) (x : SV) (d : Bytes), lk 0 σ.t = some (.str s) ∧ lk 1 σ.t = some (.str also) ∧ lk 6 σ.t = some (.p 0 0) ∧ lk 7 σ.t = some (.int .i64 i) ∧ i ≤ s.length ∧ d.length ≤ 3 * i ∧ 1 ≤ σ.b.length ∧ TxAt σ.b 0 1 x d ∧ comb d (normU also (units (s.drop i))) = normU also (units s)
def NoM (s : Bytes) (σ : St) : Nat := match lk 7 σ.t with
  | some (.int _ k) => s.length - k.toNat
  | _ => 0
theorem NoM_eq {s : Bytes} {σ : St} {k : Nat} (h : lk 7 σ.t = some (.int .i64 k)) : NoM s σ = s.length - k := by simp [NoM, h]
theorem no_mk {also s : Bytes} {t : List (Nat × SV)} {b : List Res} {i i' : Nat} {x : SV} {d : Bytes} (h0 : lk 0 t = some (.str s)) (h1 : lk 1 t = some (.str also)) (h6 : lk 6 t = some (.p 0 0)) (h7 : lk 7 t = some (.int .i64 i')) (h : i' ≤ s.length ∧ d.length ≤ 3 * i') (hb : 1 ≤ b.length) (ht : TxAt b 0 1 x d)
    (hn : comb d (normU also (units (s.drop i'))) = normU also (units s)) (hlt : i < i') : NoI also s ⟨t, b⟩ ∧ NoM s ⟨t, b⟩ < s.length - i :=
  ⟨⟨i', x, d, h0, h1, h6, h7, h.1, h.2, hb, ht, hn⟩, by rw [NoM_eq h7]; omega⟩
theorem units_step {s : Bytes} {i : Nat} (hi : i < s.length) : units (s.drop i) = if s[i] = 37 then (match escAt s i with
    | some _ => (match hexPair (s.drop (i + 1)) with
      | some (a, b, _) => .hex a b :: units (s.drop (i + 3))
      | none => [.bad])
    | none => [.bad]) else .lit s[i] :: units (s.drop (i + 1)) := by
  rw [List.drop_eq_getElem_cons hi]
  by_cases h : s[i] = 37
  · rw [if_pos h, h]
    unfold escAt
    cases hp : hexPair (s.drop (i + 1)) with
    | none => simp only [Option.map_none]; exact units_bad hp
    | some x =>
      obtain ⟨a, b, r⟩ := x
      obtain ⟨h1, h2, h3⟩ := hexPair_some hp
      simp only [Option.map_some]
      rw [h1, units_hex h2 h3]
      congr 2
      have := congrArg (List.drop 2) h1
      rw [List.drop_drop] at this
      exact this.symm
  · rw [if_neg h, units_lit h]
set_option maxRecDepth 20000 in
set_option maxHeartbeats 4000000 in
theorem p_Normalize (s also : Bytes) (ha : also.length ≤ 1000) : PC Tryz.V 39 [.str s, .str also] (.tup [.str (pctNorm also s).1, .int .i64 (pctNorm also s).2]) := by
  refine pc_of 3000 Tryz.func39 rfl Tryz.ntmps39 Tryz.results39 Tryz.call39 (by simp) (by simp [flat, flat.flatL]) (by simp [flat, flat.flatL]) ?_
  simp only [lawG, ↓Xn, ↓Xo, ↓Xg, ↓Xd, ↓Xe, ↓Xf, Tryz.VΓ, Tryz.Γs, Xp, Xi, Nat.reduceAdd, Nat.reduceSub, Nat.reduceLT, Nat.reduceLeDiff, reduceIte, reduceCtorEq, Nat.reduceEqDiff, implies_true, forall_const, lawV]
  unfold pctNorm
  refine ⟨fun hl => ?_, fun hl => ?_⟩
  · have hl : 16384 < s.length := (by simp at hl; omega)
    rw [if_pos hl]
  have hl : s.length ≤ 16384 := (by simp at hl; omega)
  rw [if_neg (by omega)]
  refine loopV_mk (NoI also s) (NoM s) ⟨0, .nils, [], rfl, rfl, rfl, rfl, by omega, by simp, by simp, ⟨rfl, .inl ⟨rfl, rfl, rfl⟩, by omega⟩, comb_nil _ (normU_err also _)⟩ ?_
  rintro ⟨t, b⟩ ⟨i, x, d, h0, h1, h6, h7, hi, hd, hbl, ht, hn⟩
  simp only at h0 h1 h6 h7 hbl ht
  rw [NoM_eq h7]
  have hbox := ht.box
  by_cases hlt : i < s.length
  · have hu := units_step hlt
    have hg : s.getD i 0 = s[i] := by simp [List.getD, hlt]
    simp only [lawG, ↓Xn, ↓Xo, ↓Xg, ↓Xd, ↓Xe, ↓Xf, Tryz.VΓ, Tryz.Γs, Xp, Xi, Nat.reduceAdd, Nat.reduceSub, Nat.reduceLT, Nat.reduceLeDiff, reduceIte, reduceCtorEq, Nat.reduceEqDiff, implies_true, forall_const, lawV, h0, h1, h6, h7]
    refine ⟨fun _ => ⟨⟨by omega, by omega⟩, fun hc => ?_, fun hc => ?_⟩, fun h => absurd h (by simp; omega)⟩
    · rw [byte_is (n := 37) hlt 37 rfl] at hc
      rw [if_pos (by simpa using hc)] at hu
      have pe := p_escaped s i hlt (by omega)
      cases he : escAt s i with
      | none =>
        rw [he] at pe hu
        simp only at hu
        rw [hu] at hn
        have hres : normU also (units s) = ([], 2) := by rw [← hn]; rfl
        rw [hres]
        (refine callV_pc pe ?_; simp only [lawG, ↓Xn, ↓Xo, ↓Xg, ↓Xd, ↓Xe, ↓Xf, Tryz.VΓ, Tryz.Γs, Xp, Xi, Nat.reduceAdd, Nat.reduceSub, Nat.reduceLT, Nat.reduceLeDiff, reduceIte, reduceCtorEq, Nat.reduceEqDiff, implies_true, forall_const, lawV, h0, h1, h6, h7, Option.isSome_none])
      | some v =>
        rw [he] at pe hu
        have hx := he
        unfold escAt at hx
        obtain ⟨⟨a, bb, r⟩, hp, hv⟩ := Option.map_eq_some_iff.1 hx
        simp only at hv
        rw [hp] at hu
        simp only at hu
        have hi3 : i + 3 ≤ s.length := by
          obtain ⟨h1, -, -⟩ := hexPair_some hp
          have := congrArg List.length h1
          simp at this
          omega
        have hn2 : comb (d ++ normB v) (normU also (units (s.drop (i + 2 + 1)))) = normU also (units s) := by
          rw [← hn, hu, normU, comb_comb, hv]
        simp only [Option.getD_some, Option.isSome_some] at pe
        (refine callV_pc pe ?_; simp only [lawG, ↓Xn, ↓Xo, ↓Xg, ↓Xd, ↓Xe, ↓Xf, Tryz.VΓ, Tryz.Γs, Xp, Xi, Nat.reduceAdd, Nat.reduceSub, Nat.reduceLT, Nat.reduceLeDiff, reduceIte, reduceCtorEq, Nat.reduceEqDiff, implies_true, forall_const, lawV, h0, h1, h6, h7])
        refine ⟨⟨by omega, by omega⟩, ?_⟩
        (refine callV_pc (p_IsUnreserved v) ?_; simp only [lawG, ↓Xn, ↓Xo, ↓Xg, ↓Xd, ↓Xe, ↓Xf, Tryz.VΓ, Tryz.Γs, Xp, Xi, Nat.reduceAdd, Nat.reduceSub, Nat.reduceLT, Nat.reduceLeDiff, reduceIte, reduceCtorEq, Nat.reduceEqDiff, implies_true, forall_const, lawV, h0, h1, h6, h7])
        refine ⟨fun hq => ?_, fun hq => ?_⟩
        · have hn3 : comb (d ++ [v]) (normU also (units (s.drop (i + 2 + 1)))) = normU also (units s) := by
            rw [← hn2]; unfold normB; rw [if_pos hq]
          (rcases ht.sl with ⟨rfl, hc0, hn0⟩ | ⟨j, rfl, hLj, hj⟩
           · have ho : ∀ X, (b ++ [X])[0]? = some (.cells [.nils] 116 true) := fun X => at_old hbox [X]
             have ho2 : ∀ X Y, (b ++ [X] ++ [Y])[0]? = some (.cells [.nils] 116 true) := fun X Y => at_old (ho X) [Y]
             simp only [lawG, ↓Xn, ↓Xo, ↓Xg, ↓Xd, ↓Xe, ↓Xf, Tryz.VΓ, Tryz.Γs, Xp, Xi, Nat.reduceAdd, Nat.reduceSub, Nat.reduceLT, Nat.reduceLeDiff, reduceIte, reduceCtorEq, Nat.reduceEqDiff, implies_true, forall_const, lawV, h0, h1, h6, h7, hbox, at_new, ho, ho2]
             refine ⟨by omega, ⟨by unfold maxLen; omega, by omega⟩, ⟨by omega, by omega⟩, no_mk (i' := i + 2 + 1) (x := .o (b ++ [Res.own [u8S (v)] 5 1 1 true]).length 1) (d := d ++ [v]) h0 h1 h6 (by simp only [lk, reduceIte, Option.some.injEq, SV.int.injEq, true_and]; omega) ⟨by omega, by simp; omega⟩ (by simp) (txt_one ht hbl (v) rfl) (hn3) (by omega)⟩
           · have hlj : d.length = d.length := rfl
             have ho : ∀ X, (b ++ [X])[j]? = some (.own (d.map u8S) 5 1 d.length true) := fun X => at_old hj [X]
             have ho2 : ∀ X Y, ((b ++ [X]).set j .gone ++ [Y])[0]? = some (.cells [.o j d.length] 116 true) := fun X Y => by
               rw [List.getElem?_append_left (by simp), List.getElem?_set_ne (by omega)]; exact at_old hbox [X]
             simp only [lawG, ↓Xn, ↓Xo, ↓Xg, ↓Xd, ↓Xe, ↓Xf, Tryz.VΓ, Tryz.Γs, Xp, Xi, Nat.reduceAdd, Nat.reduceSub, Nat.reduceLT, Nat.reduceLeDiff, reduceIte, reduceCtorEq, Nat.reduceEqDiff, implies_true, forall_const, lawV, h0, h1, h6, h7, hbox, at_new, ho, ho2]
             refine ⟨by omega, ⟨by unfold maxLen; omega, by omega⟩, ⟨by omega, by omega⟩, no_mk (i' := i + 2 + 1) (x := .o (b ++ [Res.own [u8S (v)] 5 1 1 true]).length (d.length + 1)) (d := d ++ [v]) h0 h1 h6 (by simp only [lk, reduceIte, Option.some.injEq, SV.int.injEq, true_and]; omega) ⟨by omega, by simp; omega⟩ (by simp) (txt_more ht hbl (v) hLj) (hn3) (by omega)⟩)
        · have hn3 : comb (d ++ esc v) (normU also (units (s.drop (i + 2 + 1)))) = normU also (units s) := by
            rw [← hn2]; unfold normB; rw [if_neg (by simp [hq])]
          refine callV_sc (sc_escape ht hbl (by omega) v) ?_
          rintro r b' ⟨rfl, x', ht', hbl', -⟩
          simp only [lawG, ↓Xn, ↓Xo, ↓Xg, ↓Xd, ↓Xe, ↓Xf, Tryz.VΓ, Tryz.Γs, Xp, Xi, Nat.reduceAdd, Nat.reduceSub, Nat.reduceLT, Nat.reduceLeDiff, reduceIte, reduceCtorEq, Nat.reduceEqDiff, implies_true, forall_const, lawV, h0, h1, h6, h7]
          exact ⟨⟨by omega, by omega⟩, no_mk (i' := i + 2 + 1) (d := d ++ esc v) h0 h1 h6 (by simp only [lk, reduceIte, Option.some.injEq, SV.int.injEq, true_and]; omega) ⟨by omega, by simp [esc]; omega⟩ (by omega) ht' hn3 (by omega)⟩
    · rw [byte_is (n := 37) hlt 37 rfl] at hc
      rw [if_neg (by simpa using hc)] at hu
      rw [hu, normU] at hn
      rw [hg]
      have hn2 : keepB also s[i] = true → comb (d ++ [s[i]]) (normU also (units (s.drop (i + 1)))) = normU also (units s) := fun hk => by
        rw [← hn, if_pos hk, comb_comb]
      (refine callV_pc (p_IsUnreserved s[i]) ?_; simp only [lawG, ↓Xn, ↓Xo, ↓Xg, ↓Xd, ↓Xe, ↓Xf, Tryz.VΓ, Tryz.Γs, Xp, Xi, Nat.reduceAdd, Nat.reduceSub, Nat.reduceLT, Nat.reduceLeDiff, reduceIte, reduceCtorEq, Nat.reduceEqDiff, implies_true, forall_const, lawV, h0, h1, h6, h7, hg])
      refine ⟨fun hq => ?_, fun hq => ?_⟩
      · (refine callV_pc (p_IndexByte also s[i]) ?_; simp only [lawG, ↓Xn, ↓Xo, ↓Xg, ↓Xd, ↓Xe, ↓Xf, Tryz.VΓ, Tryz.Γs, Xp, Xi, Nat.reduceAdd, Nat.reduceSub, Nat.reduceLT, Nat.reduceLeDiff, reduceIte, reduceCtorEq, Nat.reduceEqDiff, implies_true, forall_const, lawV, h0, h1, h6, h7, hg])
        rw [idx_geq]
        refine ⟨fun hq2 => ?_, fun hq2 => ?_⟩
        · have hk : keepB also s[i] = true := by unfold keepB; rw [hq2]; simp
          (rcases ht.sl with ⟨rfl, hc0, hn0⟩ | ⟨j, rfl, hLj, hj⟩
           · have ho : ∀ X, (b ++ [X])[0]? = some (.cells [.nils] 116 true) := fun X => at_old hbox [X]
             have ho2 : ∀ X Y, (b ++ [X] ++ [Y])[0]? = some (.cells [.nils] 116 true) := fun X Y => at_old (ho X) [Y]
             simp only [lawG, ↓Xn, ↓Xo, ↓Xg, ↓Xd, ↓Xe, ↓Xf, Tryz.VΓ, Tryz.Γs, Xp, Xi, Nat.reduceAdd, Nat.reduceSub, Nat.reduceLT, Nat.reduceLeDiff, reduceIte, reduceCtorEq, Nat.reduceEqDiff, implies_true, forall_const, lawV, h0, h1, h6, h7, hbox, at_new, ho, ho2]
             refine ⟨by omega, ⟨by unfold maxLen; omega, by omega⟩, ⟨by omega, by omega⟩, no_mk (i' := i + 1) (x := .o (b ++ [Res.own [u8S (s[i])] 5 1 1 true]).length 1) (d := d ++ [s[i]]) h0 h1 h6 (by simp only [lk, reduceIte, Option.some.injEq, SV.int.injEq, true_and]; omega) ⟨by omega, by simp; omega⟩ (by simp) (txt_one ht hbl (s[i]) rfl) (hn2 hk) (by omega)⟩
           · have hlj : d.length = d.length := rfl
             have ho : ∀ X, (b ++ [X])[j]? = some (.own (d.map u8S) 5 1 d.length true) := fun X => at_old hj [X]
             have ho2 : ∀ X Y, ((b ++ [X]).set j .gone ++ [Y])[0]? = some (.cells [.o j d.length] 116 true) := fun X Y => by
               rw [List.getElem?_append_left (by simp), List.getElem?_set_ne (by omega)]; exact at_old hbox [X]
             simp only [lawG, ↓Xn, ↓Xo, ↓Xg, ↓Xd, ↓Xe, ↓Xf, Tryz.VΓ, Tryz.Γs, Xp, Xi, Nat.reduceAdd, Nat.reduceSub, Nat.reduceLT, Nat.reduceLeDiff, reduceIte, reduceCtorEq, Nat.reduceEqDiff, implies_true, forall_const, lawV, h0, h1, h6, h7, hbox, at_new, ho, ho2]
             refine ⟨by omega, ⟨by unfold maxLen; omega, by omega⟩, ⟨by omega, by omega⟩, no_mk (i' := i + 1) (x := .o (b ++ [Res.own [u8S (s[i])] 5 1 1 true]).length (d.length + 1)) (d := d ++ [s[i]]) h0 h1 h6 (by simp only [lk, reduceIte, Option.some.injEq, SV.int.injEq, true_and]; omega) ⟨by omega, by simp; omega⟩ (by simp) (txt_more ht hbl (s[i]) hLj) (hn2 hk) (by omega)⟩)
        · have hk : ¬ keepB also s[i] = true := by unfold keepB; rw [hq, hq2]; simp
          rw [if_neg hk] at hn
          have hres : normU also (units s) = ([], 1) := by rw [← hn]; rfl
          rw [hres]
      · have hk : keepB also s[i] = true := by unfold keepB; rw [hq]; simp
        (rcases ht.sl with ⟨rfl, hc0, hn0⟩ | ⟨j, rfl, hLj, hj⟩
         · have ho : ∀ X, (b ++ [X])[0]? = some (.cells [.nils] 116 true) := fun X => at_old hbox [X]
           have ho2 : ∀ X Y, (b ++ [X] ++ [Y])[0]? = some (.cells [.nils] 116 true) := fun X Y => at_old (ho X) [Y]
           simp only [lawG, ↓Xn, ↓Xo, ↓Xg, ↓Xd, ↓Xe, ↓Xf, Tryz.VΓ, Tryz.Γs, Xp, Xi, Nat.reduceAdd, Nat.reduceSub, Nat.reduceLT, Nat.reduceLeDiff, reduceIte, reduceCtorEq, Nat.reduceEqDiff, implies_true, forall_const, lawV, h0, h1, h6, h7, hbox, at_new, ho, ho2]
           refine ⟨by omega, ⟨by unfold maxLen; omega, by omega⟩, ⟨by omega, by omega⟩, no_mk (i' := i + 1) (x := .o (b ++ [Res.own [u8S (s[i])] 5 1 1 true]).length 1) (d := d ++ [s[i]]) h0 h1 h6 (by simp only [lk, reduceIte, Option.some.injEq, SV.int.injEq, true_and]; omega) ⟨by omega, by simp; omega⟩ (by simp) (txt_one ht hbl (s[i]) rfl) (hn2 hk) (by omega)⟩
         · have hlj : d.length = d.length := rfl
           have ho : ∀ X, (b ++ [X])[j]? = some (.own (d.map u8S) 5 1 d.length true) := fun X => at_old hj [X]
           have ho2 : ∀ X Y, ((b ++ [X]).set j .gone ++ [Y])[0]? = some (.cells [.o j d.length] 116 true) := fun X Y => by
             rw [List.getElem?_append_left (by simp), List.getElem?_set_ne (by omega)]; exact at_old hbox [X]
           simp only [lawG, ↓Xn, ↓Xo, ↓Xg, ↓Xd, ↓Xe, ↓Xf, Tryz.VΓ, Tryz.Γs, Xp, Xi, Nat.reduceAdd, Nat.reduceSub, Nat.reduceLT, Nat.reduceLeDiff, reduceIte, reduceCtorEq, Nat.reduceEqDiff, implies_true, forall_const, lawV, h0, h1, h6, h7, hbox, at_new, ho, ho2]
           refine ⟨by omega, ⟨by unfold maxLen; omega, by omega⟩, ⟨by omega, by omega⟩, no_mk (i' := i + 1) (x := .o (b ++ [Res.own [u8S (s[i])] 5 1 1 true]).length (d.length + 1)) (d := d ++ [s[i]]) h0 h1 h6 (by simp only [lk, reduceIte, Option.some.injEq, SV.int.injEq, true_and]; omega) ⟨by omega, by simp; omega⟩ (by simp) (txt_more ht hbl (s[i]) hLj) (hn2 hk) (by omega)⟩)
  · have hie : i = s.length := by omega
    subst hie
    rw [List.drop_length, units_nil] at hn
    have hres : normU also (units s) = (d, 0) := by rw [← hn]; simp [normU, comb]
    rw [hres]
    rcases ht.sl with ⟨rfl, hc0, hn0⟩ | ⟨j, rfl, hLj, hj⟩
    · obtain rfl : d = [] := by simpa using hc0
      simp only [lawG, ↓Xn, ↓Xo, ↓Xg, ↓Xd, ↓Xe, ↓Xf, Tryz.VΓ, Tryz.Γs, Xp, Xi, Nat.reduceAdd, Nat.reduceSub, Nat.reduceLT, Nat.reduceLeDiff, reduceIte, reduceCtorEq, Nat.reduceEqDiff, implies_true, forall_const, lawV, h0, h1, h6, h7, hbox]
      exact fun h => (by simp at h)
    · simp only [lawG, ↓Xn, ↓Xo, ↓Xg, ↓Xd, ↓Xe, ↓Xf, Tryz.VΓ, Tryz.Γs, Xp, Xi, Nat.reduceAdd, Nat.reduceSub, Nat.reduceLT, Nat.reduceLeDiff, reduceIte, reduceCtorEq, Nat.reduceEqDiff, implies_true, forall_const, lawV, h0, h1, h6, h7, hbox, hj]
      refine ⟨fun h => absurd h (by simp), fun _ => ⟨isU8_map d, ?_⟩⟩
      rw [unU8_map]
end Go.Proofs.YtfmafmgbfamaiaaGreatDoor
/- The walks of package weburl and its reference: Target, Origin, Format. -/
set_option linter.all false
set_option maxRecDepth 20000
namespace Go.Proofs.YtfmafmgbfamaiaaGreatDoor
open Go Vc Go.RowKit Wf
set_option linter.unusedSimpArgs false
def wsv (u : Url) : SV := .agg [.str u.host, .int .i64 u.port, .str u.path, .str u.query, .str u.fragment, .bool u.hasQuery, .bool u.hasFrag]
def Fair (u : Url) : Prop := u.host.length + u.path.length + u.query.length + u.fragment.length ≤ 1000000 ∧ -9223372036854775808 ≤ u.port ∧ u.port ≤ 9223372036854775807
theorem hostText_len2 (x : Bytes) {p : Int} (h0 : -9223372036854775808 ≤ p) (h1 : p ≤ 9223372036854775807) : (hostText x p).length ≤ x.length + 22 := by
  have := decS_length 19 p.natAbs (by omega)
  unfold hostText
  split
  · omega
  · split <;> simp <;> omega
theorem urlTarget_len (u : Url) : (urlTarget u).length ≤ u.path.length + u.query.length + 1 := by
  unfold urlTarget
  split
  · simp; omega
  · omega
theorem p_url_Target (u : Url) (hk : Fair u) : PC Tryz.V 43 [wsv u] (.str (urlTarget u)) := by
  obtain ⟨hk, -⟩ := hk
  (refine pc_of 3000 Tryz.func43 rfl Tryz.ntmps43 Tryz.results43 Tryz.call43 (by simp) (by simp [flat, flat.flatL, wsv]) (by simp [flat, flat.flatL, wsv]) ?_
   unfold wsv
   simp only [lawG, ↓Xn, ↓Xo, ↓Xg, ↓Xd, ↓Xe, ↓Xf, Tryz.VΓ, Tryz.Γs, Xp, Xi, Nat.reduceAdd, Nat.reduceSub, Nat.reduceLT, Nat.reduceLeDiff, reduceIte, reduceCtorEq, Nat.reduceEqDiff, implies_true, forall_const, lawV])
  unfold urlTarget
  refine ⟨fun h => ?_, fun h => ?_⟩
  · simp [h]
    refine ⟨by omega, by omega⟩
  · simp [h]
theorem p_url_Origin (u : Url) : PC Tryz.V 42 [wsv u] (.agg [.str u.host, .int .i64 u.port]) := by
  (refine pc_of 3000 Tryz.func42 rfl Tryz.ntmps42 Tryz.results42 Tryz.call42 (by simp) (by simp [flat, flat.flatL, wsv]) (by simp [flat, flat.flatL, wsv]) ?_
   unfold wsv
   simp only [lawG, ↓Xn, ↓Xo, ↓Xg, ↓Xd, ↓Xe, ↓Xf, Tryz.VΓ, Tryz.Γs, Xp, Xi, Nat.reduceAdd, Nat.reduceSub, Nat.reduceLT, Nat.reduceLeDiff, reduceIte, reduceCtorEq, Nat.reduceEqDiff, implies_true, forall_const, lawV])
theorem p_url_Format (u : Url) (hk : Fair u) : PC Tryz.V 25 [wsv u] (.str (urlText u)) := by
  have hl := hk.1
  have hx := hostText_len2 u.host hk.2.1 hk.2.2
  have ht := urlTarget_len u
  have pt := p_url_Target u hk
  have po := p_url_Origin u
  have pf := p_host_Format u.host u.port (by omega) hk.2.1 hk.2.2
  (refine pc_of 3000 Tryz.func25 rfl Tryz.ntmps25 Tryz.results25 Tryz.call25 (by simp) (by simp [flat, flat.flatL, wsv]) (by simp [flat, flat.flatL, wsv]) ?_
   unfold wsv
   simp only [lawG, ↓Xn, ↓Xo, ↓Xg, ↓Xd, ↓Xe, ↓Xf, Tryz.VΓ, Tryz.Γs, Xp, Xi, Nat.reduceAdd, Nat.reduceSub, Nat.reduceLT, Nat.reduceLeDiff, reduceIte, reduceCtorEq, Nat.reduceEqDiff, implies_true, forall_const, lawV])
  unfold wsv at pt po
  (refine callD_pc (po) ?_; simp only [lawG, ↓Xn, ↓Xo, ↓Xg, ↓Xd, ↓Xe, ↓Xf, Tryz.VΓ, Tryz.Γs, Xp, Xi, Nat.reduceAdd, Nat.reduceSub, Nat.reduceLT, Nat.reduceLeDiff, reduceIte, reduceCtorEq, Nat.reduceEqDiff, implies_true, forall_const, lawV])
  (refine callD_pc (pf) ?_; simp only [lawG, ↓Xn, ↓Xo, ↓Xg, ↓Xd, ↓Xe, ↓Xf, Tryz.VΓ, Tryz.Γs, Xp, Xi, Nat.reduceAdd, Nat.reduceSub, Nat.reduceLT, Nat.reduceLeDiff, reduceIte, reduceCtorEq, Nat.reduceEqDiff, implies_true, forall_const, lawV])
  refine ⟨by omega, ?_⟩
  (refine callD_pc (pt) ?_; simp only [lawG, ↓Xn, ↓Xo, ↓Xg, ↓Xd, ↓Xe, ↓Xf, Tryz.VΓ, Tryz.Γs, Xp, Xi, Nat.reduceAdd, Nat.reduceSub, Nat.reduceLT, Nat.reduceLeDiff, reduceIte, reduceCtorEq, Nat.reduceEqDiff, implies_true, forall_const, lawV])
  unfold urlText
  refine ⟨by omega, (OkD_fast (by kernel_rfl)), fun h => ⟨by omega, by simp only [List.length_append]; omega, ?_⟩, fun h => ?_⟩
  · rw [if_pos h]; simp
  · rw [if_neg (by simp [h])]; simp
theorem p_r7_Target (u : Url) (hk : Fair u) : PC Tryz.V 13 [wsv u] (.str (urlTarget u)) := by
  obtain ⟨hk, -⟩ := hk
  (refine pc_of 3000 Tryz.func13 rfl Tryz.ntmps13 Tryz.results13 Tryz.call13 (by simp) (by simp [flat, flat.flatL, wsv]) (by simp [flat, flat.flatL, wsv]) ?_
   unfold wsv
   simp only [lawG, ↓Xn, ↓Xo, ↓Xg, ↓Xd, ↓Xe, ↓Xf, Tryz.VΓ, Tryz.Γs, Xp, Xi, Nat.reduceAdd, Nat.reduceSub, Nat.reduceLT, Nat.reduceLeDiff, reduceIte, reduceCtorEq, Nat.reduceEqDiff, implies_true, forall_const, lawV])
  unfold urlTarget
  refine ⟨fun h => ?_, fun h => ?_⟩
  · simp [h]
    refine ⟨by omega, by omega⟩
  · simp [h]
theorem p_r7_Origin (u : Url) : PC Tryz.V 12 [wsv u] (.agg [.str u.host, .int .i64 u.port]) := by
  (refine pc_of 3000 Tryz.func12 rfl Tryz.ntmps12 Tryz.results12 Tryz.call12 (by simp) (by simp [flat, flat.flatL, wsv]) (by simp [flat, flat.flatL, wsv]) ?_
   unfold wsv
   simp only [lawG, ↓Xn, ↓Xo, ↓Xg, ↓Xd, ↓Xe, ↓Xf, Tryz.VΓ, Tryz.Γs, Xp, Xi, Nat.reduceAdd, Nat.reduceSub, Nat.reduceLT, Nat.reduceLeDiff, reduceIte, reduceCtorEq, Nat.reduceEqDiff, implies_true, forall_const, lawV])
theorem p_r7_Format (u : Url) (hk : Fair u) : PC Tryz.V 6 [wsv u] (.str (urlText u)) := by
  have hl := hk.1
  have hx := hostText_len2 u.host hk.2.1 hk.2.2
  have ht := urlTarget_len u
  have pt := p_r7_Target u hk
  have po := p_r7_Origin u
  have pf := p_r5_Format u.host u.port (by omega) hk.2.1 hk.2.2
  (refine pc_of 3000 Tryz.func6 rfl Tryz.ntmps6 Tryz.results6 Tryz.call6 (by simp) (by simp [flat, flat.flatL, wsv]) (by simp [flat, flat.flatL, wsv]) ?_
   unfold wsv
   simp only [lawG, ↓Xn, ↓Xo, ↓Xg, ↓Xd, ↓Xe, ↓Xf, Tryz.VΓ, Tryz.Γs, Xp, Xi, Nat.reduceAdd, Nat.reduceSub, Nat.reduceLT, Nat.reduceLeDiff, reduceIte, reduceCtorEq, Nat.reduceEqDiff, implies_true, forall_const, lawV])
  unfold wsv at pt po
  (refine callD_pc (po) ?_; simp only [lawG, ↓Xn, ↓Xo, ↓Xg, ↓Xd, ↓Xe, ↓Xf, Tryz.VΓ, Tryz.Γs, Xp, Xi, Nat.reduceAdd, Nat.reduceSub, Nat.reduceLT, Nat.reduceLeDiff, reduceIte, reduceCtorEq, Nat.reduceEqDiff, implies_true, forall_const, lawV])
  (refine callD_pc (pf) ?_; simp only [lawG, ↓Xn, ↓Xo, ↓Xg, ↓Xd, ↓Xe, ↓Xf, Tryz.VΓ, Tryz.Γs, Xp, Xi, Nat.reduceAdd, Nat.reduceSub, Nat.reduceLT, Nat.reduceLeDiff, reduceIte, reduceCtorEq, Nat.reduceEqDiff, implies_true, forall_const, lawV])
  refine ⟨by omega, ?_⟩
  (refine callD_pc (pt) ?_; simp only [lawG, ↓Xn, ↓Xo, ↓Xg, ↓Xd, ↓Xe, ↓Xf, Tryz.VΓ, Tryz.Γs, Xp, Xi, Nat.reduceAdd, Nat.reduceSub, Nat.reduceLT, Nat.reduceLeDiff, reduceIte, reduceCtorEq, Nat.reduceEqDiff, implies_true, forall_const, lawV])
  unfold urlText
  refine ⟨by omega, (OkD_fast (by kernel_rfl)), fun h => ⟨by omega, by simp only [List.length_append]; omega, ?_⟩, fun h => ?_⟩
  · rw [if_pos h]; simp
  · rw [if_neg (by simp [h])]; simp
theorem pre_mem (l : Bytes) (c : UInt8) : pre (· == c) l < l.length ↔ c ∈ l := by
  induction l with
  | nil => simp [pre]
  | cons x l ih =>
    rw [pre_cons]
    by_cases h : x = c
    · simp [h]
    · rw [if_neg (by simpa using h)]
      simp only [List.length_cons, Nat.add_lt_add_iff_right, ih, List.mem_cons]
      exact ⟨.inr, fun k => k.resolve_left fun e => h e.symm⟩
theorem contains_one (l : Bytes) (c : UInt8) : decide (0 ≤ Lib.indexByte l c) = decide (c ∈ l) := by
  rw [indexByte_pre]
  by_cases h : c ∈ l
  · rw [if_pos ((pre_mem l c).2 h)]; simp [h]
  · rw [if_neg (fun k => h ((pre_mem l c).1 k))]; simp [h]
theorem p_Contains (l : Bytes) (c : UInt8) : PC Tryz.V 37 [.str l, .str [c]] (.bool (decide (c ∈ l))) :=
  ⟨Tryz.call37, by simp [flat, flat.flatL], by simp [flat, flat.flatL], fun w hE => (Tryz.strings_Contains_one ⟨List.toArray l⟩ c w).mono fun _ _ ⟨h, k⟩ => ⟨by
    rw [h]
    have e : decide (0 ≤ Lib.indexByte l c) = decide (c ∈ l) := contains_one l c
    rw [← e]; rfl, below_same k.symm⟩⟩
end Go.Proofs.YtfmafmgbfamaiaaGreatDoor
/- The walks of package uri: schemes. -/
set_option linter.all false
namespace Go.Proofs.YtfmafmgbfamaiaaGreatDoor
open Go.RowKit Wf
attribute [local go_sem] ex_list app_list get_list
theorem scheme_one {s : Bytes} (h : 0 < s.length) (ha : isAlpha s[0] = true) : schemeOk (s.take 1) = true := by
  cases s with
  | nil => simp at h
  | cons c r => simp at ha; simp [schemeOk, ha]
theorem scheme_one_no {s : Bytes} (h : 0 < s.length) (ha : isAlpha s[0] = false) : schemeOk s = false := by
  cases s with
  | nil => simp at h
  | cons c r => simp at ha; simp [schemeOk, ha]
theorem scheme_snoc {s : Bytes} {k : Nat} (h0 : 0 < k) (h : k < s.length) (ht : schemeOk (s.take k) = true) (hc : schemeC s[k] = true) : schemeOk (s.take (k + 1)) = true := by
  cases s with
  | nil => simp at h
  | cons c r =>
    obtain ⟨j, rfl⟩ : ∃ j, k = j + 1 := ⟨k - 1, by omega⟩
    rw [List.take_succ_cons] at ht ⊢
    unfold schemeOk at ht ⊢
    simp only [Bool.and_eq_true] at ht ⊢
    exact ⟨ht.1, all_take_snoc (by simpa using h) ht.2 (by simpa using hc)⟩
theorem scheme_no {s : Bytes} {k : Nat} (h0 : 0 < k) (h : k < s.length) (hc : schemeC s[k] = false) : schemeOk s = false := by
  cases s with
  | nil => simp at h
  | cons c r =>
    obtain ⟨j, rfl⟩ : ∃ j, k = j + 1 := ⟨k - 1, by omega⟩
    have := all_not (p := schemeC) (s := r) (k := j) (by simpa using h) (by simpa using hc)
    show (isAlpha c && r.all schemeC) = false
    rw [this]; simp
theorem plus_idx (c : UInt8) : ([43, 45, 46].contains c = true → 0 ≤ Lib.indexByte [43, 45, 46] c) ∧ ([43, 45, 46].contains c = false → Lib.indexByte [43, 45, 46] c = -1) := by
  have h := all256 (p := fun c => decide (([43, 45, 46].contains c = true → 0 ≤ Lib.indexByte [43, 45, 46] c) ∧ ([43, 45, 46].contains c = false → Lib.indexByte [43, 45, 46] c = -1))) (by decide +kernel) c
  exact of_decide_eq_true h
set_option maxHeartbeats 1000000 in
theorem uri_scheme (s : Bytes) (w : World) (hs : s.length ≤ 9223372036854775807) :
    Calls Tryz.prog 61 #[(Value.string ⟨List.toArray (s)⟩)] w fun e w' => e = .returned (.bool (schemeOk s)) ∧ w = w' := by
  go_enter Tryz.func61, Tryz.ntmps61
  go_wp2_with fail
  go_loop [6] (fun i => ∃ k : Nat, k ≤ s.length ∧ i = .int .i64 k ∧ (k = 0 ∨ schemeOk (s.take k) = true)) (fun i => s.length - (intOf i).toNat)
  case atStart => exact ⟨0, by omega, rfl, .inl rfl⟩
  case round =>
    obtain ⟨k, hk, rfl, hr⟩ := hrel
    have Hr := hid hr
    clear hr
    by_cases hlt : k < s.length
    · cases ha : isAlpha s[k]
      · by_cases h0 : k = 0
        · subst h0
          have Hq := hid (scheme_one_no hlt ha)
          go_wp2_with (first
            | (go_at_call 95; refine (ascii_IsAlpha _ _).mono ?_; rintro e w' ⟨rfl, rfl⟩)
            | (go_at_call 96; refine (ascii_IsDigit _ _).mono ?_; rintro e w' ⟨rfl, rfl⟩)
            | (go_at_call 63; refine (s_IndexByte [43, 45, 46] _ _).mono ?_; rintro e w' ⟨rfl, rfl⟩))
          go_ret
          exact ⟨ret_bool Hq.out.symm, rfl⟩
        · have hk0 : ((k : Int) == 0) = false := by simp [h0]
          have Hr2 := hid (Hr.out.resolve_left h0)
          obtain ⟨p1, p2⟩ := plus_idx s[k]
          cases hd : isDigit s[k]
          · cases hp : [43, 45, 46].contains s[k]
            · have p3 := p2 hp
              have Hq := hid (scheme_no (by omega) hlt (by unfold schemeC; rw [ha, hd, hp]; rfl))
              clear p1 p2 hp
              go_wp2_with (first
                | (go_at_call 95; refine (ascii_IsAlpha _ _).mono ?_; rintro e w' ⟨rfl, rfl⟩)
                | (go_at_call 96; refine (ascii_IsDigit _ _).mono ?_; rintro e w' ⟨rfl, rfl⟩)
                | (go_at_call 63; refine (s_IndexByte [43, 45, 46] _ _).mono ?_; rintro e w' ⟨rfl, rfl⟩))
              go_ret
              exact ⟨ret_bool Hq.out.symm, rfl⟩
            · have p3 := p1 hp
              have Hn := hid (scheme_snoc (by omega) hlt Hr2.out (by unfold schemeC; rw [hp]; simp))
              clear p1 p2 hp
              go_wp2_with (first
                | (go_at_call 95; refine (ascii_IsAlpha _ _).mono ?_; rintro e w' ⟨rfl, rfl⟩)
                | (go_at_call 96; refine (ascii_IsDigit _ _).mono ?_; rintro e w' ⟨rfl, rfl⟩)
                | (go_at_call 63; refine (s_IndexByte [43, 45, 46] _ _).mono ?_; rintro e w' ⟨rfl, rfl⟩))
              go_round
              case rel => exact ⟨k + 1, by omega, by go_num, .inr Hn.out⟩
              case measure => simp [intOf]; omega
          · have Hn := hid (scheme_snoc (by omega) hlt Hr2.out (by unfold schemeC; rw [hd]; simp))
            clear p1 p2
            go_wp2_with (first
              | (go_at_call 95; refine (ascii_IsAlpha _ _).mono ?_; rintro e w' ⟨rfl, rfl⟩)
              | (go_at_call 96; refine (ascii_IsDigit _ _).mono ?_; rintro e w' ⟨rfl, rfl⟩)
              | (go_at_call 63; refine (s_IndexByte [43, 45, 46] _ _).mono ?_; rintro e w' ⟨rfl, rfl⟩))
            go_round
            case rel => exact ⟨k + 1, by omega, by go_num, .inr Hn.out⟩
            case measure => simp [intOf]; omega
      · have Hn : Hid (schemeOk (s.take (k + 1)) = true) := hid (by
          rcases Hr.out with rfl | hr
          · exact scheme_one hlt ha
          · by_cases h0 : k = 0
            · subst h0; exact scheme_one hlt ha
            · exact scheme_snoc (by omega) hlt hr (by unfold schemeC; rw [ha]; rfl))
        go_wp2_with (first
          | (go_at_call 95; refine (ascii_IsAlpha _ _).mono ?_; rintro e w' ⟨rfl, rfl⟩)
          | (go_at_call 96; refine (ascii_IsDigit _ _).mono ?_; rintro e w' ⟨rfl, rfl⟩)
          | (go_at_call 63; refine (s_IndexByte [43, 45, 46] _ _).mono ?_; rintro e w' ⟨rfl, rfl⟩))
        go_round
        case rel => exact ⟨k + 1, by omega, by go_num, .inr Hn.out⟩
        case measure => simp [intOf]; omega
    · cases hem : s.isEmpty
      · have Hq : Hid (schemeOk s = true) := hid (by
          rcases Hr.out with rfl | hr
          · cases s <;> simp at hem hlt
          · rw [List.take_of_length_le (by omega)] at hr; exact hr)
        go_wp2_with fail
        go_ret
        exact ⟨ret_bool Hq.out.symm, rfl⟩
      · have Hq : Hid (schemeOk s = false) := hid (by cases s <;> simp at hem <;> rfl)
        go_wp2_with fail
        go_ret
        exact ⟨ret_bool Hq.out.symm, rfl⟩
end Go.Proofs.YtfmafmgbfamaiaaGreatDoor
