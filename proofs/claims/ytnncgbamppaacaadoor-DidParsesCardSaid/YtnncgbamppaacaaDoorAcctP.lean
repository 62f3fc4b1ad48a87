/- Plain functions and laws of package acct. -/
import Derived.Test.YtnncgbamppaacaaDoorPlainQ
set_option linter.all false
namespace Wf
open Go Go.RowKit
structure Acct where
  user : Bytes
  host : Bytes
  deriving DecidableEq
def Acct.none : Acct := ⟨[], []⟩
/-- "!$&'()*+,;=". -/
def inUser : Bytes := [33, 36, 38, 39, 40, 41, 42, 43, 44, 59, 61]
def acctS : Bytes := [97, 99, 99, 116, 58]
def acctOf (n : Bytes × Int) (h : Bytes × Int) : Acct × Int :=
  if n.2 ≠ 0 ∨ n.1 = [] ∨ n.1.head? = some 37 then (Acct.none, 80)
  else if h.2 ≠ 0 then (Acct.none, h.2)
  else (⟨n.1, h.1⟩, 0)
def acctRest (s : Bytes) : Acct × Int :=
  if (cutC 64 s).2.2 = false then (Acct.none, 6)
  else acctOf (pctNorm inUser (cutC 64 s).1) (hostM (cutC 64 s).2.1)
def acctParse (s : Bytes) : Acct × Int :=
  if 4096 < s.length then (Acct.none, 5)
  else if s.length < 5 ∨ lower (s.take 5) ≠ acctS then (Acct.none, 60)
  else acctRest (s.drop 5)
def acctText (a : Acct) : Bytes := acctS ++ a.user ++ [64] ++ a.host
theorem cut_parts {c : UInt8} {s : Bytes} (h : (cutC c s).2.2 = true) : s.length = (cutC c s).1.length + 1 + (cutC c s).2.1.length := by
  have := congrArg List.length (uncut c s)
  rw [if_pos h] at this
  simp at this; omega
theorem user_no {s : Bytes} (h : Can inUser s) : (64 : UInt8) ∉ s := by
  intro hc
  have := can_bytes h _ hc
  revert this; decide
theorem acctParse_err (s : Bytes) (h : (acctParse s).2 ≠ 0) : (acctParse s).1 = Acct.none := by
  unfold acctParse at h ⊢
  split
  · rfl
  rename_i h1
  rw [if_neg h1] at h
  split
  · rfl
  rename_i h2
  rw [if_neg h2] at h
  unfold acctRest at h ⊢
  split
  · rfl
  rename_i h3
  rw [if_neg h3] at h
  unfold acctOf at h ⊢
  split
  · rfl
  rename_i h4
  rw [if_neg h4] at h
  split
  · rfl
  rename_i h5
  rw [if_neg h5] at h
  exact absurd rfl h
/-- What an accepted account is like. -/
structure CanAcct (a : Acct) : Prop where
  user : Can inUser a.user
  ne : a.user ≠ []
  no : a.user.head? ≠ some 37
  host : hostM a.host = (a.host, 0)
theorem acct_can {s : Bytes} {a : Acct} (h : acctParse s = (a, 0)) : CanAcct a ∧ (acctText a).length ≤ s.length ∧ s.length ≤ 4096 := by
  unfold acctParse at h
  split at h
  · simp at h
  split at h
  · simp at h
  rename_i h1 h2
  unfold acctRest at h
  split at h
  · simp at h
  rename_i h3
  have hlen := cut_parts (c := 64) (s := s.drop 5) (by simpa using h3)
  rw [List.length_drop] at hlen
  unfold acctOf at h
  split at h
  · simp at h
  rename_i h4
  simp only [not_or] at h4
  split at h
  · rename_i h5; exact absurd (Prod.mk.inj h).2 h5
  rename_i h5
  simp only [Prod.mk.injEq, and_true] at h
  subst h
  have e : hostM (cutC 64 (s.drop 5)).2.1 = ((hostM (cutC 64 (s.drop 5)).2.1).1, 0) := by
    have : (hostM (cutC 64 (s.drop 5)).2.1).2 = 0 := by simpa using h5
    rw [← this]
  obtain ⟨k1, k2, k3⟩ := hostM_ok e
  refine ⟨⟨norm_can (by simpa using h4.1), h4.2.1, h4.2.2, k3⟩, ?_, by omega⟩
  have := pctNorm_len inUser (cutC 64 (s.drop 5)).1
  have hl : (hostM (cutC 64 (s.drop 5)).2.1).1.length = (cutC 64 (s.drop 5)).2.1.length := by rw [k1, lower_length]
  simp only [acctText, acctS, List.length_append, List.length_cons, List.length_nil]
  simp only [not_or] at h2
  omega
theorem acct_read {a : Acct} (h : CanAcct a) (hl : (acctText a).length ≤ 4096) : acctParse (acctText a) = (a, 0) := by
  have e1 : (acctText a).take 5 = acctS := rfl
  have e2 : (acctText a).drop 5 = a.user ++ 64 :: a.host := by show a.user ++ [64] ++ a.host = _; simp
  have l5 : 5 ≤ (acctText a).length := by simp [acctText, acctS]
  have lu : a.user.length ≤ 4096 := by simp [acctText] at hl; omega
  unfold acctParse
  rw [if_neg (by omega), if_neg (by rw [e1, show lower acctS = acctS by decide]; simp; omega), e2]
  unfold acctRest
  rw [cutC_some (pre_none (user_no h.user)), if_neg (by simp)]
  simp only
  rw [can_norm h.user (by omega), h.host]
  unfold acctOf
  rw [if_neg (by simp [h.ne, h.no]), if_neg (by simp)]
theorem acct_back {s : Bytes} {a : Acct} (h : acctParse s = (a, 0)) : acctParse (acctText a) = (a, 0) ∧ (acctText a).length ≤ s.length := by
  obtain ⟨h1, h2, h3⟩ := acct_can h
  exact ⟨acct_read h1 (by omega), h2⟩
end Wf
