/- Plain functions and laws of package mail. -/
import Derived.Test.YtnncgbamppaacaaDoorAcctP
set_option linter.all false
namespace Wf
open Go Go.RowKit
structure Mail where
  loc : Bytes
  host : Bytes
  deriving DecidableEq
def Mail.none : Mail := ⟨[], []⟩
/-- The other bytes of an atom. -/
def atomS : Bytes := [33, 35, 36, 37, 38, 39, 42, 43, 45, 47, 61, 63, 94, 95, 96, 123, 124, 125, 126]
def atomB (c : UInt8) : Bool := isAlpha c || isDigit c || atomS.contains c
def atomsOk (s : Bytes) : Bool := !s.isEmpty && s.all atomB
def localOk (s : Bytes) : Bool := (splitC 46 s).all atomsOk && decide (s.length ≤ 64)
def mailS : Bytes := [109, 97, 105, 108, 116, 111, 58]
/-- "!$'*+". -/
def keptS : Bytes := [33, 36, 39, 42, 43]
/-- "%!$'*+". -/
def keptP : Bytes := [37, 33, 36, 39, 42, 43]
def localC (c : UInt8) : Bool := unres c || keptP.contains c
def mailOf (l : Bytes × Int) (h : Bytes × Int) : Mail × Int :=
  if l.2 ≠ 0 then (Mail.none, l.2)
  else if localOk l.1 = false then (Mail.none, 80)
  else if h.2 ≠ 0 then (Mail.none, h.2)
  else if ipv4 h.1 = true then (Mail.none, 50)
  else (⟨l.1, h.1⟩, 0)
def mailRest (s : Bytes) : Mail × Int :=
  if (cutC 64 s).2.2 = false ∨ (63 : UInt8) ∈ s ∨ (35 : UInt8) ∈ s then (Mail.none, 6)
  else if (cutC 64 s).1.all localC = false then (Mail.none, 1)
  else mailOf (pctDecode (cutC 64 s).1) (hostM (cutC 64 s).2.1)
def mailParse (s : Bytes) : Mail × Int :=
  if 4096 < s.length then (Mail.none, 5)
  else if s.length < 7 ∨ lower (s.take 7) ≠ mailS then (Mail.none, 60)
  else mailRest (s.drop 7)
def mailText (m : Mail) : Bytes := mailS ++ pctEncode keptS m.loc ++ [64] ++ m.host
theorem enc_bytes (s : Bytes) : ∀ c ∈ pctEncode keptS s, localC c = true ∧ c ≠ 64 ∧ c ≠ 63 ∧ c ≠ 35 := by
  intro c hc
  obtain ⟨d, -, hd⟩ := List.mem_flatMap.1 hc
  have h1 := all256 (p := fun d => (encB keptS d).all fun c => localC c && c != 64 && c != 63 && c != 35) (by decide +kernel) d
  have := List.all_eq_true.1 h1 c hd
  simpa [and_assoc] using this
theorem localOk_len {s : Bytes} (h : localOk s = true) : s.length ≤ 64 := by
  unfold localOk at h
  simp only [Bool.and_eq_true, decide_eq_true_eq] at h
  exact h.2
structure CanMail (m : Mail) : Prop where
  loc : localOk m.loc = true
  host : hostM m.host = (m.host, 0)
  no : ipv4 m.host = false
theorem mailParse_err (s : Bytes) (h : (mailParse s).2 ≠ 0) : (mailParse s).1 = Mail.none := by
  unfold mailParse at h ⊢
  split
  · rfl
  rename_i h1
  rw [if_neg h1] at h
  split
  · rfl
  rename_i h2
  rw [if_neg h2] at h
  unfold mailRest at h ⊢
  split
  · rfl
  rename_i h3
  rw [if_neg h3] at h
  split
  · rfl
  rename_i h4
  rw [if_neg h4] at h
  unfold mailOf at h ⊢
  split
  · rfl
  rename_i h5
  rw [if_neg h5] at h
  split
  · rfl
  rename_i h6
  rw [if_neg h6] at h
  split
  · rfl
  rename_i h7
  rw [if_neg h7] at h
  split
  · rfl
  rename_i h8
  rw [if_neg h8] at h
  exact absurd rfl h
theorem mail_can {s : Bytes} {m : Mail} (h : mailParse s = (m, 0)) : CanMail m := by
  unfold mailParse at h
  split at h
  · simp at h
  split at h
  · simp at h
  unfold mailRest at h
  split at h
  · simp at h
  split at h
  · simp at h
  unfold mailOf at h
  split at h
  · rename_i h5; exact absurd (Prod.mk.inj h).2 h5
  split at h
  · simp at h
  rename_i h6
  split at h
  · rename_i h5; exact absurd (Prod.mk.inj h).2 h5
  split at h
  · simp at h
  rename_i h7 h8
  simp only [Prod.mk.injEq, and_true] at h
  subst h
  have e : hostM (cutC 64 (s.drop 7)).2.1 = ((hostM (cutC 64 (s.drop 7)).2.1).1, 0) := by
    have : (hostM (cutC 64 (s.drop 7)).2.1).2 = 0 := by simpa using h7
    rw [← this]
  exact ⟨by simpa using h6, (hostM_ok e).2.2, by simpa using h8⟩
theorem mail_read {m : Mail} (h : CanMail m) : mailParse (mailText m) = (m, 0) := by
  have e1 : (mailText m).take 7 = mailS := rfl
  have e2 : (mailText m).drop 7 = pctEncode keptS m.loc ++ 64 :: m.host := by show pctEncode keptS m.loc ++ [64] ++ m.host = _; simp
  have l7 : 7 ≤ (mailText m).length := by simp [mailText, mailS]
  have h1 := pctEncode_len keptS m.loc
  have h2 := localOk_len h.loc
  have h3 := (hostM_ok h.host).2.1
  have hl : (mailText m).length ≤ 4096 := by simp [mailText, mailS]; omega
  have hb := enc_bytes m.loc
  have hh := hostM_bytes h.host
  have nh : ∀ c ∈ m.host, c ≠ 63 ∧ c ≠ 35 := by
    intro c hc
    have := all256 (p := fun c => !(ldh c || c == 46) || (c != 63 && c != 35)) (by decide +kernel) c
    have h2 : (ldh c || c == 46) = true := by rcases hh c hc with h | rfl <;> simp [*]
    rw [h2] at this
    simpa using this
  unfold mailParse
  rw [if_neg (by omega), if_neg (by rw [e1, show lower mailS = mailS by decide]; simp; omega), e2]
  unfold mailRest
  rw [cutC_some (pre_none (fun k => (hb _ k).2.1 rfl))]
  simp only
  rw [if_neg ?_, if_neg ?_, pctDecode_encode keptS m.loc (by omega), h.host]
  · unfold mailOf
    rw [if_neg (by simp), if_neg (by simp [h.loc]), if_neg (by simp), if_neg (by simp [h.no])]
  · have : (pctEncode keptS m.loc).all localC = true := List.all_eq_true.2 fun c hc => (hb c hc).1
    rw [this]; simp
  · simp only [List.mem_append, List.mem_cons, not_or, reduceCtorEq, not_false_eq_true, true_and, Bool.true_eq_false]
    exact ⟨⟨fun k => (hb _ k).2.2.1 rfl, by decide, fun k => (nh _ k).1 rfl⟩, fun k => (hb _ k).2.2.2 rfl, by decide, fun k => (nh _ k).2 rfl⟩
theorem mail_back {s : Bytes} {m : Mail} (h : mailParse s = (m, 0)) : mailParse (mailText m) = (m, 0) ∧ localOk m.loc = true :=
  ⟨mail_read (mail_can h), (mail_can h).loc⟩
theorem mail_local {l : Bytes} (h : localOk l = true) : mailParse (mailText ⟨l, [97, 46, 101, 120, 97, 109, 112, 108, 101]⟩) = (⟨l, [97, 46, 101, 120, 97, 109, 112, 108, 101]⟩, 0) :=
  mail_read ⟨h, show hostM [97, 46, 101, 120, 97, 109, 112, 108, 101] = ([97, 46, 101, 120, 97, 109, 112, 108, 101], 0) by decide +kernel, show ipv4 [97, 46, 101, 120, 97, 109, 112, 108, 101] = false by decide +kernel⟩
/-- The bytes of a local part, one by one; 'dot': the byte before is a dot, or there is none. -/
def locGo : Bool → Bytes → Bool
  | dot, [] => !dot
  | dot, c :: r => if (c != 46 && !atomB c) || (c == 46 && dot) then false else locGo (c == 46) r
theorem atom_no {c : UInt8} (h : atomB c = true) : c ≠ 46 := by rintro rfl; revert h; decide
theorem locGo_split : ∀ (s cur : Bytes), cur.all atomB = true → locGo cur.isEmpty s = (splitC 46 (cur ++ s)).all atomsOk
  | [], cur, h => by
    have hn : (46 : UInt8) ∉ cur := fun k => atom_no (List.all_eq_true.1 h _ k) rfl
    rw [List.append_nil, splitC_miss (by rw [pre_none hn]; omega)]
    simp [locGo, atomsOk, h]
  | c :: r, cur, h => by
    have hn : (46 : UInt8) ∉ cur := fun k => atom_no (List.all_eq_true.1 h _ k) rfl
    rw [locGo]
    by_cases hc : c = 46
    · subst hc
      have hp : pre (· == 46) (cur ++ 46 :: r) = cur.length := pre_app (pre_none hn) 46 r (by decide)
      rw [splitC_hit (by rw [hp]; simp), hp, List.take_left, ← List.drop_drop, List.drop_left, List.drop_succ_cons, List.drop_zero, List.all_cons]
      have ih := locGo_split r [] rfl
      rw [List.nil_append] at ih
      rw [← ih]
      have ha : atomsOk cur = !cur.isEmpty := by simp [atomsOk, h]
      rw [ha]
      cases cur <;> simp
    · by_cases ha : atomB c = true
      · rw [if_neg (by simp [hc, ha])]
        have ih := locGo_split r (cur ++ [c]) (by simp [h, ha])
        rw [List.append_assoc, List.singleton_append] at ih
        rw [← ih]
        have : (c == 46) = false := by simpa using hc
        rw [this]
        cases cur <;> rfl
      · rw [if_pos (by simp [hc, ha])]
        symm
        rw [← Bool.not_eq_true]
        intro hall
        rcases mem_splitC 46 _ (cur ++ c :: r) (Nat.le_refl _) c (by simp) with h1 | ⟨x, h1, h2⟩
        · exact hc h1
        · have := List.all_eq_true.1 hall x h1
          unfold atomsOk at this
          simp only [Bool.and_eq_true] at this
          exact ha (List.all_eq_true.1 this.2 c h2)
theorem localOk_go (s : Bytes) : localOk s = (locGo true s && decide (s.length ≤ 64)) := by
  have := locGo_split s [] rfl
  rw [List.nil_append] at this
  unfold localOk
  rw [← this]; rfl
end Wf
