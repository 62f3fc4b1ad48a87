/- Texts of this claim, laid together: MailP, Number, Host, Host2, Own, RefHost, RefHost2, HostPC, RefSplit, MailW, UrlW, DidW, RefUri3, MailV, MailR, DidV, UriW3, UriN, UrlW2, RefUrl, UrlW3, UrlW4. -/
import Derived.Lib.QuietBelow
import Derived.Deep.QuietTactic
import Derived.BigQuiet
import Derived.Lib.FrozenHead
import Derived.Test.YtcndmooeglfilaaGreatDoorM4
/- Plain functions and laws of package mail. -/
set_option linter.all false
namespace Wf
open Go Go.RowKit
structure Mail where
  loc : Bytes
  host : Bytes
  deriving DecidableEq
def Mail.none : Mail := ⟨[], []⟩
def atomS : Bytes := [33, 35, 36, 37, 38, 39, 42, 43, 45, 47, 61, 63, 94, 95, 96, 123, 124, 125, 126]
def atomB (c : UInt8) : Bool := isAlpha c || isDigit c || atomS.contains c
def atomsOk (s : Bytes) : Bool := !s.isEmpty && s.all atomB
def localOk (s : Bytes) : Bool := (splitC 46 s).all atomsOk && decide (s.length ≤ 64)
def mailS : Bytes := [109, 97, 105, 108, 116, 111, 58]
def keptS : Bytes := [33, 36, 39, 42, 43]
def keptP : Bytes := [37, 33, 36, 39, 42, 43]
def localC (c : UInt8) : Bool := unres c || keptP.contains c
def mailOf (l : Bytes × Int) (h : Bytes × Int) : Mail × Int :=
  if l.2 ≠ 0 then (Mail.none, l.2)
  else if localOk l.1 = false then (Mail.none, 80)
  else if h.2 ≠ 0 then (Mail.none, h.2)
  else if ipv4 h.1 = true then (Mail.none, 50)
  else (⟨l.1, h.1⟩, 0)
def mailRest (s : Bytes) : Mail × Int :=
  if (cutC 64 s).2.2 = false ∨ (63 : UInt8) ∈ s ∨ (35 : UInt8) ∈ s then (Mail.none, 6)
  else if (cutC 64 s).1.all localC = false then (Mail.none, 1)
  else mailOf (pctDecode (cutC 64 s).1) (hostM (cutC 64 s).2.1)
def mailParse (s : Bytes) : Mail × Int :=
  if 4096 < s.length then (Mail.none, 5)
  else if s.length < 7 ∨ lower (s.take 7) ≠ mailS then (Mail.none, 60)
  else mailRest (s.drop 7)
def mailText (m : Mail) : Bytes := mailS ++ pctEncode keptS m.loc ++ [64] ++ m.host
theorem enc_bytes (s : Bytes) : ∀ c ∈ pctEncode keptS s, localC c = true ∧ c ≠ 64 ∧ c ≠ 63 ∧ c ≠ 35 := by
  intro c hc
  obtain ⟨d, -, hd⟩ := List.mem_flatMap.1 hc
  have h1 := all256 (p := fun d => (encB keptS d).all fun c => localC c && c != 64 && c != 63 && c != 35) (by decide +kernel) d
  have := List.all_eq_true.1 h1 c hd
  simpa [and_assoc] using this
theorem localOk_len {s : Bytes} (h : localOk s = true) : s.length ≤ 64 := by
  unfold localOk at h
  simp only [Bool.and_eq_true, decide_eq_true_eq] at h
  exact h.2
structure CanMail (m : Mail) : Prop where
  loc : localOk m.loc = true
  host : hostM m.host = (m.host, 0)
  no : ipv4 m.host = false
theorem mail_can {s : Bytes} {m : Mail} (h : mailParse s = (m, 0)) : CanMail m := by
  unfold mailParse at h
  split at h
  · simp at h
  split at h
  · simp at h
  unfold mailRest at h
  split at h
  · simp at h
  split at h
  · simp at h
  unfold mailOf at h
  split at h
  · rename_i h5; exact absurd (Prod.mk.inj h).2 h5
  split at h
  · simp at h
  rename_i h6
  split at h
  · rename_i h5; exact absurd (Prod.mk.inj h).2 h5
  split at h
  · simp at h
  rename_i h7 h8
  simp only [Prod.mk.injEq, and_true] at h
  subst h
  have e : hostM (cutC 64 (s.drop 7)).2.1 = ((hostM (cutC 64 (s.drop 7)).2.1).1, 0) := by
    have : (hostM (cutC 64 (s.drop 7)).2.1).2 = 0 := by simpa using h7
    rw [← this]
  exact ⟨by simpa using h6, (hostM_ok e).2.2, by simpa using h8⟩
theorem mail_read {m : Mail} (h : CanMail m) : mailParse (mailText m) = (m, 0) := by
  have e1 : (mailText m).take 7 = mailS := rfl
  have e2 : (mailText m).drop 7 = pctEncode keptS m.loc ++ 64 :: m.host := by show pctEncode keptS m.loc ++ [64] ++ m.host = _; simp
  have l7 : 7 ≤ (mailText m).length := by simp [mailText, mailS]
  have h1 := pctEncode_len keptS m.loc
  have h2 := localOk_len h.loc
  have h3 := (hostM_ok h.host).2.1
  have hl : (mailText m).length ≤ 4096 := by simp [mailText, mailS]; omega
  have hb := enc_bytes m.loc
  have hh := hostM_bytes h.host
  have nh : ∀ c ∈ m.host, c ≠ 63 ∧ c ≠ 35 := by
    intro c hc
    have := all256 (p := fun c => !(ldh c || c == 46) || (c != 63 && c != 35)) (by decide +kernel) c
    have h2 : (ldh c || c == 46) = true := by rcases hh c hc with h | rfl <;> simp [*]
    rw [h2] at this
    simpa using this
  unfold mailParse
  rw [if_neg (by omega), if_neg (by rw [e1, show lower mailS = mailS by decide]; simp; omega), e2]
  unfold mailRest
  rw [cutC_some (pre_none (fun k => (hb _ k).2.1 rfl))]
  simp only
  rw [if_neg ?_, if_neg ?_, pctDecode_encode keptS m.loc (by omega), h.host]
  · unfold mailOf
    rw [if_neg (by simp), if_neg (by simp [h.loc]), if_neg (by simp), if_neg (by simp [h.no])]
  · have : (pctEncode keptS m.loc).all localC = true := List.all_eq_true.2 fun c hc => (hb c hc).1
    rw [this]; simp
  · simp only [List.mem_append, List.mem_cons, not_or, reduceCtorEq, not_false_eq_true, true_and, Bool.true_eq_false]
    exact ⟨⟨fun k => (hb _ k).2.2.1 rfl, by decide, fun k => (nh _ k).1 rfl⟩, fun k => (hb _ k).2.2.2 rfl, by decide, fun k => (nh _ k).2 rfl⟩
def locGo : Bool → Bytes → Bool
  | dot, [] => !dot
  | dot, c :: r => if (c != 46 && !atomB c) || (c == 46 && dot) then false else locGo (c == 46) r
theorem atom_no {c : UInt8} (h : atomB c = true) : c ≠ 46 := by rintro rfl; revert h; decide
theorem locGo_split : ∀ (s cur : Bytes), cur.all atomB = true → locGo cur.isEmpty s = (splitC 46 (cur ++ s)).all atomsOk
  | [], cur, h => by
    have hn : (46 : UInt8) ∉ cur := fun k => atom_no (List.all_eq_true.1 h _ k) rfl
    rw [List.append_nil, splitC_miss (by rw [pre_none hn]; omega)]
    simp [locGo, atomsOk, h]
  | c :: r, cur, h => by
    have hn : (46 : UInt8) ∉ cur := fun k => atom_no (List.all_eq_true.1 h _ k) rfl
    rw [locGo]
    by_cases hc : c = 46
    · subst hc
      have hp : pre (· == 46) (cur ++ 46 :: r) = cur.length := pre_app (pre_none hn) 46 r (by decide)
      rw [splitC_hit (by rw [hp]; simp), hp, List.take_left, ← List.drop_drop, List.drop_left, List.drop_succ_cons, List.drop_zero, List.all_cons]
      have ih := locGo_split r [] rfl
      rw [List.nil_append] at ih
      rw [← ih]
      have ha : atomsOk cur = !cur.isEmpty := by simp [atomsOk, h]
      rw [ha]
      cases cur <;> simp
    · by_cases ha : atomB c = true
      · rw [if_neg (by simp [hc, ha])]
        have ih := locGo_split r (cur ++ [c]) (by simp [h, ha])
        rw [List.append_assoc, List.singleton_append] at ih
        rw [← ih]
        have : (c == 46) = false := by simpa using hc
        rw [this]
        cases cur <;> rfl
      · rw [if_pos (by simp [hc, ha])]
        symm
        rw [← Bool.not_eq_true]
        intro hall
        rcases mem_splitC 46 _ (cur ++ c :: r) (Nat.le_refl _) c (by simp) with h1 | ⟨x, h1, h2⟩
        · exact hc h1
        · have := List.all_eq_true.1 hall x h1
          unfold atomsOk at this
          simp only [Bool.and_eq_true] at this
          exact ha (List.all_eq_true.1 this.2 c h2)
theorem localOk_go (s : Bytes) : localOk s = (locGo true s && decide (s.length ≤ 64)) := by
  have := locGo_split s [] rfl
  rw [List.nil_append] at this
  unfold localOk
  rw [← this]; rfl
end Wf
/- The walks of package number. -/
set_option linter.all false
namespace Go.Proofs.YtcndmooeglfilaaGreatDoor
open Go.RowKit Wf
attribute [local go_sem] ex_list app_list get_list

set_option maxHeartbeats 400000 in
theorem number_value (c : UInt8) (w : World) (h : isHex c = true) : Calls Tryz.prog 206 #[.int .u8 c.toNat] w fun e w' => e = .returned (.int .u64 (hexVal c)) ∧ w = w' := by
  cases hd : isDigit c
  all_goals
    go_enter Tryz.func206, Tryz.ntmps206
    go_wp2_with (go_at_call 144; refine (ascii_IsDigit _ _).mono ?_; rintro e w' ⟨rfl, rfl⟩)
    go_ret
    refine ⟨ret_int ?_, rfl⟩
    have hb := or32 c
    simp [isHex, isDigit] at h hd
    unfold hexVal
    split <;> (try split) <;> omega

set_option maxHeartbeats 1000000 in
theorem number_parse10 (s : Bytes) (m : Nat) (w : World) (hs : s.length ≤ 9223372036854775807) (hm : m ≤ 4611686018427387904) :
    Calls Tryz.prog 200 #[(Value.string ⟨List.toArray (s)⟩), .int .u64 10, .int .u64 m, .func (.func 144) #[] #[]] w fun e w' => e = .returned (.tuple #[.int .u64 (numParse isDigit 10 m s).1, .int .i64 (numParse isDigit 10 m s).2]) ∧ w = w' := by
  cases hne : s.isEmpty
  · go_enter Tryz.func200, Tryz.ntmps200
    go_wp2_with fail
    go_loop [18] (fun i => ∃ k : Nat, k ≤ s.length ∧ i = .int .i64 k ∧ (s.take k).all isDigit = true) (fun i => s.length - (intOf i).toNat)
    case atStart => exact ⟨0, by omega, rfl, rfl⟩
    case round =>
      obtain ⟨k, hk, rfl, hall⟩ := hrel
      have Hall := hid hall
      clear hall
      by_cases hlt : k < s.length
      · cases hc : isDigit s[k]
        · go_wp2_with (go_at_call 144; refine (ascii_IsDigit _ _).mono ?_; rintro e w' ⟨rfl, rfl⟩)
          go_ret2
          exact ⟨ret_ni (by simp [numParse, hne, all_not hlt hc]), rfl⟩
        · go_wp2_with (go_at_call 144; refine (ascii_IsDigit _ _).mono ?_; rintro e w' ⟨rfl, rfl⟩)
          go_round
          case rel => exact ⟨k + 1, by omega, by go_num, all_take_snoc hlt Hall.out hc⟩
          case measure => simp [intOf]; omega
      · have hall : s.all isDigit = true := by have := Hall.out; rwa [List.take_of_length_le (by omega)] at this
        clear Hall
        have Hall := hid hall
        clear hall
        go_wp2_with fail
        go_loop [11, 30] (fun n i => ∃ k a : Nat, k ≤ s.length ∧ i = .int .i64 k ∧ a ≤ m ∧ n = .int .u64 a ∧ numGo 10 m a (s.drop k) = numGo 10 m 0 s) (fun _ i => s.length - (intOf i).toNat)
        case atStart => exact ⟨0, 0, by omega, rfl, by omega, rfl, rfl⟩
        case round =>
          obtain ⟨j, a, hj, rfl, ha, rfl, heq⟩ := hrel
          have Heq := hid heq
          clear heq
          by_cases hjt : j < s.length
          · have hv := hexVal_le (show isHex s[j] = true by have := all_get Hall.out hjt; first | exact this | (simp [isDigit, isHex] at this ⊢; omega))
            go_wp2_with (go_at_call 206; refine (number_value _ _ (by have := all_get Hall.out hjt; first | exact this | (simp [isDigit, isHex] at this ⊢; omega))).mono ?_; rintro e w' ⟨rfl, rfl⟩)
            all_goals first
              | (go_ret2; exact ⟨ret_ni (numParse_err hne Hall.out Heq.out hjt (by omega)), rfl⟩)
              | (go_round
                 case rel => exact ⟨j + 1, a * 10 + hexVal s[j], by omega, by go_num, by omega, by go_num, numParse_next Heq.out hjt (by omega)⟩
                 case measure => simp [intOf]; omega)
          · go_wp2_with fail
            go_ret2
            exact ⟨ret_ni (numParse_done hne Hall.out Heq.out hjt), rfl⟩
  · go_enter Tryz.func200, Tryz.ntmps200
    go_wp2_with fail
    go_ret2
    exact ⟨ret_ni (by simp [numParse, hne]), rfl⟩
set_option maxHeartbeats 400000 in
theorem number_Parse (s : Bytes) (m : Nat) (w : World) (hs : s.length ≤ 9223372036854775807) (hm : m ≤ 4611686018427387904) :
    Calls Tryz.prog 180 #[(Value.string ⟨List.toArray (s)⟩), .int .u64 m] w fun e w' => e = .returned (.tuple #[.int .u64 (numParse isDigit 10 m s).1, .int .i64 (numParse isDigit 10 m s).2]) ∧ w = w' := by
  go_enter Tryz.func180, Tryz.ntmps180
  go_wp2_with (go_at_call 200; refine (number_parse10 _ _ _ hs hm).mono ?_; rintro e w' ⟨rfl, rfl⟩)
  go_ret2
  exact ⟨rfl, rfl⟩
set_option maxHeartbeats 400000 in
theorem number_Strict (s : Bytes) (m : Nat) (w : World) (hs : s.length ≤ 9223372036854775807) (hm : m ≤ 4611686018427387904) :
    Calls Tryz.prog 153 #[(Value.string ⟨List.toArray (s)⟩), .int .u64 m] w fun e w' => e = .returned (.tuple #[.int .u64 (numStrict m s).1, .int .i64 (numStrict m s).2]) ∧ w = w' := by
  by_cases hd : digitsOk s = true
  · by_cases h1 : 1 < s.length
    · by_cases h0 : s[0] = 48
      · have Hq := hid (show numStrict m s = (0, 6) from if_pos ⟨hd, h1, by rw [head_get (by omega), h0]⟩)
        have hx : ((s[0].toNat : Int) == 48) = true := by simp [h0]
        clear h0
        go_enter Tryz.func153, Tryz.ntmps153
        go_wp2_with (go_at_call 179; refine (ascii_Digits _ _ hs).mono ?_; rintro e w' ⟨rfl, rfl⟩)
        go_ret2
        rw [Hq.out]
        exact ⟨rfl, rfl⟩
      · have Hq := hid (show numStrict m s = numParse isDigit 10 m s from if_neg (by rintro ⟨_, _, h⟩; rw [head_get (by omega)] at h; exact h0 (by simpa using h)))
        have hx : ((s[0].toNat : Int) == 48) = false := u8_ne h0
        clear h0
        go_enter Tryz.func153, Tryz.ntmps153
        go_wp2_with (first
          | (go_at_call 179; refine (ascii_Digits _ _ hs).mono ?_; rintro e w' ⟨rfl, rfl⟩)
          | (go_at_call 180; refine (number_Parse _ _ _ hs hm).mono ?_; rintro e w' ⟨rfl, rfl⟩))
        go_ret2
        rw [Hq.out]
        exact ⟨rfl, rfl⟩
    · have Hq := hid (show numStrict m s = numParse isDigit 10 m s from if_neg (by rintro ⟨_, h, _⟩; exact h1 h))
      go_enter Tryz.func153, Tryz.ntmps153
      go_wp2_with (first
        | (go_at_call 179; refine (ascii_Digits _ _ hs).mono ?_; rintro e w' ⟨rfl, rfl⟩)
        | (go_at_call 180; refine (number_Parse _ _ _ hs hm).mono ?_; rintro e w' ⟨rfl, rfl⟩))
      go_ret2
      rw [Hq.out]
      exact ⟨rfl, rfl⟩
  · have Hq := hid (show numStrict m s = numParse isDigit 10 m s from if_neg (by rintro ⟨h, _, _⟩; exact hd h))
    have hd2 : digitsOk s = false := by simpa using hd
    clear hd
    go_enter Tryz.func153, Tryz.ntmps153
    go_wp2_with (first
      | (go_at_call 179; refine (ascii_Digits _ _ hs).mono ?_; rintro e w' ⟨rfl, rfl⟩)
      | (go_at_call 180; refine (number_Parse _ _ _ hs hm).mono ?_; rintro e w' ⟨rfl, rfl⟩))
    go_ret2
    rw [Hq.out]
    exact ⟨rfl, rfl⟩
set_option maxHeartbeats 1000000 in
theorem ref04_parse10 (s : Bytes) (m : Nat) (w : World) (hs : s.length ≤ 9223372036854775807) (hm : m ≤ 4611686018427387904) :
    Calls Tryz.prog 191 #[(Value.string ⟨List.toArray (s)⟩), .int .u64 10, .int .u64 m] w fun e w' => e = .returned (.tuple #[.int .u64 (numParse isDigit 10 m s).1, .int .i64 (numParse isDigit 10 m s).2]) ∧ w = w' := by
  cases hne : s.isEmpty
  · go_enter Tryz.func191, Tryz.ntmps191
    go_wp2_with fail
    go_loop [8] (fun i => ∃ k : Nat, k ≤ s.length ∧ i = .int .i64 k ∧ (s.take k).all isDigit = true) (fun i => s.length - (intOf i).toNat)
    case atStart => exact ⟨0, by omega, rfl, rfl⟩
    case round =>
      obtain ⟨k, hk, rfl, hall⟩ := hrel
      have Hall := hid hall
      clear hall
      by_cases hlt : k < s.length
      · cases hc : isDigit s[k]
        · have Ha := hid (all_not hlt hc)
          go_wp2_with (go_at_call 96; refine (ref01_IsDigit _ _).mono ?_; rintro e w' ⟨rfl, rfl⟩)
          go_ret2
          exact ⟨ret_ni (by simp [numParse, hne, Ha.out]), rfl⟩
        · go_wp2_with (go_at_call 96; refine (ref01_IsDigit _ _).mono ?_; rintro e w' ⟨rfl, rfl⟩)
          go_round
          case rel => exact ⟨k + 1, by omega, by go_num, all_take_snoc hlt Hall.out hc⟩
          case measure => simp [intOf]; omega
      · have hall : s.all isDigit = true := by have := Hall.out; rwa [List.take_of_length_le (by omega)] at this
        clear Hall
        have Hall := hid hall
        clear hall
        go_wp2_with fail
        go_loop [9, 10] (fun n i => ∃ k a : Nat, k ≤ s.length ∧ i = .int .i64 k ∧ a ≤ m ∧ n = .int .u64 a ∧ numGo 10 m a (s.drop k) = numGo 10 m 0 s) (fun _ i => s.length - (intOf i).toNat)
        case atStart => exact ⟨0, 0, by omega, rfl, by omega, rfl, rfl⟩
        case round =>
          obtain ⟨j, a, hj, rfl, ha, rfl, heq⟩ := hrel
          have Heq := hid heq
          clear heq
          by_cases hjt : j < s.length
          · have hdg := all_get Hall.out hjt
            simp [isDigit] at hdg
            obtain ⟨hd1, hd2⟩ := hdg
            have Hv := hid (show (hexVal s[j] : Int) = s[j].toNat - 48 by unfold hexVal; rw [if_pos hd2]; omega)
            go_wp2_with fail
            all_goals
              have hu := u64_wrap ((m : Int) - (s[j].toNat - 48)) (by omega) (by omega)
              have hv := Hv.out
              first
              | (go_ret2; exact ⟨ret_ni (numParse_err hne Hall.out Heq.out hjt (by omega)), rfl⟩)
              | (go_round
                 case rel => exact ⟨j + 1, a * 10 + hexVal s[j], by omega, by go_num, by omega, congrArg (Value.int .u64) (by omega), numParse_next Heq.out hjt (by omega)⟩
                 case measure => simp [intOf]; omega)
          · go_wp2_with fail
            go_ret2
            exact ⟨ret_ni (numParse_done hne Hall.out Heq.out hjt), rfl⟩
  · go_enter Tryz.func191, Tryz.ntmps191
    go_wp2_with fail
    go_ret2
    exact ⟨ret_ni (by simp [numParse, hne]), rfl⟩
set_option maxHeartbeats 400000 in
theorem ref04_Strict (s : Bytes) (m : Nat) (w : World) (hs : s.length ≤ 9223372036854775807) (hm : m ≤ 4611686018427387904) :
    Calls Tryz.prog 160 #[(Value.string ⟨List.toArray (s)⟩), .int .u64 m] w fun e w' => e = .returned (.tuple #[.int .u64 (numStrict m s).1, .int .i64 (numStrict m s).2]) ∧ w = w' := by
  have hq : numStrict m s = if digitsOk s = true ∧ 1 < s.length ∧ s.head? = some 48 then (0, 6) else numParse isDigit 10 m s := rfl
  have he := numParse_err_dig m s
  have hc := ref04_parse10 s m w hs hm
  generalize numParse isDigit 10 m s = np at hq he hc
  obtain ⟨n, e⟩ := np
  simp only at hq he hc
  have Hc := hid hc
  clear hc
  by_cases hd : digitsOk s = true
  · rw [hd] at he
    simp only [iff_true] at he
    have hg : (e == 0 || e == 4) = true := by simp; omega
    by_cases h1 : 1 < s.length
    · by_cases h0 : s[0] = 48
      · rw [if_pos ⟨hd, h1, by rw [head_get (by omega), h0]⟩] at hq
        have Hq := hid hq
        have hx : ((s[0].toNat : Int) == 48) = true := by simp [h0]
        clear h0 hq
        rcases he with rfl | rfl
        all_goals
          go_enter Tryz.func160, Tryz.ntmps160
          go_wp2_with fail
          refine Hc.out.mono ?_
          rintro e w' ⟨rfl, rfl⟩
          go_wp2_with fail
          go_ret2
          rw [Hq.out]
          exact ⟨rfl, rfl⟩
      · rw [if_neg (by rintro ⟨_, _, h⟩; rw [head_get (by omega)] at h; exact h0 (by simpa using h))] at hq
        have Hq := hid hq
        have hx : ((s[0].toNat : Int) == 48) = false := u8_ne h0
        clear h0 hq
        rcases he with rfl | rfl
        all_goals
          go_enter Tryz.func160, Tryz.ntmps160
          go_wp2_with fail
          refine Hc.out.mono ?_
          rintro e w' ⟨rfl, rfl⟩
          go_wp2_with fail
          go_ret2
          rw [Hq.out]
          exact ⟨rfl, rfl⟩
    · rw [if_neg (by rintro ⟨_, h, _⟩; exact h1 h)] at hq
      have Hq := hid hq
      clear hq
      rcases he with rfl | rfl
      all_goals
        go_enter Tryz.func160, Tryz.ntmps160
        go_wp2_with fail
        refine Hc.out.mono ?_
        rintro e w' ⟨rfl, rfl⟩
        go_wp2_with fail
        go_ret2
        rw [Hq.out]
        exact ⟨rfl, rfl⟩
  · rw [if_neg (by rintro ⟨h, _, _⟩; exact hd h)] at hq
    have hd2 : digitsOk s = false := by simpa using hd
    rw [hd2] at he
    have h1 : (e == 0) = false := by simp; intro h; simp [h] at he
    have h2 : (e == 4) = false := by simp; intro h; simp [h] at he
    have Hq := hid hq
    clear hd he hq
    go_enter Tryz.func160, Tryz.ntmps160
    go_wp2_with fail
    refine Hc.out.mono ?_
    rintro e w' ⟨rfl, rfl⟩
    go_wp2_with fail
    go_ret2
    rw [Hq.out]
    exact ⟨rfl, rfl⟩
end Go.Proofs.YtcndmooeglfilaaGreatDoor
/- The walks of package host. -/
set_option linter.all false
namespace Go.Proofs.YtcndmooeglfilaaGreatDoor
open Go.RowKit Wf
attribute [local go_sem] ex_list app_list get_list

theorem labelOk_eq (s : Bytes) (h1 : s.isEmpty = false) (h2 : s.length ≤ 63) (h3 : ¬ s[0]? = some 45) (h4 : ¬ s[s.length - 1]? = some 45) : labelOk s = s.all ldh := by
  unfold labelOk
  rw [List.getLast?_eq_getElem?, List.head?_eq_getElem?]
  simp [h1, h2, h3, h4]

set_option maxHeartbeats 1000000 in
theorem host_label (s : Bytes) (w : World) (hs : s.length ≤ 9223372036854775807) :
    Calls Tryz.prog 178 #[(Value.string ⟨List.toArray (s)⟩)] w fun e w' => e = .returned (.bool (labelOk s)) ∧ w = w' := by
  cases h1 : s.isEmpty
  · by_cases h2 : 63 < s.length
    · have Hq := hid (show labelOk s = false by unfold labelOk; simp; omega)
      go_enter Tryz.func178, Tryz.ntmps178
      go_wp2_with fail
      go_ret
      exact ⟨ret_bool Hq.out.symm, rfl⟩
    · have hl : 0 < s.length := by cases s <;> simp at h1 ⊢
      by_cases h3 : s[0] = 45
      · have Hq := hid (show labelOk s = false by unfold labelOk; rw [head_get hl, h3]; simp)
        have hx : ((s[0].toNat : Int) == 45) = true := by simp [h3]
        clear h3
        go_enter Tryz.func178, Tryz.ntmps178
        go_wp2_with fail
        go_ret
        exact ⟨ret_bool Hq.out.symm, rfl⟩
      · have hx : ((s[0].toNat : Int) == 45) = false := u8_ne h3
        by_cases h4 : s[s.length - 1] = 45
        · have Hq := hid (show labelOk s = false by
            unfold labelOk
            rw [List.getLast?_eq_getElem?, List.getElem?_eq_getElem (by omega), h4]; simp)
          have hy : ((s[s.length - 1].toNat : Int) == 45) = true := by simp [h4]
          clear h4 h3
          go_enter Tryz.func178, Tryz.ntmps178
          go_wp2_with fail
          go_ret
          exact ⟨ret_bool Hq.out.symm, rfl⟩
        · have hy : ((s[s.length - 1].toNat : Int) == 45) = false := u8_ne h4
          have Hq := hid (labelOk_eq s h1 (by omega) (by rw [List.getElem?_eq_getElem hl]; simpa using h3) (by rw [List.getElem?_eq_getElem (by omega)]; simpa using h4))
          have hdec : decide (63 < (s.length : Int)) = false := decide_eq_false (by omega)
          clear h3 h4
          go_enter Tryz.func178, Tryz.ntmps178
          go_wp2_with fail
          go_loop [26] (fun i => ∃ k : Nat, k ≤ s.length ∧ i = .int .i64 k ∧ (s.take k).all ldh = true) (fun i => s.length - (intOf i).toNat)
          case atStart => exact ⟨0, by omega, rfl, rfl⟩
          case round => (
            obtain ⟨k, hk, rfl, hall⟩ := hrel
            have Hall := hid hall
            clear hall
            by_cases hlt : k < s.length
            · cases hc : ldh s[k]
              · have Ha := hid (all_not hlt hc)
                have hc' := hc
                unfold ldh at hc'
                simp only [Bool.or_eq_false_iff] at hc'
                obtain ⟨⟨c1, c2⟩, c3⟩ := hc'
                have c4 : ((s[k].toNat : Int) != 45) = true := by
                  have : s[k] ≠ 45 := by simpa using c3
                  rw [bne_iff_ne]
                  intro h
                  exact this (UInt8.toNat_inj.1 (by simp; omega))
                clear c3 hc
                go_wp2_with (first
                  | (go_at_call 185; refine (ascii_IsAlpha _ _).mono ?_; rintro e w' ⟨rfl, rfl⟩)
                  | (go_at_call 144; refine (ascii_IsDigit _ _).mono ?_; rintro e w' ⟨rfl, rfl⟩))
                go_ret
                exact ⟨ret_bool (by rw [Hq.out, Ha.out]), rfl⟩
              · have Hc := hid (all_take_snoc hlt Hall.out hc)
                unfold ldh at hc
                simp only [Bool.or_eq_true, beq_iff_eq] at hc
                rcases hc with (hc | hc) | hc
                · go_wp2_with (first
                  | (go_at_call 185; refine (ascii_IsAlpha _ _).mono ?_; rintro e w' ⟨rfl, rfl⟩)
                  | (go_at_call 144; refine (ascii_IsDigit _ _).mono ?_; rintro e w' ⟨rfl, rfl⟩))
                  go_round
                  case rel => exact ⟨k + 1, by omega, by go_num, Hc.out⟩
                  case measure => simp [intOf]; omega
                · cases hca : isAlpha s[k]
                  all_goals
                    go_wp2_with (first
                      | (go_at_call 185; refine (ascii_IsAlpha _ _).mono ?_; rintro e w' ⟨rfl, rfl⟩)
                      | (go_at_call 144; refine (ascii_IsDigit _ _).mono ?_; rintro e w' ⟨rfl, rfl⟩))
                    go_round
                    case rel => exact ⟨k + 1, by omega, by go_num, Hc.out⟩
                    case measure => simp [intOf]; omega
                · have c4 : ((s[k].toNat : Int) != 45) = false := by simp [hc]
                  clear hc
                  cases hca : isAlpha s[k] <;> cases hcd : isDigit s[k]
                  all_goals
                    go_wp2_with (first
                      | (go_at_call 185; refine (ascii_IsAlpha _ _).mono ?_; rintro e w' ⟨rfl, rfl⟩)
                      | (go_at_call 144; refine (ascii_IsDigit _ _).mono ?_; rintro e w' ⟨rfl, rfl⟩))
                    go_round
                    case rel => exact ⟨k + 1, by omega, by go_num, Hc.out⟩
                    case measure => simp [intOf]; omega
            · have hall := Hall.out
              rw [List.take_of_length_le (by omega)] at hall
              have Ha := hid hall
              clear hall Hall
              go_wp2_with fail
              go_ret
              exact ⟨ret_bool (by rw [Hq.out, Ha.out]), rfl⟩)
  · have Hq := hid (show labelOk s = false by unfold labelOk; simp [h1])
    go_enter Tryz.func178, Tryz.ntmps178
    go_wp2_with fail
    go_ret
    exact ⟨ret_bool Hq.out.symm, rfl⟩
set_option maxHeartbeats 1000000 in
theorem host_name (s : Bytes) (w : World) (hE : Env w) (hs : s.length < 4294967281) :
    Calls Tryz.prog 152 #[(Value.string ⟨List.toArray (s)⟩)] w fun e w' => e = .returned (.bool (nameOk s)) ∧ Below w.heap.size w w' := by
  go_enter Tryz.func152, Tryz.ntmps152
  go_wp2_with fail
  go_loopw [0] (fun v wr => ∃ r : Bytes, v = (Value.string ⟨List.toArray (r)⟩) ∧ r.length ≤ s.length ∧ Below w.heap.size w wr ∧ nameOk r = nameOk s) (fun v _ => sLen v)
  case atStart => exact ⟨s, rfl, by omega, Below.refl _ _, rfl⟩
  case round =>
    obtain ⟨r, rfl, hr, hw, heq⟩ := hrel
    have Hw := hid hw
    have HE := hid (hE.below hw)
    have Heq := hid heq
    clear hw heq
    by_cases hp : pre (· == 46) r < r.length
    · have hcut := hid (show cutC 46 r = (r.take (pre (· == 46) r), r.drop (pre (· == 46) r + 1), true) from if_pos hp)
      have hnl : nameOk r = (labelOk (r.take (pre (· == 46) r)) && nameOk (r.drop (pre (· == 46) r + 1))) := by
        unfold nameOk
        rw [splitC_hit hp]
        have := splitC_ne 46 (r.drop (pre (· == 46) r + 1))
        cases hsp : splitC 46 (r.drop (pre (· == 46) r + 1)) with
        | nil => exact absurd hsp this
        | cons y l => rfl
      cases hl : labelOk (r.take (pre (· == 46) r))
      all_goals
        rw [hl] at hnl
        have Hnl := hid (hnl.symm.trans Heq.out)
        clear hnl
        go_wp2_with fail
        refine (s_Cut r 46 wr HE.out (by omega)).mono ?_
        rintro e w2 ⟨rfl, n, hw2⟩
        rw [hcut.out]
        have Hw2 : Hid (Below w.heap.size w w2) := hid (by rw [hw2]; exact below_drewN Hw.out _)
        clear hw2
        go_wp2_with (go_at_call 178; refine (host_label _ _ (by simp; omega)).mono ?_; rintro e w' ⟨rfl, rfl⟩)
      · go_ret
        exact ⟨ret_bool Hnl.out, Hw2.out⟩
      · go_roundw
        case rel => exact ⟨_, rfl, by simp; omega, Hw2.out, Hnl.out⟩
        case measure => simp [sLen_mk]; omega
    · have hcut := hid (show cutC 46 r = (r, [], false) from if_neg hp)
      have hnl : nameOk r = (labelOk r && !digitsOk r) := by unfold nameOk; rw [splitC_miss hp]; rfl
      have Hnl := hid (hnl.symm.trans Heq.out)
      clear hnl
      cases hl : labelOk r
      all_goals
        rw [hl] at Hnl
        go_wp2_with fail
        refine (s_Cut r 46 wr HE.out (by omega)).mono ?_
        rintro e w2 ⟨rfl, n, hw2⟩
        rw [hcut.out]
        have Hw2 : Hid (Below w.heap.size w w2) := hid (by rw [hw2]; exact below_drewN Hw.out _)
        clear hw2
        go_wp2_with (first
          | (go_at_call 178; refine (host_label _ _ (by omega)).mono ?_; rintro e w' ⟨rfl, rfl⟩)
          | (go_at_call 179; refine (ascii_Digits _ _ (by omega)).mono ?_; rintro e w' ⟨rfl, rfl⟩))
        go_ret
        exact ⟨ret_bool (by have := Hnl.out; simpa using this), Hw2.out⟩
set_option maxHeartbeats 1000000 in
theorem host_IsIPv4 (s : Bytes) (w : World) (hE : Env w) (hs : s.length < 4294967281) :
    Calls Tryz.prog 151 #[(Value.string ⟨List.toArray (s)⟩)] w fun e w' => e = .returned (.bool (ipv4 s)) ∧ Below w.heap.size w w' := by
  have hq : ipv4 s = ((splitC 46 s).length == 4 && (splitC 46 s).all octetOk) := rfl
  have hsp := s_Split s 46 w hE hs
  have hlen : ∀ x ∈ splitC 46 s, x.length ≤ s.length := splitC_len 46 s
  generalize splitC 46 s = parts at hq hsp hlen
  have Hq := hid hq
  have Hsp := hid hsp
  have Hlen := hid hlen
  clear hq hsp hlen
  by_cases h4 : parts.length = 4
  · have hx : ((parts.length : Int) != 4) = false := by simp [h4]
    go_enter Tryz.func151, Tryz.ntmps151
    go_wp2_with fail
    refine Hsp.out.mono ?_
    rintro e w1 ⟨rfl, hw1⟩
    have Hrow : Hid (RowStr w1 w.heap.size parts) := hid (by rw [hw1]; have := RowStr.alloc w parts [] 9; simpa using this)
    have Hw1 : Hid (Below w.heap.size w w1) := hid (by rw [hw1]; exact (Below.refl _ _).alloc (Nat.le_refl _) _)
    clear hw1
    go_wp2_with fail
    go_loop [15] (fun i => ∃ k : Nat, k ≤ 4 ∧ i = .int .i64 k ∧ (parts.take k).all octetOk = true) (fun i => 4 - (intOf i).toNat)
    case atStart => exact ⟨0, by omega, rfl, rfl⟩
    case round =>
      obtain ⟨k, hk, rfl, hall⟩ := hrel
      have Hall := hid hall
      clear hall
      by_cases hlt : k < 4
      · have hkl : k < parts.length := by omega
        have hcell := Hrow.out k hkl
        have hln := Hlen.out parts[k] (List.getElem_mem hkl)
        have hoc : octetOk parts[k] = ((numStrict 255 parts[k]).2 == 0) := rfl
        cases hc : octetOk parts[k]
        · have Ha := hid (all_not hkl hc)
          have hn : ((numStrict 255 parts[k]).2 != 0) = true := by rw [hc] at hoc; simp only [bne]; rw [← hoc]; rfl
          clear hoc
          go_wp2_with (go_at_call 153; refine (number_Strict _ 255 _ (by omega) (by omega)).mono ?_; rintro e w' ⟨rfl, rfl⟩)
          go_ret
          exact ⟨ret_bool (by rw [Hq.out, Ha.out]; simp), Hw1.out⟩
        · have Hn := hid (all_take_snoc hkl Hall.out hc)
          have hn : ((numStrict 255 parts[k]).2 != 0) = false := by rw [hc] at hoc; simp only [bne]; rw [← hoc]; rfl
          clear hoc
          go_wp2_with (go_at_call 153; refine (number_Strict _ 255 _ (by omega) (by omega)).mono ?_; rintro e w' ⟨rfl, rfl⟩)
          go_round
          case rel => exact ⟨k + 1, by omega, by go_num, Hn.out⟩
          case measure => simp [intOf]; omega
      · have hall := Hall.out
        rw [List.take_of_length_le (by omega)] at hall
        have Ha := hid hall
        clear hall Hall
        go_wp2_with fail
        go_ret
        exact ⟨ret_bool (by rw [Hq.out, Ha.out, h4]; rfl), Hw1.out⟩
  · have hx : ((parts.length : Int) != 4) = true := by simp; omega
    go_enter Tryz.func151, Tryz.ntmps151
    go_wp2_with fail
    refine Hsp.out.mono ?_
    rintro e w1 ⟨rfl, hw1⟩
    have Hw1 : Hid (Below w.heap.size w w1) := hid (by rw [hw1]; exact (Below.refl _ _).alloc (Nat.le_refl _) _)
    clear hw1
    go_wp2_with fail
    go_ret
    exact ⟨ret_bool (by rw [Hq.out]; simp [h4]), Hw1.out⟩
set_option maxHeartbeats 1000000 in
theorem host_Host (s : Bytes) (w : World) (hE : Env w) (hs : s.length < 4294967281) :
    Calls Tryz.prog 113 #[(Value.string ⟨List.toArray (s)⟩)] w fun e w' => e = .returned (.tuple #[(Value.string ⟨List.toArray ((hostM s).1)⟩), .int .i64 (hostM s).2]) ∧ Below w.heap.size w w' := by
  cases h1 : s.isEmpty
  · by_cases h2 : 253 < s.length
    · have Hq := hid (show hostM s = ([], 5) by unfold hostM; simp [h1, h2])
      go_enter Tryz.func113, Tryz.ntmps113
      go_wp2_with fail
      go_ret2
      rw [Hq.out]
      exact ⟨rfl, Below.refl _ _⟩
    · cases h3 : ipv4 s
      · cases h4 : nameOk s
        · have Hq := hid (show hostM s = ([], 50) by unfold hostM; simp [h1, h2, h3, h4])
          go_enter Tryz.func113, Tryz.ntmps113
          go_wp2_with (first
            | (go_at_call 151; refine (host_IsIPv4 _ _ hE hs).mono ?_; rintro e w1 ⟨rfl, hw1⟩)
            | (go_at_call 152; refine (host_name _ _ (hE.below ‹_›) hs).mono ?_; rintro e w2 ⟨rfl, hw2⟩))
          go_ret2
          rw [Hq.out]
          exact ⟨rfl, below_all ‹_› ‹_›⟩
        · have Hq := hid (show hostM s = (lower s, 0) by unfold hostM; simp [h1, h2, h3, h4])
          go_enter Tryz.func113, Tryz.ntmps113
          go_wp2_with (first
            | (go_at_call 151; refine (host_IsIPv4 _ _ hE hs).mono ?_; rintro e w1 ⟨rfl, hw1⟩)
            | (go_at_call 152; refine (host_name _ _ (hE.below hw1) hs).mono ?_; rintro e w2 ⟨rfl, hw2⟩)
            | (go_at_call 85; refine (ascii_Lower _ _ (by omega)).mono ?_; rintro e w3 ⟨rfl, hw3⟩))
          go_ret2
          rw [Hq.out]
          exact ⟨rfl, below_all (below_all hw1 hw2) hw3⟩
      · have Hq := hid (show hostM s = (lower s, 0) by unfold hostM; simp [h1, h2, h3])
        go_enter Tryz.func113, Tryz.ntmps113
        go_wp2_with (first
          | (go_at_call 151; refine (host_IsIPv4 _ _ hE hs).mono ?_; rintro e w1 ⟨rfl, hw1⟩)
          | (go_at_call 85; refine (ascii_Lower _ _ (by omega)).mono ?_; rintro e w3 ⟨rfl, hw3⟩))
        go_ret2
        rw [Hq.out]
        exact ⟨rfl, below_all hw1 hw3⟩
  · have Hq := hid (show hostM s = ([], 3) by unfold hostM; simp [h1])
    go_enter Tryz.func113, Tryz.ntmps113
    go_wp2_with fail
    go_ret2
    rw [Hq.out]
    exact ⟨rfl, Below.refl _ _⟩
end Go.Proofs.YtcndmooeglfilaaGreatDoor
/- The walks of package host: ports, hosts with ports, texts. -/
set_option linter.all false
namespace Go.Proofs.YtcndmooeglfilaaGreatDoor
open Go.RowKit Go.Sort Wf
attribute [local go_sem] ex_list app_list get_list

set_option maxHeartbeats 400000 in
theorem host_Port (s : Bytes) (w : World) (hs : s.length ≤ 9223372036854775807) :
    Calls Tryz.prog 114 #[(Value.string ⟨List.toArray (s)⟩)] w fun e w' => e = .returned (.tuple #[.int .i64 (portM s).1, .int .i64 (portM s).2]) ∧ w = w' := by
  have hle := numStrict_le 65535 s
  have hq : portM s = if (numStrict 65535 s).2 ≠ 0 ∨ (numStrict 65535 s).1 = 0 then (0, 51) else (((numStrict 65535 s).1 : Int), 0) := rfl
  have hc := number_Strict s 65535 w (by omega) (by omega)
  generalize numStrict 65535 s = np at hle hq hc
  obtain ⟨n, e⟩ := np
  simp only at hle hq hc
  have Hc := hid hc
  clear hc
  by_cases he : e = 0
  · subst he
    by_cases hn : n = 0
    · rw [if_pos (Or.inr hn)] at hq
      have Hq := hid hq
      have hx : ((n : Int) == 0) = true := by simp [hn]
      clear hq hn
      go_enter Tryz.func114, Tryz.ntmps114
      go_wp2_with fail
      refine Hc.out.mono ?_
      rintro e w' ⟨rfl, rfl⟩
      go_wp2_with fail
      go_ret2
      rw [Hq.out]
      exact ⟨rfl, rfl⟩
    · rw [if_neg (by simp [hn])] at hq
      have Hq := hid hq
      have hx : ((n : Int) == 0) = false := by simp [hn]
      clear hq hn
      go_enter Tryz.func114, Tryz.ntmps114
      go_wp2_with fail
      refine Hc.out.mono ?_
      rintro e w' ⟨rfl, rfl⟩
      go_wp2_with fail
      go_ret2
      rw [Hq.out]
      exact ⟨rfl, rfl⟩
  · rw [if_pos (Or.inl he)] at hq
    have Hq := hid hq
    have hx : (e != 0) = true := by simp [he]
    clear hq
    go_enter Tryz.func114, Tryz.ntmps114
    go_wp2_with fail
    refine Hc.out.mono ?_
    rintro e w' ⟨rfl, rfl⟩
    go_wp2_with fail
    go_ret2
    rw [Hq.out]
    exact ⟨rfl, rfl⟩
set_option maxHeartbeats 1000000 in
theorem host_Parse (s : Bytes) (w : World) (hE : Env w) (hs : s.length < 4294967281) :
    Calls Tryz.prog 64 #[(Value.string ⟨List.toArray (s)⟩)] w fun e w' => e = .returned (.tuple #[.agg #[(Value.string ⟨List.toArray ((hostPort s).1.1)⟩), .int .i64 (hostPort s).1.2], .int .i64 (hostPort s).2]) ∧ Below w.heap.size w w' := by
  have hcl := cutC_len 58 s
  have hct := fun w hE => s_Cut s 58 w hE hs
  have hq : hostPort s = hostPortOf (hostM (cutC 58 s).1) (cutC 58 s).2.2 (portM (cutC 58 s).2.1) := rfl
  generalize cutC 58 s = C at hcl hct hq
  obtain ⟨first, rest, colon⟩ := C
  simp only at hcl hct hq
  have hh := fun w hE => host_Host first w hE (by omega)
  have hp := fun w => host_Port rest w (by omega)
  generalize hostM first = H at hq hh
  generalize portM rest = P at hq hp
  obtain ⟨h, e⟩ := H
  obtain ⟨p, f⟩ := P
  simp only at hh hp
  have Hct := hid hct
  have Hh := hid hh
  have Hp := hid hp
  clear hct hh hp hcl
  have ha := heap_new w (.cells #[(Value.string ⟨List.toArray ([])⟩), .int .i64 0] 33)
  have hba : Below w.heap.size w (w.alloc (.cells #[(Value.string ⟨List.toArray ([])⟩), .int .i64 0] 33)) := (Below.refl _ _).alloc (Nat.le_refl _) _
  generalize hwa : w.alloc (.cells #[(Value.string ⟨List.toArray ([])⟩), .int .i64 0] 33) = wa at ha hba
  have Ha := hid ha
  have Hba := hid hba
  have Hwa := hid hwa
  clear ha hba hwa
  by_cases he : e = 0
  · subst he
    cases colon
    · have Hq := hid (show hostPort s = ((h, 0), 0) from hq)
      clear hq
      go_enter Tryz.func64, Tryz.ntmps64
      go_wp2_with fail
      rw [Hwa.out]
      refine (Hct.out _ (hE.below Hba.out)).mono ?_
      rintro e w1 ⟨rfl, n, hw1⟩
      have Hw1 : Hid (Below w.heap.size w w1) := hid (by rw [hw1]; exact below_drewN Hba.out _)
      have Ha1 : Hid (w1.heap[w.heap.size]? = some (.cells #[(Value.string ⟨List.toArray ([])⟩), .int .i64 0] 33 (0, 0))) := hid (by rw [hw1]; exact Ha.out)
      clear hw1
      go_wp2_with fail
      refine (Hh.out _ (hE.below Hw1.out)).mono ?_
      rintro e w2 ⟨rfl, hw2⟩
      have Ha2 := hid ((hw2.block _ (heap_lt Ha1.out)).trans Ha1.out)
      have Hw2 := hid (below_all Hw1.out hw2)
      clear hw2
      have hlt := heap_lt Ha2.out
      have c0 := Lib.cell_of_heap Ha2.out 0
      have c1 := Lib.cell_of_heap Ha2.out 1
      have z0 := Lib.frozen_of_heap Ha2.out 0
      have z1 := Lib.frozen_of_heap Ha2.out 1
      go_wp2_with fail
      refine bodyPost_ret (v := .tuple #[.agg #[(Value.string ⟨List.toArray (h)⟩), .int .i64 0], .int .i64 0]) (by simp [results, Tryz.results64, go_sem, c0, c1, hlt]) rfl ⟨?_, ?_⟩
      · rw [Hq.out]
      · repeat (first | exact Hw2.out | (refine Below.setCell (p := ⟨_, _, none⟩) ?_ (by simp <;> omega) _) | (refine Below.alloc ?_ (by simp <;> omega) _) | refine Below.drew ?_)
    · by_cases hf : f = 0
      · subst hf
        by_cases h443 : p = 443
        · have Hq := hid (show hostPort s = ((h, 0), 0) by rw [hq]; unfold hostPortOf; simp [h443])
          have hx : (p == 443) = true := by simp [h443]
          clear hq h443
          go_enter Tryz.func64, Tryz.ntmps64
          go_wp2_with fail
          rw [Hwa.out]
          refine (Hct.out _ (hE.below Hba.out)).mono ?_
          rintro e w1 ⟨rfl, n, hw1⟩
          have Hw1 : Hid (Below w.heap.size w w1) := hid (by rw [hw1]; exact below_drewN Hba.out _)
          have Ha1 : Hid (w1.heap[w.heap.size]? = some (.cells #[(Value.string ⟨List.toArray ([])⟩), .int .i64 0] 33 (0, 0))) := hid (by rw [hw1]; exact Ha.out)
          clear hw1
          go_wp2_with fail
          refine (Hh.out _ (hE.below Hw1.out)).mono ?_
          rintro e w2 ⟨rfl, hw2⟩
          have Ha2 := hid ((hw2.block _ (heap_lt Ha1.out)).trans Ha1.out)
          have Hw2 := hid (below_all Hw1.out hw2)
          clear hw2
          have hlt := heap_lt Ha2.out
          have c0 := Lib.cell_of_heap Ha2.out 0
          have c1 := Lib.cell_of_heap Ha2.out 1
          have z0 := Lib.frozen_of_heap Ha2.out 0
          have z1 := Lib.frozen_of_heap Ha2.out 1
          go_wp2_with (go_at_call 114; refine (Hp.out _).mono ?_; rintro e w3 ⟨rfl, rfl⟩)
          refine bodyPost_ret (v := .tuple #[.agg #[(Value.string ⟨List.toArray (h)⟩), .int .i64 0], .int .i64 0]) (by simp [results, Tryz.results64, go_sem, c0, c1, hlt]) rfl ⟨?_, ?_⟩
          · rw [Hq.out]
          · repeat (first | exact Hw2.out | (refine Below.setCell (p := ⟨_, _, none⟩) ?_ (by simp <;> omega) _) | (refine Below.alloc ?_ (by simp <;> omega) _) | refine Below.drew ?_)
        · have Hq := hid (show hostPort s = ((h, p), 0) by rw [hq]; unfold hostPortOf; simp [h443])
          have hx : (p == 443) = false := by simp [h443]
          clear hq h443
          go_enter Tryz.func64, Tryz.ntmps64
          go_wp2_with fail
          rw [Hwa.out]
          refine (Hct.out _ (hE.below Hba.out)).mono ?_
          rintro e w1 ⟨rfl, n, hw1⟩
          have Hw1 : Hid (Below w.heap.size w w1) := hid (by rw [hw1]; exact below_drewN Hba.out _)
          have Ha1 : Hid (w1.heap[w.heap.size]? = some (.cells #[(Value.string ⟨List.toArray ([])⟩), .int .i64 0] 33 (0, 0))) := hid (by rw [hw1]; exact Ha.out)
          clear hw1
          go_wp2_with fail
          refine (Hh.out _ (hE.below Hw1.out)).mono ?_
          rintro e w2 ⟨rfl, hw2⟩
          have Ha2 := hid ((hw2.block _ (heap_lt Ha1.out)).trans Ha1.out)
          have Hw2 := hid (below_all Hw1.out hw2)
          clear hw2
          have hlt := heap_lt Ha2.out
          have c0 := Lib.cell_of_heap Ha2.out 0
          have c1 := Lib.cell_of_heap Ha2.out 1
          have z0 := Lib.frozen_of_heap Ha2.out 0
          have z1 := Lib.frozen_of_heap Ha2.out 1
          go_wp2_with (go_at_call 114; refine (Hp.out _).mono ?_; rintro e w3 ⟨rfl, rfl⟩)
          refine bodyPost_ret (v := .tuple #[.agg #[(Value.string ⟨List.toArray (h)⟩), .int .i64 p], .int .i64 0]) (by simp [results, Tryz.results64, go_sem, c0, c1, hlt]) rfl ⟨?_, ?_⟩
          · rw [Hq.out]
          · repeat (first | exact Hw2.out | (refine Below.setCell (p := ⟨_, _, none⟩) ?_ (by simp <;> omega) _) | (refine Below.alloc ?_ (by simp <;> omega) _) | refine Below.drew ?_)
      · have Hq := hid (show hostPort s = (([], 0), f) by rw [hq]; unfold hostPortOf; simp [hf])
        have hx : (f != 0) = true := by simp [hf]
        clear hq hf
        go_enter Tryz.func64, Tryz.ntmps64
        go_wp2_with fail
        rw [Hwa.out]
        refine (Hct.out _ (hE.below Hba.out)).mono ?_
        rintro e w1 ⟨rfl, n, hw1⟩
        have Hw1 : Hid (Below w.heap.size w w1) := hid (by rw [hw1]; exact below_drewN Hba.out _)
        have Ha1 : Hid (w1.heap[w.heap.size]? = some (.cells #[(Value.string ⟨List.toArray ([])⟩), .int .i64 0] 33 (0, 0))) := hid (by rw [hw1]; exact Ha.out)
        clear hw1
        go_wp2_with fail
        refine (Hh.out _ (hE.below Hw1.out)).mono ?_
        rintro e w2 ⟨rfl, hw2⟩
        have Ha2 := hid ((hw2.block _ (heap_lt Ha1.out)).trans Ha1.out)
        have Hw2 := hid (below_all Hw1.out hw2)
        clear hw2
        have hlt := heap_lt Ha2.out
        have c0 := Lib.cell_of_heap Ha2.out 0
        have c1 := Lib.cell_of_heap Ha2.out 1
        have z0 := Lib.frozen_of_heap Ha2.out 0
        have z1 := Lib.frozen_of_heap Ha2.out 1
        go_wp2_with (go_at_call 114; refine (Hp.out _).mono ?_; rintro e w3 ⟨rfl, rfl⟩)
        refine bodyPost_ret (v := .tuple #[.agg #[(Value.string ⟨List.toArray ([])⟩), .int .i64 0], .int .i64 f]) (by simp [results, Tryz.results64, go_sem, c0, c1, hlt]) rfl ⟨?_, ?_⟩
        · rw [Hq.out]
        · repeat (first | exact Hw2.out | (refine Below.setCell (p := ⟨_, _, none⟩) ?_ (by simp <;> omega) _) | (refine Below.alloc ?_ (by simp <;> omega) _) | refine Below.drew ?_)
  · have hx : (e != 0) = true := by simp [he]
    have Hq := hid (show hostPort s = (([], 0), e) by rw [hq]; unfold hostPortOf; rw [if_pos he])
    clear hq he
    go_enter Tryz.func64, Tryz.ntmps64
    go_wp2_with fail
    rw [Hwa.out]
    refine (Hct.out _ (hE.below Hba.out)).mono ?_
    rintro e w1 ⟨rfl, n, hw1⟩
    have Hw1 : Hid (Below w.heap.size w w1) := hid (by rw [hw1]; exact below_drewN Hba.out _)
    have Ha1 : Hid (w1.heap[w.heap.size]? = some (.cells #[(Value.string ⟨List.toArray ([])⟩), .int .i64 0] 33 (0, 0))) := hid (by rw [hw1]; exact Ha.out)
    clear hw1
    go_wp2_with fail
    refine (Hh.out _ (hE.below Hw1.out)).mono ?_
    rintro e w2 ⟨rfl, hw2⟩
    have Ha2 := hid ((hw2.block _ (heap_lt Ha1.out)).trans Ha1.out)
    have Hw2 := hid (below_all Hw1.out hw2)
    clear hw2
    have hlt := heap_lt Ha2.out
    have c0 := Lib.cell_of_heap Ha2.out 0
    have c1 := Lib.cell_of_heap Ha2.out 1
    have z0 := Lib.frozen_of_heap Ha2.out 0
    have z1 := Lib.frozen_of_heap Ha2.out 1
    go_wp2_with fail
    refine bodyPost_ret (v := .tuple #[.agg #[(Value.string ⟨List.toArray ([])⟩), .int .i64 0], .int .i64 e]) (by simp [results, Tryz.results64, go_sem, c0, c1]) rfl ⟨?_, ?_⟩
    · rw [Hq.out]
    · repeat (first | exact Hw2.out | (refine Below.setCell (p := ⟨_, _, none⟩) ?_ (by simp <;> omega) _) | (refine Below.alloc ?_ (by simp <;> omega) _) | refine Below.drew ?_)
theorem slice_buf (B a : Nat) (ha : a ≤ 19) (W : World) : (Instr.sliceAt 139 (.pointer (some ⟨B, 0, none⟩)) (some (.int .i64 a)) none none).run Tryz.prog W = .ok (.slice (some ⟨B, a, none⟩) (20 - a) (20 - a)) W := by
  have h20 : Tryz.prog.arrayLen 139 = 20 := by kernel_rfl
  have he : Tryz.prog.elem 139 = 5 := by kernel_rfl
  have hu : Tryz.prog.underlying 139 = some (.array (Tryz.prog.arrayLen 139) (Tryz.prog.elem 139)) := by kernel_rfl
  rw [run_sliceAt_array_l W _ ⟨B, 0, none⟩ hu .i64 a (by omega) (by rw [h20]; omega), he, h20, Tryz.sizeOf5]
  have : ¬ (20 = a) := by omega
  simp [Result.andThen, slicedAt, addr_add, this]
set_option maxHeartbeats 400000 in
theorem number_Format (n : Nat) (w : World) (hn : n ≤ 18446744073709551615) :
    Calls Tryz.prog 77 #[.int .u64 n] w fun e w' => e = .returned (Value.string ⟨List.toArray (decS n)⟩) ∧ Below w.heap.size w w' := by
  have hlen : (decS n).length ≤ 20 := decS_length 19 n (by omega)
  go_enter Tryz.func77, Tryz.ntmps77
  go_wp2_with fail
  go_loopw [0, 4] (fun v i wr => ∃ (k a : Nat) (x ds : Bytes), v = .int .u64 k ∧ i = .int .i64 a ∧ k ≤ 18446744073709551615 ∧ a ≤ 19 ∧ RowU8 wr w.heap.size (x ++ ds) ∧ x.length = a + 1 ∧ ds.length = 19 - a ∧ decS k ++ ds = decS n ∧ (decS k).length ≤ a + 1 ∧ Below w.heap.size w wr) (fun v _ _ => (intOf v).toNat)
  case atStart =>
    refine ⟨n, 19, List.replicate 20 0, [], rfl, rfl, hn, by omega, ?_, by simp, rfl, by simp, hlen, (Below.refl _ _).alloc (Nat.le_refl _) _⟩
    exact ⟨[], _, (0, 0), heap_new _ _, Or.inr (by simp)⟩
  case round =>
    obtain ⟨k, a, x, ds, rfl, rfl, hk, ha, hrow, hx, hds, heq, hl, hw⟩ := hrel
    obtain ⟨y, z, rfl, hy⟩ := snoc_of hx
    have e : y ++ [z] ++ ds = y ++ z :: ds := by simp
    rw [e] at hrow
    obtain ⟨cv, hcell⟩ : ∃ q : Int, wr.cell? ⟨w.heap.size, a, none⟩ = some (.int .u8 q) := ⟨_, hrow.cell (k := a) (by simp; omega)⟩
    have hfz := hrow.frozen (k := a) (by simp; omega)
    have Hrow := hid hrow
    have Heq := hid heq
    have Hw := hid hw
    have Hy := hid hy
    have Hds := hid hds
    clear hrow heq hw hy hds hx e
    by_cases h10 : k < 10
    · have hst := Hrow.out.set (k := a) (by have := Hy.out; simp; omega) (dig k)
      have hset : (y ++ z :: ds).set a (dig k) = y ++ (dig k) :: ds := by rw [← Hy.out]; exact set_mid y z _ ds
      rw [hset, digit_toNat h10] at hst
      have hback := fun cap => hst.backAt Hy.out cap
      have hdl : ((dig k) :: ds).length = 20 - a := by have := Hds.out; simp; omega
      rw [hdl] at hback
      have Hds2 := hid (show decS n = (dig k) :: ds by rw [← Heq.out, decS_small h10]; rfl)
      have hsl := slice_buf w.heap.size a ha
      clear hst hset hdl
      go_wp2_with fail
      go_ret
      exact ⟨ret_str Hds2.out.symm, Hw.out.setCell (p := ⟨w.heap.size, a, none⟩) (Nat.le_refl _) _⟩
    · have hst := Hrow.out.set (k := a) (by have := Hy.out; simp; omega) (dig (k % 10))
      have hset : (y ++ z :: ds).set a (dig (k % 10)) = y ++ (dig (k % 10)) :: ds := by rw [← Hy.out]; exact set_mid y z _ ds
      rw [hset, digit_toNat (show k % 10 < 10 by omega)] at hst
      have Hst := hid hst
      have Heq2 := hid (show decS (k / 10) ++ (dig (k % 10)) :: ds = decS n by rw [← Heq.out, decS_big h10]; simp)
      have hl2 := decS_big_length h10
      have hp2 := decS_pos (k / 10)
      have Hl2 := hid hl2
      clear hst hset hl2
      go_wp2_with fail
      have h1 := Hl2.out
      refine ⟨⟨k / 10, a - 1, y, _, congrArg (Value.int .u64) (by omega), congrArg (Value.int .i64) (by omega), by omega, by omega, Hst.out, by have := Hy.out; omega, by have := Hds.out; simp; omega, Heq2.out, by omega, Hw.out.setCell (p := ⟨w.heap.size, a, none⟩) (Nat.le_refl _) _⟩, ?_⟩
      simp [intOf]; omega
theorem neg_u64 (p : Int) (h : p < 0) (h1 : -9223372036854775808 ≤ p) : IntKind.u64.wrap (-(IntKind.u64.wrap p)) = (p.natAbs : Int) := by
  simp only [IntKind.wrap, IntKind.signed, IntKind.bits]
  simp
  omega
set_option maxHeartbeats 400000 in
theorem host_Format (h : Bytes) (p : Int) (w : World) (hh : h.length ≤ 4611686018427387904) (h1 : -9223372036854775808 ≤ p) (h2 : p ≤ 9223372036854775807) :
    Calls Tryz.prog 104 #[.agg #[(Value.string ⟨List.toArray (h)⟩), .int .i64 p]] w fun e w' => e = .returned (Value.string ⟨List.toArray (hostText h p)⟩) ∧ Below w.heap.size w w' := by
  have ha := heap_new w (.cells #[(Value.string ⟨List.toArray (h)⟩), .int .i64 p] 33)
  have hba : Below w.heap.size w (w.alloc (.cells #[(Value.string ⟨List.toArray (h)⟩), .int .i64 p] 33)) := (Below.refl _ _).alloc (Nat.le_refl _) _
  generalize hwa : w.alloc (.cells #[(Value.string ⟨List.toArray (h)⟩), .int .i64 p] 33) = wa at ha hba
  have hlt := heap_lt ha
  have c0 : wa.cell? ⟨w.heap.size, 0, none⟩ = some (Value.string ⟨List.toArray (h)⟩) := Lib.cell_of_heap ha 0
  have c1 : wa.cell? ⟨w.heap.size, 1, none⟩ = some (.int .i64 p) := Lib.cell_of_heap ha 1
  have Hba := hid hba
  have Hwa := hid hwa
  clear ha hba hwa
  by_cases h0 : p = 0
  · subst h0
    have Hq := hid (show hostText h 0 = h from if_pos rfl)
    go_enter Tryz.func104, Tryz.ntmps104
    go_wp2_with fail
    rw [Hwa.out]
    go_wp2_with fail
    go_ret
    exact ⟨ret_str Hq.out.symm, Hba.out⟩
  · have hx : (p == 0) = false := by simp [h0]
    by_cases hneg : p < 0
    · have Hq := hid (show hostText h p = h ++ [58, 45] ++ decS p.natAbs by unfold hostText; rw [if_neg h0, if_pos hneg])
      clear h0
      go_enter Tryz.func104, Tryz.ntmps104
      go_wp2_with fail
      rw [Hwa.out]
      go_wp2_with fail
      have hd := decS_length 19 p.natAbs (by omega)
      have hu := neg_u64 p hneg h1
      have n1 : ¬ 9223372036854775807 < h.length + 2 := by omega
      have n2 : ¬ 9223372036854775807 < h.length + 2 + (decS p.natAbs).length := by omega
      have hpn : p.natAbs ≤ 18446744073709551615 := by omega
      have k0 := cell_regrown c0
      have k1 := cell_regrown c1
      clear c0 c1 hx
      refine wp_region_quiet_below (by kernel_rfl) (by kernel_rfl) ?_
      repeat (quiet_step ((go_at_call 77; exact Calls.regrown_of (number_Format _ _ hpn))))
      refine wpQuiet_nil ?_
      intro _ hw'
      obtain ⟨⟨dq, osq⟩, hw''⟩ := hw'
      subst hw''
      have hbq := below_regrown wa dq osq
      generalize grow (redrawn wa dq) osq = wq at hbq ⊢
      clear hu n1 n2 k0 k1
      go_wp2_with fail
      go_ret
      exact ⟨ret_str (by rw [Hq.out]; simp), below_all Hba.out hbq⟩
    · have Hq := hid (show hostText h p = h ++ [58] ++ decS p.natAbs by unfold hostText; rw [if_neg h0, if_neg hneg])
      clear h0
      go_enter Tryz.func104, Tryz.ntmps104
      go_wp2_with fail
      rw [Hwa.out]
      go_wp2_with fail
      have hd := decS_length 19 p.natAbs (by omega)
      have hu : IntKind.u64.wrap p = (p.natAbs : Int) := (u64_in (show 0 ≤ p by omega) h2).trans (by omega)
      have n1 : ¬ 9223372036854775807 < h.length + 1 := by omega
      have n2 : ¬ 9223372036854775807 < h.length + 1 + (decS p.natAbs).length := by omega
      have hpn : p.natAbs ≤ 18446744073709551615 := by omega
      have k0 := cell_regrown c0
      have k1 := cell_regrown c1
      clear c0 c1 hx
      refine wp_region_quiet_below (by kernel_rfl) (by kernel_rfl) ?_
      repeat (quiet_step ((go_at_call 77; exact Calls.regrown_of (number_Format _ _ hpn))))
      refine wpQuiet_nil ?_
      intro _ hw'
      obtain ⟨⟨dq, osq⟩, hw''⟩ := hw'
      subst hw''
      have hbq := below_regrown wa dq osq
      generalize grow (redrawn wa dq) osq = wq at hbq ⊢
      clear hu n1 n2 k0 k1
      go_wp2_with fail
      go_ret
      exact ⟨ret_str (by rw [Hq.out]; simp), below_all Hba.out hbq⟩
end Go.Proofs.YtcndmooeglfilaaGreatDoor
/- Slices of the call's own: one element appended. -/
set_option linter.all false
namespace Wf
open Go Go.RowKit
theorem owns_lt {w : World} {base : Nat} {e : TypeId} {size : Nat} {v : Value} {n : Nat} {xs : List Value} (h : w.ownsRow base e size v n xs) : ∀ k, v.ownBlock = some k → base ≤ k ∧ k < w.heap.size :=
  (World.ownsRowF_of h).lt
theorem wp_append_one {P : Program} {ops : Array Oper} {rest : List Oper} {o : Oper} {a : Act} {Q : Exit → Act → World → Prop} {w0 : World} (hgd : o.guard = none) (s x : Operand) (t : TypeId)
    (ho : o.op = .call { callee := .builtin .append, args := #[s, x], argTypes := #[t, t] }) (e : TypeId) (z : Value) (bytes : Nat) (ht : P.underlying t = some (.slice e))
    (hinfo : (P.info? e).map (fun i => (i.zero, i.size, i.bytes)) = some (some z, 1, bytes)) (hzs : z.cells.size = 1)
    (B : Nat) (v : Value) (n : Nat) (xs : List Value) (hs : a.eval s = v) (hown : w0.ownsRow B e 1 v n xs) (u : Value) (T : TypeId)
    (hx : a.eval x = .slice (some ⟨w0.heap.size, 0, none⟩) 1 1) (h1 : u.oneCell' = true) (h63 : n + 1 ≤ maxLen) (hbytes : (n + 1) * bytes ≤ 140737488355328) (hB : B ≤ w0.heap.size)
    (h : ∀ v' w', w'.ownsRow B e 1 v' (n + 1) (xs ++ [u]) → Below B w0 w' → wpList P ops Q rest (a.put o.dst v') w') : wpList P ops Q (o :: rest) a (w0.alloc (.cells #[u] T)) := by
  obtain ⟨i, hi, hz0, hz1, hz2⟩ := info_parts hinfo
  refine wpList_append_own _ hgd s x t ho B e i z 1 bytes ht hi hz0 hz1 hz2 hzs (by decide) v n xs hs (hown.alloc _) ⟨w0.heap.size, 0, none⟩ 1 1 [u] hx rfl ?_ ?_ h63 hbytes (by simp; omega) ?_
  · intro j y hy
    rcases j with _ | j
    · simp at hy; subst hy
      exact Go.Lib.cell_of_heap (heap_new _ _) 0
    · simp at hy
  · intro y hy; simp at hy; subst hy; exact h1
  · intro v' w' h2 h3 _
    exact h v' w' h2 (((Below.refl B w0).alloc hB _).grown h3 (by simp; omega) (fun k hk => (owns_lt hown k hk).1))
theorem owns_cases {w : World} {B : Nat} {e : TypeId} {v : Value} {n : Nat} {xs : List Value} (h : w.ownsRow B e 1 v n xs) (hn : 0 < n) :
    ∃ g cap, v = .slice (some ⟨g, 0, none⟩) n cap ∧ B ≤ g ∧ g < w.heap.size ∧ n ≤ cap ∧ cap ≤ maxLen ∧ xs.length = n ∧ ∀ j, j < n → w.cell? ⟨g, j, none⟩ = xs[j]? := by
  obtain ⟨h1, h2⟩ := h
  rcases h2 with ⟨_, h0⟩ | ⟨g, cap, cur, rfl, hg, hh, hc, hm, hsz, ht⟩
  · omega
  · refine ⟨g, cap, rfl, hg, (Array.getElem?_eq_some_iff.1 hh).1, hc, hm, by simpa using h1, fun j hj => ?_⟩
    have := World.ownsRow.cellAt (w := w) (base := B) (e := e) (size := 1) (g := g) (n := n) (cap := cap) (xs := xs) ⟨h1, .inr ⟨g, cap, cur, rfl, hg, hh, hc, hm, hsz, ht⟩⟩ j (by omega)
    exact this
theorem u8_ne' {a b : UInt8} (h : a ≠ b) : ((a.toNat : Int) != (b.toNat : Int)) = true := by
  rw [bne_iff_ne]; intro e; exact h (UInt8.toNat_inj.1 (by omega))
end Wf
/- The walks of the reference of package host. -/
set_option linter.all false
namespace Go.Proofs.YtcndmooeglfilaaGreatDoor
open Go.RowKit Go.Sort Wf
attribute [local go_sem] ex_list app_list get_list

def RetStrs (w : World) (l : List Bytes) (e : Ending) (w' : World) : Prop := ∃ v, e = .returned v ∧ w'.ownsRow w.heap.size 9 1 v l.length (l.map strV) ∧ Below w.heap.size w w'

theorem Tryz.infoStr : (Tryz.prog.info? 9).map (fun i => (i.zero, i.size, i.bytes)) = some (some (Value.string ⟨List.toArray ([])⟩), 1, 16) := by kernel_rfl
set_option maxHeartbeats 1000000 in
theorem ref01_Split (s : Bytes) (c : UInt8) (w : World) (hs : s.length ≤ 1000000000) :
    Calls Tryz.prog 52 #[(Value.string ⟨List.toArray (s)⟩), .int .u8 c.toNat] w (RetStrs w (splitC c s)) := by
  go_enter Tryz.func52, Tryz.ntmps52
  go_wp2_with fail
  go_loopw [5, 6, 7] (fun v f i wr => ∃ (L : List Bytes) (a k : Nat), f = .int .i64 a ∧ i = .int .i64 k ∧ a ≤ k ∧ k ≤ s.length ∧ k - a ≤ pre (· == c) (s.drop a) ∧ wr.ownsRow w.heap.size 9 1 v L.length (L.map strV) ∧ L.length ≤ a ∧ L ++ splitC c (s.drop a) = splitC c s ∧ Below w.heap.size w wr) (fun _ _ i _ => s.length - (intOf i).toNat)
  case atStart => exact ⟨[], 0, 0, rfl, rfl, by omega, by omega, by omega, World.ownsRow_nil _ _ _ _, by simp, rfl, Below.refl _ _⟩
  case round =>
    obtain ⟨L, a, k, rfl, rfl, hak, hks, hpre, hown, hLa, heq, hw⟩ := hrel
    have Hown := hid hown
    have Heq := hid heq
    have Hw := hid hw
    have Hpre := hid hpre
    clear hown heq hw hpre
    by_cases hlt : k < s.length
    · have hdl : (s.drop a).length = s.length - a := by simp
      by_cases hc : s[k] = c
      · have hx := u8_eq hc
        have hp : pre (· == c) (s.drop a) = k - a := by
          have h1 := Hpre.out
          rcases Nat.lt_or_ge (k - a) (pre (· == c) (s.drop a)) with h | h
          · have := pre_get h (by omega)
            rw [List.getElem_drop] at this
            simp only [show a + (k - a) = k by omega] at this
            rw [hc] at this
            simp at this
          · omega
        have hh : splitC c (s.drop a) = (s.drop a).take (k - a) :: splitC c (s.drop (k + 1)) := by
          have := splitC_hit (c := c) (s := s.drop a) (by omega)
          rw [hp, List.drop_drop, show a + (k - a + 1) = k + 1 by omega] at this
          exact this
        have hsl : List.drop a (List.take k s) = (s.drop a).take (k - a) := by rw [List.drop_take]
        have Hn : Hid ((L ++ [List.drop a (List.take k s)]) ++ splitC c (s.drop (k + 1)) = splitC c s) := hid (by rw [← Heq.out, hh, hsl]; simp)
        clear hc hp hh hsl hdl
        have hwl := hid (Hw.out.size)
        go_wp2_with (at_builtin; refine wp_append_one rfl _ _ 51 rfl 9 (Value.string ⟨List.toArray ([])⟩) 16 Tryz.underlying51 Tryz.infoStr rfl w.heap.size _ L.length (L.map strV) rfl Hown.out (strV (List.drop a (List.take k s))) _ rfl rfl (by unfold maxLen; omega) (by omega) hwl.out ?_; intro v' w' hown' hb')
        go_roundw
        case rel => exact ⟨L ++ [List.drop a (List.take k s)], k + 1, k + 1, by go_num, by go_num, by omega, by omega, by omega, by simpa using hown', by simp; omega, Hn.out, Hw.out.trans hb'⟩
        case measure => simp [intOf]; omega
      · have hx := u8_ne hc
        have Hp : Hid (k + 1 - a ≤ pre (· == c) (s.drop a)) := hid (by
          have h1 := Hpre.out
          rcases Nat.lt_or_ge (k - a) (pre (· == c) (s.drop a)) with h | h
          · omega
          · have hq : pre (· == c) (s.drop a) = k - a := by omega
            have := pre_at (p := (· == c)) (l := s.drop a) (by omega)
            simp only [hq, List.getElem_drop, show a + (k - a) = k by omega] at this
            exact absurd (by simpa using this) hc)
        clear hc hdl
        go_wp2_with fail
        go_roundw
        case rel => exact ⟨L, a, k + 1, rfl, by go_num, by omega, by omega, Hp.out, Hown.out, by omega, Heq.out, Hw.out⟩
        case measure => simp [intOf]; omega
    · have hm := splitC_miss (c := c) (s := s.drop a) (by have := Hpre.out; simp; omega)
      have Hn : Hid (L ++ [s.drop a] = splitC c s) := hid (by rw [← Heq.out, hm])
      clear hm
      have hwl := hid (Hw.out.size)
      go_wp2_with (at_builtin; refine wp_append_one rfl _ _ 51 rfl 9 (Value.string ⟨List.toArray ([])⟩) 16 Tryz.underlying51 Tryz.infoStr rfl w.heap.size _ L.length (L.map strV) rfl Hown.out (strV (s.drop a)) _ rfl rfl (by unfold maxLen; omega) (by omega) hwl.out ?_; intro v' w' hown' hb')
      go_ret
      exact ⟨v', rfl, by rw [← Hn.out]; simpa using hown', Hw.out.trans hb'⟩
set_option maxHeartbeats 1000000 in
theorem ref05_label (s : Bytes) (w : World) (hs : s.length ≤ 9223372036854775807) :
    Calls Tryz.prog 189 #[(Value.string ⟨List.toArray (s)⟩)] w fun e w' => e = .returned (.bool (labelOk s)) ∧ w = w' := by
  go_enter Tryz.func189, Tryz.ntmps189
  go_wp2_with fail
  go_loop [3] (fun i => ∃ k : Nat, k ≤ s.length ∧ i = .int .i64 k ∧ (s.take k).all ldh = true) (fun i => s.length - (intOf i).toNat)
  case atStart => exact ⟨0, by omega, rfl, rfl⟩
  case round =>
    obtain ⟨k, hk, rfl, hall⟩ := hrel
    have Hall := hid hall
    clear hall
    by_cases hlt : k < s.length
    · cases hc : ldh s[k]
      · have Ha := hid (show labelOk s = false by unfold labelOk; rw [all_not hlt hc]; simp)
        have hc' := hc
        unfold ldh at hc'
        simp only [Bool.or_eq_false_iff] at hc'
        obtain ⟨⟨c1, c2⟩, c3⟩ := hc'
        have c4 : ((s[k].toNat : Int) != 45) = true := by
          have : s[k] ≠ 45 := by simpa using c3
          rw [bne_iff_ne]
          intro h
          exact this (UInt8.toNat_inj.1 (by simp; omega))
        clear c3 hc
        go_wp2_with (first
          | (go_at_call 98; refine (ref01_IsAlpha _ _).mono ?_; rintro e w' ⟨rfl, rfl⟩)
          | (go_at_call 96; refine (ref01_IsDigit _ _).mono ?_; rintro e w' ⟨rfl, rfl⟩))
        go_ret
        exact ⟨ret_bool Ha.out.symm, rfl⟩
      · have Hc := hid (all_take_snoc hlt Hall.out hc)
        unfold ldh at hc
        simp only [Bool.or_eq_true, beq_iff_eq] at hc
        rcases hc with (hc | hc) | hc
        · go_wp2_with (first
          | (go_at_call 98; refine (ref01_IsAlpha _ _).mono ?_; rintro e w' ⟨rfl, rfl⟩)
          | (go_at_call 96; refine (ref01_IsDigit _ _).mono ?_; rintro e w' ⟨rfl, rfl⟩))
          go_round
          case rel => exact ⟨k + 1, by omega, by go_num, Hc.out⟩
          case measure => simp [intOf]; omega
        · cases hca : isAlpha s[k]
          all_goals
            go_wp2_with (first
              | (go_at_call 98; refine (ref01_IsAlpha _ _).mono ?_; rintro e w' ⟨rfl, rfl⟩)
              | (go_at_call 96; refine (ref01_IsDigit _ _).mono ?_; rintro e w' ⟨rfl, rfl⟩))
            go_round
            case rel => exact ⟨k + 1, by omega, by go_num, Hc.out⟩
            case measure => simp [intOf]; omega
        · have c4 : ((s[k].toNat : Int) != 45) = false := by simp [hc]
          clear hc
          cases hca : isAlpha s[k] <;> cases hcd : isDigit s[k]
          all_goals
            go_wp2_with (first
              | (go_at_call 98; refine (ref01_IsAlpha _ _).mono ?_; rintro e w' ⟨rfl, rfl⟩)
              | (go_at_call 96; refine (ref01_IsDigit _ _).mono ?_; rintro e w' ⟨rfl, rfl⟩))
            go_round
            case rel => exact ⟨k + 1, by omega, by go_num, Hc.out⟩
            case measure => simp [intOf]; omega
    · have hall := Hall.out
      rw [List.take_of_length_le (by omega)] at hall
      have Ha := hid hall
      clear hall Hall
      cases h1 : s.isEmpty
      · by_cases h2 : 63 < s.length
        · have Hq := hid (show labelOk s = false by unfold labelOk; simp; omega)
          go_wp2_with fail
          go_ret
          exact ⟨ret_bool Hq.out.symm, rfl⟩
        · have hl : 0 < s.length := by cases s <;> simp at h1 ⊢
          have h2' : s.length ≤ 63 := by omega
          by_cases h3 : s[0] = 45
          · have Hq := hid (show labelOk s = false by unfold labelOk; rw [head_get hl, h3]; simp)
            have hx : ((s[0].toNat : Int) != 45) = false := by simp [h3]
            clear h3
            go_wp2_with fail
            go_ret
            exact ⟨ret_bool Hq.out.symm, rfl⟩
          · have hx : ((s[0].toNat : Int) != 45) = true := u8_ne' h3
            by_cases h4 : s[s.length - 1] = 45
            · have Hq := hid (show labelOk s = false by
                unfold labelOk
                rw [List.getLast?_eq_getElem?, List.getElem?_eq_getElem (by omega), h4]; simp)
              have hy : ((s[s.length - 1].toNat : Int) != 45) = false := by simp [h4]
              clear h4 h3
              go_wp2_with fail
              go_ret
              exact ⟨ret_bool Hq.out.symm, rfl⟩
            · have hy : ((s[s.length - 1].toNat : Int) != 45) = true := u8_ne' h4
              have Hq := hid ((labelOk_eq s h1 (by omega) (by rw [List.getElem?_eq_getElem hl]; simpa using h3) (by rw [List.getElem?_eq_getElem (by omega)]; simpa using h4)).trans Ha.out)
              clear h3 h4
              go_wp2_with fail
              go_ret
              exact ⟨ret_bool Hq.out.symm, rfl⟩
      · have Hq := hid (show labelOk s = false by unfold labelOk; simp [h1])
        go_wp2_with fail
        go_ret
        exact ⟨ret_bool Hq.out.symm, rfl⟩
set_option maxHeartbeats 1000000 in
theorem ref05_IsIPv4 (s : Bytes) (w : World) (hs : s.length ≤ 1000000000) :
    Calls Tryz.prog 134 #[(Value.string ⟨List.toArray (s)⟩)] w fun e w' => e = .returned (.bool (ipv4 s)) ∧ Below w.heap.size w w' := by
  have hq : ipv4 s = ((splitC 46 s).length == 4 && (splitC 46 s).all octetOk) := rfl
  have hsp := ref01_Split s 46 w hs
  have hlen : ∀ x ∈ splitC 46 s, x.length ≤ s.length := splitC_len 46 s
  have hne := splitC_ne 46 s
  generalize splitC 46 s = parts at hq hsp hlen hne
  have hpos := List.length_pos_iff.2 hne
  have Hq := hid hq
  have Hsp := hid hsp
  have Hlen := hid hlen
  clear hq hsp hlen hne
  go_enter Tryz.func134, Tryz.ntmps134
  go_wp2_with fail
  refine Hsp.out.mono ?_
  rintro e w1 ⟨v, rfl, hown, hw1⟩
  obtain ⟨g, cap, rfl, hg, hgl, hcap, hcm, _, hcells⟩ := owns_cases hown hpos
  have Hw1 := hid hw1
  have Hcells := hid hcells
  unfold maxLen at hcm
  clear hw1 hcells hown
  go_wp2_with fail
  go_loop [12] (fun i => ∃ k : Nat, k ≤ parts.length ∧ i = .int .i64 k ∧ (parts.take k).all octetOk = true) (fun i => parts.length - (intOf i).toNat)
  case atStart => exact ⟨0, by omega, rfl, rfl⟩
  case round =>
    obtain ⟨k, hk, rfl, hall⟩ := hrel
    have Hall := hid hall
    clear hall
    by_cases hlt : k < parts.length
    · have hcell : w1.cell? ⟨g, k, none⟩ = some (Value.string ⟨List.toArray (parts[k])⟩) := by
        rw [Hcells.out k hlt]
        simp [hlt, strV]
      have hln := Hlen.out parts[k] (List.getElem_mem hlt)
      have hoc : octetOk parts[k] = ((numStrict 255 parts[k]).2 == 0) := rfl
      cases hc : octetOk parts[k]
      · have Ha := hid (all_not hlt hc)
        have hn : ((numStrict 255 parts[k]).2 != 0) = true := by rw [hc] at hoc; simp only [bne]; rw [← hoc]; rfl
        clear hoc
        go_wp2_with (go_at_call 160; refine (ref04_Strict _ 255 _ (by omega) (by omega)).mono ?_; rintro e w' ⟨rfl, rfl⟩)
        go_ret
        exact ⟨ret_bool (by rw [Hq.out, Ha.out]; simp), Hw1.out⟩
      · have Hn := hid (all_take_snoc hlt Hall.out hc)
        have hn : ((numStrict 255 parts[k]).2 != 0) = false := by rw [hc] at hoc; simp only [bne]; rw [← hoc]; rfl
        clear hoc
        go_wp2_with (go_at_call 160; refine (ref04_Strict _ 255 _ (by omega) (by omega)).mono ?_; rintro e w' ⟨rfl, rfl⟩)
        go_round
        case rel => exact ⟨k + 1, by omega, by go_num, Hn.out⟩
        case measure => simp [intOf]; omega
    · have hall := Hall.out
      rw [List.take_of_length_le (by omega)] at hall
      have Ha := hid hall
      clear hall Hall
      go_wp2_with fail
      go_ret
      exact ⟨ret_bool (by rw [Hq.out, Ha.out, Bool.and_true, Bool.eq_iff_iff]; simp; omega), Hw1.out⟩
theorem nameL_all (l : List Bytes) (h : l ≠ []) : nameL l = (l.all labelOk && !digitsOk (l.getLast h)) := by
  induction l with
  | nil => exact absurd rfl h
  | cons x l ih =>
    cases l with
    | nil => simp [nameL]
    | cons y r =>
      rw [nameL, ih (by simp)]
      simp [Bool.and_assoc]
set_option maxHeartbeats 1000000 in
theorem ref05_name (s : Bytes) (w : World) (hs : s.length ≤ 1000000000) :
    Calls Tryz.prog 159 #[(Value.string ⟨List.toArray (s)⟩)] w fun e w' => e = .returned (.bool (nameOk s)) ∧ Below w.heap.size w w' := by
  have hne := splitC_ne 46 s
  have hsp := ref01_Split s 46 w hs
  have hlen : ∀ x ∈ splitC 46 s, x.length ≤ s.length := splitC_len 46 s
  obtain ⟨parts, hparts⟩ : ∃ parts, splitC 46 s = parts := ⟨_, rfl⟩
  rw [hparts] at hsp hlen hne
  have hpos := List.length_pos_iff.2 hne
  have hq : nameOk s = (parts.all labelOk && !digitsOk (parts[parts.length - 1]'(by omega))) := by
    unfold nameOk
    rw [hparts, nameL_all _ hne, List.getLast_eq_getElem]
  clear hparts
  have Hq := hid hq
  have Hsp := hid hsp
  have Hlen := hid hlen
  clear hq hsp hlen
  go_enter Tryz.func159, Tryz.ntmps159
  go_wp2_with fail
  refine Hsp.out.mono ?_
  rintro e w1 ⟨v, rfl, hown, hw1⟩
  obtain ⟨g, cap, rfl, hg, hgl, hcap, hcm, _, hcells⟩ := owns_cases hown hpos
  have Hw1 := hid hw1
  have Hcells := hid hcells
  unfold maxLen at hcm
  clear hw1 hcells hown
  go_wp2_with fail
  go_loop [10] (fun i => ∃ k : Nat, k ≤ parts.length ∧ i = .int .i64 k ∧ (parts.take k).all labelOk = true) (fun i => parts.length - (intOf i).toNat)
  case atStart => exact ⟨0, by omega, rfl, rfl⟩
  case round =>
    obtain ⟨k, hk, rfl, hall⟩ := hrel
    have Hall := hid hall
    clear hall
    by_cases hlt : k < parts.length
    · have hcell : w1.cell? ⟨g, k, none⟩ = some (Value.string ⟨List.toArray (parts[k])⟩) := by
        rw [Hcells.out k hlt]
        simp [hlt, strV]
      have hln := Hlen.out parts[k] (List.getElem_mem hlt)
      cases hc : labelOk parts[k]
      · have Ha := hid (all_not hlt hc)
        go_wp2_with (go_at_call 189; refine (ref05_label _ _ (by omega)).mono ?_; rintro e w' ⟨rfl, rfl⟩)
        go_ret
        exact ⟨ret_bool (by rw [Hq.out, Ha.out]; simp), Hw1.out⟩
      · have Hn := hid (all_take_snoc hlt Hall.out hc)
        go_wp2_with (go_at_call 189; refine (ref05_label _ _ (by omega)).mono ?_; rintro e w' ⟨rfl, rfl⟩)
        go_round
        case rel => exact ⟨k + 1, by omega, by go_num, Hn.out⟩
        case measure => simp [intOf]; omega
    · have hall := Hall.out
      rw [List.take_of_length_le (by omega)] at hall
      have Ha := hid hall
      clear hall Hall
      have hcell : w1.cell? ⟨g, parts.length - 1, none⟩ = some (Value.string ⟨List.toArray (parts[parts.length - 1]'(by omega))⟩) := by
        rw [Hcells.out (parts.length - 1) (by omega)]
        rw [List.getElem?_map, List.getElem?_eq_getElem (by omega)]
        rfl
      have hln := Hlen.out (parts[parts.length - 1]'(by omega)) (List.getElem_mem _)
      have hl1 : parts.length - 1 < parts.length := by omega
      go_wp2_with (go_at_call 190; refine (ref01_Digits _ _ (by omega)).mono ?_; rintro e w' ⟨rfl, rfl⟩)
      go_ret
      exact ⟨ret_bool (by rw [Hq.out, Ha.out, Bool.true_and]), Hw1.out⟩
end Go.Proofs.YtcndmooeglfilaaGreatDoor
/- The walks of the reference of package host: hosts, ports, texts. -/
set_option linter.all false
namespace Go.Proofs.YtcndmooeglfilaaGreatDoor
open Go.RowKit Go.Sort Wf
attribute [local go_sem] ex_list app_list get_list

set_option maxHeartbeats 1000000 in
theorem ref05_Host (s : Bytes) (w : World) (hs : s.length ≤ 1000000000) :
    Calls Tryz.prog 122 #[(Value.string ⟨List.toArray (s)⟩)] w fun e w' => e = .returned (.tuple #[(Value.string ⟨List.toArray ((hostM s).1)⟩), .int .i64 (hostM s).2]) ∧ Below w.heap.size w w' := by
  cases h1 : s.isEmpty
  · by_cases h2 : 253 < s.length
    · have Hq := hid (show hostM s = ([], 5) by unfold hostM; simp [h1, h2])
      go_enter Tryz.func122, Tryz.ntmps122
      go_wp2_with fail
      go_ret2
      rw [Hq.out]
      exact ⟨rfl, Below.refl _ _⟩
    · cases h3 : ipv4 s
      · cases h4 : nameOk s
        · have Hq := hid (show hostM s = ([], 50) by unfold hostM; simp [h1, h2, h3, h4])
          go_enter Tryz.func122, Tryz.ntmps122
          go_wp2_with (first
            | (go_at_call 134; refine (ref05_IsIPv4 _ _ hs).mono ?_; rintro e w1 ⟨rfl, hw1⟩)
            | (go_at_call 159; refine (ref05_name _ _ hs).mono ?_; rintro e w2 ⟨rfl, hw2⟩))
          go_ret2
          rw [Hq.out]
          exact ⟨rfl, below_all ‹_› ‹_›⟩
        · have Hq := hid (show hostM s = (lower s, 0) by unfold hostM; simp [h1, h2, h3, h4])
          go_enter Tryz.func122, Tryz.ntmps122
          go_wp2_with (first
            | (go_at_call 134; refine (ref05_IsIPv4 _ _ hs).mono ?_; rintro e w1 ⟨rfl, hw1⟩)
            | (go_at_call 159; refine (ref05_name _ _ hs).mono ?_; rintro e w2 ⟨rfl, hw2⟩)
            | (go_at_call 86; refine (ref01_Lower _ _ (by omega)).mono ?_; rintro e w3 ⟨rfl, hw3⟩))
          go_ret2
          rw [Hq.out]
          exact ⟨rfl, below_all (below_all hw1 hw2) hw3⟩
      · have Hq := hid (show hostM s = (lower s, 0) by unfold hostM; simp [h1, h2, h3])
        go_enter Tryz.func122, Tryz.ntmps122
        go_wp2_with (first
          | (go_at_call 134; refine (ref05_IsIPv4 _ _ hs).mono ?_; rintro e w1 ⟨rfl, hw1⟩)
          | (go_at_call 86; refine (ref01_Lower _ _ (by omega)).mono ?_; rintro e w3 ⟨rfl, hw3⟩))
        go_ret2
        rw [Hq.out]
        exact ⟨rfl, below_all hw1 hw3⟩
  · have Hq := hid (show hostM s = ([], 3) by unfold hostM; simp [h1])
    go_enter Tryz.func122, Tryz.ntmps122
    go_wp2_with fail
    go_ret2
    rw [Hq.out]
    exact ⟨rfl, Below.refl _ _⟩
set_option maxHeartbeats 400000 in
theorem ref05_Port (s : Bytes) (w : World) (hs : s.length ≤ 9223372036854775807) :
    Calls Tryz.prog 123 #[(Value.string ⟨List.toArray (s)⟩)] w fun e w' => e = .returned (.tuple #[.int .i64 (portM s).1, .int .i64 (portM s).2]) ∧ w = w' := by
  have hle := numStrict_le 65535 s
  have hq : portM s = if (numStrict 65535 s).2 ≠ 0 ∨ (numStrict 65535 s).1 = 0 then (0, 51) else (((numStrict 65535 s).1 : Int), 0) := rfl
  have hc := ref04_Strict s 65535 w (by omega) (by omega)
  generalize numStrict 65535 s = np at hle hq hc
  obtain ⟨n, e⟩ := np
  simp only at hle hq hc
  have Hc := hid hc
  clear hc
  by_cases he : e = 0
  · subst he
    by_cases hn : n = 0
    · rw [if_pos (Or.inr hn)] at hq
      have Hq := hid hq
      have hx : ((n : Int) == 0) = true := by simp [hn]
      clear hq hn
      go_enter Tryz.func123, Tryz.ntmps123
      go_wp2_with fail
      refine Hc.out.mono ?_
      rintro e w' ⟨rfl, rfl⟩
      go_wp2_with fail
      go_ret2
      rw [Hq.out]
      exact ⟨rfl, rfl⟩
    · rw [if_neg (by simp [hn])] at hq
      have Hq := hid hq
      have hx : ((n : Int) == 0) = false := by simp [hn]
      clear hq hn
      go_enter Tryz.func123, Tryz.ntmps123
      go_wp2_with fail
      refine Hc.out.mono ?_
      rintro e w' ⟨rfl, rfl⟩
      go_wp2_with fail
      go_ret2
      rw [Hq.out]
      exact ⟨rfl, rfl⟩
  · rw [if_pos (Or.inl he)] at hq
    have Hq := hid hq
    have hx : (e != 0) = true := by simp [he]
    clear hq
    go_enter Tryz.func123, Tryz.ntmps123
    go_wp2_with fail
    refine Hc.out.mono ?_
    rintro e w' ⟨rfl, rfl⟩
    go_wp2_with fail
    go_ret2
    rw [Hq.out]
    exact ⟨rfl, rfl⟩
set_option maxHeartbeats 1000000 in
theorem ref05_Parse (s : Bytes) (w : World) (hs : s.length ≤ 1000000000) :
    Calls Tryz.prog 71 #[(Value.string ⟨List.toArray (s)⟩)] w fun e w' => e = .returned (.tuple #[.agg #[(Value.string ⟨List.toArray ((hostPort s).1.1)⟩), .int .i64 (hostPort s).1.2], .int .i64 (hostPort s).2]) ∧ Below w.heap.size w w' := by
  have hpre : pre (has [58] ·) s = pre (· == 58) s := by congr 1; funext c; simp [has]; exact (Bool.beq_eq_decide_eq _ _).symm
  have hle := pre_le (· == 58) s
  have hq : hostPort s = hostPortOf (hostM (cutC 58 s).1) (cutC 58 s).2.2 (portM (cutC 58 s).2.1) := rfl
  have ha := heap_new w (.cells #[(Value.string ⟨List.toArray ([])⟩), .int .i64 0] 33)
  have hba : Below w.heap.size w (w.alloc (.cells #[(Value.string ⟨List.toArray ([])⟩), .int .i64 0] 33)) := (Below.refl _ _).alloc (Nat.le_refl _) _
  generalize hwa : w.alloc (.cells #[(Value.string ⟨List.toArray ([])⟩), .int .i64 0] 33) = wa at ha hba
  have Ha := hid ha
  have Hba := hid hba
  have Hwa := hid hwa
  have Hpre := hid hpre
  clear ha hba hwa hpre
  by_cases hp : pre (· == 58) s < s.length
  · have hc : cutC 58 s = (s.take (pre (· == 58) s), s.drop (pre (· == 58) s + 1), true) := if_pos hp
    rw [hc] at hq
    simp only at hq
    have hh := fun w => ref05_Host (s.take (pre (· == 58) s)) w (by simp; omega)
    have hpp := fun w => ref05_Port (s.drop (pre (· == 58) s + 1)) w (by simp; omega)
    have hl1 : (s.take (pre (· == 58) s)).length ≤ s.length := by rw [List.length_take]; omega
    generalize hostM (s.take (pre (· == 58) s)) = H at hq hh
    generalize portM (s.drop (pre (· == 58) s + 1)) = P at hq hpp
    obtain ⟨h, e⟩ := H
    obtain ⟨p, f⟩ := P
    simp only at hh hpp
    have Hh := hid hh
    have Hp := hid hpp
    have hkne : ((pre (· == 58) s : Int) == (s.length : Int)) = false := beq_eq_false_iff_ne.2 (by omega)
    clear hh hpp hc
    generalize pre (· == 58) s = k at Hh Hp hkne hp hle Hpre hl1
    by_cases he : e = 0
    · subst he
      by_cases hf : f = 0
      · subst hf
        by_cases h443 : p = 443
        · have Hq := hid (show hostPort s = ((h, 0), 0) by rw [hq]; unfold hostPortOf; simp [h443])
          have hx : (p == 443) = true := by simp [h443]
          clear hq h443
          go_enter Tryz.func71, Tryz.ntmps71
          go_wp2_with fail
          rw [Hwa.out]
          go_wp2_with fail
          refine (ref01_Index s [58] _ (by omega) (by decide)).mono ?_
          rintro e w1 ⟨rfl, rfl⟩
          rw [Hpre.out]
          go_wp2_with fail
          refine (Hh.out _).mono ?_
          rintro e w2 ⟨rfl, hw2⟩
          have Ha2 := hid ((hw2.block _ (heap_lt Ha.out)).trans Ha.out)
          have Hw2 := hid (below_all Hba.out hw2)
          clear hw2
          have hlt := heap_lt Ha2.out
          have c0 := Lib.cell_of_heap Ha2.out 0
          have c1 := Lib.cell_of_heap Ha2.out 1
          have z0 := Lib.frozen_of_heap Ha2.out 0
          have z1 := Lib.frozen_of_heap Ha2.out 1
          go_wp2_with fail
          go_wp2_with (go_at_call 123; refine (Hp.out _).mono ?_; rintro e w3 ⟨rfl, rfl⟩)
          refine bodyPost_ret (v := .tuple #[.agg #[(Value.string ⟨List.toArray (h)⟩), .int .i64 0], .int .i64 0]) (by simp [results, Tryz.results71, go_sem, c0, c1]) rfl ⟨?_, ?_⟩
          · rw [Hq.out]
          · repeat (first | exact Hw2.out | (refine Below.setCell (p := ⟨_, _, none⟩) ?_ (by simp <;> omega) _) | (refine Below.alloc ?_ (by simp <;> omega) _) | refine Below.drew ?_)
        · have Hq := hid (show hostPort s = ((h, p), 0) by rw [hq]; unfold hostPortOf; simp [h443])
          have hx : (p == 443) = false := by simp [h443]
          clear hq h443
          go_enter Tryz.func71, Tryz.ntmps71
          go_wp2_with fail
          rw [Hwa.out]
          go_wp2_with fail
          refine (ref01_Index s [58] _ (by omega) (by decide)).mono ?_
          rintro e w1 ⟨rfl, rfl⟩
          rw [Hpre.out]
          go_wp2_with fail
          refine (Hh.out _).mono ?_
          rintro e w2 ⟨rfl, hw2⟩
          have Ha2 := hid ((hw2.block _ (heap_lt Ha.out)).trans Ha.out)
          have Hw2 := hid (below_all Hba.out hw2)
          clear hw2
          have hlt := heap_lt Ha2.out
          have c0 := Lib.cell_of_heap Ha2.out 0
          have c1 := Lib.cell_of_heap Ha2.out 1
          have z0 := Lib.frozen_of_heap Ha2.out 0
          have z1 := Lib.frozen_of_heap Ha2.out 1
          go_wp2_with fail
          go_wp2_with (go_at_call 123; refine (Hp.out _).mono ?_; rintro e w3 ⟨rfl, rfl⟩)
          refine bodyPost_ret (v := .tuple #[.agg #[(Value.string ⟨List.toArray (h)⟩), .int .i64 p], .int .i64 0]) (by simp [results, Tryz.results71, go_sem, c0, c1]) rfl ⟨?_, ?_⟩
          · rw [Hq.out]
          · repeat (first | exact Hw2.out | (refine Below.setCell (p := ⟨_, _, none⟩) ?_ (by simp <;> omega) _) | (refine Below.alloc ?_ (by simp <;> omega) _) | refine Below.drew ?_)
      · have Hq := hid (show hostPort s = (([], 0), f) by rw [hq]; unfold hostPortOf; simp [hf])
        have hx : (f != 0) = true := by simp [hf]
        clear hq hf
        go_enter Tryz.func71, Tryz.ntmps71
        go_wp2_with fail
        rw [Hwa.out]
        go_wp2_with fail
        refine (ref01_Index s [58] _ (by omega) (by decide)).mono ?_
        rintro e w1 ⟨rfl, rfl⟩
        rw [Hpre.out]
        go_wp2_with fail
        refine (Hh.out _).mono ?_
        rintro e w2 ⟨rfl, hw2⟩
        have Ha2 := hid ((hw2.block _ (heap_lt Ha.out)).trans Ha.out)
        have Hw2 := hid (below_all Hba.out hw2)
        clear hw2
        have hlt := heap_lt Ha2.out
        have c0 := Lib.cell_of_heap Ha2.out 0
        have c1 := Lib.cell_of_heap Ha2.out 1
        have z0 := Lib.frozen_of_heap Ha2.out 0
        have z1 := Lib.frozen_of_heap Ha2.out 1
        go_wp2_with fail
        go_wp2_with (go_at_call 123; refine (Hp.out _).mono ?_; rintro e w3 ⟨rfl, rfl⟩)
        refine bodyPost_ret (v := .tuple #[.agg #[(Value.string ⟨List.toArray ([])⟩), .int .i64 0], .int .i64 f]) (by simp [results, Tryz.results71, go_sem, c0, c1]) rfl ⟨?_, ?_⟩
        · rw [Hq.out]
        · repeat (first | exact Hw2.out | (refine Below.setCell (p := ⟨_, _, none⟩) ?_ (by simp <;> omega) _) | (refine Below.alloc ?_ (by simp <;> omega) _) | refine Below.drew ?_)
    · have hx : (e != 0) = true := by simp [he]
      have Hq := hid (show hostPort s = (([], 0), e) by rw [hq]; unfold hostPortOf; rw [if_pos he])
      clear hq he
      go_enter Tryz.func71, Tryz.ntmps71
      go_wp2_with fail
      rw [Hwa.out]
      go_wp2_with fail
      refine (ref01_Index s [58] _ (by omega) (by decide)).mono ?_
      rintro e w1 ⟨rfl, rfl⟩
      rw [Hpre.out]
      go_wp2_with fail
      refine (Hh.out _).mono ?_
      rintro e w2 ⟨rfl, hw2⟩
      have Ha2 := hid ((hw2.block _ (heap_lt Ha.out)).trans Ha.out)
      have Hw2 := hid (below_all Hba.out hw2)
      clear hw2
      have hlt := heap_lt Ha2.out
      have c0 := Lib.cell_of_heap Ha2.out 0
      have c1 := Lib.cell_of_heap Ha2.out 1
      have z0 := Lib.frozen_of_heap Ha2.out 0
      have z1 := Lib.frozen_of_heap Ha2.out 1
      go_wp2_with fail
      refine bodyPost_ret (v := .tuple #[.agg #[(Value.string ⟨List.toArray ([])⟩), .int .i64 0], .int .i64 e]) (by simp [results, Tryz.results71, go_sem, c0, c1]) rfl ⟨?_, ?_⟩
      · rw [Hq.out]
      · repeat (first | exact Hw2.out | (refine Below.setCell (p := ⟨_, _, none⟩) ?_ (by simp <;> omega) _) | (refine Below.alloc ?_ (by simp <;> omega) _) | refine Below.drew ?_)
  · have hc : cutC 58 s = (s, [], false) := if_neg hp
    have hk : pre (· == 58) s = s.length := by omega
    rw [hc] at hq
    simp only at hq
    have hh := fun w => ref05_Host s w hs
    generalize hostM s = H at hq hh
    obtain ⟨h, e⟩ := H
    simp only at hh
    have Hh := hid hh
    have Hpre := hid (Hpre.out.trans hk)
    clear hh hk hc
    by_cases he : e = 0
    · subst he
      have Hq := hid (show hostPort s = ((h, 0), 0) from hq)
      clear hq
      go_enter Tryz.func71, Tryz.ntmps71
      go_wp2_with fail
      rw [Hwa.out]
      go_wp2_with fail
      refine (ref01_Index s [58] _ (by omega) (by decide)).mono ?_
      rintro e w1 ⟨rfl, rfl⟩
      rw [Hpre.out]
      go_wp2_with fail
      refine (Hh.out _).mono ?_
      rintro e w2 ⟨rfl, hw2⟩
      have Ha2 := hid ((hw2.block _ (heap_lt Ha.out)).trans Ha.out)
      have Hw2 := hid (below_all Hba.out hw2)
      clear hw2
      have hlt := heap_lt Ha2.out
      have c0 := Lib.cell_of_heap Ha2.out 0
      have c1 := Lib.cell_of_heap Ha2.out 1
      have z0 := Lib.frozen_of_heap Ha2.out 0
      have z1 := Lib.frozen_of_heap Ha2.out 1
      go_wp2_with fail
      refine bodyPost_ret (v := .tuple #[.agg #[(Value.string ⟨List.toArray (h)⟩), .int .i64 0], .int .i64 0]) (by simp [results, Tryz.results71, go_sem, c0, c1]) rfl ⟨?_, ?_⟩
      · rw [Hq.out]
      · repeat (first | exact Hw2.out | (refine Below.setCell (p := ⟨_, _, none⟩) ?_ (by simp <;> omega) _) | (refine Below.alloc ?_ (by simp <;> omega) _) | refine Below.drew ?_)
    · have hx : (e != 0) = true := by simp [he]
      have Hq := hid (show hostPort s = (([], 0), e) by rw [hq]; unfold hostPortOf; rw [if_pos he])
      clear hq he
      go_enter Tryz.func71, Tryz.ntmps71
      go_wp2_with fail
      rw [Hwa.out]
      go_wp2_with fail
      refine (ref01_Index s [58] _ (by omega) (by decide)).mono ?_
      rintro e w1 ⟨rfl, rfl⟩
      rw [Hpre.out]
      go_wp2_with fail
      refine (Hh.out _).mono ?_
      rintro e w2 ⟨rfl, hw2⟩
      have Ha2 := hid ((hw2.block _ (heap_lt Ha.out)).trans Ha.out)
      have Hw2 := hid (below_all Hba.out hw2)
      clear hw2
      have hlt := heap_lt Ha2.out
      have c0 := Lib.cell_of_heap Ha2.out 0
      have c1 := Lib.cell_of_heap Ha2.out 1
      have z0 := Lib.frozen_of_heap Ha2.out 0
      have z1 := Lib.frozen_of_heap Ha2.out 1
      go_wp2_with fail
      refine bodyPost_ret (v := .tuple #[.agg #[(Value.string ⟨List.toArray ([])⟩), .int .i64 0], .int .i64 e]) (by simp [results, Tryz.results71, go_sem, c0, c1]) rfl ⟨?_, ?_⟩
      · rw [Hq.out]
      · repeat (first | exact Hw2.out | (refine Below.setCell (p := ⟨_, _, none⟩) ?_ (by simp <;> omega) _) | (refine Below.alloc ?_ (by simp <;> omega) _) | refine Below.drew ?_)
set_option maxHeartbeats 400000 in
theorem ref04_Format (n : Nat) (w : World) (hn : n ≤ 18446744073709551615) :
    Calls Tryz.prog 128 #[.int .u64 n] w fun e w' => e = .returned (Value.string ⟨List.toArray (decS n)⟩) ∧ Below w.heap.size w w' := by
  have hlen : (decS n).length ≤ 20 := decS_length 19 n (by omega)
  go_enter Tryz.func128, Tryz.ntmps128
  go_wp2_with fail
  go_loopw [0, 3] (fun v o wr => ∃ (k : Nat) (ds : Bytes), v = .int .u64 k ∧ o = (Value.string ⟨List.toArray (ds)⟩) ∧ k ≤ 18446744073709551615 ∧ (decS k).length + ds.length ≤ 20 ∧ decS k ++ ds = decS n ∧ Below w.heap.size w wr) (fun v _ _ => (intOf v).toNat)
  case atStart => exact ⟨n, [], rfl, rfl, hn, by simpa using hlen, by simp, Below.refl _ _⟩
  case round =>
    obtain ⟨k, ds, rfl, rfl, hk, hl, heq, hw⟩ := hrel
    have hrow : ∀ T, RowU8 (wr.alloc (.cells #[.int .u8 (48 + (k : Int) % 10)] T)) wr.heap.size [dig (k % 10)] := fun T =>
      ⟨[], T, (0, 0), by rw [heap_new]; simp only [List.map_cons, List.map_nil, List.append_nil, u8V, digit_toNat (show k % 10 < 10 by omega)]; rfl, Or.inr (by simp)⟩
    have hback := fun T => (hrow T).back 1
    simp only [List.length_cons, List.length_nil, Nat.zero_add] at hback
    have Heq := hid heq
    have Hw := hid hw
    clear heq hw hrow
    by_cases h10 : k < 10
    · have hz : ((k : Int) / 10 == 0) = true := by simp; omega
      have hm : k % 10 = k := by omega
      have Hn := hid (show decS n = dig (k % 10) :: ds by rw [← Heq.out, decS_small h10, hm]; rfl)
      have hll : ds.length ≤ 20 := by omega
      clear hm
      go_wp2_with fail
      go_ret
      refine ⟨ret_str (by rw [Hn.out]), ?_⟩
      exact Hw.out.alloc Hw.out.size _
    · have hz : ((k : Int) / 10 == 0) = false := by simp; omega
      have Hn := hid (show decS (k / 10) ++ dig (k % 10) :: ds = decS n by rw [← Heq.out, decS_big h10]; simp)
      have hl2 := decS_big_length h10
      have Hl2 := hid hl2
      have hll : ds.length ≤ 20 := by omega
      clear hl2
      go_wp2_with fail
      have h1 := Hl2.out
      refine ⟨⟨k / 10, dig (k % 10) :: ds, congrArg (Value.int .u64) (by omega), rfl, by omega, by simp; omega, Hn.out, Hw.out.alloc Hw.out.size _⟩, ?_⟩
      simp [intOf]; omega
set_option maxHeartbeats 400000 in
theorem ref05_Decimal (p : Int) (w : World) (h1 : -9223372036854775808 ≤ p) (h2 : p ≤ 9223372036854775807) :
    Calls Tryz.prog 79 #[.int .i64 p] w fun e w' => e = .returned (Value.string ⟨List.toArray ((if p < 0 then [45] else []) ++ decS p.natAbs)⟩) ∧ Below w.heap.size w w' := by
  have hd := decS_length 19 p.natAbs (by omega)
  by_cases hneg : p < 0
  · rw [if_pos hneg]
    have hp : -(p + 1) + 1 = (p.natAbs : Int) := by omega
    have hnn : p.natAbs ≤ 18446744073709551615 := by omega
    go_enter Tryz.func79, Tryz.ntmps79
    go_wp2_with fail
    clear hp
    go_wp2_with (go_at_call 128; refine (ref04_Format _ _ hnn).mono ?_; rintro e w1 ⟨rfl, hw1⟩)
    go_ret
    exact ⟨rfl, hw1⟩
  · rw [if_neg hneg]
    obtain ⟨n, rfl⟩ := Int.eq_ofNat_of_zero_le (show 0 ≤ p by omega)
    go_enter Tryz.func79, Tryz.ntmps79
    go_wp2_with (go_at_call 128; refine (ref04_Format _ _ (by omega)).mono ?_; rintro e w1 ⟨rfl, hw1⟩)
    go_ret
    exact ⟨rfl, hw1⟩
set_option maxHeartbeats 400000 in
theorem ref05_Format (h : Bytes) (p : Int) (w : World) (hh : h.length ≤ 4611686018427387904) (h1 : -9223372036854775808 ≤ p) (h2 : p ≤ 9223372036854775807) :
    Calls Tryz.prog 93 #[.agg #[(Value.string ⟨List.toArray (h)⟩), .int .i64 p]] w fun e w' => e = .returned (Value.string ⟨List.toArray (hostText h p)⟩) ∧ Below w.heap.size w w' := by
  have ha := heap_new w (.cells #[(Value.string ⟨List.toArray (h)⟩), .int .i64 p] 33)
  have hba : Below w.heap.size w (w.alloc (.cells #[(Value.string ⟨List.toArray (h)⟩), .int .i64 p] 33)) := (Below.refl _ _).alloc (Nat.le_refl _) _
  generalize hwa : w.alloc (.cells #[(Value.string ⟨List.toArray (h)⟩), .int .i64 p] 33) = wa at ha hba
  have hlt := heap_lt ha
  have c0 : wa.cell? ⟨w.heap.size, 0, none⟩ = some (Value.string ⟨List.toArray (h)⟩) := Lib.cell_of_heap ha 0
  have c1 : wa.cell? ⟨w.heap.size, 1, none⟩ = some (.int .i64 p) := Lib.cell_of_heap ha 1
  have Hba := hid hba
  have Hwa := hid hwa
  clear ha hba hwa
  by_cases h0 : p = 0
  · subst h0
    have Hq := hid (show hostText h 0 = h from if_pos rfl)
    go_enter Tryz.func93, Tryz.ntmps93
    go_wp2_with fail
    rw [Hwa.out]
    go_wp2_with fail
    go_ret
    exact ⟨ret_str Hq.out.symm, Hba.out⟩
  · have hx : (p == 0) = false := by simp [h0]
    have hq : hostText h p = h ++ 58 :: ((if p < 0 then [45] else []) ++ decS p.natAbs) := by
      unfold hostText
      rw [if_neg h0]
      split <;> simp
    have hd := decS_length 19 p.natAbs (by omega)
    have hdl : ((if p < 0 then [45] else []) ++ decS p.natAbs).length ≤ 21 := by split <;> simp <;> omega
    have hdc := fun w => ref05_Decimal p w h1 h2
    generalize (if p < 0 then [45] else []) ++ decS p.natAbs = ds at hq hdl hdc
    have Hq := hid hq
    have Hdc := hid hdc
    clear h0 hq hdc hd
    go_enter Tryz.func93, Tryz.ntmps93
    go_wp2_with fail
    rw [Hwa.out]
    go_wp2_with fail
    have n1 : ¬ 9223372036854775807 < h.length + 1 := by omega
    have n2 : ¬ 9223372036854775807 < h.length + 1 + ds.length := by omega
    have k0 := cell_regrown c0
    have k1 := cell_regrown c1
    clear c0 c1 hx
    refine wp_region_quiet_below (by kernel_rfl) (by kernel_rfl) ?_
    repeat (quiet_step ((go_at_call 79; exact Calls.regrown_of (Hdc.out _))))
    refine wpQuiet_nil ?_
    intro _ hw'
    obtain ⟨⟨dq, osq⟩, hw''⟩ := hw'
    subst hw''
    have hbq := below_regrown wa dq osq
    generalize grow (redrawn wa dq) osq = wq at hbq ⊢
    clear n1 n2 k0 k1
    go_wp2_with fail
    go_ret
    exact ⟨ret_str Hq.out.symm, below_all Hba.out hbq⟩
end Go.Proofs.YtcndmooeglfilaaGreatDoor
/- The contracts of package host and its reference, for the calculus of conditions. -/
set_option linter.all false
set_option maxRecDepth 20000
namespace Go.Proofs.YtcndmooeglfilaaGreatDoor
open Go Vc Go.RowKit Wf
theorem p_host_Host (s : Bytes) (hs : s.length < 4294967281) : PC Tryz.V 113 [.str s] (.tup [.str (hostM s).1, .int .i64 (hostM s).2]) :=
  ⟨Tryz.call113, by simp [flat, flat.flatL], by simp [flat, flat.flatL], fun w hE => (host_Host s w hE hs).mono fun _ _ ⟨h, k⟩ => ⟨h, k⟩⟩
theorem p_host_Parse (s : Bytes) (hs : s.length < 4294967281) : PC Tryz.V 64 [.str s] (.tup [.agg [.str (hostPort s).1.1, .int .i64 (hostPort s).1.2], .int .i64 (hostPort s).2]) :=
  ⟨Tryz.call64, by simp [flat, flat.flatL], by simp [flat, flat.flatL], fun w hE => (host_Parse s w hE hs).mono fun _ _ ⟨h, k⟩ => ⟨h, k⟩⟩
theorem p_host_Format (h : Bytes) (p : Int) (hh : h.length ≤ 4611686018427387904) (h1 : -9223372036854775808 ≤ p) (h2 : p ≤ 9223372036854775807) : PC Tryz.V 104 [.agg [.str h, .int .i64 p]] (.str (hostText h p)) :=
  ⟨Tryz.call104, by simp [flat, flat.flatL], by simp [flat, flat.flatL], fun w hE => (host_Format h p w hh h1 h2).mono fun _ _ ⟨h, k⟩ => ⟨h, k⟩⟩
theorem p_r5_Host (s : Bytes) (hs : s.length ≤ 1000000000) : PC Tryz.V 122 [.str s] (.tup [.str (hostM s).1, .int .i64 (hostM s).2]) :=
  ⟨Tryz.call122, by simp [flat, flat.flatL], by simp [flat, flat.flatL], fun w hE => (ref05_Host s w hs).mono fun _ _ ⟨h, k⟩ => ⟨h, k⟩⟩
theorem p_r5_Parse (s : Bytes) (hs : s.length ≤ 1000000000) : PC Tryz.V 71 [.str s] (.tup [.agg [.str (hostPort s).1.1, .int .i64 (hostPort s).1.2], .int .i64 (hostPort s).2]) :=
  ⟨Tryz.call71, by simp [flat, flat.flatL], by simp [flat, flat.flatL], fun w hE => (ref05_Parse s w hs).mono fun _ _ ⟨h, k⟩ => ⟨h, k⟩⟩
theorem p_r5_Format (h : Bytes) (p : Int) (hh : h.length ≤ 4611686018427387904) (h1 : -9223372036854775808 ≤ p) (h2 : p ≤ 9223372036854775807) : PC Tryz.V 93 [.agg [.str h, .int .i64 p]] (.str (hostText h p)) :=
  ⟨Tryz.call93, by simp [flat, flat.flatL], by simp [flat, flat.flatL], fun w hE => (ref05_Format h p w hh h1 h2).mono fun _ _ ⟨h, k⟩ => ⟨h, k⟩⟩
theorem p_Lower (s : Bytes) (hs : s.length ≤ 9223372036854775807) : PC Tryz.V 85 [.str s] (.str (lower s)) :=
  ⟨Tryz.call85, by simp [flat, flat.flatL], by simp [flat, flat.flatL], fun w hE => (ascii_Lower s w hs).mono fun _ _ ⟨h, k⟩ => ⟨h, k⟩⟩
theorem p_r1_Lower (s : Bytes) (hs : s.length ≤ 9223372036854775807) : PC Tryz.V 86 [.str s] (.str (lower s)) :=
  ⟨Tryz.call86, by simp [flat, flat.flatL], by simp [flat, flat.flatL], fun w hE => (ref01_Lower s w hs).mono fun _ _ ⟨h, k⟩ => ⟨h, k⟩⟩
theorem p_Equal (s t : Bytes) (hs : s.length ≤ 9223372036854775807) (ht : t.length ≤ 9223372036854775807) : PC Tryz.V 115 [.str s, .str t] (.bool (lower s == lower t)) := by
  refine pc_of 3000 Tryz.func115 rfl Tryz.ntmps115 Tryz.results115 Tryz.call115 (by simp) (by simp [flat, flat.flatL]) (by simp [flat, flat.flatL]) ?_
  simp only [lawG, ↓Xn, ↓Xo, ↓Xg, ↓Xd, ↓Xe, ↓Xf, Tryz.VΓ, Tryz.Γs, Xp, Xi, Nat.reduceAdd, Nat.reduceSub, Nat.reduceLT, Nat.reduceLeDiff, reduceIte, reduceCtorEq, Nat.reduceEqDiff, implies_true, forall_const, lawV]
  (refine callV_pc (p_Lower s hs) ?_; simp only [lawG, ↓Xn, ↓Xo, ↓Xg, ↓Xd, ↓Xe, ↓Xf, Tryz.VΓ, Tryz.Γs, Xp, Xi, Nat.reduceAdd, Nat.reduceSub, Nat.reduceLT, Nat.reduceLeDiff, reduceIte, reduceCtorEq, Nat.reduceEqDiff, implies_true, forall_const, lawV])
  (refine callV_pc (p_Lower t ht) ?_; simp only [lawG, ↓Xn, ↓Xo, ↓Xg, ↓Xd, ↓Xe, ↓Xf, Tryz.VΓ, Tryz.Γs, Xp, Xi, Nat.reduceAdd, Nat.reduceSub, Nat.reduceLT, Nat.reduceLeDiff, reduceIte, reduceCtorEq, Nat.reduceEqDiff, implies_true, forall_const, lawV])
theorem p_r1_Equal (s t : Bytes) (hs : s.length ≤ 9223372036854775807) (ht : t.length ≤ 9223372036854775807) : PC Tryz.V 70 [.str s, .str t] (.bool (lower s == lower t)) := by
  refine pc_of 3000 Tryz.func70 rfl Tryz.ntmps70 Tryz.results70 Tryz.call70 (by simp) (by simp [flat, flat.flatL]) (by simp [flat, flat.flatL]) ?_
  simp only [lawG, ↓Xn, ↓Xo, ↓Xg, ↓Xd, ↓Xe, ↓Xf, Tryz.VΓ, Tryz.Γs, Xp, Xi, Nat.reduceAdd, Nat.reduceSub, Nat.reduceLT, Nat.reduceLeDiff, reduceIte, reduceCtorEq, Nat.reduceEqDiff, implies_true, forall_const, lawV]
  (refine callV_pc (p_r1_Lower s hs) ?_; simp only [lawG, ↓Xn, ↓Xo, ↓Xg, ↓Xd, ↓Xe, ↓Xf, Tryz.VΓ, Tryz.Γs, Xp, Xi, Nat.reduceAdd, Nat.reduceSub, Nat.reduceLT, Nat.reduceLeDiff, reduceIte, reduceCtorEq, Nat.reduceEqDiff, implies_true, forall_const, lawV])
  (refine callV_pc (p_r1_Lower t ht) ?_; simp only [lawG, ↓Xn, ↓Xo, ↓Xg, ↓Xd, ↓Xe, ↓Xf, Tryz.VΓ, Tryz.Γs, Xp, Xi, Nat.reduceAdd, Nat.reduceSub, Nat.reduceLT, Nat.reduceLeDiff, reduceIte, reduceCtorEq, Nat.reduceEqDiff, implies_true, forall_const, lawV])
end Go.Proofs.YtcndmooeglfilaaGreatDoor
/- The walk of the reference's Split. -/
set_option linter.all false
set_option maxRecDepth 20000
namespace Go.Proofs.YtcndmooeglfilaaGreatDoor
open Go Vc Go.RowKit Wf
set_option linter.unusedSimpArgs false
theorem splitC_step {c : UInt8} {s : Bytes} {a i : Nat} (hi : i < s.length) (ha : a ≤ i) (hp : i - a ≤ pre (· == c) (s.drop a)) (hc : s[i] = c) : splitC c (s.drop a) = (s.take i).drop a :: splitC c (s.drop (i + 1)) := by
  have hpre : pre (· == c) (s.drop a) = i - a := by
    apply Nat.le_antisymm _ hp
    apply Nat.le_of_not_lt
    intro hlt
    have := pre_get (p := (· == c)) (l := s.drop a) (k := i - a) hlt (by simp; omega)
    simp [show a + (i - a) = i by omega, hc] at this
  rw [splitC_hit (by rw [hpre, List.length_drop]; omega), hpre, List.drop_drop, List.drop_take, show a + (i - a + 1) = i + 1 by omega]
theorem pre_more1 {c : UInt8} {s : Bytes} {a i : Nat} (hi : i < s.length) (ha : a ≤ i) (hp : i - a ≤ pre (· == c) (s.drop a)) (hc : s[i] ≠ c) : i + 1 - a ≤ pre (· == c) (s.drop a) := by
  apply Nat.le_of_not_lt
  intro hlt
  have hpre : pre (· == c) (s.drop a) = i - a := by omega
  have := pre_at (p := (· == c)) (l := s.drop a) (by rw [hpre, List.length_drop]; omega)
  simp [hpre, show a + (i - a) = i by omega] at this
  exact hc this
def SplI (bs : List Res) (s : Bytes) (c : UInt8) (σ : St) : Prop := ∃ (i a : Nat) (x : SV) (dn : List Bytes), lk 0 σ.t = some (.str s) ∧ lk 1 σ.t = some (.int .u8 c.toNat) ∧ lk 5 σ.t = some x ∧ lk 6 σ.t = some (.int .i64 a) ∧ lk 7 σ.t = some (.int .i64 i) ∧
  a ≤ i ∧ i ≤ s.length ∧ dn.length ≤ a ∧ i - a ≤ pre (· == c) (s.drop a) ∧ dn ++ splitC c (s.drop a) = splitC c s ∧ Sl 9 1 bs.length x σ.b (dn.map SV.str) dn.length ∧ Kp bs σ.b
def SplM (s : Bytes) (σ : St) : Nat := match lk 7 σ.t with
  | some (.int _ k) => s.length - k.toNat
  | _ => 0
theorem SplM_eq {s : Bytes} {σ : St} {k : Nat} (h : lk 7 σ.t = some (.int .i64 k)) : SplM s σ = s.length - k := by simp [SplM, h]
theorem spl_mk {bs b : List Res} {s : Bytes} {c : UInt8} {t : List (Nat × SV)} {i i' a : Nat} {x : SV} {dn : List Bytes} (h0 : lk 0 t = some (.str s)) (h1 : lk 1 t = some (.int .u8 c.toNat)) (h5 : lk 5 t = some x) (h6 : lk 6 t = some (.int .i64 a)) (h7 : lk 7 t = some (.int .i64 i'))
    (h : a ≤ i' ∧ i' ≤ s.length ∧ dn.length ≤ a ∧ i' - a ≤ pre (· == c) (s.drop a)) (hsp : dn ++ splitC c (s.drop a) = splitC c s) (hsl : Sl 9 1 bs.length x b (dn.map SV.str) dn.length) (hkp : Kp bs b) (hlt : i < i') : SplI bs s c ⟨t, b⟩ ∧ SplM s ⟨t, b⟩ < s.length - i :=
  ⟨⟨i', a, x, dn, h0, h1, h5, h6, h7, h.1, h.2.1, h.2.2.1, h.2.2.2, hsp, hsl, hkp⟩, by rw [SplM_eq h7]; omega⟩
set_option maxHeartbeats 1000000 in
theorem sc_Split {bs : List Res} (s : Bytes) (c : UInt8) (hs : s.length ≤ 1000000) :
    SC Tryz.V 52 [.str s, .int .u8 c.toNat] bs (fun r b => ∃ j, r = .o j (splitC c s).length ∧ bs.length ≤ j ∧ b[j]? = some (.own ((splitC c s).map SV.str) 9 1 (splitC c s).length true) ∧ Kp bs b) := by
  refine sc_of 3000 Tryz.func52 rfl Tryz.ntmps52 Tryz.results52 Tryz.call52 (by simp) (fun β β' hb => concL_within bs.length _ (by simp [within, within.withinL]) β β' hb) ?_
  simp only [lawG, ↓Xn, ↓Xo, ↓Xg, ↓Xd, ↓Xe, ↓Xf, Tryz.VΓ, Tryz.Γs, Xp, Xi, Nat.reduceAdd, Nat.reduceSub, Nat.reduceLT, Nat.reduceLeDiff, reduceIte, reduceCtorEq, Nat.reduceEqDiff, implies_true, forall_const, lawV]
  refine loopV_mk (SplI bs s c) (SplM s) ⟨0, 0, .nils, [], rfl, rfl, rfl, rfl, rfl, by simp, by simp, by simp, by simp, by simp, .inl ⟨rfl, rfl, rfl⟩, Kp.refl _⟩ ?_
  rintro ⟨t, b⟩ ⟨i, a, x, dn, h0, h1, h5, h6, h7, hai, his, hda, hp, hsp, hsl, hkp⟩
  simp only at h0 h1 h5 h6 h7 hsl hkp
  rw [SplM_eq h7]
  rcases hsl with ⟨rfl, hc0, hda0⟩ | ⟨j, rfl, hLj, hj⟩
  · obtain rfl : dn = [] := by simpa using hc0
    simp only [lawG, ↓Xn, ↓Xo, ↓Xg, ↓Xd, ↓Xe, ↓Xf, Tryz.VΓ, Tryz.Γs, Xp, Xi, Nat.reduceAdd, Nat.reduceSub, Nat.reduceLT, Nat.reduceLeDiff, reduceIte, reduceCtorEq, Nat.reduceEqDiff, implies_true, forall_const, lawV, h0, h1, h5, h6, h7, at_new]
    refine ⟨fun hc => ?_, fun hc => ?_⟩
    · have hi : i < s.length := by simpa using hc
      refine ⟨⟨by omega, by omega⟩, fun hq => ⟨⟨by omega, by omega, by omega⟩, by omega, ⟨by unfold maxLen; omega, by omega⟩, ⟨by omega, by omega⟩, ⟨by omega, by omega⟩, ?_⟩, fun hq => ⟨⟨by omega, by omega⟩, ?_⟩⟩
      · rw [byte_is hi c rfl] at hq
        have hst := splitC_step hi hai hp (by simpa using hq)
        refine spl_mk (i' := i + 1) (a := i + 1) (dn := [(s.take i).drop a]) h0 h1 (by simp [lk]) rfl rfl ⟨by omega, by omega, by simp, by omega⟩ ?_ (.inr ⟨(b ++ [Res.own [.str ((s.take i).drop a)] 9 1 1 true]).length, rfl, ?_, at_new _ _⟩) ((hkp.app _).app _) (by omega)
        · rw [← hsp, hst]; simp
        · have := hkp.1; simp; omega
      · rw [byte_is hi c rfl] at hq
        exact spl_mk (i' := i + 1) (dn := []) h0 h1 h5 h6 rfl ⟨by omega, by omega, by simp, pre_more1 hi hai hp (by simpa using hq)⟩ hsp (.inl ⟨rfl, rfl, rfl⟩) hkp (by omega)
    · have hi : i = s.length := by simp at hc; omega
      refine ⟨⟨by omega, by omega⟩, by omega, ⟨by unfold maxLen; omega, by omega⟩, ?_⟩
      have hms : splitC c s = [s.drop a] := by
        rw [← hsp, splitC_miss (by rw [List.length_drop]; omega)]; rfl
      rw [hms]
      refine ⟨(b ++ [Res.own [.str (s.drop a)] 9 1 1 true]).length, rfl, ?_, at_new _ _, (hkp.app _).app _⟩
      have := hkp.1; simp; omega
  · have h2 : ∀ X, (b ++ [X])[j]? = some (.own (dn.map SV.str) 9 1 dn.length true) := fun X => at_old hj _
    simp only [lawG, ↓Xn, ↓Xo, ↓Xg, ↓Xd, ↓Xe, ↓Xf, Tryz.VΓ, Tryz.Γs, Xp, Xi, Nat.reduceAdd, Nat.reduceSub, Nat.reduceLT, Nat.reduceLeDiff, reduceIte, reduceCtorEq, Nat.reduceEqDiff, implies_true, forall_const, lawV, h0, h1, h5, h6, h7, at_new, h2]
    have hjl : j < b.length := (List.getElem?_eq_some_iff.1 hj).1
    refine ⟨fun hc => ?_, fun hc => ?_⟩
    · have hi : i < s.length := by simpa using hc
      refine ⟨⟨by omega, by omega⟩, fun hq => ⟨⟨by omega, by omega, by omega⟩, by omega, ⟨by unfold maxLen; omega, by omega⟩, ⟨by omega, by omega⟩, ⟨by omega, by omega⟩, ?_⟩, fun hq => ⟨⟨by omega, by omega⟩, ?_⟩⟩
      · rw [byte_is hi c rfl] at hq
        have hst := splitC_step hi hai hp (by simpa using hq)
        refine spl_mk (i' := i + 1) (a := i + 1) (dn := dn ++ [(s.take i).drop a]) h0 h1 (by simp [lk]; rfl) rfl rfl ⟨by omega, by omega, by simp; omega, by omega⟩ ?_ (.inr ⟨(b ++ [Res.own [.str ((s.take i).drop a)] 9 1 1 true]).length, by simp, ?_, ?_⟩) (((hkp.app _).set hLj _).app _) (by omega)
        · rw [← hsp, hst]; simp
        · have := hkp.1; simp; omega
        · rw [List.getElem?_append_right (by simp)]; simp
      · rw [byte_is hi c rfl] at hq
        exact spl_mk (i' := i + 1) (dn := dn) h0 h1 h5 h6 rfl ⟨by omega, by omega, hda, pre_more1 hi hai hp (by simpa using hq)⟩ hsp (.inr ⟨j, rfl, hLj, hj⟩) hkp (by omega)
    · have hi : i = s.length := by simp at hc; omega
      refine ⟨⟨by omega, by omega⟩, by omega, ⟨by unfold maxLen; omega, by omega⟩, ?_⟩
      have hms : splitC c s = dn ++ [s.drop a] := by
        rw [← hsp, splitC_miss (c := c) (s := s.drop a) (by rw [List.length_drop]; omega)]
      rw [hms]
      refine ⟨(b ++ [Res.own [.str (s.drop a)] 9 1 1 true]).length, by simp, ?_, ?_, ((hkp.app _).set hLj _).app _⟩
      · have := hkp.1; simp; omega
      · rw [List.getElem?_append_right (by simp)]; simp
end Go.Proofs.YtcndmooeglfilaaGreatDoor
/- The walks of package mail and of its reference. -/
set_option linter.all false
set_option maxRecDepth 20000
namespace Go.Proofs.YtcndmooeglfilaaGreatDoor
open Go Vc Go.RowKit Wf
def msv (m : Mail) : SV := .agg [.str m.loc, .str m.host]
theorem p_host_IsIPv4 (s : Bytes) (hs : s.length < 4294967281) : PC Tryz.V 151 [.str s] (.bool (ipv4 s)) :=
  ⟨Tryz.call151, by simp [flat, flat.flatL], by simp [flat, flat.flatL], fun w hE => (host_IsIPv4 s w hE hs).mono fun _ _ ⟨h, k⟩ => ⟨h, k⟩⟩
theorem p_r5_IsIPv4 (s : Bytes) (hs : s.length ≤ 1000000000) : PC Tryz.V 134 [.str s] (.bool (ipv4 s)) :=
  ⟨Tryz.call134, by simp [flat, flat.flatL], by simp [flat, flat.flatL], fun w hE => (ref05_IsIPv4 s w hs).mono fun _ _ ⟨h, k⟩ => ⟨h, k⟩⟩
theorem any_mem (s : Bytes) (a c : UInt8) : decide (0 ≤ Lib.indexAny s [a, c]) = decide (a ∈ s ∨ c ∈ s) := by
  rw [indexAny_pre]
  by_cases h : pre ([a, c].contains ·) s < s.length
  · rw [if_pos h]
    have h1 := pre_at h
    have h2 : s[pre ([a, c].contains ·) s] ∈ s := List.getElem_mem h
    have h3 : s[pre ([a, c].contains ·) s] = a ∨ s[pre ([a, c].contains ·) s] = c := by simpa using h1
    simp only [Int.natCast_nonneg, decide_true]
    symm
    exact decide_eq_true (by rcases h3 with e | e <;> rw [e] at h2 <;> simp [h2])
  · rw [if_neg h]
    simp only [show ¬ (0 : Int) ≤ -1 by omega, decide_false]
    symm
    refine decide_eq_false ?_
    intro k
    have hle := pre_le ([a, c].contains ·) s
    have : ∀ d ∈ s, [a, c].contains d = false := by
      intro d hd
      obtain ⟨j, hj, rfl⟩ := List.getElem_of_mem hd
      exact pre_get (p := ([a, c].contains ·)) (k := j) (by omega) hj
    rcases k with k | k
    · have := this _ k; simp at this
    · have := this _ k; simp at this
theorem p_ContainsAny (s : Bytes) (a c : UInt8) (ha : a.toNat < 128) (hc : c.toNat < 128) (hs : s.length < 4294967281) : PC Tryz.V 194 [.str s, .str [a, c]] (.bool (decide (a ∈ s ∨ c ∈ s))) := by
  have pi := p_IndexAny s [a, c] (fun i h => by
    match i, h with
    | 0, _ => exact ha
    | 1, _ => exact hc) (by simp) (by simp) hs
  refine pc_of 3000 Tryz.func194 rfl Tryz.ntmps194 Tryz.results194 Tryz.call194 (by simp) (by simp [flat, flat.flatL]) (by simp [flat, flat.flatL]) ?_
  simp only [lawG, ↓Xn, ↓Xo, ↓Xg, ↓Xd, ↓Xe, ↓Xf, Tryz.VΓ, Tryz.Γs, Xp, Xi, Nat.reduceAdd, Nat.reduceSub, Nat.reduceLT, Nat.reduceLeDiff, reduceIte, reduceCtorEq, Nat.reduceEqDiff, implies_true, forall_const, lawV]
  (refine callV_pc (pi) ?_; simp only [lawG, ↓Xn, ↓Xo, ↓Xg, ↓Xd, ↓Xe, ↓Xf, Tryz.VΓ, Tryz.Γs, Xp, Xi, Nat.reduceAdd, Nat.reduceSub, Nat.reduceLT, Nat.reduceLeDiff, reduceIte, reduceCtorEq, Nat.reduceEqDiff, implies_true, forall_const, lawV])
  rw [any_mem]
theorem p_mail_atom (c : UInt8) : PC Tryz.V 205 [.int .u8 c.toNat] (.bool (atomB c)) := by
  refine pc_of 3000 Tryz.func205 rfl Tryz.ntmps205 Tryz.results205 Tryz.call205 (by simp) (by simp [flat, flat.flatL]) (by simp [flat, flat.flatL]) ?_
  simp only [lawG, ↓Xn, ↓Xo, ↓Xg, ↓Xd, ↓Xe, ↓Xf, Tryz.VΓ, Tryz.Γs, Xp, Xi, Nat.reduceAdd, Nat.reduceSub, Nat.reduceLT, Nat.reduceLeDiff, reduceIte, reduceCtorEq, Nat.reduceEqDiff, implies_true, forall_const, lawV]
  (refine callV_pc (p_IsAlpha c) ?_; simp only [lawG, ↓Xn, ↓Xo, ↓Xg, ↓Xd, ↓Xe, ↓Xf, Tryz.VΓ, Tryz.Γs, Xp, Xi, Nat.reduceAdd, Nat.reduceSub, Nat.reduceLT, Nat.reduceLeDiff, reduceIte, reduceCtorEq, Nat.reduceEqDiff, implies_true, forall_const, lawV])
  unfold atomB
  refine ⟨fun h => ?_, fun h => by rw [h]; rfl⟩
  (refine callV_pc (p_IsDigit c) ?_; simp only [lawG, ↓Xn, ↓Xo, ↓Xg, ↓Xd, ↓Xe, ↓Xf, Tryz.VΓ, Tryz.Γs, Xp, Xi, Nat.reduceAdd, Nat.reduceSub, Nat.reduceLT, Nat.reduceLeDiff, reduceIte, reduceCtorEq, Nat.reduceEqDiff, implies_true, forall_const, lawV])
  rw [h]
  refine ⟨fun h2 => ?_, fun h2 => by rw [h2]; rfl⟩
  (refine callV_pc (p_IndexByte atomS c) ?_; simp only [lawG, ↓Xn, ↓Xo, ↓Xg, ↓Xd, ↓Xe, ↓Xf, Tryz.VΓ, Tryz.Γs, Xp, Xi, Nat.reduceAdd, Nat.reduceSub, Nat.reduceLT, Nat.reduceLeDiff, reduceIte, reduceCtorEq, Nat.reduceEqDiff, implies_true, forall_const, lawV])
  rw [idx_geq, h2]; rfl
theorem p_r9_atom (c : UInt8) : PC Tryz.V 168 [.int .u8 c.toNat] (.bool (atomB c)) := by
  refine pc_of 3000 Tryz.func168 rfl Tryz.ntmps168 Tryz.results168 Tryz.call168 (by simp) (by simp [flat, flat.flatL]) (by simp [flat, flat.flatL]) ?_
  simp only [lawG, ↓Xn, ↓Xo, ↓Xg, ↓Xd, ↓Xe, ↓Xf, Tryz.VΓ, Tryz.Γs, Xp, Xi, Nat.reduceAdd, Nat.reduceSub, Nat.reduceLT, Nat.reduceLeDiff, reduceIte, reduceCtorEq, Nat.reduceEqDiff, implies_true, forall_const, lawV]
  (refine callV_pc (p_r1_IsAlpha c) ?_; simp only [lawG, ↓Xn, ↓Xo, ↓Xg, ↓Xd, ↓Xe, ↓Xf, Tryz.VΓ, Tryz.Γs, Xp, Xi, Nat.reduceAdd, Nat.reduceSub, Nat.reduceLT, Nat.reduceLeDiff, reduceIte, reduceCtorEq, Nat.reduceEqDiff, implies_true, forall_const, lawV])
  unfold atomB
  refine ⟨fun h => ?_, fun h => by rw [h]; rfl⟩
  (refine callV_pc (p_r1_IsDigit c) ?_; simp only [lawG, ↓Xn, ↓Xo, ↓Xg, ↓Xd, ↓Xe, ↓Xf, Tryz.VΓ, Tryz.Γs, Xp, Xi, Nat.reduceAdd, Nat.reduceSub, Nat.reduceLT, Nat.reduceLeDiff, reduceIte, reduceCtorEq, Nat.reduceEqDiff, implies_true, forall_const, lawV])
  rw [h]
  refine ⟨fun h2 => ?_, fun h2 => by rw [h2]; rfl⟩
  (refine callV_pc (p_r1_In c atomS (by decide)) ?_; simp only [lawG, ↓Xn, ↓Xo, ↓Xg, ↓Xd, ↓Xe, ↓Xf, Tryz.VΓ, Tryz.Γs, Xp, Xi, Nat.reduceAdd, Nat.reduceSub, Nat.reduceLT, Nat.reduceLeDiff, reduceIte, reduceCtorEq, Nat.reduceEqDiff, implies_true, forall_const, lawV])
  rw [h2]; rfl
def LoI (s : Bytes) (σ : St) : Prop := ∃ (i : Nat) (d : Bool), i ≤ s.length ∧ lk 0 σ.t = some (.str s) ∧ lk 3 σ.t = some (.bool d) ∧ lk 6 σ.t = some (.int .i64 s.length) ∧ lk 7 σ.t = some (.int .i64 i) ∧ locGo d (s.drop i) = locGo true s
def LoM (s : Bytes) (σ : St) : Nat := match lk 7 σ.t with
  | some (.int _ k) => s.length - k.toNat
  | _ => 0
theorem LoM_eq {s : Bytes} {σ : St} {k : Nat} (h : lk 7 σ.t = some (.int .i64 k)) : LoM s σ = s.length - k := by simp [LoM, h]
set_option maxHeartbeats 1000000 in
theorem p_mail_Local (s : Bytes) (hs : s.length ≤ 4611686018427387904) : PC Tryz.V 195 [.str s] (.bool (localOk s)) := by
  rw [localOk_go]
  refine pc_of 3000 Tryz.func195 rfl Tryz.ntmps195 Tryz.results195 Tryz.call195 (by simp) (by simp [flat, flat.flatL]) (by simp [flat, flat.flatL]) ?_
  simp only [lawG, ↓Xn, ↓Xo, ↓Xg, ↓Xd, ↓Xe, ↓Xf, Tryz.VΓ, Tryz.Γs, Xp, Xi, Nat.reduceAdd, Nat.reduceSub, Nat.reduceLT, Nat.reduceLeDiff, reduceIte, reduceCtorEq, Nat.reduceEqDiff, implies_true, forall_const, lawV]
  refine loopV_mk (LoI s) (LoM s) ⟨0, true, by omega, rfl, rfl, rfl, rfl, rfl⟩ ?_
  rintro ⟨t, b⟩ ⟨i, d, hi, h0, h3, h6, h7, hl⟩
  simp only at h0 h3 h6 h7
  rw [LoM_eq h7]
  by_cases hlt : i < s.length
  · have hg : s.getD i 0 = s[i] := by simp [List.getD, hlt]
    have hb0 := byte_is (s := s) hlt 46 (n := 46) rfl
    have hb1 : (((s.getD i 0).toNat : Int) != 46) = (s[i] != 46) := by
      show (!_) = (!_); rw [hb0]
    have mk : ∀ (t' : List (Nat × SV)), lk 0 t' = some (.str s) → lk 3 t' = some (.bool (s[i] == 46)) → lk 6 t' = some (.int .i64 s.length) → lk 7 t' = some (.int .i64 (i + 1 : Nat)) → locGo (s[i] == 46) (s.drop (i + 1)) = locGo true s → LoI s ⟨t', b⟩ ∧ LoM s ⟨t', b⟩ < s.length - i := fun t' k0 k3 k6 k7 kl =>
      ⟨⟨i + 1, _, by omega, k0, k3, k6, k7, kl⟩, by rw [LoM_eq k7]; omega⟩
    rw [List.drop_eq_getElem_cons hlt, locGo] at hl
    by_cases hc : s[i] = 46
    · have hb : (((s.getD i 0).toNat : Int) == 46) = true := by rw [hb0, hc]; rfl
      have hb2 : (((s.getD i 0).toNat : Int) != 46) = false := by rw [hb1, hc]; rfl
      have hbt : (s[i] == 46) = true := by rw [hc]; rfl
      rw [hbt] at mk
      rw [hc] at hl
      cases d
      · simp only [lawG, ↓Xn, ↓Xo, ↓Xg, ↓Xd, ↓Xe, ↓Xf, Tryz.VΓ, Tryz.Γs, Xp, Xi, Nat.reduceAdd, Nat.reduceSub, Nat.reduceLT, Nat.reduceLeDiff, reduceIte, reduceCtorEq, Nat.reduceEqDiff, implies_true, forall_const, lawV, h0, h3, h6, h7, hb, hb2]
        refine ⟨fun _ => ⟨⟨by omega, by omega⟩, ⟨by omega, by omega⟩, ⟨by omega, by omega⟩, ⟨by omega, by omega⟩, mk _ h0 rfl h6 (by simp only [lk, reduceIte, Option.some.injEq, SV.int.injEq, true_and]; omega) (by simpa using hl)⟩, fun h => absurd h (by simp; omega)⟩
      · have hf : locGo true s = false := by rw [← hl]; rfl
        rw [hf]
        simp only [lawG, ↓Xn, ↓Xo, ↓Xg, ↓Xd, ↓Xe, ↓Xf, Tryz.VΓ, Tryz.Γs, Xp, Xi, Nat.reduceAdd, Nat.reduceSub, Nat.reduceLT, Nat.reduceLeDiff, reduceIte, reduceCtorEq, Nat.reduceEqDiff, implies_true, forall_const, lawV, h0, h3, h6, h7, hb, hb2]
        exact fun _ => ⟨⟨by omega, by omega⟩, by omega, by omega⟩
    · have hb : ((s[i].toNat : Int) == 46) = false := by rw [← hg, hb0]; simpa using hc
      have hb2 : ((s[i].toNat : Int) != 46) = true := by rw [← hg, hb1]; simpa using hc
      have hbt : (s[i] == 46) = false := by simpa using hc
      rw [hbt] at mk
      have hbn : (s[i] != 46) = true := by simpa using hc
      rw [hbt, hbn] at hl
      simp only [lawG, ↓Xn, ↓Xo, ↓Xg, ↓Xd, ↓Xe, ↓Xf, Tryz.VΓ, Tryz.Γs, Xp, Xi, Nat.reduceAdd, Nat.reduceSub, Nat.reduceLT, Nat.reduceLeDiff, reduceIte, reduceCtorEq, Nat.reduceEqDiff, implies_true, forall_const, lawV, h0, h3, h6, h7, hg, hb, hb2]
      refine ⟨fun _ => ⟨⟨by omega, by omega⟩, ⟨by omega, by omega⟩, ?_⟩, fun h => absurd h (by simp; omega)⟩
      (refine callV_pc (p_mail_atom s[i]) ?_; simp only [lawG, ↓Xn, ↓Xo, ↓Xg, ↓Xd, ↓Xe, ↓Xf, Tryz.VΓ, Tryz.Γs, Xp, Xi, Nat.reduceAdd, Nat.reduceSub, Nat.reduceLT, Nat.reduceLeDiff, reduceIte, reduceCtorEq, Nat.reduceEqDiff, implies_true, forall_const, lawV, h0, h3, h6, h7, hg, hb, hb2])
      cases ha : atomB s[i]
      · rw [ha] at hl
        have hf : locGo true s = false := by rw [← hl]; rfl
        rw [hf]
        simp only [lawG, ↓Xn, ↓Xo, ↓Xg, ↓Xd, ↓Xe, ↓Xf, Tryz.VΓ, Tryz.Γs, Xp, Xi, Nat.reduceAdd, Nat.reduceSub, Nat.reduceLT, Nat.reduceLeDiff, reduceIte, reduceCtorEq, Nat.reduceEqDiff, implies_true, forall_const, lawV, h0, h3, h6, h7, hg, hb, hb2]
      · rw [ha] at hl
        simp only [lawG, ↓Xn, ↓Xo, ↓Xg, ↓Xd, ↓Xe, ↓Xf, Tryz.VΓ, Tryz.Γs, Xp, Xi, Nat.reduceAdd, Nat.reduceSub, Nat.reduceLT, Nat.reduceLeDiff, reduceIte, reduceCtorEq, Nat.reduceEqDiff, implies_true, forall_const, lawV, h0, h3, h6, h7, hg, hb, hb2]
        exact ⟨⟨by omega, by omega⟩, ⟨by omega, by omega⟩, ⟨by omega, by omega⟩, mk _ h0 rfl h6 (by simp only [lk, reduceIte, Option.some.injEq, SV.int.injEq, true_and]; omega) (by simpa using hl)⟩
  · have hie : i = s.length := by omega
    subst hie
    rw [List.drop_length, locGo] at hl
    simp only [lawG, ↓Xn, ↓Xo, ↓Xg, ↓Xd, ↓Xe, ↓Xf, Tryz.VΓ, Tryz.Γs, Xp, Xi, Nat.reduceAdd, Nat.reduceSub, Nat.reduceLT, Nat.reduceLeDiff, reduceIte, reduceCtorEq, Nat.reduceEqDiff, implies_true, forall_const, lawV, h0, h3, h6, h7]
    refine ⟨fun h => absurd h (by simp), fun _ => ⟨fun h => ?_, fun h => ?_⟩⟩
    · rw [← hl, h]
      congr 1
      rw [Bool.true_and]
      exact decide_eq_decide.2 ⟨fun h => by omega, fun h => by omega⟩
    · rw [← hl, h]; rfl
theorem p_r9_Local (s : Bytes) : PC Tryz.V 133 [.str s] (.bool (localOk s)) := by
  refine pc_of 3000 Tryz.func133 rfl Tryz.ntmps133 Tryz.results133 Tryz.call133 (by simp) (by simp [flat, flat.flatL]) (by simp [flat, flat.flatL]) ?_
  simp only [lawG, ↓Xn, ↓Xo, ↓Xg, ↓Xd, ↓Xe, ↓Xf, Tryz.VΓ, Tryz.Γs, Xp, Xi, Nat.reduceAdd, Nat.reduceSub, Nat.reduceLT, Nat.reduceLeDiff, reduceIte, reduceCtorEq, Nat.reduceEqDiff, implies_true, forall_const, lawV]
  unfold localOk
  refine ⟨fun hne => ⟨fun hl => ?_, fun hl => ?_⟩, fun hne => ?_⟩
  · have hl : ¬ s.length ≤ 64 := (by simp at hl; omega)
    rw [decide_eq_false hl, Bool.and_false]
  · have hl : s.length ≤ 64 := (by simp at hl; omega)
    rw [decide_eq_true hl, Bool.and_true]
    have hsl := splitC_len 46 s
    refine callV_sc (sc_Split s 46 (by omega)) ?_
    rintro r b ⟨j, rfl, hLj, hj, hkp⟩
    have hct := splitC_length 46 s
    have hcc := List.count_le_length (a := (46 : UInt8)) (l := s)
    generalize splitC 46 s = L at *
    simp only at hLj hj hkp
    simp only [lawG, ↓Xn, ↓Xo, ↓Xg, ↓Xd, ↓Xe, ↓Xf, Tryz.VΓ, Tryz.Γs, Xp, Xi, Nat.reduceAdd, Nat.reduceSub, Nat.reduceLT, Nat.reduceLeDiff, reduceIte, reduceCtorEq, Nat.reduceEqDiff, implies_true, forall_const, lawV, hj]
    refine loopV_mk (fun σ => ∃ k : Nat, k ≤ L.length ∧ lk 14 σ.t = some (.o j L.length) ∧ lk 15 σ.t = some (.int .i64 L.length) ∧ lk 16 σ.t = some (.int .i64 k) ∧ σ.b[j]? = some (.own (L.map SV.str) 9 1 L.length true) ∧ (L.take k).all atomsOk = true) (fun σ => L.length - lkI 16 σ) ⟨0, by omega, rfl, rfl, rfl, hj, rfl⟩ ?_
    rintro ⟨t, b⟩ ⟨k, hk, h14, h15, h16, hb, hok⟩
    simp only at h14 h15 h16 hb
    rw [lkI_eq h16]
    by_cases hlt : k < L.length
    · have h33 : (L.map SV.str)[k * 1]? = some (.str L[k]) := by simp [hlt]
      have hxl := hsl L[k] (List.getElem_mem hlt)
      generalize hx : L[k] = x at *
      have hfalse : atomsOk x = false → L.all atomsOk = false := fun h => by
        rw [← Bool.not_eq_true]
        intro h2
        have := List.all_eq_true.1 h2 x (hx ▸ List.getElem_mem hlt)
        rw [h] at this; cases this
      simp only [lawG, ↓Xn, ↓Xo, ↓Xg, ↓Xd, ↓Xe, ↓Xf, Tryz.VΓ, Tryz.Γs, Xp, Xi, Nat.reduceAdd, Nat.reduceSub, Nat.reduceLT, Nat.reduceLeDiff, reduceIte, reduceCtorEq, Nat.reduceEqDiff, implies_true, forall_const, lawV, h14, h15, h16, hb, h33]
      refine ⟨fun _ => ⟨⟨by omega, by omega⟩, by simp; omega, fun hn => ?_, fun hn => ?_⟩, fun h => absurd h (by simp; omega)⟩
      · have hn : x = [] := by simpa using hn
        rw [hfalse (by rw [hn]; rfl)]
      have hn : x.isEmpty = false := by cases x <;> simp at hn ⊢
      refine loopV_mk (fun σ => ∃ i : Nat, i ≤ x.length ∧ lk 4 σ.t = some (.str x) ∧ lk 5 σ.t = some (.int .i64 i) ∧ lk 14 σ.t = some (.o j L.length) ∧ lk 15 σ.t = some (.int .i64 L.length) ∧ lk 16 σ.t = some (.int .i64 k) ∧ σ.b[j]? = some (.own (L.map SV.str) 9 1 L.length true) ∧ (x.take i).all atomB = true) (fun σ => x.length - lkI 5 σ) ⟨0, by omega, rfl, rfl, h14, h15, h16, hb, rfl⟩ ?_
      rintro ⟨t', b'⟩ ⟨i, hi, g4, g5, g14, g15, g16, gb, gok⟩
      simp only at g4 g5 g14 g15 g16 gb
      rw [lkI_eq g5]
      by_cases hil : i < x.length
      · have hg : x.getD i 0 = x[i] := by simp [List.getD, hil]
        simp only [lawG, ↓Xn, ↓Xo, ↓Xg, ↓Xd, ↓Xe, ↓Xf, Tryz.VΓ, Tryz.Γs, Xp, Xi, Nat.reduceAdd, Nat.reduceSub, Nat.reduceLT, Nat.reduceLeDiff, reduceIte, reduceCtorEq, Nat.reduceEqDiff, implies_true, forall_const, lawV, g4, g5, g14, g15, g16, gb, hg]
        refine ⟨fun _ => ⟨⟨by omega, by omega⟩, ?_⟩, fun h => absurd h (by simp; omega)⟩
        (refine callV_pc (p_r9_atom x[i]) ?_; simp only [lawG, ↓Xn, ↓Xo, ↓Xg, ↓Xd, ↓Xe, ↓Xf, Tryz.VΓ, Tryz.Γs, Xp, Xi, Nat.reduceAdd, Nat.reduceSub, Nat.reduceLT, Nat.reduceLeDiff, reduceIte, reduceCtorEq, Nat.reduceEqDiff, implies_true, forall_const, lawV, g4, g5, g14, g15, g16, gb, hg])
        refine ⟨fun ha => ?_, fun ha => ⟨⟨by omega, by omega⟩, ⟨i + 1, by omega, rfl, all_take_snoc hil gok (by simpa using ha)⟩, ?_⟩⟩
        · have ha : atomB x[i] = false := by simpa using ha
          rw [hfalse (by unfold atomsOk; rw [all_not hil ha, Bool.and_false])]
        · rw [lkI_eq (k := .i64) (n := (i : Int) + 1) rfl]; omega
      · have hie : i = x.length := by omega
        subst hie
        rw [List.take_length] at gok
        have hax : atomsOk x = true := by unfold atomsOk; rw [hn, gok]; rfl
        simp only [lawG, ↓Xn, ↓Xo, ↓Xg, ↓Xd, ↓Xe, ↓Xf, Tryz.VΓ, Tryz.Γs, Xp, Xi, Nat.reduceAdd, Nat.reduceSub, Nat.reduceLT, Nat.reduceLeDiff, reduceIte, reduceCtorEq, Nat.reduceEqDiff, implies_true, forall_const, lawV, g4, g5, g14, g15, g16, gb]
        refine ⟨fun h => absurd h (by simp), fun _ => ⟨⟨by omega, by omega⟩, ⟨k + 1, by omega, rfl, all_take_snoc hlt hok (by rw [hx]; exact hax)⟩, ?_⟩⟩
        rw [lkI_eq (k := .i64) (n := (k : Int) + 1) rfl]; omega
    · have hie : k = L.length := by omega
      subst hie
      rw [List.take_length] at hok
      simp only [lawG, ↓Xn, ↓Xo, ↓Xg, ↓Xd, ↓Xe, ↓Xf, Tryz.VΓ, Tryz.Γs, Xp, Xi, Nat.reduceAdd, Nat.reduceSub, Nat.reduceLT, Nat.reduceLeDiff, reduceIte, reduceCtorEq, Nat.reduceEqDiff, implies_true, forall_const, lawV, h14, h15, h16, hb]
      exact ⟨fun h => absurd h (by simp), fun _ => by rw [hok]⟩
  · have hne : s = [] := by simpa using hne
    subst hne; rfl
end Go.Proofs.YtcndmooeglfilaaGreatDoor
/- The walks of package weburl and its reference: Target, Origin, Format. -/
set_option linter.all false
set_option maxRecDepth 20000
namespace Go.Proofs.YtcndmooeglfilaaGreatDoor
open Go Vc Go.RowKit Wf
set_option linter.unusedSimpArgs false
def wsv (u : Url) : SV := .agg [.str u.host, .int .i64 u.port, .str u.path, .str u.query, .str u.fragment, .bool u.hasQuery, .bool u.hasFrag]
def Fair (u : Url) : Prop := u.host.length + u.path.length + u.query.length + u.fragment.length ≤ 1000000 ∧ -9223372036854775808 ≤ u.port ∧ u.port ≤ 9223372036854775807
theorem hostText_len2 (x : Bytes) {p : Int} (h0 : -9223372036854775808 ≤ p) (h1 : p ≤ 9223372036854775807) : (hostText x p).length ≤ x.length + 22 := by
  have := decS_length 19 p.natAbs (by omega)
  unfold hostText
  split
  · omega
  · split <;> simp <;> omega
theorem urlTarget_len (u : Url) : (urlTarget u).length ≤ u.path.length + u.query.length + 1 := by
  unfold urlTarget
  split
  · simp; omega
  · omega
theorem p_url_Target (u : Url) (hk : Fair u) : PC Tryz.V 106 [wsv u] (.str (urlTarget u)) := by
  obtain ⟨hk, -⟩ := hk
  (refine pc_of 3000 Tryz.func106 rfl Tryz.ntmps106 Tryz.results106 Tryz.call106 (by simp) (by simp [flat, flat.flatL, wsv]) (by simp [flat, flat.flatL, wsv]) ?_
   unfold wsv
   simp only [lawG, ↓Xn, ↓Xo, ↓Xg, ↓Xd, ↓Xe, ↓Xf, Tryz.VΓ, Tryz.Γs, Xp, Xi, Nat.reduceAdd, Nat.reduceSub, Nat.reduceLT, Nat.reduceLeDiff, reduceIte, reduceCtorEq, Nat.reduceEqDiff, implies_true, forall_const, lawV])
  unfold urlTarget
  refine ⟨fun h => ?_, fun h => ?_⟩
  · simp [h]
    refine ⟨by omega, by omega⟩
  · simp [h]
theorem p_url_Origin (u : Url) : PC Tryz.V 105 [wsv u] (.agg [.str u.host, .int .i64 u.port]) := by
  (refine pc_of 3000 Tryz.func105 rfl Tryz.ntmps105 Tryz.results105 Tryz.call105 (by simp) (by simp [flat, flat.flatL, wsv]) (by simp [flat, flat.flatL, wsv]) ?_
   unfold wsv
   simp only [lawG, ↓Xn, ↓Xo, ↓Xg, ↓Xd, ↓Xe, ↓Xf, Tryz.VΓ, Tryz.Γs, Xp, Xi, Nat.reduceAdd, Nat.reduceSub, Nat.reduceLT, Nat.reduceLeDiff, reduceIte, reduceCtorEq, Nat.reduceEqDiff, implies_true, forall_const, lawV])
theorem p_url_Format (u : Url) (hk : Fair u) : PC Tryz.V 59 [wsv u] (.str (urlText u)) := by
  have hl := hk.1
  have hx := hostText_len2 u.host hk.2.1 hk.2.2
  have ht := urlTarget_len u
  have pt := p_url_Target u hk
  have po := p_url_Origin u
  have pf := p_host_Format u.host u.port (by omega) hk.2.1 hk.2.2
  (refine pc_of 3000 Tryz.func59 rfl Tryz.ntmps59 Tryz.results59 Tryz.call59 (by simp) (by simp [flat, flat.flatL, wsv]) (by simp [flat, flat.flatL, wsv]) ?_
   unfold wsv
   simp only [lawG, ↓Xn, ↓Xo, ↓Xg, ↓Xd, ↓Xe, ↓Xf, Tryz.VΓ, Tryz.Γs, Xp, Xi, Nat.reduceAdd, Nat.reduceSub, Nat.reduceLT, Nat.reduceLeDiff, reduceIte, reduceCtorEq, Nat.reduceEqDiff, implies_true, forall_const, lawV])
  unfold wsv at pt po
  (refine callD_pc (po) ?_; simp only [lawG, ↓Xn, ↓Xo, ↓Xg, ↓Xd, ↓Xe, ↓Xf, Tryz.VΓ, Tryz.Γs, Xp, Xi, Nat.reduceAdd, Nat.reduceSub, Nat.reduceLT, Nat.reduceLeDiff, reduceIte, reduceCtorEq, Nat.reduceEqDiff, implies_true, forall_const, lawV])
  (refine callD_pc (pf) ?_; simp only [lawG, ↓Xn, ↓Xo, ↓Xg, ↓Xd, ↓Xe, ↓Xf, Tryz.VΓ, Tryz.Γs, Xp, Xi, Nat.reduceAdd, Nat.reduceSub, Nat.reduceLT, Nat.reduceLeDiff, reduceIte, reduceCtorEq, Nat.reduceEqDiff, implies_true, forall_const, lawV])
  refine ⟨by omega, ?_⟩
  (refine callD_pc (pt) ?_; simp only [lawG, ↓Xn, ↓Xo, ↓Xg, ↓Xd, ↓Xe, ↓Xf, Tryz.VΓ, Tryz.Γs, Xp, Xi, Nat.reduceAdd, Nat.reduceSub, Nat.reduceLT, Nat.reduceLeDiff, reduceIte, reduceCtorEq, Nat.reduceEqDiff, implies_true, forall_const, lawV])
  unfold urlText
  refine ⟨by omega, (OkD_fast (by kernel_rfl)), fun h => ⟨by omega, by simp only [List.length_append]; omega, ?_⟩, fun h => ?_⟩
  · rw [if_pos h]; simp
  · rw [if_neg (by simp [h])]; simp
theorem p_r7_Target (u : Url) (hk : Fair u) : PC Tryz.V 94 [wsv u] (.str (urlTarget u)) := by
  obtain ⟨hk, -⟩ := hk
  (refine pc_of 3000 Tryz.func94 rfl Tryz.ntmps94 Tryz.results94 Tryz.call94 (by simp) (by simp [flat, flat.flatL, wsv]) (by simp [flat, flat.flatL, wsv]) ?_
   unfold wsv
   simp only [lawG, ↓Xn, ↓Xo, ↓Xg, ↓Xd, ↓Xe, ↓Xf, Tryz.VΓ, Tryz.Γs, Xp, Xi, Nat.reduceAdd, Nat.reduceSub, Nat.reduceLT, Nat.reduceLeDiff, reduceIte, reduceCtorEq, Nat.reduceEqDiff, implies_true, forall_const, lawV])
  unfold urlTarget
  refine ⟨fun h => ?_, fun h => ?_⟩
  · simp [h]
    refine ⟨by omega, by omega⟩
  · simp [h]
theorem p_r7_Origin (u : Url) : PC Tryz.V 47 [wsv u] (.agg [.str u.host, .int .i64 u.port]) := by
  (refine pc_of 3000 Tryz.func47 rfl Tryz.ntmps47 Tryz.results47 Tryz.call47 (by simp) (by simp [flat, flat.flatL, wsv]) (by simp [flat, flat.flatL, wsv]) ?_
   unfold wsv
   simp only [lawG, ↓Xn, ↓Xo, ↓Xg, ↓Xd, ↓Xe, ↓Xf, Tryz.VΓ, Tryz.Γs, Xp, Xi, Nat.reduceAdd, Nat.reduceSub, Nat.reduceLT, Nat.reduceLeDiff, reduceIte, reduceCtorEq, Nat.reduceEqDiff, implies_true, forall_const, lawV])
theorem p_r7_Format (u : Url) (hk : Fair u) : PC Tryz.V 48 [wsv u] (.str (urlText u)) := by
  have hl := hk.1
  have hx := hostText_len2 u.host hk.2.1 hk.2.2
  have ht := urlTarget_len u
  have pt := p_r7_Target u hk
  have po := p_r7_Origin u
  have pf := p_r5_Format u.host u.port (by omega) hk.2.1 hk.2.2
  (refine pc_of 3000 Tryz.func48 rfl Tryz.ntmps48 Tryz.results48 Tryz.call48 (by simp) (by simp [flat, flat.flatL, wsv]) (by simp [flat, flat.flatL, wsv]) ?_
   unfold wsv
   simp only [lawG, ↓Xn, ↓Xo, ↓Xg, ↓Xd, ↓Xe, ↓Xf, Tryz.VΓ, Tryz.Γs, Xp, Xi, Nat.reduceAdd, Nat.reduceSub, Nat.reduceLT, Nat.reduceLeDiff, reduceIte, reduceCtorEq, Nat.reduceEqDiff, implies_true, forall_const, lawV])
  unfold wsv at pt po
  (refine callD_pc (po) ?_; simp only [lawG, ↓Xn, ↓Xo, ↓Xg, ↓Xd, ↓Xe, ↓Xf, Tryz.VΓ, Tryz.Γs, Xp, Xi, Nat.reduceAdd, Nat.reduceSub, Nat.reduceLT, Nat.reduceLeDiff, reduceIte, reduceCtorEq, Nat.reduceEqDiff, implies_true, forall_const, lawV])
  (refine callD_pc (pf) ?_; simp only [lawG, ↓Xn, ↓Xo, ↓Xg, ↓Xd, ↓Xe, ↓Xf, Tryz.VΓ, Tryz.Γs, Xp, Xi, Nat.reduceAdd, Nat.reduceSub, Nat.reduceLT, Nat.reduceLeDiff, reduceIte, reduceCtorEq, Nat.reduceEqDiff, implies_true, forall_const, lawV])
  refine ⟨by omega, ?_⟩
  (refine callD_pc (pt) ?_; simp only [lawG, ↓Xn, ↓Xo, ↓Xg, ↓Xd, ↓Xe, ↓Xf, Tryz.VΓ, Tryz.Γs, Xp, Xi, Nat.reduceAdd, Nat.reduceSub, Nat.reduceLT, Nat.reduceLeDiff, reduceIte, reduceCtorEq, Nat.reduceEqDiff, implies_true, forall_const, lawV])
  unfold urlText
  refine ⟨by omega, (OkD_fast (by kernel_rfl)), fun h => ⟨by omega, by simp only [List.length_append]; omega, ?_⟩, fun h => ?_⟩
  · rw [if_pos h]; simp
  · rw [if_neg (by simp [h])]; simp
theorem pre_mem (l : Bytes) (c : UInt8) : pre (· == c) l < l.length ↔ c ∈ l := by
  induction l with
  | nil => simp [pre]
  | cons x l ih =>
    rw [pre_cons]
    by_cases h : x = c
    · simp [h]
    · rw [if_neg (by simpa using h)]
      simp only [List.length_cons, Nat.add_lt_add_iff_right, ih, List.mem_cons]
      exact ⟨.inr, fun k => k.resolve_left fun e => h e.symm⟩
theorem contains_one (l : Bytes) (c : UInt8) : decide (0 ≤ Lib.indexByte l c) = decide (c ∈ l) := by
  rw [indexByte_pre]
  by_cases h : c ∈ l
  · rw [if_pos ((pre_mem l c).2 h)]; simp [h]
  · rw [if_neg (fun k => h ((pre_mem l c).1 k))]; simp [h]
theorem p_Contains (l : Bytes) (c : UInt8) : PC Tryz.V 146 [.str l, .str [c]] (.bool (decide (c ∈ l))) :=
  ⟨Tryz.call146, by simp [flat, flat.flatL], by simp [flat, flat.flatL], fun w hE => (Tryz.strings_Contains_one ⟨List.toArray l⟩ c w).mono fun _ _ ⟨h, k⟩ => ⟨by
    rw [h]
    have e : decide (0 ≤ Lib.indexByte l c) = decide (c ∈ l) := contains_one l c
    rw [← e]; rfl, below_same k.symm⟩⟩
end Go.Proofs.YtcndmooeglfilaaGreatDoor
/- The walks of package did. -/
set_option linter.all false
set_option maxRecDepth 20000
namespace Go.Proofs.YtcndmooeglfilaaGreatDoor
open Go Vc Go.RowKit Wf
set_option linter.unusedSimpArgs false
def dsv (d : Did) : SV := .agg [.str d.method, .str d.id]
def dusv (u : DidUrl) : SV := .agg [.str u.did.method, .str u.did.id, .str u.path, .str u.query, .str u.fragment, .bool u.hasQuery, .bool u.hasFrag]
theorem p_ReplaceAll (s : Bytes) (c : UInt8) (new : Bytes) (hne : ([c] == new) = false) (hs : s.length ≤ 1000000) (hn : new.length ≤ 1000) : PC Tryz.V 127 [.str s, .str [c], .str new] (.str (s.flatMap (repB c new))) :=
  ⟨Tryz.call127, by simp [flat, flat.flatL], by simp [flat, flat.flatL], fun w ⟨m, hm⟩ => by
    have hc : Lib.countB ⟨List.toArray s⟩ ⟨#[c]⟩ ≤ s.length + 1 := Lib.count_le s [c]
    have hm2 : Lib.countB ⟨List.toArray s⟩ ⟨#[c]⟩ * new.length ≤ 1000001 * 1000 := Nat.mul_le_mul (by omega) hn
    refine (Tryz.strings_ReplaceAll ⟨List.toArray s⟩ ⟨#[c]⟩ ⟨List.toArray new⟩ m w (show s.length < 4294967281 by omega) hm (Nat.le_refl 1) (show s.length + Lib.countB ⟨List.toArray s⟩ ⟨#[c]⟩ * new.length ≤ 140737488355328 by omega)).mono fun _ _ ⟨h, k⟩ => ⟨?_, k⟩
    rw [h, ← replaceAll_one c new s hne]
    rfl⟩
theorem p_HasSuffix (s : Bytes) (c : UInt8) (hs : s.length ≤ 1000000) : PC Tryz.V 110 [.str s, .str [c]] (.bool (decide (s.getLast? = some c))) :=
  ⟨Tryz.call110, by simp [flat, flat.flatL], by simp [flat, flat.flatL], fun w _ => (Tryz.strings_HasSuffix ⟨List.toArray s⟩ ⟨#[c]⟩ w (show s.length ≤ 9223372036854775807 by omega)).mono fun _ _ ⟨h, k⟩ => ⟨by
    rw [h]
    have e : Lib.hasSuffix s [c] = decide (s.getLast? = some c) := by
      unfold Lib.hasSuffix
      rcases List.eq_nil_or_concat s with rfl | ⟨a, d, rfl⟩
      · rfl
      · rw [List.concat_eq_append, Bool.eq_iff_iff, List.isSuffixOf_iff_suffix, decide_eq_true_eq, List.getLast?_concat, Option.some.injEq]
        constructor
        · rintro ⟨t, ht⟩
          have := congrArg List.getLast? ht
          simpa using this.symm
        · rintro rfl; exact ⟨a, rfl⟩
    rw [← e]; rfl, below_same k.symm⟩⟩
theorem methodC_is (c : UInt8) (h : isDigit c = false) : methodC c = (decide (97 ≤ c.toNat) && decide (c.toNat ≤ 122)) := by
  unfold methodC; rw [h]; simp [Bool.decide_and]
set_option maxHeartbeats 2000000 in
theorem p_did_method (s : Bytes) (hs : s.length ≤ 1000000) : PC Tryz.V 108 [.str s] (.bool (methodOk s)) := by
  refine pc_of 3000 Tryz.func108 rfl Tryz.ntmps108 Tryz.results108 Tryz.call108 (by simp) (by simp [flat, flat.flatL]) (by simp [flat, flat.flatL]) ?_
  simp only [lawG, ↓Xn, ↓Xo, ↓Xg, ↓Xd, ↓Xe, ↓Xf, Tryz.VΓ, Tryz.Γs, Xp, Xi, Nat.reduceAdd, Nat.reduceSub, Nat.reduceLT, Nat.reduceLeDiff, reduceIte, reduceCtorEq, Nat.reduceEqDiff, implies_true, forall_const, lawV]
  refine loopV_mk (fun σ => ∃ i : Nat, i ≤ s.length ∧ lk 0 σ.t = some (.str s) ∧ lk 4 σ.t = some (.str s) ∧ lk 5 σ.t = some (.int .i64 s.length) ∧ lk 6 σ.t = some (.int .i64 i) ∧ (s.take i).all methodC = true) (fun σ => s.length - lkI 6 σ) ⟨0, by omega, rfl, rfl, rfl, rfl, rfl⟩ ?_
  rintro ⟨t, b⟩ ⟨i, hi, h0, h4, h5, h6, hok⟩
  simp only at h0 h4 h5 h6
  rw [lkI_eq h6]
  by_cases hlt : i < s.length
  · have hg : s.getD i 0 = s[i] := by simp [List.getD, hlt]
    have hbad : methodC s[i] = false → methodOk s = false := fun h => by
      unfold methodOk
      rw [all_not hlt h, Bool.and_false]
    simp only [lawG, ↓Xn, ↓Xo, ↓Xg, ↓Xd, ↓Xe, ↓Xf, Tryz.VΓ, Tryz.Γs, Xp, Xi, Nat.reduceAdd, Nat.reduceSub, Nat.reduceLT, Nat.reduceLeDiff, reduceIte, reduceCtorEq, Nat.reduceEqDiff, implies_true, forall_const, lawV, h0, h4, h5, h6, hg]
    refine ⟨fun _ => ⟨⟨by omega, by omega⟩, ?_⟩, fun h => absurd h (by simp; omega)⟩
    (refine callV_pc (p_IsDigit s[i]) ?_; simp only [lawG, ↓Xn, ↓Xo, ↓Xg, ↓Xd, ↓Xe, ↓Xf, Tryz.VΓ, Tryz.Γs, Xp, Xi, Nat.reduceAdd, Nat.reduceSub, Nat.reduceLT, Nat.reduceLeDiff, reduceIte, reduceCtorEq, Nat.reduceEqDiff, implies_true, forall_const, lawV, h0, h4, h5, h6, hg])
    have fin : methodC s[i] = true → ∀ (t' : List (Nat × SV)), lk 6 t' = some (.int .i64 ((i : Int) + 1)) → (∃ k : Nat, k ≤ s.length ∧ SV.int IntKind.i64 ((i : Int) + 1) = SV.int IntKind.i64 (k : Int) ∧ (s.take k).all methodC = true) ∧ s.length - lkI 6 ⟨t', b⟩ < s.length - (i : Int).toNat := fun hm t' k6 =>
      ⟨⟨i + 1, by omega, rfl, all_take_snoc hlt hok hm⟩, by rw [lkI_eq (σ := ⟨t', b⟩) k6]; omega⟩
    cases hd : isDigit s[i]
    · refine ⟨fun _ => ⟨⟨by omega, by omega⟩, fun h1 => ⟨⟨by omega, by omega⟩, fun h2 => ?_, fun h2 => ⟨⟨by omega, by omega⟩, fin ?_ _ rfl⟩⟩, fun h1 => ?_⟩, fun h => (by cases h)⟩
      · rw [hbad (by rw [methodC_is _ hd]; simp at h1 h2 ⊢; omega)]
      · rw [methodC_is _ hd]; simp at h1 h2 ⊢; omega
      · rw [hbad (by rw [methodC_is _ hd]; simp at h1 ⊢; omega)]
    · exact ⟨fun h => (by cases h), fun _ => ⟨⟨by omega, by omega⟩, fin (by unfold methodC; rw [hd]; rfl) _ rfl⟩⟩
  · have hie : i = s.length := by omega
    subst hie
    rw [List.take_length] at hok
    simp only [lawG, ↓Xn, ↓Xo, ↓Xg, ↓Xd, ↓Xe, ↓Xf, Tryz.VΓ, Tryz.Γs, Xp, Xi, Nat.reduceAdd, Nat.reduceSub, Nat.reduceLT, Nat.reduceLeDiff, reduceIte, reduceCtorEq, Nat.reduceEqDiff, implies_true, forall_const, lawV, h0, h4, h5, h6]
    refine ⟨fun h => absurd h (by simp), fun _ => ?_⟩
    unfold methodOk
    rw [hok, Bool.and_true]
    cases s <;> rfl
set_option maxHeartbeats 2000000 in
theorem p_did_canonical (s : Bytes) (hs : s.length ≤ 4096) : PC Tryz.V 109 [.str s] (.tup [.str (progCanon s).1, .int .i64 (progCanon s).2]) := by
  have pn := p_Normalize s [58] (by decide)
  have pd := p_Decode s
  have pc := p_Contains s 126
  have pr := p_ReplaceAll (pctNorm [58] s).1 126 [37, 55, 69] (by decide) (by have := pctNorm_len [58] s; omega) (by decide)
  unfold progCanon
  generalize pctNorm [58] s = n at *
  generalize pctDecode s = d at *
  obtain ⟨n, e⟩ := n
  obtain ⟨d, f⟩ := d
  simp only at pn pd pr ⊢
  refine pc_of 3000 Tryz.func109 rfl Tryz.ntmps109 Tryz.results109 Tryz.call109 (by simp) (by simp [flat, flat.flatL]) (by simp [flat, flat.flatL]) ?_
  simp only [lawG, ↓Xn, ↓Xo, ↓Xg, ↓Xd, ↓Xe, ↓Xf, Tryz.VΓ, Tryz.Γs, Xp, Xi, Nat.reduceAdd, Nat.reduceSub, Nat.reduceLT, Nat.reduceLeDiff, reduceIte, reduceCtorEq, Nat.reduceEqDiff, implies_true, forall_const, lawV]
  (refine callV_pc (pn) ?_; simp only [lawG, ↓Xn, ↓Xo, ↓Xg, ↓Xd, ↓Xe, ↓Xf, Tryz.VΓ, Tryz.Γs, Xp, Xi, Nat.reduceAdd, Nat.reduceSub, Nat.reduceLT, Nat.reduceLeDiff, reduceIte, reduceCtorEq, Nat.reduceEqDiff, implies_true, forall_const, lawV])
  (refine callV_pc (pd) ?_; simp only [lawG, ↓Xn, ↓Xo, ↓Xg, ↓Xd, ↓Xe, ↓Xf, Tryz.VΓ, Tryz.Γs, Xp, Xi, Nat.reduceAdd, Nat.reduceSub, Nat.reduceLT, Nat.reduceLeDiff, reduceIte, reduceCtorEq, Nat.reduceEqDiff, implies_true, forall_const, lawV])
  refine ⟨fun h1 => ?_, fun h1 => ?_⟩
  · rw [if_pos (by simpa using h1)]
  rw [if_neg (by simpa using h1)]
  refine ⟨fun h2 => ?_, fun h2 => ?_⟩
  · have h2 : e = 0 := by simpa using h2
    (refine callV_pc pc ?_; simp only [lawG, ↓Xn, ↓Xo, ↓Xg, ↓Xd, ↓Xe, ↓Xf, Tryz.VΓ, Tryz.Γs, Xp, Xi, Nat.reduceAdd, Nat.reduceSub, Nat.reduceLT, Nat.reduceLeDiff, reduceIte, reduceCtorEq, Nat.reduceEqDiff, implies_true, forall_const, lawV])
    refine ⟨fun h3 => ?_, fun h3 => ?_⟩
    · (refine callV_pc pr ?_; simp only [lawG, ↓Xn, ↓Xo, ↓Xg, ↓Xd, ↓Xe, ↓Xf, Tryz.VΓ, Tryz.Γs, Xp, Xi, Nat.reduceAdd, Nat.reduceSub, Nat.reduceLT, Nat.reduceLeDiff, reduceIte, reduceCtorEq, Nat.reduceEqDiff, implies_true, forall_const, lawV])
      rw [if_pos ⟨h2, of_decide_eq_true h3⟩]
    · (refine callV_pc pr ?_; simp only [lawG, ↓Xn, ↓Xo, ↓Xg, ↓Xd, ↓Xe, ↓Xf, Tryz.VΓ, Tryz.Γs, Xp, Xi, Nat.reduceAdd, Nat.reduceSub, Nat.reduceLT, Nat.reduceLeDiff, reduceIte, reduceCtorEq, Nat.reduceEqDiff, implies_true, forall_const, lawV])
      rw [if_neg (fun k => of_decide_eq_false h3 k.2)]
  · have h2 : ¬ e = 0 := by simpa using h2
    (refine callV_pc pr ?_; simp only [lawG, ↓Xn, ↓Xo, ↓Xg, ↓Xd, ↓Xe, ↓Xf, Tryz.VΓ, Tryz.Γs, Xp, Xi, Nat.reduceAdd, Nat.reduceSub, Nat.reduceLT, Nat.reduceLeDiff, reduceIte, reduceCtorEq, Nat.reduceEqDiff, implies_true, forall_const, lawV])
    rw [if_neg (fun k => h2 k.1)]
theorem progEnd (m s : Bytes) (hs : s.length ≤ 4096) : didEnd m (progCanon s) = didEnd m (didCanon s) := by
  have h := progCanon_eq s (by omega)
  unfold didEnd
  rw [h.1]
  by_cases k : (didCanon s).2 = 0
  · rw [h.2 k]
  · rw [if_pos k, if_pos k]
theorem progCanon_len (s : Bytes) : (progCanon s).1.length ≤ 9 * s.length := by
  unfold progCanon
  split
  · simp
  · have h1 := pctNorm_len [58] s
    have h2 : ∀ l : Bytes, (l.flatMap (repB 126 [37, 55, 69])).length ≤ 3 * l.length := by
      intro l
      induction l with
      | nil => simp
      | cons c l ih =>
        rw [List.flatMap_cons, List.length_append, List.length_cons]
        have : (repB 126 [37, 55, 69] c).length ≤ 3 := by unfold repB; split <;> simp
        omega
    have := h2 (pctNorm [58] s).1
    simp only
    omega
set_option maxHeartbeats 2000000 in
theorem p_did_ParseDID (s : Bytes) : PC Tryz.V 60 [.str s] (.tup [dsv (didParse s).1, .int .i64 (didParse s).2]) := by
  refine pc_of 3000 Tryz.func60 rfl Tryz.ntmps60 Tryz.results60 Tryz.call60 (by simp) (by simp [flat, flat.flatL, dsv, dusv]) (by simp [flat, flat.flatL, dsv, dusv]) ?_
  simp only [lawG, ↓Xn, ↓Xo, ↓Xg, ↓Xd, ↓Xe, ↓Xf, Tryz.VΓ, Tryz.Γs, Xp, Xi, Nat.reduceAdd, Nat.reduceSub, Nat.reduceLT, Nat.reduceLeDiff, reduceIte, reduceCtorEq, Nat.reduceEqDiff, implies_true, forall_const, lawV]
  unfold didParse
  refine ⟨fun h => ?_, fun h => ?_⟩
  · have h : 4096 < s.length := (by simp at h; omega)
    rw [if_pos h]; rfl
  have h : ¬ 4096 < s.length := (by simp at h; omega)
  rw [if_neg h]
  have pp := p_CutPrefix s didS
  have hT : didS.isPrefixOf s = true → Lib.trimPrefix s didS = s.drop 4 := fun k => if_pos k
  rw [show Lib.hasPrefix s didS = didS.isPrefixOf s from rfl] at pp
  (refine callV_pc pp ?_; simp only [lawG, ↓Xn, ↓Xo, ↓Xg, ↓Xd, ↓Xe, ↓Xf, Tryz.VΓ, Tryz.Γs, Xp, Xi, Nat.reduceAdd, Nat.reduceSub, Nat.reduceLT, Nat.reduceLeDiff, reduceIte, reduceCtorEq, Nat.reduceEqDiff, implies_true, forall_const, lawV])
  refine ⟨fun h2 => ?_, fun h2 => ?_⟩
  · rw [if_pos (by simpa using h2)]; rfl
  rw [if_neg (by simpa using h2)]
  rw [hT (by simpa using h2)]
  have hS : (s.drop 4).length ≤ 4096 := by simp; omega
  generalize s.drop 4 = S at hS ⊢
  have pc := p_Cut S 58 (by omega)
  have hcl := cutC_len 58 S
  unfold didRest
  generalize cutC 58 S = x at pc hcl ⊢
  obtain ⟨m, i, ok⟩ := x
  simp only at pc hcl ⊢
  (refine callV_pc pc ?_; simp only [lawG, ↓Xn, ↓Xo, ↓Xg, ↓Xd, ↓Xe, ↓Xf, Tryz.VΓ, Tryz.Γs, Xp, Xi, Nat.reduceAdd, Nat.reduceSub, Nat.reduceLT, Nat.reduceLeDiff, reduceIte, reduceCtorEq, Nat.reduceEqDiff, implies_true, forall_const, lawV])
  refine ⟨fun h3 => ?_, fun h3 => ?_⟩
  · rw [if_pos (by simpa using h3)]; rfl
  rw [if_neg (by simpa using h3)]
  (refine callV_pc (p_did_method m (by omega)) ?_; simp only [lawG, ↓Xn, ↓Xo, ↓Xg, ↓Xd, ↓Xe, ↓Xf, Tryz.VΓ, Tryz.Γs, Xp, Xi, Nat.reduceAdd, Nat.reduceSub, Nat.reduceLT, Nat.reduceLeDiff, reduceIte, reduceCtorEq, Nat.reduceEqDiff, implies_true, forall_const, lawV])
  refine ⟨fun h4 => ?_, fun h4 => ?_⟩
  · rw [if_pos (by simpa using h4)]; rfl
  rw [if_neg (by simpa using h4)]
  have hi : i.length ≤ 4096 := by omega
  rw [← progEnd m i hi]
  have pk := p_did_canonical i hi
  have hkl := progCanon_len i
  generalize progCanon i = k at *
  obtain ⟨k, e⟩ := k
  simp only at pk hkl
  have ps := p_HasSuffix k 58 (by omega)
  unfold didEnd
  simp only
  (refine callV_pc pk ?_; simp only [lawG, ↓Xn, ↓Xo, ↓Xg, ↓Xd, ↓Xe, ↓Xf, Tryz.VΓ, Tryz.Γs, Xp, Xi, Nat.reduceAdd, Nat.reduceSub, Nat.reduceLT, Nat.reduceLeDiff, reduceIte, reduceCtorEq, Nat.reduceEqDiff, implies_true, forall_const, lawV])
  refine ⟨fun h5 => ?_, fun h5 => ?_⟩
  · rw [if_pos (by simpa using h5)]; rfl
  rw [if_neg (by simpa using h5)]
  refine ⟨fun h6 => ?_, fun h6 => ?_⟩
  · (refine callV_pc ps ?_; simp only [lawG, ↓Xn, ↓Xo, ↓Xg, ↓Xd, ↓Xe, ↓Xf, Tryz.VΓ, Tryz.Γs, Xp, Xi, Nat.reduceAdd, Nat.reduceSub, Nat.reduceLT, Nat.reduceLeDiff, reduceIte, reduceCtorEq, Nat.reduceEqDiff, implies_true, forall_const, lawV])
    refine ⟨fun h7 => ?_, fun h7 => ?_⟩
    · rw [if_pos (.inr (of_decide_eq_true h7))]; rfl
    · rw [if_neg (by simp only [not_or]; exact ⟨by simpa using h6, of_decide_eq_false h7⟩)]; rfl
  · rw [if_pos (.inl (by simpa using h6))]; rfl
def DidFits (d : Did) : Prop := d.method.length ≤ 140737488355328 ∧ d.id.length ≤ 140737488355328
def DidUrlFits (u : DidUrl) : Prop := DidFits u.did ∧ u.path.length ≤ 140737488355328 ∧ u.query.length ≤ 140737488355328 ∧ u.fragment.length ≤ 140737488355328
theorem didText_len (d : Did) : (didText d).length = d.method.length + d.id.length + 5 := by simp [didText, didS]; omega
theorem p_did_FormatDID (d : Did) (h : DidFits d) : PC Tryz.V 61 [dsv d] (.str (didText d)) := by
  obtain ⟨m, i⟩ := d
  simp only [DidFits] at h
  refine pc_of 3000 Tryz.func61 rfl Tryz.ntmps61 Tryz.results61 Tryz.call61 (by simp) (by simp [flat, flat.flatL, dsv, dusv]) (by simp [flat, flat.flatL, dsv, dusv]) ?_
  unfold dsv
  simp only [lawG, ↓Xn, ↓Xo, ↓Xg, ↓Xd, ↓Xe, ↓Xf, Tryz.VΓ, Tryz.Γs, Xp, Xi, Nat.reduceAdd, Nat.reduceSub, Nat.reduceLT, Nat.reduceLeDiff, reduceIte, reduceCtorEq, Nat.reduceEqDiff, implies_true, forall_const, lawV]
  simp only [List.length_append, List.length_cons, List.length_nil]
  refine ⟨by omega, by omega, by omega, ?_⟩
  simp [didText, didS]
end Go.Proofs.YtcndmooeglfilaaGreatDoor
/- The walks of reference 06: Split, Join. -/
set_option linter.all false
set_option maxRecDepth 20000
namespace Go.Proofs.YtcndmooeglfilaaGreatDoor
open Go Vc Go.RowKit Wf
set_option linter.unusedSimpArgs false
theorem pre_one (c : UInt8) (s : Bytes) : pre (([c] : Bytes).contains ·) s = pre (· == c) s := by
  congr 1
  funext x
  by_cases h : x = c
  · subst h; simp
  · simp [h]
theorem authPath_two {s : Bytes} (h : Lib.hasPrefix s [47, 47] = true) : authPath s = ((s.take (2 + pre (· == 47) (s.drop 2))).drop 2, true, s.drop (2 + pre (· == 47) (s.drop 2))) := by
  rw [authPath_yes h]
  have e : Lib.trimPrefix s [47, 47] = s.drop 2 := by unfold Lib.trimPrefix; rw [if_pos h]; rfl
  rw [e, List.drop_take, List.drop_drop]
  simp
set_option maxRecDepth 20000 in
set_option maxHeartbeats 4000000 in
theorem p_r6_Split (s : Bytes) : PC Tryz.V 69 [.str s] (.tup [usv (uriSplit s).1, .int .i64 (uriSplit s).2]) := by
  (refine pc_of 3000 Tryz.func69 rfl Tryz.ntmps69 Tryz.results69 Tryz.call69 (by simp) (by simp [flat, flat.flatL, usv]) (by simp [flat, flat.flatL, usv]) ?_
   simp only [lawG, ↓Xn, ↓Xo, ↓Xg, ↓Xd, ↓Xe, ↓Xf, Tryz.VΓ, Tryz.Γs, Xp, Xi, Nat.reduceAdd, Nat.reduceSub, Nat.reduceLT, Nat.reduceLeDiff, reduceIte, reduceCtorEq, Nat.reduceEqDiff, implies_true, forall_const, lawV])
  refine ⟨fun h => ?_, fun h => ?_⟩
  · have : uriSplit s = (Uri.none, 5) := if_pos (by simp at h; omega)
    rw [this]; rfl
  · have hq : uriSplit s = splitRest (cutC 63 (cutC 35 s).1).1 (cutC 35 s).2.1 (cutC 63 (cutC 35 s).1).2.1 (cutC 35 s).2.2 (cutC 63 (cutC 35 s).1).2.2 := if_neg (by simp at h; omega)
    rw [hq]
    have hs : s.length ≤ 4294967281 := by simp at h; omega
    have px := p_r1_Index s [35] hs (by simp)
    rw [pre_one] at px
    (refine callV_pc (px) ?_; simp only [lawG, ↓Xn, ↓Xo, ↓Xg, ↓Xd, ↓Xe, ↓Xf, Tryz.VΓ, Tryz.Γs, Xp, Xi, Nat.reduceAdd, Nat.reduceSub, Nat.reduceLT, Nat.reduceLeDiff, reduceIte, reduceCtorEq, Nat.reduceEqDiff, implies_true, forall_const, lawV])
    refine ⟨fun hk1 => ?_, fun hk1 => ?_⟩
    · have hk1' : pre (· == 35) s < s.length := by simpa using hk1
      rw [show cutC 35 s = (s.take (pre (· == 35) s), s.drop (pre (· == 35) s + 1), true) from if_pos hk1']
      simp only
      have hl1 : (s.take (pre (· == 35) s)).length ≤ 4294967281 := by rw [List.length_take]; omega
      refine ⟨by omega, by omega, by omega, (OkD_fast (by kernel_rfl)), ?_⟩
      generalize s.take (pre (· == 35) s) = s1 at hl1 ⊢
      generalize s.drop (pre (· == 35) s + 1) = fr
      (
        have px2 := p_r1_Index s1 [63] (by omega) (by simp)
        rw [pre_one] at px2
        (refine callV_pc (px2) ?_; simp only [lawG, ↓Xn, ↓Xo, ↓Xg, ↓Xd, ↓Xe, ↓Xf, Tryz.VΓ, Tryz.Γs, Xp, Xi, Nat.reduceAdd, Nat.reduceSub, Nat.reduceLT, Nat.reduceLeDiff, reduceIte, reduceCtorEq, Nat.reduceEqDiff, implies_true, forall_const, lawV])
        refine ⟨fun hk2 => ?_, fun hk2 => ?_⟩
        · have hk2' : pre (· == 63) s1 < s1.length := by simpa using hk2
          rw [show cutC 63 s1 = (s1.take (pre (· == 63) s1), s1.drop (pre (· == 63) s1 + 1), true) from if_pos hk2']
          simp only
          have hl2 : (s1.take (pre (· == 63) s1)).length ≤ 4294967281 := by rw [List.length_take]; omega
          refine ⟨by omega, by omega, by omega, (OkD_fast (by kernel_rfl)), ?_⟩
          generalize s1.take (pre (· == 63) s1) = s2 at hl2 ⊢
          generalize s1.drop (pre (· == 63) s1 + 1) = qu
          (
            have px3 := p_r1_Index s2 [58, 47] (by omega) (by simp)
            rw [show pre (([58, 47] : Bytes).contains ·) s2 = pre colonSlash s2 from rfl] at px3
            (refine callV_pc (px3) ?_; simp only [lawG, ↓Xn, ↓Xo, ↓Xg, ↓Xd, ↓Xe, ↓Xf, Tryz.VΓ, Tryz.Γs, Xp, Xi, Nat.reduceAdd, Nat.reduceSub, Nat.reduceLT, Nat.reduceLeDiff, reduceIte, reduceCtorEq, Nat.reduceEqDiff, implies_true, forall_const, lawV])
            refine ⟨fun hk3 => ?_, fun hk3 => ?_⟩
            · have hp : pre colonSlash s2 < s2.length := by simpa using hk3
              rw [byte_is (n := 58) hp 58 rfl]
              refine ⟨by omega, fun h1 => ⟨by omega, ?_⟩, fun h1 => ?_⟩
              · have hh : (s2.drop (pre colonSlash s2)).head? = some 58 := by
                  rw [List.head?_drop, List.getElem?_eq_getElem hp, beq_iff_eq.1 h1]
                (refine callV_pc (p_r6_scheme _ (by rw [List.length_take]; omega)) ?_; simp only [lawG, ↓Xn, ↓Xo, ↓Xg, ↓Xd, ↓Xe, ↓Xf, Tryz.VΓ, Tryz.Γs, Xp, Xi, Nat.reduceAdd, Nat.reduceSub, Nat.reduceLT, Nat.reduceLeDiff, reduceIte, reduceCtorEq, Nat.reduceEqDiff, implies_true, forall_const, lawV])
                refine ⟨fun h2 => ?_, fun h2 => ?_⟩
                · have hs2 : ∀ (f q : Bytes) (hf hq : Bool), splitRest s2 f q hf hq = (Uri.none, 6) := fun f q hf hq => by
                    unfold splitRest
                    rw [if_pos hh, if_neg (by rw [not_t h2]; simp)]
                  rw [hs2]; rfl
                · have hs2 : ∀ (f q : Bytes) (hf hq : Bool), splitRest s2 f q hf hq = (⟨s2.take (pre colonSlash s2), (authPath (s2.drop (pre colonSlash s2 + 1))).1, (authPath (s2.drop (pre colonSlash s2 + 1))).2.2, q, f, true, (authPath (s2.drop (pre colonSlash s2 + 1))).2.1, hq, hf⟩, 0) := fun f q hf hq => by
                    unfold splitRest
                    rw [if_pos hh, if_pos (not_f h2)]
                  have hl5 : (s2.drop (pre colonSlash s2 + 1)).length ≤ 4294967281 := by rw [List.length_drop]; omega
                  refine ⟨by omega, by omega, by omega, (OkD_fast (by kernel_rfl)), ?_⟩
                  (
                    (refine callV_pc (p_r1_Prefix (s2.drop (pre colonSlash s2 + 1)) [47, 47]) ?_; simp only [lawG, ↓Xn, ↓Xo, ↓Xg, ↓Xd, ↓Xe, ↓Xf, Tryz.VΓ, Tryz.Γs, Xp, Xi, Nat.reduceAdd, Nat.reduceSub, Nat.reduceLT, Nat.reduceLeDiff, reduceIte, reduceCtorEq, Nat.reduceEqDiff, implies_true, forall_const, lawV])
                    cases hpf : Lib.hasPrefix (s2.drop (pre colonSlash s2 + 1)) [47, 47]
                    · refine ⟨fun h => (by cases h), fun _ => ?_⟩
                      rw [hs2, authPath_no hpf]; rfl
                    · refine ⟨fun _ => ?_, fun h => (by cases h)⟩
                      rw [hs2, authPath_two hpf]
                      have hl6 := hp_len hpf
                      simp only [List.length_cons, List.length_nil] at hl6
                      have px4 := p_r1_Index ((s2.drop (pre colonSlash s2 + 1)).drop 2) [47] (by rw [List.length_drop]; omega) (by simp)
                      rw [pre_one] at px4
                      have hpl := pre_le (· == 47) ((s2.drop (pre colonSlash s2 + 1)).drop 2)
                      rw [List.length_drop] at hpl
                      generalize pre (· == 47) ((s2.drop (pre colonSlash s2 + 1)).drop 2) = q at px4 hpl ⊢
                      refine ⟨by omega, ?_⟩
                      (refine callV_pc (px4) ?_; simp only [lawG, ↓Xn, ↓Xo, ↓Xg, ↓Xd, ↓Xe, ↓Xf, Tryz.VΓ, Tryz.Γs, Xp, Xi, Nat.reduceAdd, Nat.reduceSub, Nat.reduceLT, Nat.reduceLeDiff, reduceIte, reduceCtorEq, Nat.reduceEqDiff, implies_true, forall_const, lawV])
                      rw [show (2 + (q : Int)).toNat = 2 + q by omega]
                      exact ⟨by omega, by omega, by omega, (OkD_fast (by kernel_rfl)), rfl⟩)
              · have hs2 : ∀ (f q : Bytes) (hf hq : Bool), splitRest s2 f q hf hq = (⟨[], (authPath s2).1, (authPath s2).2.2, q, f, false, (authPath s2).2.1, hq, hf⟩, 0) := fun f q hf hq => by
                  unfold splitRest
                  rw [if_neg (by rw [List.head?_drop, List.getElem?_eq_getElem hp]; simpa using h1)]
                have hl5 := hl2
                (
                  (refine callV_pc (p_r1_Prefix (s2) [47, 47]) ?_; simp only [lawG, ↓Xn, ↓Xo, ↓Xg, ↓Xd, ↓Xe, ↓Xf, Tryz.VΓ, Tryz.Γs, Xp, Xi, Nat.reduceAdd, Nat.reduceSub, Nat.reduceLT, Nat.reduceLeDiff, reduceIte, reduceCtorEq, Nat.reduceEqDiff, implies_true, forall_const, lawV])
                  cases hpf : Lib.hasPrefix (s2) [47, 47]
                  · refine ⟨fun h => (by cases h), fun _ => ?_⟩
                    rw [hs2, authPath_no hpf]; rfl
                  · refine ⟨fun _ => ?_, fun h => (by cases h)⟩
                    rw [hs2, authPath_two hpf]
                    have hl6 := hp_len hpf
                    simp only [List.length_cons, List.length_nil] at hl6
                    have px4 := p_r1_Index ((s2).drop 2) [47] (by rw [List.length_drop]; omega) (by simp)
                    rw [pre_one] at px4
                    have hpl := pre_le (· == 47) ((s2).drop 2)
                    rw [List.length_drop] at hpl
                    generalize pre (· == 47) ((s2).drop 2) = q at px4 hpl ⊢
                    refine ⟨by omega, ?_⟩
                    (refine callV_pc (px4) ?_; simp only [lawG, ↓Xn, ↓Xo, ↓Xg, ↓Xd, ↓Xe, ↓Xf, Tryz.VΓ, Tryz.Γs, Xp, Xi, Nat.reduceAdd, Nat.reduceSub, Nat.reduceLT, Nat.reduceLeDiff, reduceIte, reduceCtorEq, Nat.reduceEqDiff, implies_true, forall_const, lawV])
                    rw [show (2 + (q : Int)).toNat = 2 + q by omega]
                    exact ⟨by omega, by omega, by omega, (OkD_fast (by kernel_rfl)), rfl⟩)
            · have hs2 : ∀ (f q : Bytes) (hf hq : Bool), splitRest s2 f q hf hq = (⟨[], (authPath s2).1, (authPath s2).2.2, q, f, false, (authPath s2).2.1, hq, hf⟩, 0) := fun f q hf hq => by
                unfold splitRest
                rw [if_neg (by rw [List.drop_of_length_le (by simp at hk3; omega)]; simp)]
              have hl5 := hl2
              (
                (refine callV_pc (p_r1_Prefix (s2) [47, 47]) ?_; simp only [lawG, ↓Xn, ↓Xo, ↓Xg, ↓Xd, ↓Xe, ↓Xf, Tryz.VΓ, Tryz.Γs, Xp, Xi, Nat.reduceAdd, Nat.reduceSub, Nat.reduceLT, Nat.reduceLeDiff, reduceIte, reduceCtorEq, Nat.reduceEqDiff, implies_true, forall_const, lawV])
                cases hpf : Lib.hasPrefix (s2) [47, 47]
                · refine ⟨fun h => (by cases h), fun _ => ?_⟩
                  rw [hs2, authPath_no hpf]; rfl
                · refine ⟨fun _ => ?_, fun h => (by cases h)⟩
                  rw [hs2, authPath_two hpf]
                  have hl6 := hp_len hpf
                  simp only [List.length_cons, List.length_nil] at hl6
                  have px4 := p_r1_Index ((s2).drop 2) [47] (by rw [List.length_drop]; omega) (by simp)
                  rw [pre_one] at px4
                  have hpl := pre_le (· == 47) ((s2).drop 2)
                  rw [List.length_drop] at hpl
                  generalize pre (· == 47) ((s2).drop 2) = q at px4 hpl ⊢
                  refine ⟨by omega, ?_⟩
                  (refine callV_pc (px4) ?_; simp only [lawG, ↓Xn, ↓Xo, ↓Xg, ↓Xd, ↓Xe, ↓Xf, Tryz.VΓ, Tryz.Γs, Xp, Xi, Nat.reduceAdd, Nat.reduceSub, Nat.reduceLT, Nat.reduceLeDiff, reduceIte, reduceCtorEq, Nat.reduceEqDiff, implies_true, forall_const, lawV])
                  rw [show (2 + (q : Int)).toNat = 2 + q by omega]
                  exact ⟨by omega, by omega, by omega, (OkD_fast (by kernel_rfl)), rfl⟩))
        · have hk2' : ¬ pre (· == 63) s1 < s1.length := by simpa using hk2
          rw [show cutC 63 s1 = (s1, [], false) from if_neg hk2']
          simp only
          have hl2 : s1.length ≤ 4294967281 := hl1
          generalize s1 = s2 at hl2 ⊢
          (
            have px3 := p_r1_Index s2 [58, 47] (by omega) (by simp)
            rw [show pre (([58, 47] : Bytes).contains ·) s2 = pre colonSlash s2 from rfl] at px3
            (refine callV_pc (px3) ?_; simp only [lawG, ↓Xn, ↓Xo, ↓Xg, ↓Xd, ↓Xe, ↓Xf, Tryz.VΓ, Tryz.Γs, Xp, Xi, Nat.reduceAdd, Nat.reduceSub, Nat.reduceLT, Nat.reduceLeDiff, reduceIte, reduceCtorEq, Nat.reduceEqDiff, implies_true, forall_const, lawV])
            refine ⟨fun hk3 => ?_, fun hk3 => ?_⟩
            · have hp : pre colonSlash s2 < s2.length := by simpa using hk3
              rw [byte_is (n := 58) hp 58 rfl]
              refine ⟨by omega, fun h1 => ⟨by omega, ?_⟩, fun h1 => ?_⟩
              · have hh : (s2.drop (pre colonSlash s2)).head? = some 58 := by
                  rw [List.head?_drop, List.getElem?_eq_getElem hp, beq_iff_eq.1 h1]
                (refine callV_pc (p_r6_scheme _ (by rw [List.length_take]; omega)) ?_; simp only [lawG, ↓Xn, ↓Xo, ↓Xg, ↓Xd, ↓Xe, ↓Xf, Tryz.VΓ, Tryz.Γs, Xp, Xi, Nat.reduceAdd, Nat.reduceSub, Nat.reduceLT, Nat.reduceLeDiff, reduceIte, reduceCtorEq, Nat.reduceEqDiff, implies_true, forall_const, lawV])
                refine ⟨fun h2 => ?_, fun h2 => ?_⟩
                · have hs2 : ∀ (f q : Bytes) (hf hq : Bool), splitRest s2 f q hf hq = (Uri.none, 6) := fun f q hf hq => by
                    unfold splitRest
                    rw [if_pos hh, if_neg (by rw [not_t h2]; simp)]
                  rw [hs2]; rfl
                · have hs2 : ∀ (f q : Bytes) (hf hq : Bool), splitRest s2 f q hf hq = (⟨s2.take (pre colonSlash s2), (authPath (s2.drop (pre colonSlash s2 + 1))).1, (authPath (s2.drop (pre colonSlash s2 + 1))).2.2, q, f, true, (authPath (s2.drop (pre colonSlash s2 + 1))).2.1, hq, hf⟩, 0) := fun f q hf hq => by
                    unfold splitRest
                    rw [if_pos hh, if_pos (not_f h2)]
                  have hl5 : (s2.drop (pre colonSlash s2 + 1)).length ≤ 4294967281 := by rw [List.length_drop]; omega
                  refine ⟨by omega, by omega, by omega, (OkD_fast (by kernel_rfl)), ?_⟩
                  (
                    (refine callV_pc (p_r1_Prefix (s2.drop (pre colonSlash s2 + 1)) [47, 47]) ?_; simp only [lawG, ↓Xn, ↓Xo, ↓Xg, ↓Xd, ↓Xe, ↓Xf, Tryz.VΓ, Tryz.Γs, Xp, Xi, Nat.reduceAdd, Nat.reduceSub, Nat.reduceLT, Nat.reduceLeDiff, reduceIte, reduceCtorEq, Nat.reduceEqDiff, implies_true, forall_const, lawV])
                    cases hpf : Lib.hasPrefix (s2.drop (pre colonSlash s2 + 1)) [47, 47]
                    · refine ⟨fun h => (by cases h), fun _ => ?_⟩
                      rw [hs2, authPath_no hpf]; rfl
                    · refine ⟨fun _ => ?_, fun h => (by cases h)⟩
                      rw [hs2, authPath_two hpf]
                      have hl6 := hp_len hpf
                      simp only [List.length_cons, List.length_nil] at hl6
                      have px4 := p_r1_Index ((s2.drop (pre colonSlash s2 + 1)).drop 2) [47] (by rw [List.length_drop]; omega) (by simp)
                      rw [pre_one] at px4
                      have hpl := pre_le (· == 47) ((s2.drop (pre colonSlash s2 + 1)).drop 2)
                      rw [List.length_drop] at hpl
                      generalize pre (· == 47) ((s2.drop (pre colonSlash s2 + 1)).drop 2) = q at px4 hpl ⊢
                      refine ⟨by omega, ?_⟩
                      (refine callV_pc (px4) ?_; simp only [lawG, ↓Xn, ↓Xo, ↓Xg, ↓Xd, ↓Xe, ↓Xf, Tryz.VΓ, Tryz.Γs, Xp, Xi, Nat.reduceAdd, Nat.reduceSub, Nat.reduceLT, Nat.reduceLeDiff, reduceIte, reduceCtorEq, Nat.reduceEqDiff, implies_true, forall_const, lawV])
                      rw [show (2 + (q : Int)).toNat = 2 + q by omega]
                      exact ⟨by omega, by omega, by omega, (OkD_fast (by kernel_rfl)), rfl⟩)
              · have hs2 : ∀ (f q : Bytes) (hf hq : Bool), splitRest s2 f q hf hq = (⟨[], (authPath s2).1, (authPath s2).2.2, q, f, false, (authPath s2).2.1, hq, hf⟩, 0) := fun f q hf hq => by
                  unfold splitRest
                  rw [if_neg (by rw [List.head?_drop, List.getElem?_eq_getElem hp]; simpa using h1)]
                have hl5 := hl2
                (
                  (refine callV_pc (p_r1_Prefix (s2) [47, 47]) ?_; simp only [lawG, ↓Xn, ↓Xo, ↓Xg, ↓Xd, ↓Xe, ↓Xf, Tryz.VΓ, Tryz.Γs, Xp, Xi, Nat.reduceAdd, Nat.reduceSub, Nat.reduceLT, Nat.reduceLeDiff, reduceIte, reduceCtorEq, Nat.reduceEqDiff, implies_true, forall_const, lawV])
                  cases hpf : Lib.hasPrefix (s2) [47, 47]
                  · refine ⟨fun h => (by cases h), fun _ => ?_⟩
                    rw [hs2, authPath_no hpf]; rfl
                  · refine ⟨fun _ => ?_, fun h => (by cases h)⟩
                    rw [hs2, authPath_two hpf]
                    have hl6 := hp_len hpf
                    simp only [List.length_cons, List.length_nil] at hl6
                    have px4 := p_r1_Index ((s2).drop 2) [47] (by rw [List.length_drop]; omega) (by simp)
                    rw [pre_one] at px4
                    have hpl := pre_le (· == 47) ((s2).drop 2)
                    rw [List.length_drop] at hpl
                    generalize pre (· == 47) ((s2).drop 2) = q at px4 hpl ⊢
                    refine ⟨by omega, ?_⟩
                    (refine callV_pc (px4) ?_; simp only [lawG, ↓Xn, ↓Xo, ↓Xg, ↓Xd, ↓Xe, ↓Xf, Tryz.VΓ, Tryz.Γs, Xp, Xi, Nat.reduceAdd, Nat.reduceSub, Nat.reduceLT, Nat.reduceLeDiff, reduceIte, reduceCtorEq, Nat.reduceEqDiff, implies_true, forall_const, lawV])
                    rw [show (2 + (q : Int)).toNat = 2 + q by omega]
                    exact ⟨by omega, by omega, by omega, (OkD_fast (by kernel_rfl)), rfl⟩)
            · have hs2 : ∀ (f q : Bytes) (hf hq : Bool), splitRest s2 f q hf hq = (⟨[], (authPath s2).1, (authPath s2).2.2, q, f, false, (authPath s2).2.1, hq, hf⟩, 0) := fun f q hf hq => by
                unfold splitRest
                rw [if_neg (by rw [List.drop_of_length_le (by simp at hk3; omega)]; simp)]
              have hl5 := hl2
              (
                (refine callV_pc (p_r1_Prefix (s2) [47, 47]) ?_; simp only [lawG, ↓Xn, ↓Xo, ↓Xg, ↓Xd, ↓Xe, ↓Xf, Tryz.VΓ, Tryz.Γs, Xp, Xi, Nat.reduceAdd, Nat.reduceSub, Nat.reduceLT, Nat.reduceLeDiff, reduceIte, reduceCtorEq, Nat.reduceEqDiff, implies_true, forall_const, lawV])
                cases hpf : Lib.hasPrefix (s2) [47, 47]
                · refine ⟨fun h => (by cases h), fun _ => ?_⟩
                  rw [hs2, authPath_no hpf]; rfl
                · refine ⟨fun _ => ?_, fun h => (by cases h)⟩
                  rw [hs2, authPath_two hpf]
                  have hl6 := hp_len hpf
                  simp only [List.length_cons, List.length_nil] at hl6
                  have px4 := p_r1_Index ((s2).drop 2) [47] (by rw [List.length_drop]; omega) (by simp)
                  rw [pre_one] at px4
                  have hpl := pre_le (· == 47) ((s2).drop 2)
                  rw [List.length_drop] at hpl
                  generalize pre (· == 47) ((s2).drop 2) = q at px4 hpl ⊢
                  refine ⟨by omega, ?_⟩
                  (refine callV_pc (px4) ?_; simp only [lawG, ↓Xn, ↓Xo, ↓Xg, ↓Xd, ↓Xe, ↓Xf, Tryz.VΓ, Tryz.Γs, Xp, Xi, Nat.reduceAdd, Nat.reduceSub, Nat.reduceLT, Nat.reduceLeDiff, reduceIte, reduceCtorEq, Nat.reduceEqDiff, implies_true, forall_const, lawV])
                  rw [show (2 + (q : Int)).toNat = 2 + q by omega]
                  exact ⟨by omega, by omega, by omega, (OkD_fast (by kernel_rfl)), rfl⟩)))
    · have hk1' : ¬ pre (· == 35) s < s.length := by simpa using hk1
      rw [show cutC 35 s = (s, [], false) from if_neg hk1']
      simp only
      have hl1 : s.length ≤ 4294967281 := hs
      generalize s = s1 at hl1 ⊢
      (
        have px2 := p_r1_Index s1 [63] (by omega) (by simp)
        rw [pre_one] at px2
        (refine callV_pc (px2) ?_; simp only [lawG, ↓Xn, ↓Xo, ↓Xg, ↓Xd, ↓Xe, ↓Xf, Tryz.VΓ, Tryz.Γs, Xp, Xi, Nat.reduceAdd, Nat.reduceSub, Nat.reduceLT, Nat.reduceLeDiff, reduceIte, reduceCtorEq, Nat.reduceEqDiff, implies_true, forall_const, lawV])
        refine ⟨fun hk2 => ?_, fun hk2 => ?_⟩
        · have hk2' : pre (· == 63) s1 < s1.length := by simpa using hk2
          rw [show cutC 63 s1 = (s1.take (pre (· == 63) s1), s1.drop (pre (· == 63) s1 + 1), true) from if_pos hk2']
          simp only
          have hl2 : (s1.take (pre (· == 63) s1)).length ≤ 4294967281 := by rw [List.length_take]; omega
          refine ⟨by omega, by omega, by omega, (OkD_fast (by kernel_rfl)), ?_⟩
          generalize s1.take (pre (· == 63) s1) = s2 at hl2 ⊢
          generalize s1.drop (pre (· == 63) s1 + 1) = qu
          (
            have px3 := p_r1_Index s2 [58, 47] (by omega) (by simp)
            rw [show pre (([58, 47] : Bytes).contains ·) s2 = pre colonSlash s2 from rfl] at px3
            (refine callV_pc (px3) ?_; simp only [lawG, ↓Xn, ↓Xo, ↓Xg, ↓Xd, ↓Xe, ↓Xf, Tryz.VΓ, Tryz.Γs, Xp, Xi, Nat.reduceAdd, Nat.reduceSub, Nat.reduceLT, Nat.reduceLeDiff, reduceIte, reduceCtorEq, Nat.reduceEqDiff, implies_true, forall_const, lawV])
            refine ⟨fun hk3 => ?_, fun hk3 => ?_⟩
            · have hp : pre colonSlash s2 < s2.length := by simpa using hk3
              rw [byte_is (n := 58) hp 58 rfl]
              refine ⟨by omega, fun h1 => ⟨by omega, ?_⟩, fun h1 => ?_⟩
              · have hh : (s2.drop (pre colonSlash s2)).head? = some 58 := by
                  rw [List.head?_drop, List.getElem?_eq_getElem hp, beq_iff_eq.1 h1]
                (refine callV_pc (p_r6_scheme _ (by rw [List.length_take]; omega)) ?_; simp only [lawG, ↓Xn, ↓Xo, ↓Xg, ↓Xd, ↓Xe, ↓Xf, Tryz.VΓ, Tryz.Γs, Xp, Xi, Nat.reduceAdd, Nat.reduceSub, Nat.reduceLT, Nat.reduceLeDiff, reduceIte, reduceCtorEq, Nat.reduceEqDiff, implies_true, forall_const, lawV])
                refine ⟨fun h2 => ?_, fun h2 => ?_⟩
                · have hs2 : ∀ (f q : Bytes) (hf hq : Bool), splitRest s2 f q hf hq = (Uri.none, 6) := fun f q hf hq => by
                    unfold splitRest
                    rw [if_pos hh, if_neg (by rw [not_t h2]; simp)]
                  rw [hs2]; rfl
                · have hs2 : ∀ (f q : Bytes) (hf hq : Bool), splitRest s2 f q hf hq = (⟨s2.take (pre colonSlash s2), (authPath (s2.drop (pre colonSlash s2 + 1))).1, (authPath (s2.drop (pre colonSlash s2 + 1))).2.2, q, f, true, (authPath (s2.drop (pre colonSlash s2 + 1))).2.1, hq, hf⟩, 0) := fun f q hf hq => by
                    unfold splitRest
                    rw [if_pos hh, if_pos (not_f h2)]
                  have hl5 : (s2.drop (pre colonSlash s2 + 1)).length ≤ 4294967281 := by rw [List.length_drop]; omega
                  refine ⟨by omega, by omega, by omega, (OkD_fast (by kernel_rfl)), ?_⟩
                  (
                    (refine callV_pc (p_r1_Prefix (s2.drop (pre colonSlash s2 + 1)) [47, 47]) ?_; simp only [lawG, ↓Xn, ↓Xo, ↓Xg, ↓Xd, ↓Xe, ↓Xf, Tryz.VΓ, Tryz.Γs, Xp, Xi, Nat.reduceAdd, Nat.reduceSub, Nat.reduceLT, Nat.reduceLeDiff, reduceIte, reduceCtorEq, Nat.reduceEqDiff, implies_true, forall_const, lawV])
                    cases hpf : Lib.hasPrefix (s2.drop (pre colonSlash s2 + 1)) [47, 47]
                    · refine ⟨fun h => (by cases h), fun _ => ?_⟩
                      rw [hs2, authPath_no hpf]; rfl
                    · refine ⟨fun _ => ?_, fun h => (by cases h)⟩
                      rw [hs2, authPath_two hpf]
                      have hl6 := hp_len hpf
                      simp only [List.length_cons, List.length_nil] at hl6
                      have px4 := p_r1_Index ((s2.drop (pre colonSlash s2 + 1)).drop 2) [47] (by rw [List.length_drop]; omega) (by simp)
                      rw [pre_one] at px4
                      have hpl := pre_le (· == 47) ((s2.drop (pre colonSlash s2 + 1)).drop 2)
                      rw [List.length_drop] at hpl
                      generalize pre (· == 47) ((s2.drop (pre colonSlash s2 + 1)).drop 2) = q at px4 hpl ⊢
                      refine ⟨by omega, ?_⟩
                      (refine callV_pc (px4) ?_; simp only [lawG, ↓Xn, ↓Xo, ↓Xg, ↓Xd, ↓Xe, ↓Xf, Tryz.VΓ, Tryz.Γs, Xp, Xi, Nat.reduceAdd, Nat.reduceSub, Nat.reduceLT, Nat.reduceLeDiff, reduceIte, reduceCtorEq, Nat.reduceEqDiff, implies_true, forall_const, lawV])
                      rw [show (2 + (q : Int)).toNat = 2 + q by omega]
                      exact ⟨by omega, by omega, by omega, (OkD_fast (by kernel_rfl)), rfl⟩)
              · have hs2 : ∀ (f q : Bytes) (hf hq : Bool), splitRest s2 f q hf hq = (⟨[], (authPath s2).1, (authPath s2).2.2, q, f, false, (authPath s2).2.1, hq, hf⟩, 0) := fun f q hf hq => by
                  unfold splitRest
                  rw [if_neg (by rw [List.head?_drop, List.getElem?_eq_getElem hp]; simpa using h1)]
                have hl5 := hl2
                (
                  (refine callV_pc (p_r1_Prefix (s2) [47, 47]) ?_; simp only [lawG, ↓Xn, ↓Xo, ↓Xg, ↓Xd, ↓Xe, ↓Xf, Tryz.VΓ, Tryz.Γs, Xp, Xi, Nat.reduceAdd, Nat.reduceSub, Nat.reduceLT, Nat.reduceLeDiff, reduceIte, reduceCtorEq, Nat.reduceEqDiff, implies_true, forall_const, lawV])
                  cases hpf : Lib.hasPrefix (s2) [47, 47]
                  · refine ⟨fun h => (by cases h), fun _ => ?_⟩
                    rw [hs2, authPath_no hpf]; rfl
                  · refine ⟨fun _ => ?_, fun h => (by cases h)⟩
                    rw [hs2, authPath_two hpf]
                    have hl6 := hp_len hpf
                    simp only [List.length_cons, List.length_nil] at hl6
                    have px4 := p_r1_Index ((s2).drop 2) [47] (by rw [List.length_drop]; omega) (by simp)
                    rw [pre_one] at px4
                    have hpl := pre_le (· == 47) ((s2).drop 2)
                    rw [List.length_drop] at hpl
                    generalize pre (· == 47) ((s2).drop 2) = q at px4 hpl ⊢
                    refine ⟨by omega, ?_⟩
                    (refine callV_pc (px4) ?_; simp only [lawG, ↓Xn, ↓Xo, ↓Xg, ↓Xd, ↓Xe, ↓Xf, Tryz.VΓ, Tryz.Γs, Xp, Xi, Nat.reduceAdd, Nat.reduceSub, Nat.reduceLT, Nat.reduceLeDiff, reduceIte, reduceCtorEq, Nat.reduceEqDiff, implies_true, forall_const, lawV])
                    rw [show (2 + (q : Int)).toNat = 2 + q by omega]
                    exact ⟨by omega, by omega, by omega, (OkD_fast (by kernel_rfl)), rfl⟩)
            · have hs2 : ∀ (f q : Bytes) (hf hq : Bool), splitRest s2 f q hf hq = (⟨[], (authPath s2).1, (authPath s2).2.2, q, f, false, (authPath s2).2.1, hq, hf⟩, 0) := fun f q hf hq => by
                unfold splitRest
                rw [if_neg (by rw [List.drop_of_length_le (by simp at hk3; omega)]; simp)]
              have hl5 := hl2
              (
                (refine callV_pc (p_r1_Prefix (s2) [47, 47]) ?_; simp only [lawG, ↓Xn, ↓Xo, ↓Xg, ↓Xd, ↓Xe, ↓Xf, Tryz.VΓ, Tryz.Γs, Xp, Xi, Nat.reduceAdd, Nat.reduceSub, Nat.reduceLT, Nat.reduceLeDiff, reduceIte, reduceCtorEq, Nat.reduceEqDiff, implies_true, forall_const, lawV])
                cases hpf : Lib.hasPrefix (s2) [47, 47]
                · refine ⟨fun h => (by cases h), fun _ => ?_⟩
                  rw [hs2, authPath_no hpf]; rfl
                · refine ⟨fun _ => ?_, fun h => (by cases h)⟩
                  rw [hs2, authPath_two hpf]
                  have hl6 := hp_len hpf
                  simp only [List.length_cons, List.length_nil] at hl6
                  have px4 := p_r1_Index ((s2).drop 2) [47] (by rw [List.length_drop]; omega) (by simp)
                  rw [pre_one] at px4
                  have hpl := pre_le (· == 47) ((s2).drop 2)
                  rw [List.length_drop] at hpl
                  generalize pre (· == 47) ((s2).drop 2) = q at px4 hpl ⊢
                  refine ⟨by omega, ?_⟩
                  (refine callV_pc (px4) ?_; simp only [lawG, ↓Xn, ↓Xo, ↓Xg, ↓Xd, ↓Xe, ↓Xf, Tryz.VΓ, Tryz.Γs, Xp, Xi, Nat.reduceAdd, Nat.reduceSub, Nat.reduceLT, Nat.reduceLeDiff, reduceIte, reduceCtorEq, Nat.reduceEqDiff, implies_true, forall_const, lawV])
                  rw [show (2 + (q : Int)).toNat = 2 + q by omega]
                  exact ⟨by omega, by omega, by omega, (OkD_fast (by kernel_rfl)), rfl⟩))
        · have hk2' : ¬ pre (· == 63) s1 < s1.length := by simpa using hk2
          rw [show cutC 63 s1 = (s1, [], false) from if_neg hk2']
          simp only
          have hl2 : s1.length ≤ 4294967281 := hl1
          generalize s1 = s2 at hl2 ⊢
          (
            have px3 := p_r1_Index s2 [58, 47] (by omega) (by simp)
            rw [show pre (([58, 47] : Bytes).contains ·) s2 = pre colonSlash s2 from rfl] at px3
            (refine callV_pc (px3) ?_; simp only [lawG, ↓Xn, ↓Xo, ↓Xg, ↓Xd, ↓Xe, ↓Xf, Tryz.VΓ, Tryz.Γs, Xp, Xi, Nat.reduceAdd, Nat.reduceSub, Nat.reduceLT, Nat.reduceLeDiff, reduceIte, reduceCtorEq, Nat.reduceEqDiff, implies_true, forall_const, lawV])
            refine ⟨fun hk3 => ?_, fun hk3 => ?_⟩
            · have hp : pre colonSlash s2 < s2.length := by simpa using hk3
              rw [byte_is (n := 58) hp 58 rfl]
              refine ⟨by omega, fun h1 => ⟨by omega, ?_⟩, fun h1 => ?_⟩
              · have hh : (s2.drop (pre colonSlash s2)).head? = some 58 := by
                  rw [List.head?_drop, List.getElem?_eq_getElem hp, beq_iff_eq.1 h1]
                (refine callV_pc (p_r6_scheme _ (by rw [List.length_take]; omega)) ?_; simp only [lawG, ↓Xn, ↓Xo, ↓Xg, ↓Xd, ↓Xe, ↓Xf, Tryz.VΓ, Tryz.Γs, Xp, Xi, Nat.reduceAdd, Nat.reduceSub, Nat.reduceLT, Nat.reduceLeDiff, reduceIte, reduceCtorEq, Nat.reduceEqDiff, implies_true, forall_const, lawV])
                refine ⟨fun h2 => ?_, fun h2 => ?_⟩
                · have hs2 : ∀ (f q : Bytes) (hf hq : Bool), splitRest s2 f q hf hq = (Uri.none, 6) := fun f q hf hq => by
                    unfold splitRest
                    rw [if_pos hh, if_neg (by rw [not_t h2]; simp)]
                  rw [hs2]; rfl
                · have hs2 : ∀ (f q : Bytes) (hf hq : Bool), splitRest s2 f q hf hq = (⟨s2.take (pre colonSlash s2), (authPath (s2.drop (pre colonSlash s2 + 1))).1, (authPath (s2.drop (pre colonSlash s2 + 1))).2.2, q, f, true, (authPath (s2.drop (pre colonSlash s2 + 1))).2.1, hq, hf⟩, 0) := fun f q hf hq => by
                    unfold splitRest
                    rw [if_pos hh, if_pos (not_f h2)]
                  have hl5 : (s2.drop (pre colonSlash s2 + 1)).length ≤ 4294967281 := by rw [List.length_drop]; omega
                  refine ⟨by omega, by omega, by omega, (OkD_fast (by kernel_rfl)), ?_⟩
                  (
                    (refine callV_pc (p_r1_Prefix (s2.drop (pre colonSlash s2 + 1)) [47, 47]) ?_; simp only [lawG, ↓Xn, ↓Xo, ↓Xg, ↓Xd, ↓Xe, ↓Xf, Tryz.VΓ, Tryz.Γs, Xp, Xi, Nat.reduceAdd, Nat.reduceSub, Nat.reduceLT, Nat.reduceLeDiff, reduceIte, reduceCtorEq, Nat.reduceEqDiff, implies_true, forall_const, lawV])
                    cases hpf : Lib.hasPrefix (s2.drop (pre colonSlash s2 + 1)) [47, 47]
                    · refine ⟨fun h => (by cases h), fun _ => ?_⟩
                      rw [hs2, authPath_no hpf]; rfl
                    · refine ⟨fun _ => ?_, fun h => (by cases h)⟩
                      rw [hs2, authPath_two hpf]
                      have hl6 := hp_len hpf
                      simp only [List.length_cons, List.length_nil] at hl6
                      have px4 := p_r1_Index ((s2.drop (pre colonSlash s2 + 1)).drop 2) [47] (by rw [List.length_drop]; omega) (by simp)
                      rw [pre_one] at px4
                      have hpl := pre_le (· == 47) ((s2.drop (pre colonSlash s2 + 1)).drop 2)
                      rw [List.length_drop] at hpl
                      generalize pre (· == 47) ((s2.drop (pre colonSlash s2 + 1)).drop 2) = q at px4 hpl ⊢
                      refine ⟨by omega, ?_⟩
                      (refine callV_pc (px4) ?_; simp only [lawG, ↓Xn, ↓Xo, ↓Xg, ↓Xd, ↓Xe, ↓Xf, Tryz.VΓ, Tryz.Γs, Xp, Xi, Nat.reduceAdd, Nat.reduceSub, Nat.reduceLT, Nat.reduceLeDiff, reduceIte, reduceCtorEq, Nat.reduceEqDiff, implies_true, forall_const, lawV])
                      rw [show (2 + (q : Int)).toNat = 2 + q by omega]
                      exact ⟨by omega, by omega, by omega, (OkD_fast (by kernel_rfl)), rfl⟩)
              · have hs2 : ∀ (f q : Bytes) (hf hq : Bool), splitRest s2 f q hf hq = (⟨[], (authPath s2).1, (authPath s2).2.2, q, f, false, (authPath s2).2.1, hq, hf⟩, 0) := fun f q hf hq => by
                  unfold splitRest
                  rw [if_neg (by rw [List.head?_drop, List.getElem?_eq_getElem hp]; simpa using h1)]
                have hl5 := hl2
                (
                  (refine callV_pc (p_r1_Prefix (s2) [47, 47]) ?_; simp only [lawG, ↓Xn, ↓Xo, ↓Xg, ↓Xd, ↓Xe, ↓Xf, Tryz.VΓ, Tryz.Γs, Xp, Xi, Nat.reduceAdd, Nat.reduceSub, Nat.reduceLT, Nat.reduceLeDiff, reduceIte, reduceCtorEq, Nat.reduceEqDiff, implies_true, forall_const, lawV])
                  cases hpf : Lib.hasPrefix (s2) [47, 47]
                  · refine ⟨fun h => (by cases h), fun _ => ?_⟩
                    rw [hs2, authPath_no hpf]; rfl
                  · refine ⟨fun _ => ?_, fun h => (by cases h)⟩
                    rw [hs2, authPath_two hpf]
                    have hl6 := hp_len hpf
                    simp only [List.length_cons, List.length_nil] at hl6
                    have px4 := p_r1_Index ((s2).drop 2) [47] (by rw [List.length_drop]; omega) (by simp)
                    rw [pre_one] at px4
                    have hpl := pre_le (· == 47) ((s2).drop 2)
                    rw [List.length_drop] at hpl
                    generalize pre (· == 47) ((s2).drop 2) = q at px4 hpl ⊢
                    refine ⟨by omega, ?_⟩
                    (refine callV_pc (px4) ?_; simp only [lawG, ↓Xn, ↓Xo, ↓Xg, ↓Xd, ↓Xe, ↓Xf, Tryz.VΓ, Tryz.Γs, Xp, Xi, Nat.reduceAdd, Nat.reduceSub, Nat.reduceLT, Nat.reduceLeDiff, reduceIte, reduceCtorEq, Nat.reduceEqDiff, implies_true, forall_const, lawV])
                    rw [show (2 + (q : Int)).toNat = 2 + q by omega]
                    exact ⟨by omega, by omega, by omega, (OkD_fast (by kernel_rfl)), rfl⟩)
            · have hs2 : ∀ (f q : Bytes) (hf hq : Bool), splitRest s2 f q hf hq = (⟨[], (authPath s2).1, (authPath s2).2.2, q, f, false, (authPath s2).2.1, hq, hf⟩, 0) := fun f q hf hq => by
                unfold splitRest
                rw [if_neg (by rw [List.drop_of_length_le (by simp at hk3; omega)]; simp)]
              have hl5 := hl2
              (
                (refine callV_pc (p_r1_Prefix (s2) [47, 47]) ?_; simp only [lawG, ↓Xn, ↓Xo, ↓Xg, ↓Xd, ↓Xe, ↓Xf, Tryz.VΓ, Tryz.Γs, Xp, Xi, Nat.reduceAdd, Nat.reduceSub, Nat.reduceLT, Nat.reduceLeDiff, reduceIte, reduceCtorEq, Nat.reduceEqDiff, implies_true, forall_const, lawV])
                cases hpf : Lib.hasPrefix (s2) [47, 47]
                · refine ⟨fun h => (by cases h), fun _ => ?_⟩
                  rw [hs2, authPath_no hpf]; rfl
                · refine ⟨fun _ => ?_, fun h => (by cases h)⟩
                  rw [hs2, authPath_two hpf]
                  have hl6 := hp_len hpf
                  simp only [List.length_cons, List.length_nil] at hl6
                  have px4 := p_r1_Index ((s2).drop 2) [47] (by rw [List.length_drop]; omega) (by simp)
                  rw [pre_one] at px4
                  have hpl := pre_le (· == 47) ((s2).drop 2)
                  rw [List.length_drop] at hpl
                  generalize pre (· == 47) ((s2).drop 2) = q at px4 hpl ⊢
                  refine ⟨by omega, ?_⟩
                  (refine callV_pc (px4) ?_; simp only [lawG, ↓Xn, ↓Xo, ↓Xg, ↓Xd, ↓Xe, ↓Xf, Tryz.VΓ, Tryz.Γs, Xp, Xi, Nat.reduceAdd, Nat.reduceSub, Nat.reduceLT, Nat.reduceLeDiff, reduceIte, reduceCtorEq, Nat.reduceEqDiff, implies_true, forall_const, lawV])
                  rw [show (2 + (q : Int)).toNat = 2 + q by omega]
                  exact ⟨by omega, by omega, by omega, (OkD_fast (by kernel_rfl)), rfl⟩)))
end Go.Proofs.YtcndmooeglfilaaGreatDoor
/- The walks of mail.Parse and Format, and of the reference's. -/
set_option linter.all false
set_option maxRecDepth 20000
namespace Go.Proofs.YtcndmooeglfilaaGreatDoor
open Go Vc Go.RowKit Wf
theorem unitsGo_count : ∀ (f : Nat) (s : Bytes), (unitsGo f s).length ≤ f
  | 0, _ => by simp [unitsGo]
  | f + 1, [] => by simp [unitsGo]
  | f + 1, c :: r => by
    rw [unitsGo]
    split
    · split
      · have := unitsGo_count f (by assumption); simp; omega
      · simp
    · have := unitsGo_count f r; simp; omega
theorem hostM_len (s : Bytes) : (hostM s).1.length ≤ s.length := by
  unfold hostM
  split
  · simp
  split
  · simp
  split
  · simp
  · simp only [lower_length]; omega
theorem dec_len (s : Bytes) : (pctDecode s).1.length ≤ s.length := by
  unfold pctDecode
  split
  · simp
  split
  · simp
  · have := unitsGo_count s.length s
    simpa [units] using this
theorem idx_lt (set : Bytes) (c : UInt8) : decide (Lib.indexByte set c < 0) = !set.contains c := by
  rw [← idx_geq]
  by_cases h : 0 ≤ Lib.indexByte set c
  · rw [decide_eq_true h, decide_eq_false (by omega)]; rfl
  · rw [decide_eq_false h, decide_eq_true (by omega)]; rfl
theorem p_mail_Format (m : Mail) (h : m.loc.length ≤ 300000 ∧ m.host.length ≤ 140737488355328) : PC Tryz.V 167 [msv m] (.str (mailText m)) := by
  have pe := p_Encode m.loc keptS h.1
  have hl := pctEncode_len keptS m.loc
  refine pc_of 3000 Tryz.func167 rfl Tryz.ntmps167 Tryz.results167 Tryz.call167 (by simp) (by simp [flat, flat.flatL, msv]) (by simp [flat, flat.flatL, msv]) ?_
  unfold msv
  simp only [lawG, ↓Xn, ↓Xo, ↓Xg, ↓Xd, ↓Xe, ↓Xf, Tryz.VΓ, Tryz.Γs, Xp, Xi, Nat.reduceAdd, Nat.reduceSub, Nat.reduceLT, Nat.reduceLeDiff, reduceIte, reduceCtorEq, Nat.reduceEqDiff, implies_true, forall_const, lawV]
  (refine callD_pc (pe) ?_; simp only [lawG, ↓Xn, ↓Xo, ↓Xg, ↓Xd, ↓Xe, ↓Xf, Tryz.VΓ, Tryz.Γs, Xp, Xi, Nat.reduceAdd, Nat.reduceSub, Nat.reduceLT, Nat.reduceLeDiff, reduceIte, reduceCtorEq, Nat.reduceEqDiff, implies_true, forall_const, lawV])
  exact ⟨by omega, by omega, by simp only [List.length_append, List.length_cons, List.length_nil]; omega, (OkD_fast (by kernel_rfl)), by simp [mailText, mailS]⟩
theorem p_r9_Format (m : Mail) (h : m.loc.length ≤ 300000 ∧ m.host.length ≤ 140737488355328) : PC Tryz.V 90 [msv m] (.str (mailText m)) := by
  have pe := p_r3_Encode m.loc keptS (by omega) (by decide)
  have hl := pctEncode_len keptS m.loc
  refine pc_of 3000 Tryz.func90 rfl Tryz.ntmps90 Tryz.results90 Tryz.call90 (by simp) (by simp [flat, flat.flatL, msv]) (by simp [flat, flat.flatL, msv]) ?_
  unfold msv
  simp only [lawG, ↓Xn, ↓Xo, ↓Xg, ↓Xd, ↓Xe, ↓Xf, Tryz.VΓ, Tryz.Γs, Xp, Xi, Nat.reduceAdd, Nat.reduceSub, Nat.reduceLT, Nat.reduceLeDiff, reduceIte, reduceCtorEq, Nat.reduceEqDiff, implies_true, forall_const, lawV]
  (refine callD_pc (pe) ?_; simp only [lawG, ↓Xn, ↓Xo, ↓Xg, ↓Xd, ↓Xe, ↓Xf, Tryz.VΓ, Tryz.Γs, Xp, Xi, Nat.reduceAdd, Nat.reduceSub, Nat.reduceLT, Nat.reduceLeDiff, reduceIte, reduceCtorEq, Nat.reduceEqDiff, implies_true, forall_const, lawV])
  exact ⟨by omega, by omega, by simp only [List.length_append, List.length_cons, List.length_nil]; omega, (OkD_fast (by kernel_rfl)), by simp [mailText, mailS]⟩
set_option maxHeartbeats 4000000 in
theorem p_mail_Parse (s : Bytes) : PC Tryz.V 166 [.str s] (.tup [msv (mailParse s).1, .int .i64 (mailParse s).2]) := by
  have pe := p_Equal (s.take 7) mailS (by simp; omega) (by decide)
  rw [show lower mailS = mailS by decide] at pe
  refine pc_of 3000 Tryz.func166 rfl Tryz.ntmps166 Tryz.results166 Tryz.call166 (by simp) (by simp [flat, flat.flatL]) (by simp [flat, flat.flatL, msv]) ?_
  simp only [lawG, ↓Xn, ↓Xo, ↓Xg, ↓Xd, ↓Xe, ↓Xf, Tryz.VΓ, Tryz.Γs, Xp, Xi, Nat.reduceAdd, Nat.reduceSub, Nat.reduceLT, Nat.reduceLeDiff, reduceIte, reduceCtorEq, Nat.reduceEqDiff, implies_true, forall_const, lawV]
  unfold mailParse
  refine ⟨fun h => ?_, fun h => ⟨fun h2 => ⟨⟨by omega, (by simp at h2; omega)⟩, ?_⟩, fun h2 => ?_⟩⟩
  · have h : 4096 < s.length := (by simp at h; omega)
    rw [if_pos h]; rfl
  · have h : ¬ 4096 < s.length := (by simp at h; omega)
    have h2 : ¬ s.length < 7 := (by simp at h2; omega)
    rw [if_neg h]
    (refine callV_pc pe ?_; simp only [lawG, ↓Xn, ↓Xo, ↓Xg, ↓Xd, ↓Xe, ↓Xf, Tryz.VΓ, Tryz.Γs, Xp, Xi, Nat.reduceAdd, Nat.reduceSub, Nat.reduceLT, Nat.reduceLeDiff, reduceIte, reduceCtorEq, Nat.reduceEqDiff, implies_true, forall_const, lawV, Int.reduceToNat])
    refine ⟨fun h3 => ?_, fun h3 => ⟨⟨by omega, by omega⟩, ?_⟩⟩
    · rw [if_pos (.inr (by simpa using h3))]; rfl
    have h3 : lower (s.take 7) = mailS := by simpa using h3
    rw [if_neg (by simp only [not_or]; exact ⟨h2, by simpa using h3⟩)]
    have hno : ∀ c : UInt8, lowerC c ∉ mailS → (c ∈ s ↔ c ∈ s.drop 7) := fun c hc => by
      conv => lhs; rw [← List.take_append_drop 7 s, List.mem_append]
      constructor
      · rintro (h | h)
        · exfalso
          apply hc
          rw [← h3]
          exact List.mem_map.2 ⟨c, h, rfl⟩
        · exact h
      · exact .inr
    have n1 := hno 63 (by decide)
    have n2 := hno 35 (by decide)
    have pa := p_ContainsAny s 63 35 (by decide) (by decide) (by omega)
    rw [show decide ((63 : UInt8) ∈ s ∨ (35 : UInt8) ∈ s) = decide ((63 : UInt8) ∈ s.drop 7 ∨ (35 : UInt8) ∈ s.drop 7) from decide_eq_decide.2 (by rw [n1, n2])] at pa
    have hS : (s.drop 7).length ≤ 4096 := by simp; omega
    have pc := p_Cut (s.drop 7) 64 (by omega)
    generalize s.drop 7 = S at hS pc pa ⊢
    have hcl := cutC_len 64 S
    unfold mailRest
    generalize cutC 64 S = x at pc hcl ⊢
    obtain ⟨l, p, ok⟩ := x
    simp only at pc hcl ⊢
    (refine callV_pc pc ?_; simp only [lawG, ↓Xn, ↓Xo, ↓Xg, ↓Xd, ↓Xe, ↓Xf, Tryz.VΓ, Tryz.Γs, Xp, Xi, Nat.reduceAdd, Nat.reduceSub, Nat.reduceLT, Nat.reduceLeDiff, reduceIte, reduceCtorEq, Nat.reduceEqDiff, implies_true, forall_const, lawV])
    refine ⟨fun hok => ?_, fun hok => (by rw [if_pos (.inl (by simpa using hok))]; rfl)⟩
    have hok : ok = true := by simpa using hok
    subst hok
    (refine callV_pc pa ?_; simp only [lawG, ↓Xn, ↓Xo, ↓Xg, ↓Xd, ↓Xe, ↓Xf, Tryz.VΓ, Tryz.Γs, Xp, Xi, Nat.reduceAdd, Nat.reduceSub, Nat.reduceLT, Nat.reduceLeDiff, reduceIte, reduceCtorEq, Nat.reduceEqDiff, implies_true, forall_const, lawV])
    refine ⟨fun hq => ?_, fun hq => ?_⟩
    · rw [if_pos (.inr (of_decide_eq_true hq))]; rfl
    rw [if_neg (by simp only [Bool.true_eq_false, false_or]; exact of_decide_eq_false hq)]
    have hl : l.length ≤ 4096 := by omega
    have hp : p.length ≤ 4096 := by omega
    clear pa pc pe n1 n2 hno hcl h3
    refine loopV_mk (fun σ => ∃ i : Nat, i ≤ l.length ∧ lk 2 σ.t = some (.p 0 0) ∧ lk 3 σ.t = some (.int .i64 0) ∧ lk 4 σ.t = some (.str l) ∧ lk 5 σ.t = some (.str p) ∧ lk 40 σ.t = some (.int .i64 l.length) ∧ lk 41 σ.t = some (.int .i64 i) ∧ σ.b = [.cells [.str [], .str []] 112 true] ∧ (l.take i).all localC = true) (fun σ => l.length - lkI 41 σ) ⟨0, by omega, rfl, rfl, rfl, rfl, rfl, rfl, rfl, rfl⟩ ?_
    rintro ⟨t, b⟩ ⟨i, hi, g2, g3, g4, g5, g40, g41, rfl, gok⟩
    simp only at g2 g3 g4 g5 g40 g41
    rw [lkI_eq g41]
    by_cases hlt : i < l.length
    · have hg : l.getD i 0 = l[i] := by simp [List.getD, hlt]
      have hfalse : localC l[i] = false → l.all localC = false := fun h => all_not hlt h
      simp only [lawG, ↓Xn, ↓Xo, ↓Xg, ↓Xd, ↓Xe, ↓Xf, Tryz.VΓ, Tryz.Γs, Xp, Xi, Nat.reduceAdd, Nat.reduceSub, Nat.reduceLT, Nat.reduceLeDiff, reduceIte, reduceCtorEq, Nat.reduceEqDiff, implies_true, forall_const, lawV, g2, g3, g4, g5, g40, g41, hg]
      refine ⟨fun _ => ⟨⟨by omega, by omega⟩, ?_⟩, fun h => absurd h (by simp; omega)⟩
      (refine callV_pc (p_IsUnreserved l[i]) ?_; simp only [lawG, ↓Xn, ↓Xo, ↓Xg, ↓Xd, ↓Xe, ↓Xf, Tryz.VΓ, Tryz.Γs, Xp, Xi, Nat.reduceAdd, Nat.reduceSub, Nat.reduceLT, Nat.reduceLeDiff, reduceIte, reduceCtorEq, Nat.reduceEqDiff, implies_true, forall_const, lawV, g2, g3, g4, g5, g40, g41, hg])
      refine ⟨fun hu => ?_, fun hu => ⟨⟨by omega, by omega⟩, ⟨i + 1, by omega, rfl, all_take_snoc hlt gok (by unfold localC; rw [show unres l[i] = true by simpa using hu]; rfl)⟩, by rw [lkI_eq (k := .i64) (n := (i : Int) + 1) rfl]; omega⟩⟩
      have hu : unres l[i] = false := by simpa using hu
      (refine callV_pc (p_IndexByte keptP l[i]) ?_; simp only [lawG, ↓Xn, ↓Xo, ↓Xg, ↓Xd, ↓Xe, ↓Xf, Tryz.VΓ, Tryz.Γs, Xp, Xi, Nat.reduceAdd, Nat.reduceSub, Nat.reduceLT, Nat.reduceLeDiff, reduceIte, reduceCtorEq, Nat.reduceEqDiff, implies_true, forall_const, lawV, g2, g3, g4, g5, g40, g41, hg])
      rw [idx_lt]
      refine ⟨fun hk => ?_, fun hk => ⟨⟨by omega, by omega⟩, ⟨i + 1, by omega, rfl, all_take_snoc hlt gok (by unfold localC; rw [show keptP.contains l[i] = true by simpa using hk]; simp)⟩, by rw [lkI_eq (k := .i64) (n := (i : Int) + 1) rfl]; omega⟩⟩
      rw [if_pos (hfalse (by unfold localC; rw [hu, show keptP.contains l[i] = false by simpa using hk]; rfl))]
      rfl
    · have hie : i = l.length := by omega
      subst hie
      rw [List.take_length] at gok
      rw [gok]
      have pd := p_Decode l
      have hdl := dec_len l
      generalize pctDecode l = dd at pd hdl ⊢
      obtain ⟨d, e1⟩ := dd
      have ph := p_host_Host p (by omega)
      have hhl := hostM_len p
      generalize hostM p = hh at ph hhl ⊢
      obtain ⟨hh, e2⟩ := hh
      simp only at pd ph hdl hhl
      simp only [Bool.true_eq_false, if_false]
      unfold mailOf
      simp only [lawG, ↓Xn, ↓Xo, ↓Xg, ↓Xd, ↓Xe, ↓Xf, Tryz.VΓ, Tryz.Γs, Xp, Xi, Nat.reduceAdd, Nat.reduceSub, Nat.reduceLT, Nat.reduceLeDiff, reduceIte, reduceCtorEq, Nat.reduceEqDiff, implies_true, forall_const, lawV, g2, g3, g4, g5, g40, g41]
      refine ⟨fun h => absurd h (by simp), fun _ => ?_⟩
      (refine callV_pc pd ?_; simp only [lawG, ↓Xn, ↓Xo, ↓Xg, ↓Xd, ↓Xe, ↓Xf, Tryz.VΓ, Tryz.Γs, Xp, Xi, Nat.reduceAdd, Nat.reduceSub, Nat.reduceLT, Nat.reduceLeDiff, reduceIte, reduceCtorEq, Nat.reduceEqDiff, implies_true, forall_const, lawV, g2, g3, g4, g5, g40, g41])
      refine ⟨fun h1 => (by rw [if_pos (by simpa using h1)]; rfl), fun h1 => ?_⟩
      rw [if_neg (by simpa using h1)]
      (refine callV_pc (p_mail_Local d (by omega)) ?_; simp only [lawG, ↓Xn, ↓Xo, ↓Xg, ↓Xd, ↓Xe, ↓Xf, Tryz.VΓ, Tryz.Γs, Xp, Xi, Nat.reduceAdd, Nat.reduceSub, Nat.reduceLT, Nat.reduceLeDiff, reduceIte, reduceCtorEq, Nat.reduceEqDiff, implies_true, forall_const, lawV, g2, g3, g4, g5, g40, g41])
      refine ⟨fun h2 => ?_, fun h2 => ?_⟩
      · rw [if_pos (by simpa using h2)]; rfl
      · rw [if_neg (by simpa using h2)]
        (refine callV_pc ph ?_; simp only [lawG, ↓Xn, ↓Xo, ↓Xg, ↓Xd, ↓Xe, ↓Xf, Tryz.VΓ, Tryz.Γs, Xp, Xi, Nat.reduceAdd, Nat.reduceSub, Nat.reduceLT, Nat.reduceLeDiff, reduceIte, reduceCtorEq, Nat.reduceEqDiff, implies_true, forall_const, lawV, g2, g3, g4, g5, g40, g41])
        refine ⟨fun h3 => (by rw [if_pos (by simpa using h3)]; rfl), fun h3 => ?_⟩
        rw [if_neg (by simpa using h3)]
        (refine callV_pc (p_host_IsIPv4 hh (by omega)) ?_; simp only [lawG, ↓Xn, ↓Xo, ↓Xg, ↓Xd, ↓Xe, ↓Xf, Tryz.VΓ, Tryz.Γs, Xp, Xi, Nat.reduceAdd, Nat.reduceSub, Nat.reduceLT, Nat.reduceLeDiff, reduceIte, reduceCtorEq, Nat.reduceEqDiff, implies_true, forall_const, lawV, g2, g3, g4, g5, g40, g41])
        refine ⟨fun h4 => ?_, fun h4 => ?_⟩
        · rw [if_pos (by simpa using h4)]; rfl
        · rw [if_neg (by simpa using h4)]; rfl
  · have h : ¬ 4096 < s.length := (by simp at h; omega)
    have h2 : s.length < 7 := (by simp at h2; omega)
    rw [if_neg h, if_pos (.inl h2)]; rfl
end Go.Proofs.YtcndmooeglfilaaGreatDoor
/- The walk of the reference's Parse of mail addresses. -/
set_option linter.all false
set_option maxRecDepth 20000
namespace Go.Proofs.YtcndmooeglfilaaGreatDoor
open Go Vc Go.RowKit Wf
theorem pre_set (s : Bytes) : pre ([63, 35].contains ·) s < s.length ↔ ((63 : UInt8) ∈ s ∨ (35 : UInt8) ∈ s) := by
  have h := any_mem s 63 35
  rw [indexAny_pre] at h
  by_cases k : pre ([63, 35].contains ·) s < s.length
  · rw [if_pos k] at h
    have : decide ((63 : UInt8) ∈ s ∨ (35 : UInt8) ∈ s) = true := by rw [← h]; simp
    exact ⟨fun _ => of_decide_eq_true this, fun _ => k⟩
  · rw [if_neg k] at h
    have : decide ((63 : UInt8) ∈ s ∨ (35 : UInt8) ∈ s) = false := by rw [← h]; rfl
    exact ⟨fun h => absurd h k, fun h => absurd h (of_decide_eq_false this)⟩
set_option maxHeartbeats 4000000 in
theorem p_r9_Parse (s : Bytes) : PC Tryz.V 89 [.str s] (.tup [msv (mailParse s).1, .int .i64 (mailParse s).2]) := by
  have pe := p_r1_Equal (s.take 7) mailS (by simp; omega) (by decide)
  rw [show lower mailS = mailS by decide] at pe
  refine pc_of 3000 Tryz.func89 rfl Tryz.ntmps89 Tryz.results89 Tryz.call89 (by simp) (by simp [flat, flat.flatL]) (by simp [flat, flat.flatL, msv]) ?_
  simp only [lawG, ↓Xn, ↓Xo, ↓Xg, ↓Xd, ↓Xe, ↓Xf, Tryz.VΓ, Tryz.Γs, Xp, Xi, Nat.reduceAdd, Nat.reduceSub, Nat.reduceLT, Nat.reduceLeDiff, reduceIte, reduceCtorEq, Nat.reduceEqDiff, implies_true, forall_const, lawV]
  unfold mailParse
  refine ⟨fun h => ?_, fun h => ⟨fun h2 => ⟨⟨by omega, (by simp at h2; omega)⟩, ?_⟩, fun h2 => ?_⟩⟩
  · have h : 4096 < s.length := (by simp at h; omega)
    rw [if_pos h]; rfl
  · have h : ¬ 4096 < s.length := (by simp at h; omega)
    have h2 : ¬ s.length < 7 := (by simp at h2; omega)
    rw [if_neg h]
    (refine callV_pc pe ?_; simp only [lawG, ↓Xn, ↓Xo, ↓Xg, ↓Xd, ↓Xe, ↓Xf, Tryz.VΓ, Tryz.Γs, Xp, Xi, Nat.reduceAdd, Nat.reduceSub, Nat.reduceLT, Nat.reduceLeDiff, reduceIte, reduceCtorEq, Nat.reduceEqDiff, implies_true, forall_const, lawV, Int.reduceToNat])
    refine ⟨fun h3 => ?_, fun h3 => ⟨⟨by omega, by omega⟩, ?_⟩⟩
    · rw [if_pos (.inr (by simpa using h3))]; rfl
    have h3 : lower (s.take 7) = mailS := by simpa using h3
    rw [if_neg (by simp only [not_or]; exact ⟨h2, by simpa using h3⟩)]
    have hS : (s.drop 7).length ≤ 4096 := by simp; omega
    generalize s.drop 7 = S at hS ⊢
    have pi := p_r1_Index S [64] (by omega) (by decide)
    rw [show (List.contains [64] · : UInt8 → Bool) = (· == 64) from by funext c; simp; exact (Bool.beq_eq_decide_eq _ _).symm] at pi
    have pj := p_r1_Index S [63, 35] (by omega) (by decide)
    have hq := pre_set S
    have hpl := pre_le (· == 64) S
    have hpq := pre_le ([63, 35].contains ·) S
    unfold mailRest
    (refine callV_pc pi ?_; simp only [lawG, ↓Xn, ↓Xo, ↓Xg, ↓Xd, ↓Xe, ↓Xf, Tryz.VΓ, Tryz.Γs, Xp, Xi, Nat.reduceAdd, Nat.reduceSub, Nat.reduceLT, Nat.reduceLeDiff, reduceIte, reduceCtorEq, Nat.reduceEqDiff, implies_true, forall_const, lawV])
    refine ⟨fun h4 => ?_, fun h4 => ?_⟩
    · have h4 : pre (· == 64) S < S.length := by
        have := beq_eq_false_iff_ne.1 h4
        omega
      rw [show cutC 64 S = (S.take (pre (· == 64) S), S.drop (pre (· == 64) S + 1), true) from if_pos h4]
      generalize hk : pre (· == 64) S = k at *
      simp only [Bool.true_eq_false, false_or]
      (refine callV_pc pj ?_; simp only [lawG, ↓Xn, ↓Xo, ↓Xg, ↓Xd, ↓Xe, ↓Xf, Tryz.VΓ, Tryz.Γs, Xp, Xi, Nat.reduceAdd, Nat.reduceSub, Nat.reduceLT, Nat.reduceLeDiff, reduceIte, reduceCtorEq, Nat.reduceEqDiff, implies_true, forall_const, lawV])
      refine ⟨fun h5 => ?_, fun h5 => ?_⟩
      · rw [if_pos (hq.1 (by have := of_decide_eq_true h5; omega))]; rfl
      rw [if_neg (fun h => absurd (hq.2 h) (by have := of_decide_eq_false h5; omega))]
      clear hq hpq pj pi pe hk h5
      refine loopV_mk (fun σ => ∃ i : Nat, i ≤ k ∧ lk 0 σ.t = some (.str S) ∧ lk 2 σ.t = some (.p 0 0) ∧ lk 3 σ.t = some (.int .i64 0) ∧ lk 4 σ.t = some (.int .i64 k) ∧ lk 5 σ.t = some (.int .i64 i) ∧ σ.b = [.cells [.str [], .str []] 112 true] ∧ (S.take i).all localC = true) (fun σ => k - lkI 5 σ) ⟨0, by omega, rfl, rfl, rfl, rfl, rfl, rfl, rfl⟩ ?_
      rintro ⟨t, b⟩ ⟨i, hi, g0, g2, g3, g4, g5, rfl, gok⟩
      simp only at g0 g2 g3 g4 g5
      rw [lkI_eq g5]
      by_cases hlt : i < k
      · have hil : i < S.length := by omega
        have hg : S.getD i 0 = S[i] := by simp [List.getD, hil]
        have hfalse : localC S[i] = false → (S.take k).all localC = false := fun h => by
          have e : (S.take k)[i]'(by simp; omega) = S[i] := by simp
          exact all_not (s := S.take k) (k := i) (by simp; omega) (by rw [e]; exact h)
        simp only [lawG, ↓Xn, ↓Xo, ↓Xg, ↓Xd, ↓Xe, ↓Xf, Tryz.VΓ, Tryz.Γs, Xp, Xi, Nat.reduceAdd, Nat.reduceSub, Nat.reduceLT, Nat.reduceLeDiff, reduceIte, reduceCtorEq, Nat.reduceEqDiff, implies_true, forall_const, lawV, g0, g2, g3, g4, g5, hg]
        refine ⟨fun _ => ⟨⟨by omega, by omega⟩, ?_⟩, fun h => absurd h (by simp; omega)⟩
        (refine callV_pc (p_r1_IsUnreserved S[i]) ?_; simp only [lawG, ↓Xn, ↓Xo, ↓Xg, ↓Xd, ↓Xe, ↓Xf, Tryz.VΓ, Tryz.Γs, Xp, Xi, Nat.reduceAdd, Nat.reduceSub, Nat.reduceLT, Nat.reduceLeDiff, reduceIte, reduceCtorEq, Nat.reduceEqDiff, implies_true, forall_const, lawV, g0, g2, g3, g4, g5, hg])
        refine ⟨fun hu => ⟨⟨by omega, by omega⟩, ?_⟩, fun hu => ⟨⟨by omega, by omega⟩, ⟨i + 1, by omega, rfl, all_take_snoc hil gok (by unfold localC; rw [show unres S[i] = true by simpa using hu]; rfl)⟩, by rw [lkI_eq (k := .i64) (n := (i : Int) + 1) rfl]; omega⟩⟩
        have hu : unres S[i] = false := by simpa using hu
        (refine callV_pc (p_r1_In S[i] keptP (by decide)) ?_; simp only [lawG, ↓Xn, ↓Xo, ↓Xg, ↓Xd, ↓Xe, ↓Xf, Tryz.VΓ, Tryz.Γs, Xp, Xi, Nat.reduceAdd, Nat.reduceSub, Nat.reduceLT, Nat.reduceLeDiff, reduceIte, reduceCtorEq, Nat.reduceEqDiff, implies_true, forall_const, lawV, g0, g2, g3, g4, g5, hg])
        refine ⟨fun hk => ?_, fun hk => ⟨⟨by omega, by omega⟩, ⟨i + 1, by omega, rfl, all_take_snoc hil gok (by unfold localC; rw [show keptP.contains S[i] = true by simpa using hk]; simp)⟩, by rw [lkI_eq (k := .i64) (n := (i : Int) + 1) rfl]; omega⟩⟩
        rw [if_pos (hfalse (by unfold localC; rw [hu, show keptP.contains S[i] = false by simpa using hk]; rfl))]
        rfl
      · have hie : i = k := by omega
        subst hie
        rw [gok]
        have pd := p_r3_Decode (S.take i)
        have hdl := dec_len (S.take i)
        generalize pctDecode (S.take i) = dd at pd hdl ⊢
        obtain ⟨d, e1⟩ := dd
        have ph := p_r5_Host (S.drop (i + 1)) (by simp; omega)
        have hhl := hostM_len (S.drop (i + 1))
        generalize hostM (S.drop (i + 1)) = hh at ph hhl ⊢
        obtain ⟨hh, e2⟩ := hh
        simp only at pd ph hdl hhl
        have hdl : d.length ≤ 4096 := by simp at hdl; omega
        have hhl : hh.length ≤ 4096 := by simp at hhl; omega
        simp only [Bool.true_eq_false, if_false]
        unfold mailOf
        simp only [lawG, ↓Xn, ↓Xo, ↓Xg, ↓Xd, ↓Xe, ↓Xf, Tryz.VΓ, Tryz.Γs, Xp, Xi, Nat.reduceAdd, Nat.reduceSub, Nat.reduceLT, Nat.reduceLeDiff, reduceIte, reduceCtorEq, Nat.reduceEqDiff, implies_true, forall_const, lawV, g0, g2, g3, g4, g5]
        refine ⟨fun h => absurd h (by simp), fun _ => ⟨⟨by omega, by omega⟩, ?_⟩⟩
        (refine callV_pc pd ?_; simp only [lawG, ↓Xn, ↓Xo, ↓Xg, ↓Xd, ↓Xe, ↓Xf, Tryz.VΓ, Tryz.Γs, Xp, Xi, Nat.reduceAdd, Nat.reduceSub, Nat.reduceLT, Nat.reduceLeDiff, reduceIte, reduceCtorEq, Nat.reduceEqDiff, implies_true, forall_const, lawV, g0, g2, g3, g4, g5])
        refine ⟨fun h1 => (by rw [if_pos (by simpa using h1)]; rfl), fun h1 => ?_⟩
        rw [if_neg (by simpa using h1)]
        (refine callV_pc (p_r9_Local d) ?_; simp only [lawG, ↓Xn, ↓Xo, ↓Xg, ↓Xd, ↓Xe, ↓Xf, Tryz.VΓ, Tryz.Γs, Xp, Xi, Nat.reduceAdd, Nat.reduceSub, Nat.reduceLT, Nat.reduceLeDiff, reduceIte, reduceCtorEq, Nat.reduceEqDiff, implies_true, forall_const, lawV, g0, g2, g3, g4, g5])
        refine ⟨fun h2 => (by rw [if_pos (by simpa using h2)]; rfl), fun h2 => ⟨⟨by omega, by omega⟩, ⟨by omega, by omega⟩, ?_⟩⟩
        rw [if_neg (by simpa using h2)]
        (refine callV_pc ph ?_; simp only [lawG, ↓Xn, ↓Xo, ↓Xg, ↓Xd, ↓Xe, ↓Xf, Tryz.VΓ, Tryz.Γs, Xp, Xi, Nat.reduceAdd, Nat.reduceSub, Nat.reduceLT, Nat.reduceLeDiff, reduceIte, reduceCtorEq, Nat.reduceEqDiff, implies_true, forall_const, lawV, g0, g2, g3, g4, g5])
        refine ⟨fun h3 => (by rw [if_pos (by simpa using h3)]; rfl), fun h3 => ?_⟩
        rw [if_neg (by simpa using h3)]
        (refine callV_pc (p_r5_IsIPv4 hh (by omega)) ?_; simp only [lawG, ↓Xn, ↓Xo, ↓Xg, ↓Xd, ↓Xe, ↓Xf, Tryz.VΓ, Tryz.Γs, Xp, Xi, Nat.reduceAdd, Nat.reduceSub, Nat.reduceLT, Nat.reduceLeDiff, reduceIte, reduceCtorEq, Nat.reduceEqDiff, implies_true, forall_const, lawV, g0, g2, g3, g4, g5])
        refine ⟨fun h4 => ?_, fun h4 => ?_⟩
        · rw [if_pos (by simpa using h4)]; rfl
        · rw [if_neg (by simpa using h4)]; rfl
    · have h4 := beq_iff_eq.1 h4
      rw [cutC_none (by omega)]; rfl
  · have h : ¬ 4096 < s.length := (by simp at h; omega)
    have h2 : s.length < 7 := (by simp at h2; omega)
    rw [if_neg h, if_pos (.inl h2)]; rfl
end Go.Proofs.YtcndmooeglfilaaGreatDoor
/- The walks of the reference for package did. -/
set_option linter.all false
set_option maxRecDepth 20000
namespace Go.Proofs.YtcndmooeglfilaaGreatDoor
open Go Vc Go.RowKit Wf
set_option linter.unusedSimpArgs false
theorem p_r10_plain (c : UInt8) : PC Tryz.V 54 [.int .u8 c.toNat] (.bool (plainD c)) := by
  refine pc_of 3000 Tryz.func54 rfl Tryz.ntmps54 Tryz.results54 Tryz.call54 (by simp) (by simp [flat, flat.flatL]) (by simp [flat, flat.flatL]) ?_
  simp only [lawG, ↓Xn, ↓Xo, ↓Xg, ↓Xd, ↓Xe, ↓Xf, Tryz.VΓ, Tryz.Γs, Xp, Xi, Nat.reduceAdd, Nat.reduceSub, Nat.reduceLT, Nat.reduceLeDiff, reduceIte, reduceCtorEq, Nat.reduceEqDiff, implies_true, forall_const, lawV]
  (refine callV_pc (p_r1_IsAlpha c) ?_; simp only [lawG, ↓Xn, ↓Xo, ↓Xg, ↓Xd, ↓Xe, ↓Xf, Tryz.VΓ, Tryz.Γs, Xp, Xi, Nat.reduceAdd, Nat.reduceSub, Nat.reduceLT, Nat.reduceLeDiff, reduceIte, reduceCtorEq, Nat.reduceEqDiff, implies_true, forall_const, lawV])
  unfold plainD
  refine ⟨fun h => ?_, fun h => by rw [h]; rfl⟩
  (refine callV_pc (p_r1_IsDigit c) ?_; simp only [lawG, ↓Xn, ↓Xo, ↓Xg, ↓Xd, ↓Xe, ↓Xf, Tryz.VΓ, Tryz.Γs, Xp, Xi, Nat.reduceAdd, Nat.reduceSub, Nat.reduceLT, Nat.reduceLeDiff, reduceIte, reduceCtorEq, Nat.reduceEqDiff, implies_true, forall_const, lawV])
  rw [h]
  refine ⟨fun h2 => ?_, fun h2 => by rw [h2]; rfl⟩
  (refine callV_pc (p_r1_In c [46, 45, 95] (by decide)) ?_; simp only [lawG, ↓Xn, ↓Xo, ↓Xg, ↓Xd, ↓Xe, ↓Xf, Tryz.VΓ, Tryz.Γs, Xp, Xi, Nat.reduceAdd, Nat.reduceSub, Nat.reduceLT, Nat.reduceLeDiff, reduceIte, reduceCtorEq, Nat.reduceEqDiff, implies_true, forall_const, lawV])
  rw [h2]; rfl
theorem didEsc_take {s : Bytes} {i : Nat} (h : i < s.length) : didEsc (s.take (i + 1)) = didEsc (s.take i) ++ didB s[i] := by
  unfold didEsc
  rw [List.take_succ_eq_append_getElem h, List.flatMap_append, List.flatMap_cons, List.flatMap_nil, List.append_nil]
theorem flatten_le {n m k : Nat} : ∀ {l : List Bytes}, l.length ≤ n → (∀ y ∈ l, y.length ≤ m) → n * m ≤ k → l.flatten.length ≤ k := by
  have : ∀ (l : List Bytes), (∀ y ∈ l, y.length ≤ m) → l.flatten.length ≤ l.length * m := by
    intro l
    induction l with
    | nil => simp
    | cons x l ih =>
      intro h
      have h1 := h x List.mem_cons_self
      have h2 := ih (fun y hy => h y (List.mem_cons_of_mem _ hy))
      rw [List.flatten_cons, List.length_append, List.length_cons, Nat.add_mul]
      omega
  intro l h1 h2 h3
  have := this l h2
  exact Nat.le_trans this (Nat.le_trans (Nat.mul_le_mul_right _ h1) h3)
theorem didEsc_len_take (s : Bytes) (i : Nat) : (didEsc (s.take i)).length ≤ 3 * s.length := by
  have := didEsc_len (s.take i)
  have : (s.take i).length ≤ s.length := by simp; omega
  omega
set_option maxHeartbeats 2000000 in
theorem p_r10_Escaped (s : Bytes) (hs : s.length ≤ 1000000) : PC Tryz.V 55 [.str s] (.str (didEsc s)) := by
  refine pc_of 3000 Tryz.func55 rfl Tryz.ntmps55 Tryz.results55 Tryz.call55 (by simp) (by simp [flat, flat.flatL]) (by simp [flat, flat.flatL]) ?_
  simp only [lawG, ↓Xn, ↓Xo, ↓Xg, ↓Xd, ↓Xe, ↓Xf, Tryz.VΓ, Tryz.Γs, Xp, Xi, Nat.reduceAdd, Nat.reduceSub, Nat.reduceLT, Nat.reduceLeDiff, reduceIte, reduceCtorEq, Nat.reduceEqDiff, implies_true, forall_const, lawV]
  refine loopV_mk (fun σ => ∃ i : Nat, i ≤ s.length ∧ lk 0 σ.t = some (.str s) ∧ lk 3 σ.t = some (.str (didEsc (s.take i))) ∧ lk 4 σ.t = some (.int .i64 i)) (fun σ => s.length - lkI 4 σ) ⟨0, by omega, rfl, rfl, rfl⟩ ?_
  rintro ⟨t, b⟩ ⟨i, hi, h0, h3, h4⟩
  simp only at h0 h3 h4
  rw [lkI_eq h4]
  have hel := didEsc_len_take s i
  by_cases hlt : i < s.length
  · have hg : s.getD i 0 = s[i] := by simp [List.getD, hlt]
    have next : ∀ (x : Bytes) (t' : List (Nat × SV)), x = didB s[i] → lk 4 t' = some (.int .i64 ((i : Int) + 1)) →
        (∃ k : Nat, k ≤ s.length ∧ SV.str (didEsc (s.take i) ++ x) = SV.str (didEsc (s.take k)) ∧ SV.int IntKind.i64 ((i : Int) + 1) = SV.int IntKind.i64 (k : Int)) ∧ s.length - lkI 4 ⟨t', b⟩ < s.length - (i : Int).toNat := fun x t' hx k4 =>
      ⟨⟨i + 1, by omega, by rw [didEsc_take hlt, hx], rfl⟩, by rw [lkI_eq (σ := ⟨t', b⟩) k4]; omega⟩
    simp only [lawG, ↓Xn, ↓Xo, ↓Xg, ↓Xd, ↓Xe, ↓Xf, Tryz.VΓ, Tryz.Γs, Xp, Xi, Nat.reduceAdd, Nat.reduceSub, Nat.reduceLT, Nat.reduceLeDiff, reduceIte, reduceCtorEq, Nat.reduceEqDiff, implies_true, forall_const, lawV, h0, h3, h4, hg]
    refine ⟨fun _ => ⟨⟨by omega, by omega⟩, ?_⟩, fun h => absurd h (by simp; omega)⟩
    (refine callV_pc (p_r10_plain s[i]) ?_; simp only [lawG, ↓Xn, ↓Xo, ↓Xg, ↓Xd, ↓Xe, ↓Xf, Tryz.VΓ, Tryz.Γs, Xp, Xi, Nat.reduceAdd, Nat.reduceSub, Nat.reduceLT, Nat.reduceLeDiff, reduceIte, reduceCtorEq, Nat.reduceEqDiff, implies_true, forall_const, lawV, h0, h3, h4, hg])
    refine ⟨fun hp => ⟨by omega, ⟨by omega, by omega, by omega⟩, by rw [sub_one hlt, List.length_singleton]; omega, ⟨by omega, by omega⟩, next _ _ (by rw [sub_one hlt, show didB s[i] = [s[i]] from if_pos hp]) rfl⟩, fun hp => ⟨⟨by omega, by omega⟩, ?_⟩⟩
    (refine callV_pc (p_r3_Escape s[i]) ?_; simp only [lawG, ↓Xn, ↓Xo, ↓Xg, ↓Xd, ↓Xe, ↓Xf, Tryz.VΓ, Tryz.Γs, Xp, Xi, Nat.reduceAdd, Nat.reduceSub, Nat.reduceLT, Nat.reduceLeDiff, reduceIte, reduceCtorEq, Nat.reduceEqDiff, implies_true, forall_const, lawV, h0, h3, h4, hg])
    exact ⟨by rw [show (esc s[i]).length = 3 from rfl]; omega, ⟨by omega, by omega⟩, next _ _ (by rw [show didB s[i] = esc s[i] from if_neg (by rw [hp]; simp)]) rfl⟩
  · have hie : i = s.length := by omega
    subst hie
    rw [List.take_length] at h3
    simp only [lawG, ↓Xn, ↓Xo, ↓Xg, ↓Xd, ↓Xe, ↓Xf, Tryz.VΓ, Tryz.Γs, Xp, Xi, Nat.reduceAdd, Nat.reduceSub, Nat.reduceLT, Nat.reduceLeDiff, reduceIte, reduceCtorEq, Nat.reduceEqDiff, implies_true, forall_const, lawV, h0, h3, h4]
    exact fun h => absurd h (by simp)
set_option maxHeartbeats 2000000 in
theorem p_r10_method (s : Bytes) (hs : s.length ≤ 1000000) : PC Tryz.V 51 [.str s] (.bool (methodOk s)) := by
  refine pc_of 3000 Tryz.func51 rfl Tryz.ntmps51 Tryz.results51 Tryz.call51 (by simp) (by simp [flat, flat.flatL]) (by simp [flat, flat.flatL]) ?_
  simp only [lawG, ↓Xn, ↓Xo, ↓Xg, ↓Xd, ↓Xe, ↓Xf, Tryz.VΓ, Tryz.Γs, Xp, Xi, Nat.reduceAdd, Nat.reduceSub, Nat.reduceLT, Nat.reduceLeDiff, reduceIte, reduceCtorEq, Nat.reduceEqDiff, implies_true, forall_const, lawV]
  refine loopV_mk (fun σ => ∃ i : Nat, i ≤ s.length ∧ lk 0 σ.t = some (.str s) ∧ lk 3 σ.t = some (.int .i64 i) ∧ (s.take i).all methodC = true) (fun σ => s.length - lkI 3 σ) ⟨0, by omega, rfl, rfl, rfl⟩ ?_
  rintro ⟨t, b⟩ ⟨i, hi, h0, h3, hok⟩
  simp only at h0 h3
  rw [lkI_eq h3]
  by_cases hlt : i < s.length
  · have hg : s.getD i 0 = s[i] := by simp [List.getD, hlt]
    have hbad : methodC s[i] = false → methodOk s = false := fun h => by
      unfold methodOk
      rw [all_not hlt h, Bool.and_false]
    simp only [lawG, ↓Xn, ↓Xo, ↓Xg, ↓Xd, ↓Xe, ↓Xf, Tryz.VΓ, Tryz.Γs, Xp, Xi, Nat.reduceAdd, Nat.reduceSub, Nat.reduceLT, Nat.reduceLeDiff, reduceIte, reduceCtorEq, Nat.reduceEqDiff, implies_true, forall_const, lawV, h0, h3, hg]
    refine ⟨fun _ => ⟨⟨by omega, by omega⟩, ?_⟩, fun h => absurd h (by simp; omega)⟩
    (refine callV_pc (p_r1_IsDigit s[i]) ?_; simp only [lawG, ↓Xn, ↓Xo, ↓Xg, ↓Xd, ↓Xe, ↓Xf, Tryz.VΓ, Tryz.Γs, Xp, Xi, Nat.reduceAdd, Nat.reduceSub, Nat.reduceLT, Nat.reduceLeDiff, reduceIte, reduceCtorEq, Nat.reduceEqDiff, implies_true, forall_const, lawV, h0, h3, hg])
    have fin : methodC s[i] = true → ∀ (t' : List (Nat × SV)), lk 3 t' = some (.int .i64 ((i : Int) + 1)) → (∃ k : Nat, k ≤ s.length ∧ SV.int IntKind.i64 ((i : Int) + 1) = SV.int IntKind.i64 (k : Int) ∧ (s.take k).all methodC = true) ∧ s.length - lkI 3 ⟨t', b⟩ < s.length - (i : Int).toNat := fun hm t' k6 =>
      ⟨⟨i + 1, by omega, rfl, all_take_snoc hlt hok hm⟩, by rw [lkI_eq (σ := ⟨t', b⟩) k6]; omega⟩
    cases hd : isDigit s[i]
    · refine ⟨fun _ => ⟨⟨by omega, by omega⟩, fun h1 => ⟨⟨by omega, by omega⟩, fun h2 => ?_, fun h2 => ⟨⟨by omega, by omega⟩, fin ?_ _ rfl⟩⟩, fun h1 => ?_⟩, fun h => (by cases h)⟩
      · rw [hbad (by rw [methodC_is _ hd]; simp at h1 h2 ⊢; omega)]
      · rw [methodC_is _ hd]; simp at h1 h2 ⊢; omega
      · rw [hbad (by rw [methodC_is _ hd]; simp at h1 ⊢; omega)]
    · exact ⟨fun h => (by cases h), fun _ => ⟨⟨by omega, by omega⟩, fin (by unfold methodC; rw [hd]; rfl) _ rfl⟩⟩
  · have hie : i = s.length := by omega
    subst hie
    rw [List.take_length] at hok
    simp only [lawG, ↓Xn, ↓Xo, ↓Xg, ↓Xd, ↓Xe, ↓Xf, Tryz.VΓ, Tryz.Γs, Xp, Xi, Nat.reduceAdd, Nat.reduceSub, Nat.reduceLT, Nat.reduceLeDiff, reduceIte, reduceCtorEq, Nat.reduceEqDiff, implies_true, forall_const, lawV, h0, h3]
    refine ⟨fun h => absurd h (by simp), fun _ => ?_⟩
    unfold methodOk
    rw [hok, Bool.and_true]
    cases s <;> rfl
set_option maxRecDepth 20000 in
set_option maxHeartbeats 4000000 in
theorem p_r10_ParseDID (s : Bytes) : PC Tryz.V 15 [.str s] (.tup [dsv (didParse s).1, .int .i64 (didParse s).2]) := by
  refine pc_of 3000 Tryz.func15 rfl Tryz.ntmps15 Tryz.results15 Tryz.call15 (by simp) (by simp [flat, flat.flatL, dsv, dusv]) (by simp [flat, flat.flatL, dsv, dusv]) ?_
  simp only [lawG, ↓Xn, ↓Xo, ↓Xg, ↓Xd, ↓Xe, ↓Xf, Tryz.VΓ, Tryz.Γs, Xp, Xi, Nat.reduceAdd, Nat.reduceSub, Nat.reduceLT, Nat.reduceLeDiff, reduceIte, reduceCtorEq, Nat.reduceEqDiff, implies_true, forall_const, lawV]
  unfold didParse
  refine ⟨fun h => ?_, fun h => ?_⟩
  · have h : 4096 < s.length := (by simp at h; omega)
    rw [if_pos h]; rfl
  have h : ¬ 4096 < s.length := (by simp at h; omega)
  rw [if_neg h]
  have pp := p_r1_Prefix s didS
  rw [show Lib.hasPrefix s didS = didS.isPrefixOf s from rfl] at pp
  (refine callV_pc pp ?_; simp only [lawG, ↓Xn, ↓Xo, ↓Xg, ↓Xd, ↓Xe, ↓Xf, Tryz.VΓ, Tryz.Γs, Xp, Xi, Nat.reduceAdd, Nat.reduceSub, Nat.reduceLT, Nat.reduceLeDiff, reduceIte, reduceCtorEq, Nat.reduceEqDiff, implies_true, forall_const, lawV])
  refine ⟨fun h2 => (by rw [if_pos (by simpa using h2)]; rfl), fun h2 => ?_⟩
  have h2 : didS.isPrefixOf s = true := by simpa using h2
  rw [if_neg (by rw [h2]; simp), show Int.toNat 4 = 4 from rfl]
  have hS : (s.drop 4).length ≤ 4096 := by simp; omega
  refine ⟨⟨by omega, ?_⟩, ?_⟩
  · have := (List.isPrefixOf_iff_prefix.1 h2).length_le
    rw [show didS.length = 4 from rfl] at this
    omega
  generalize s.drop 4 = S at hS ⊢
  have pi := p_r1_Index S [58] (by omega) (by decide)
  rw [pre_one] at pi
  (refine callV_pc pi ?_; simp only [lawG, ↓Xn, ↓Xo, ↓Xg, ↓Xd, ↓Xe, ↓Xf, Tryz.VΓ, Tryz.Γs, Xp, Xi, Nat.reduceAdd, Nat.reduceSub, Nat.reduceLT, Nat.reduceLeDiff, reduceIte, reduceCtorEq, Nat.reduceEqDiff, implies_true, forall_const, lawV])
  have hpl := pre_le (· == 58) S
  unfold didRest
  refine ⟨fun h3 => ?_, fun h3 => ?_⟩
  · have h3 : pre (· == 58) S = S.length := by simp at h3; omega
    rw [cutC_none h3, if_pos rfl]; rfl
  have h3 : ¬ pre (· == 58) S = S.length := by simp at h3; omega
  rw [show cutC 58 S = (S.take (pre (· == 58) S), S.drop (pre (· == 58) S + 1), true) from if_pos (by omega)]
  refine ⟨⟨by omega, by omega⟩, ?_⟩
  simp only [Int.toNat_natCast]
  have pm := p_r10_method (S.take (pre (· == 58) S)) (by simp; omega)
  (refine callV_pc pm ?_; simp only [lawG, ↓Xn, ↓Xo, ↓Xg, ↓Xd, ↓Xe, ↓Xf, Tryz.VΓ, Tryz.Γs, Xp, Xi, Nat.reduceAdd, Nat.reduceSub, Nat.reduceLT, Nat.reduceLeDiff, reduceIte, reduceCtorEq, Nat.reduceEqDiff, implies_true, forall_const, lawV])
  refine ⟨fun h4 => ?_, fun h4 => ?_⟩
  · rw [if_pos (by simpa using h4)]; rfl
  rw [if_neg (by simpa using h4), didEnd_segs]
  have hM : (S.drop (pre (· == 58) S + 1)).length ≤ 4096 := by simp; omega
  generalize S.drop (pre (· == 58) S + 1) = I at hM ⊢
  refine ⟨⟨by omega, by omega⟩, ⟨by omega, by omega⟩, ?_⟩
  have hsl := splitC_len 58 I
  have hct := splitC_length 58 I
  have hcc := List.count_le_length (a := (58 : UInt8)) (l := I)
  refine callV_sc (sc_Split I 58 (by omega)) ?_
  rintro r b ⟨j, rfl, hLj, hj, hkp⟩
  generalize splitC 58 I = L at *
  simp only at hLj hj hkp
  have hb0 := hkp.at (j := 0) rfl
  simp only [lawG, ↓Xn, ↓Xo, ↓Xg, ↓Xd, ↓Xe, ↓Xf, Tryz.VΓ, Tryz.Γs, Xp, Xi, Nat.reduceAdd, Nat.reduceSub, Nat.reduceLT, Nat.reduceLeDiff, reduceIte, reduceCtorEq, Nat.reduceEqDiff, implies_true, forall_const, lawV, hj]
  refine loopV_mk (fun σ => ∃ k : Nat, k ≤ L.length ∧ lk 0 σ.t = some (.str S) ∧ lk 2 σ.t = some (.p 0 0) ∧ lk 3 σ.t = some (.int .i64 0) ∧ lk 4 σ.t = some (.int .i64 (pre (· == 58) S)) ∧ lk 5 σ.t = some (.o j L.length) ∧ lk 46 σ.t = some (.o j L.length) ∧ lk 47 σ.t = some (.int .i64 L.length) ∧ lk 48 σ.t = some (.int .i64 k) ∧
    σ.b[0]? = some (.cells [.str [], .str []] 24 true) ∧ σ.b[j]? = some (.own (L.map SV.str) 9 1 L.length true) ∧ ∀ y ∈ L.take k, PU.bad ∉ units y) (fun σ => L.length - lkI 48 σ) ⟨0, by omega, rfl, rfl, rfl, rfl, rfl, rfl, rfl, rfl, hb0, hj, by simp⟩ ?_
  clear hb0 hj hkp
  rintro ⟨t, b⟩ ⟨k, hk, h0, h2, h3, h4, h5, h46, h47, h48, hb0, hj, hok⟩
  simp only at h0 h2 h3 h4 h5 h46 h47 h48 hb0 hj
  rw [lkI_eq h48]
  have hs0 : ∀ X, (b.set 0 X)[0]? = some X := fun X => List.getElem?_set_self (List.getElem?_eq_some_iff.1 hb0).1
  by_cases hlt : k < L.length
  · have hx : (L.map SV.str)[k * 1]? = some (.str L[k]) := by simp [hlt]
    have hxl := hsl L[k] (List.getElem_mem hlt)
    have pd := p_r3_Decode L[k]
    rw [decode_seg (by omega)] at pd
    simp only [lawG, ↓Xn, ↓Xo, ↓Xg, ↓Xd, ↓Xe, ↓Xf, Tryz.VΓ, Tryz.Γs, Xp, Xi, Nat.reduceAdd, Nat.reduceSub, Nat.reduceLT, Nat.reduceLeDiff, reduceIte, reduceCtorEq, Nat.reduceEqDiff, implies_true, forall_const, lawV, h0, h2, h3, h4, h5, h46, h47, h48, hb0, hj, hs0, hx]
    refine ⟨fun _ => ⟨⟨by omega, by omega⟩, by simp; omega, ?_⟩, fun h => absurd h (by simp; omega)⟩
    by_cases hbad : PU.bad ∈ units L[k]
    · rw [if_pos hbad] at pd
      rw [if_pos ⟨_, List.getElem_mem hlt, hbad⟩]
      (refine callV_pc pd ?_; simp only [lawG, ↓Xn, ↓Xo, ↓Xg, ↓Xd, ↓Xe, ↓Xf, Tryz.VΓ, Tryz.Γs, Xp, Xi, Nat.reduceAdd, Nat.reduceSub, Nat.reduceLT, Nat.reduceLeDiff, reduceIte, reduceCtorEq, Nat.reduceEqDiff, implies_true, forall_const, lawV, h0, h2, h3, h4, h5, h46, h47, h48, hb0, hj, hs0, hx, beq_self_eq_true, bne_self_eq_false, Int.reduceBEq, Int.reduceBNe, Int.reduceLT, Int.reduceLE])
      rfl
    · rw [if_neg hbad] at pd
      (refine callV_pc pd ?_; simp only [lawG, ↓Xn, ↓Xo, ↓Xg, ↓Xd, ↓Xe, ↓Xf, Tryz.VΓ, Tryz.Γs, Xp, Xi, Nat.reduceAdd, Nat.reduceSub, Nat.reduceLT, Nat.reduceLeDiff, reduceIte, reduceCtorEq, Nat.reduceEqDiff, implies_true, forall_const, lawV, h0, h2, h3, h4, h5, h46, h47, h48, hb0, hj, hs0, hx, beq_self_eq_true, bne_self_eq_false, Int.reduceBEq, Int.reduceBNe, Int.reduceLT, Int.reduceLE])
      refine ⟨⟨by omega, by omega⟩, ⟨k + 1, by omega, rfl, fun y hy => ?_⟩, ?_⟩
      · rw [List.take_succ_eq_append_getElem hlt] at hy
        rcases List.mem_append.1 hy with hy | hy
        · exact hok y hy
        · rw [List.mem_singleton.1 hy]; exact hbad
      · rw [lkI_eq (k := .i64) (n := (k : Int) + 1) rfl]; omega
  · have hie : k = L.length := by omega
    subst hie
    rw [List.take_length] at hok
    rw [if_neg (fun ⟨y, hy, hb⟩ => hok y hy hb)]
    simp only [lawG, ↓Xn, ↓Xo, ↓Xg, ↓Xd, ↓Xe, ↓Xf, Tryz.VΓ, Tryz.Γs, Xp, Xi, Nat.reduceAdd, Nat.reduceSub, Nat.reduceLT, Nat.reduceLeDiff, reduceIte, reduceCtorEq, Nat.reduceEqDiff, implies_true, forall_const, lawV, h0, h2, h3, h4, h5, h46, h47, h48, hb0, hj, hs0]
    refine ⟨fun h => absurd h (by simp), fun _ => ?_⟩
    have hbad2 : ∀ y ∈ L, PU.bad ∉ units y := hok
    clear hok h46 h47 h48 hlt hk
    refine loopV_mk (fun σ => ∃ k : Nat, k ≤ L.length ∧ lk 0 σ.t = some (.str S) ∧ lk 2 σ.t = some (.p 0 0) ∧ lk 3 σ.t = some (.int .i64 0) ∧ lk 4 σ.t = some (.int .i64 (pre (· == 58) S)) ∧ lk 5 σ.t = some (.o j L.length) ∧ lk 61 σ.t = some (.o j L.length) ∧ lk 62 σ.t = some (.int .i64 L.length) ∧ lk 63 σ.t = some (.int .i64 k) ∧ lk 10 σ.t = some (.str (segsJoin (L.take k))) ∧
      σ.b[0]? = some (.cells [.str [], .str []] 24 true) ∧ σ.b[j]? = some (.own (L.map SV.str) 9 1 L.length true) ∧ (L.take k).all segPlain = true) (fun σ => L.length - lkI 63 σ) ⟨0, by omega, h0, h2, h3, h4, h5, rfl, rfl, rfl, rfl, hb0, hj, rfl⟩ ?_
    clear hb0 hj h0 h2 h3 h4 h5 hs0
    rintro ⟨t, b⟩ ⟨k, hk, h0, h2, h3, h4, h5, h61, h62, h63, h10, hb0, hj, hok⟩
    simp only at h0 h2 h3 h4 h5 h61 h62 h63 h10 hb0 hj
    have hs0 : ∀ X, (b.set 0 X)[0]? = some X := fun X => List.getElem?_set_self (List.getElem?_eq_some_iff.1 hb0).1
    rw [lkI_eq h63]
    by_cases hlt : k < L.length
    · have hx : (L.map SV.str)[k * 1]? = some (.str L[k]) := by simp [hlt]
      have hxl := hsl L[k] (List.getElem_mem hlt)
      have hxb := hbad2 L[k] (List.getElem_mem hlt)
      simp only [lawG, ↓Xn, ↓Xo, ↓Xg, ↓Xd, ↓Xe, ↓Xf, Tryz.VΓ, Tryz.Γs, Xp, Xi, Nat.reduceAdd, Nat.reduceSub, Nat.reduceLT, Nat.reduceLeDiff, reduceIte, reduceCtorEq, Nat.reduceEqDiff, implies_true, forall_const, lawV, h0, h2, h3, h4, h5, h61, h62, h63, h10, hb0, hj, hs0, hx]
      refine ⟨fun _ => ⟨⟨by omega, by omega⟩, by simp; omega, ?_⟩, fun h => absurd h (by simp; omega)⟩
      have hidl := segsJoin_len (L.take k)
      have hid2 : (L.take k).flatten.length ≤ 4097 * 4097 := flatten_le (n := 4097) (m := 4097) (by simp; omega) (fun y hy => by have := hsl y (List.mem_of_mem_take hy); omega) (Nat.le_refl _)
      have htl : (L.take k).length ≤ 4097 := by simp; omega
      have hsj := segsJoin_take hlt
      have hxa : segPlain L[k] = false → L.all segPlain = false := fun h => all_not hlt h
      have hxo : segPlain L[k] = true → (L.take (k + 1)).all segPlain = true := fun h => all_take_snoc hlt hok h
      clear hok
      generalize L[k] = x at *
      refine loopV_mk (fun σ => ∃ i : Nat, i ≤ x.length ∧ lk 0 σ.t = some (.str S) ∧ lk 2 σ.t = some (.p 0 0) ∧ lk 3 σ.t = some (.int .i64 0) ∧ lk 4 σ.t = some (.int .i64 (pre (· == 58) S)) ∧ lk 5 σ.t = some (.o j L.length) ∧ lk 61 σ.t = some (.o j L.length) ∧ lk 62 σ.t = some (.int .i64 L.length) ∧ lk 63 σ.t = some (.int .i64 k) ∧ lk 11 σ.t = some (.int .i64 k) ∧ lk 10 σ.t = some (.str (segsJoin (L.take k))) ∧ lk 12 σ.t = some (.str x) ∧ lk 13 σ.t = some (.int .i64 i) ∧
        σ.b[0]? = some (.cells [.str [], .str []] 24 true) ∧ σ.b[j]? = some (.own (L.map SV.str) 9 1 L.length true) ∧ (x.take i).all (fun c => plainD c || c == 37) = true) (fun σ => x.length - lkI 13 σ) ⟨0, by omega, h0, h2, h3, h4, h5, h61, h62, h63, rfl, h10, rfl, rfl, hb0, hj, rfl⟩ ?_
      clear hb0 hj h0 h2 h3 h4 h5 hs0 h61 h62 h63 h10
      rintro ⟨t, b⟩ ⟨i, hi, h0, h2, h3, h4, h5, h61, h62, h63, h11, h10, h12, h13, hb0, hj, hok⟩
      simp only at h0 h2 h3 h4 h5 h61 h62 h63 h11 h10 h12 h13 hb0 hj
      have hs0 : ∀ X, (b.set 0 X)[0]? = some X := fun X => List.getElem?_set_self (List.getElem?_eq_some_iff.1 hb0).1
      rw [lkI_eq h13]
      by_cases hil : i < x.length
      · have hg : x.getD i 0 = x[i] := by simp [List.getD, hil]
        simp only [lawG, ↓Xn, ↓Xo, ↓Xg, ↓Xd, ↓Xe, ↓Xf, Tryz.VΓ, Tryz.Γs, Xp, Xi, Nat.reduceAdd, Nat.reduceSub, Nat.reduceLT, Nat.reduceLeDiff, reduceIte, reduceCtorEq, Nat.reduceEqDiff, implies_true, forall_const, lawV, h0, h2, h3, h4, h5, h61, h62, h63, h10, hb0, hj, hs0, h11, h12, h13, hg]
        refine ⟨fun _ => ⟨⟨by omega, by omega⟩, ?_⟩, fun h => absurd h (by simp; omega)⟩
        (refine callV_pc (p_r10_plain x[i]) ?_; simp only [lawG, ↓Xn, ↓Xo, ↓Xg, ↓Xd, ↓Xe, ↓Xf, Tryz.VΓ, Tryz.Γs, Xp, Xi, Nat.reduceAdd, Nat.reduceSub, Nat.reduceLT, Nat.reduceLeDiff, reduceIte, reduceCtorEq, Nat.reduceEqDiff, implies_true, forall_const, lawV, h0, h2, h3, h4, h5, h61, h62, h63, h10, hb0, hj, hs0, h11, h12, h13, hg])
        have hb37 := byte_is hil 37 (n := 37) rfl
        have hb38 : ((x[i].toNat : Int) != 37) = (x[i] != 37) := by
          show (!_) = (!_); rw [← hb37, hg]
        rw [hb38]
        have fin : (plainD x[i] || x[i] == 37) = true → ∀ (t' : List (Nat × SV)), lk 13 t' = some (.int .i64 ((i : Int) + 1)) → (∃ m : Nat, m ≤ x.length ∧ SV.int IntKind.i64 ((i : Int) + 1) = SV.int IntKind.i64 (m : Int) ∧ (x.take m).all (fun c => plainD c || c == 37) = true) ∧ x.length - lkI 13 ⟨t', b⟩ < x.length - (i : Int).toNat := fun hm t' k6 =>
          ⟨⟨i + 1, by omega, rfl, all_take_snoc hil hok hm⟩, by rw [lkI_eq (σ := ⟨t', b⟩) k6]; omega⟩
        refine ⟨fun hp => ⟨⟨by omega, by omega⟩, fun h37 => ?_, fun h37 => ⟨⟨by omega, by omega⟩, fin ?_ _ rfl⟩⟩, fun hp => ⟨⟨by omega, by omega⟩, fin ?_ _ rfl⟩⟩
        · rw [if_pos (hxa (all_not hil (by simp at hp h37 ⊢; exact ⟨hp, h37⟩)))]; rfl
        · simp at h37 ⊢; exact .inr h37
        · simp at hp ⊢; exact .inl hp
      · have hie : i = x.length := by omega
        subst hie
        rw [List.take_length] at hok
        have pd := p_r3_Decode x
        rw [decode_seg (by omega), if_neg hxb] at pd
        simp only at pd
        have pe := p_r10_Escaped (decV x) (by have := decV_len x; omega)
        have hdl := didEsc_len (decV x)
        have hdl2 := decV_len x
        simp only [lawG, ↓Xn, ↓Xo, ↓Xg, ↓Xd, ↓Xe, ↓Xf, Tryz.VΓ, Tryz.Γs, Xp, Xi, Nat.reduceAdd, Nat.reduceSub, Nat.reduceLT, Nat.reduceLeDiff, reduceIte, reduceCtorEq, Nat.reduceEqDiff, implies_true, forall_const, lawV, h0, h2, h3, h4, h5, h61, h62, h63, h10, hb0, hj, hs0, h11, h12, h13]
        refine ⟨fun h => absurd h (by simp), fun _ => ?_⟩
        have hxp : segPlain x = true := hok
        (refine callV_pc pd ?_; simp only [lawG, ↓Xn, ↓Xo, ↓Xg, ↓Xd, ↓Xe, ↓Xf, Tryz.VΓ, Tryz.Γs, Xp, Xi, Nat.reduceAdd, Nat.reduceSub, Nat.reduceLT, Nat.reduceLeDiff, reduceIte, reduceCtorEq, Nat.reduceEqDiff, implies_true, forall_const, lawV, h0, h2, h3, h4, h5, h61, h62, h63, h10, hb0, hj, hs0, h11, h12, h13, beq_self_eq_true, bne_self_eq_false, Int.reduceBEq, Int.reduceBNe, Int.reduceLT, Int.reduceLE])
        refine ⟨fun h0k => ⟨by omega, ?_⟩, fun h0k => ?_⟩
        · (refine callV_pc pe ?_; simp only [lawG, ↓Xn, ↓Xo, ↓Xg, ↓Xd, ↓Xe, ↓Xf, Tryz.VΓ, Tryz.Γs, Xp, Xi, Nat.reduceAdd, Nat.reduceSub, Nat.reduceLT, Nat.reduceLeDiff, reduceIte, reduceCtorEq, Nat.reduceEqDiff, implies_true, forall_const, lawV, h0, h2, h3, h4, h5, h61, h62, h63, h10, hb0, hj, hs0, h11, h12, h13])
          refine ⟨by simp; omega, ⟨by omega, by omega⟩, ⟨k + 1, by omega, rfl, ?_, hxo hxp⟩, ?_⟩
          · rw [hsj, if_neg (by simp at h0k; omega)]
          · rw [lkI_eq (k := .i64) (n := (k : Int) + 1) rfl]; omega
        · (refine callV_pc pe ?_; simp only [lawG, ↓Xn, ↓Xo, ↓Xg, ↓Xd, ↓Xe, ↓Xf, Tryz.VΓ, Tryz.Γs, Xp, Xi, Nat.reduceAdd, Nat.reduceSub, Nat.reduceLT, Nat.reduceLeDiff, reduceIte, reduceCtorEq, Nat.reduceEqDiff, implies_true, forall_const, lawV, h0, h2, h3, h4, h5, h61, h62, h63, h10, hb0, hj, hs0, h11, h12, h13])
          refine ⟨by omega, ⟨by omega, by omega⟩, ⟨k + 1, by omega, rfl, ?_, hxo hxp⟩, ?_⟩
          · rw [hsj, if_pos (by simp at h0k; omega), List.append_nil]
          · rw [lkI_eq (k := .i64) (n := (k : Int) + 1) rfl]; omega
    · have hie : k = L.length := by omega
      subst hie
      rw [List.take_length] at hok h10
      rw [if_neg (by rw [hok]; simp)]
      have hL0 : 0 < L.length := by omega
      have hz : (L.map SV.str)[((L.length : Int) - 1).toNat * 1]? = some (.str (L[L.length - 1]'(by omega))) := by
        rw [show ((L.length : Int) - 1).toNat * 1 = L.length - 1 by omega]
        simp [hL0]
      have hzl : L.getLast? = some (L[L.length - 1]'(by omega)) := by rw [List.getLast?_eq_getElem?]; simp [hL0]
      rw [hzl]
      generalize L[L.length - 1]'(by omega) = z at hz
      simp only [Option.some.injEq]
      have hpl2 := pre_le (· == 58) S
      simp only [lawG, ↓Xn, ↓Xo, ↓Xg, ↓Xd, ↓Xe, ↓Xf, Tryz.VΓ, Tryz.Γs, Xp, Xi, Nat.reduceAdd, Nat.reduceSub, Nat.reduceLT, Nat.reduceLeDiff, reduceIte, reduceCtorEq, Nat.reduceEqDiff, implies_true, forall_const, lawV, h0, h2, h3, h4, h5, h61, h62, h63, h10, hb0, hj, hs0, hz]
      refine ⟨fun h => absurd h (by simp), fun _ => ⟨⟨by omega, by omega⟩, ⟨by omega, by omega⟩, by simp; omega, fun h => ?_, fun h => ?_⟩⟩
      · rw [if_pos (by simpa using h)]; rfl
      · rw [if_neg (by simpa using h)]
        exact ⟨⟨by omega, by omega⟩, rfl⟩
theorem p_r10_FormatDID (d : Did) (h : DidFits d) : PC Tryz.V 81 [dsv d] (.str (didText d)) := by
  obtain ⟨m, i⟩ := d
  simp only [DidFits] at h
  refine pc_of 3000 Tryz.func81 rfl Tryz.ntmps81 Tryz.results81 Tryz.call81 (by simp) (by simp [flat, flat.flatL, dsv, dusv]) (by simp [flat, flat.flatL, dsv, dusv]) ?_
  unfold dsv
  simp only [lawG, ↓Xn, ↓Xo, ↓Xg, ↓Xd, ↓Xe, ↓Xf, Tryz.VΓ, Tryz.Γs, Xp, Xi, Nat.reduceAdd, Nat.reduceSub, Nat.reduceLT, Nat.reduceLeDiff, reduceIte, reduceCtorEq, Nat.reduceEqDiff, implies_true, forall_const, lawV]
  simp only [List.length_append, List.length_cons, List.length_nil]
  refine ⟨by omega, by omega, by omega, ?_⟩
  simp [didText, didS]
end Go.Proofs.YtcndmooeglfilaaGreatDoor
/- The walk of uri.Join. -/
set_option linter.all false
set_option maxRecDepth 20000
namespace Go.Proofs.YtcndmooeglfilaaGreatDoor
open Go Vc Go.RowKit Wf
set_option linter.unusedSimpArgs false
def adds (there : Bool) (l : Bytes) (parts : List Bytes) : Bytes := if there then l ++ parts.flatten else l
def AddI (bs : List Res) (i : Nat) (there : Bool) (l : Bytes) (parts : List Bytes) (j : Nat) (σ : St) : Prop := ∃ k : Nat, k ≤ parts.length ∧ lk 0 σ.t = some (.bool there) ∧ lk 2 σ.t = some (.p i 0) ∧ lk 7 σ.t = some (.o j parts.length) ∧ lk 8 σ.t = some (.int .i64 parts.length) ∧ lk 9 σ.t = some (.int .i64 k) ∧
  σ.b = bs.set i (.ext (BldR 125 5 (adds there l (parts.take k))))
def AddM (parts : List Bytes) (σ : St) : Nat := match lk 9 σ.t with
  | some (.int _ k) => parts.length - k.toNat
  | _ => 0
def Uri.size (u : Uri) : Nat := u.scheme.length + u.authority.length + u.path.length + u.query.length + u.fragment.length
end Go.Proofs.YtcndmooeglfilaaGreatDoor
/- Sizes of the parts of a string. -/
set_option linter.all false
namespace Go.Proofs.YtcndmooeglfilaaGreatDoor
open Go Vc Go.RowKit Wf
theorem split_path (s : Bytes) : (uriSplit s).1.path.length ≤ s.length := by
  have hc1 := cutC_len 35 s
  have hc2 := cutC_len 63 (cutC 35 s).1
  have hap : ∀ r : Bytes, (authPath r).2.2.length ≤ r.length := fun r => by
    unfold authPath; split
    · simp; omega
    · simp
  unfold uriSplit
  split
  · simp [Uri.none]
  · unfold splitRest
    split
    · split
      · have := hap ((cutC 63 (cutC 35 s).1).1.drop (pre colonSlash (cutC 63 (cutC 35 s).1).1 + 1))
        simp at this ⊢; omega
      · simp [Uri.none]
    · have := hap (cutC 63 (cutC 35 s).1).1
      simp; omega
theorem split_size (s : Bytes) : Uri.size (uriSplit s).1 ≤ 6 * s.length := by
  have hc1 := cutC_len 35 s
  have hc2 := cutC_len 63 (cutC 35 s).1
  have hap : ∀ r : Bytes, (authPath r).2.2.length ≤ r.length ∧ (authPath r).1.length ≤ r.length := fun r => by
    unfold authPath; split
    · simp; omega
    · simp
  unfold uriSplit
  split
  · simp [Uri.none, Uri.size]
  · unfold splitRest
    split
    · split
      · have := hap ((cutC 63 (cutC 35 s).1).1.drop (pre colonSlash (cutC 63 (cutC 35 s).1).1 + 1))
        simp [Uri.size] at this ⊢; omega
      · simp [Uri.none, Uri.size]
    · have := hap (cutC 63 (cutC 35 s).1).1
      simp [Uri.size]; omega
end Go.Proofs.YtcndmooeglfilaaGreatDoor
/- The walk of weburl.Parse. -/
set_option linter.all false
set_option maxRecDepth 20000
namespace Go.Proofs.YtcndmooeglfilaaGreatDoor
open Go Vc Go.RowKit Wf
set_option linter.unusedSimpArgs false
theorem hostPort_ok (a : Bytes) (h : (hostPort a).2 = 0) : (hostPort a).1.1.length ≤ 253 ∧ 0 ≤ (hostPort a).1.2 ∧ (hostPort a).1.2 ≤ 65535 := by
  have := hostPort_back (s := a) (x := (hostPort a).1.1) (p := (hostPort a).1.2) (by rw [← h])
  omega
set_option maxRecDepth 20000 in
set_option maxHeartbeats 4000000 in
theorem p_url_Parse (s : Bytes) : PC Tryz.V 118 [.str s] (.tup [wsv (urlParse s).1, .int .i64 (urlParse s).2]) := by
  refine pc_of 3000 Tryz.func118 rfl Tryz.ntmps118 Tryz.results118 Tryz.call118 (by simp) (by simp [flat, flat.flatL]) (by simp [flat, flat.flatL, wsv]) ?_
  simp only [lawG, ↓Xn, ↓Xo, ↓Xg, ↓Xd, ↓Xe, ↓Xf, Tryz.VΓ, Tryz.Γs, Xp, Xi, Nat.reduceAdd, Nat.reduceSub, Nat.reduceLT, Nat.reduceLeDiff, reduceIte, reduceCtorEq, Nat.reduceEqDiff, implies_true, forall_const, lawV]
  refine ⟨fun h => ?_, fun h => ?_⟩
  · have : urlParse s = (Url.none, 5) := if_pos (by simp at h; omega)
    rw [this]; rfl
  have hl : ¬ 4096 < s.length := (by simp at h; omega)
  have hq : urlParse s = if (uriSplit s).2 ≠ 0 then (Url.none, (uriSplit s).2) else urlOf (uriSplit s).1 := if_neg hl
  rw [hq]
  have ps := p_uri_Split s
  unfold usv at ps
  have hp := split_path s
  have hz := split_size s
  revert ps hp hz
  generalize uriSplit s = us
  obtain ⟨r, c⟩ := us
  intro ps hp hz
  simp only at ps hp hz
  simp only
  unfold Uri.size at hz
  have pl := p_Equal r.scheme https (by omega) (by decide)
  have pn := p_Contains r.authority 64
  have ph := p_host_Parse r.authority (by omega)
  have p1 := p_Normalize r.path inPath (by decide)
  have p2 := p_Normalize r.query inQuery (by decide)
  have p3 := p_Normalize r.fragment inQuery (by decide)
  (refine callV_pc (ps) ?_; simp only [lawG, ↓Xn, ↓Xo, ↓Xg, ↓Xd, ↓Xe, ↓Xf, Tryz.VΓ, Tryz.Γs, Xp, Xi, Nat.reduceAdd, Nat.reduceSub, Nat.reduceLT, Nat.reduceLeDiff, reduceIte, reduceCtorEq, Nat.reduceEqDiff, implies_true, forall_const, lawV])
  refine ⟨fun h1 => ?_, fun h1 => ?_⟩
  · rw [if_pos (by simpa using h1)]; rfl
  rw [if_neg (by simpa using h1)]
  unfold urlOf
  cases hsc : r.hasScheme
  · simp only [lawG, ↓Xn, ↓Xo, ↓Xg, ↓Xd, ↓Xe, ↓Xf, Tryz.VΓ, Tryz.Γs, Xp, Xi, Nat.reduceAdd, Nat.reduceSub, Nat.reduceLT, Nat.reduceLeDiff, reduceIte, reduceCtorEq, Nat.reduceEqDiff, implies_true, forall_const, lawV, hsc]
    rw [if_pos (.inl trivial)]; rfl
  simp only [lawG, ↓Xn, ↓Xo, ↓Xg, ↓Xd, ↓Xe, ↓Xf, Tryz.VΓ, Tryz.Γs, Xp, Xi, Nat.reduceAdd, Nat.reduceSub, Nat.reduceLT, Nat.reduceLeDiff, reduceIte, reduceCtorEq, Nat.reduceEqDiff, implies_true, forall_const, lawV, hsc]
  rw [show lower https = https by decide] at pl
  (refine callV_pc pl ?_; simp only [lawG, ↓Xn, ↓Xo, ↓Xg, ↓Xd, ↓Xe, ↓Xf, Tryz.VΓ, Tryz.Γs, Xp, Xi, Nat.reduceAdd, Nat.reduceSub, Nat.reduceLT, Nat.reduceLeDiff, reduceIte, reduceCtorEq, Nat.reduceEqDiff, implies_true, forall_const, lawV, hsc])
  refine ⟨fun h2 => ?_, fun h2 => ?_⟩
  · rw [if_pos (.inr (by simpa using h2))]; rfl
  rw [if_neg (by simpa using h2)]
  cases hau : r.hasAuthority
  · simp only [lawG, ↓Xn, ↓Xo, ↓Xg, ↓Xd, ↓Xe, ↓Xf, Tryz.VΓ, Tryz.Γs, Xp, Xi, Nat.reduceAdd, Nat.reduceSub, Nat.reduceLT, Nat.reduceLeDiff, reduceIte, reduceCtorEq, Nat.reduceEqDiff, implies_true, forall_const, lawV, hau]
    rfl
  simp only [lawG, ↓Xn, ↓Xo, ↓Xg, ↓Xd, ↓Xe, ↓Xf, Tryz.VΓ, Tryz.Γs, Xp, Xi, Nat.reduceAdd, Nat.reduceSub, Nat.reduceLT, Nat.reduceLeDiff, reduceIte, reduceCtorEq, Nat.reduceEqDiff, implies_true, forall_const, lawV, hau]
  (refine callV_pc pn ?_; simp only [lawG, ↓Xn, ↓Xo, ↓Xg, ↓Xd, ↓Xe, ↓Xf, Tryz.VΓ, Tryz.Γs, Xp, Xi, Nat.reduceAdd, Nat.reduceSub, Nat.reduceLT, Nat.reduceLeDiff, reduceIte, reduceCtorEq, Nat.reduceEqDiff, implies_true, forall_const, lawV, hau])
  refine ⟨fun h3 => ?_, fun h3 => ?_⟩
  · rw [if_pos (by simpa using h3)]; rfl
  rw [if_neg (by simpa using h3)]
  unfold urlParts
  (refine callV_pc ph ?_; simp only [lawG, ↓Xn, ↓Xo, ↓Xg, ↓Xd, ↓Xe, ↓Xf, Tryz.VΓ, Tryz.Γs, Xp, Xi, Nat.reduceAdd, Nat.reduceSub, Nat.reduceLT, Nat.reduceLeDiff, reduceIte, reduceCtorEq, Nat.reduceEqDiff, implies_true, forall_const, lawV, hau])
  refine ⟨fun h4 => ?_, fun h4 => ?_⟩
  · rw [if_pos (by simpa using h4)]; rfl
  rw [if_neg (by simpa using h4)]
  have hN1 := pctNorm_len inPath r.path
  have hN2 := pctNorm_len inQuery r.query
  have hN3 := pctNorm_len inQuery r.fragment
  have hH := hostPort_ok r.authority (by simpa using h4)
  have p4 := p_uri_RemoveDots (pctNorm inPath r.path).1 (by omega)
  have hD := removeDots_len (pctNorm inPath r.path).1
  generalize pctNorm inPath r.path = n1 at p1 p4 hN1 hD ⊢
  generalize pctNorm inQuery r.query = n2 at p2 hN2 ⊢
  generalize pctNorm inQuery r.fragment = n3 at p3 hN3 ⊢
  generalize (hostPort r.authority).1 = hp at hH ⊢
  obtain ⟨n1, e1⟩ := n1
  obtain ⟨n2, e2⟩ := n2
  obtain ⟨n3, e3⟩ := n3
  obtain ⟨hh, pp⟩ := hp
  simp only at p1 p2 p3 p4 hN1 hN2 hN3 hH hD ⊢
  (refine callV_pc p1 ?_; simp only [lawG, ↓Xn, ↓Xo, ↓Xg, ↓Xd, ↓Xe, ↓Xf, Tryz.VΓ, Tryz.Γs, Xp, Xi, Nat.reduceAdd, Nat.reduceSub, Nat.reduceLT, Nat.reduceLeDiff, reduceIte, reduceCtorEq, Nat.reduceEqDiff, implies_true, forall_const, lawV])
  refine ⟨fun h5 => ?_, fun h5 => ?_⟩
  · rw [if_pos (by simpa using h5)]; rfl
  rw [if_neg (by simpa using h5)]
  (refine callV_pc p2 ?_; simp only [lawG, ↓Xn, ↓Xo, ↓Xg, ↓Xd, ↓Xe, ↓Xf, Tryz.VΓ, Tryz.Γs, Xp, Xi, Nat.reduceAdd, Nat.reduceSub, Nat.reduceLT, Nat.reduceLeDiff, reduceIte, reduceCtorEq, Nat.reduceEqDiff, implies_true, forall_const, lawV])
  refine ⟨fun h6 => ?_, fun h6 => ?_⟩
  · rw [if_pos (by simpa using h6)]; rfl
  rw [if_neg (by simpa using h6)]
  (refine callV_pc p3 ?_; simp only [lawG, ↓Xn, ↓Xo, ↓Xg, ↓Xd, ↓Xe, ↓Xf, Tryz.VΓ, Tryz.Γs, Xp, Xi, Nat.reduceAdd, Nat.reduceSub, Nat.reduceLT, Nat.reduceLeDiff, reduceIte, reduceCtorEq, Nat.reduceEqDiff, implies_true, forall_const, lawV])
  refine ⟨fun h7 => ?_, fun h7 => ?_⟩
  · rw [if_pos (by simpa using h7)]; rfl
  rw [if_neg (by simpa using h7)]
  unfold urlEnd
  (refine callV_pc p4 ?_; simp only [lawG, ↓Xn, ↓Xo, ↓Xg, ↓Xd, ↓Xe, ↓Xf, Tryz.VΓ, Tryz.Γs, Xp, Xi, Nat.reduceAdd, Nat.reduceSub, Nat.reduceLT, Nat.reduceLeDiff, reduceIte, reduceCtorEq, Nat.reduceEqDiff, implies_true, forall_const, lawV])
  generalize removeDots n1 = d at hD ⊢
  have fin : ∀ d' : Bytes, d'.length ≤ 4096 * 6 → PC Tryz.V 59 [wsv ⟨hh, pp, d', n2, n3, r.hasQuery, r.hasFrag⟩] (.str (urlText ⟨hh, pp, d', n2, n3, r.hasQuery, r.hasFrag⟩)) := fun d' hd' =>
    p_url_Format _ ⟨by simp only; omega, by simp only; omega, by simp only; omega⟩
  unfold wsv at fin
  refine ⟨fun h8 => ?_, fun h8 => ?_⟩
  · have f1 := fin [47] (by decide)
    have h8' : d = [] := by simpa using h8
    rw [if_pos h8']
    (refine callV_pc f1 ?_; simp only [lawG, ↓Xn, ↓Xo, ↓Xg, ↓Xd, ↓Xe, ↓Xf, Tryz.VΓ, Tryz.Γs, Xp, Xi, Nat.reduceAdd, Nat.reduceSub, Nat.reduceLT, Nat.reduceLeDiff, reduceIte, reduceCtorEq, Nat.reduceEqDiff, implies_true, forall_const, lawV])
    refine ⟨fun h9 => ?_, fun h9 => ?_⟩
    · rw [if_pos (by simp at h9; omega)]; rfl
    · rw [if_neg (by simp at h9; omega)]; rfl
  · have f1 := fin d (by omega)
    have h8' : ¬ d = [] := by simpa using h8
    rw [if_neg h8']
    (refine callV_pc f1 ?_; simp only [lawG, ↓Xn, ↓Xo, ↓Xg, ↓Xd, ↓Xe, ↓Xf, Tryz.VΓ, Tryz.Γs, Xp, Xi, Nat.reduceAdd, Nat.reduceSub, Nat.reduceLT, Nat.reduceLeDiff, reduceIte, reduceCtorEq, Nat.reduceEqDiff, implies_true, forall_const, lawV])
    refine ⟨fun h9 => ?_, fun h9 => ?_⟩
    · rw [if_pos (by simp at h9; omega)]; rfl
    · rw [if_neg (by simp at h9; omega)]; rfl
end Go.Proofs.YtcndmooeglfilaaGreatDoor
/- The walk of the reference's Parse. -/
set_option linter.all false
set_option maxRecDepth 20000
namespace Go.Proofs.YtcndmooeglfilaaGreatDoor
open Go Vc Go.RowKit Wf
set_option linter.unusedSimpArgs false
set_option maxRecDepth 20000 in
set_option maxHeartbeats 4000000 in
theorem p_r7_Parse (s : Bytes) : PC Tryz.V 26 [.str s] (.tup [wsv (urlParse s).1, .int .i64 (urlParse s).2]) := by
  refine pc_of 3000 Tryz.func26 rfl Tryz.ntmps26 Tryz.results26 Tryz.call26 (by simp) (by simp [flat, flat.flatL]) (by simp [flat, flat.flatL, wsv]) ?_
  simp only [lawG, ↓Xn, ↓Xo, ↓Xg, ↓Xd, ↓Xe, ↓Xf, Tryz.VΓ, Tryz.Γs, Xp, Xi, Nat.reduceAdd, Nat.reduceSub, Nat.reduceLT, Nat.reduceLeDiff, reduceIte, reduceCtorEq, Nat.reduceEqDiff, implies_true, forall_const, lawV]
  refine ⟨fun h => ?_, fun h => ?_⟩
  · have : urlParse s = (Url.none, 5) := if_pos (by simp at h; omega)
    rw [this]; rfl
  have hl : ¬ 4096 < s.length := (by simp at h; omega)
  have hq : urlParse s = if (uriSplit s).2 ≠ 0 then (Url.none, (uriSplit s).2) else urlOf (uriSplit s).1 := if_neg hl
  rw [hq]
  have ps := p_r6_Split s
  unfold usv at ps
  have hp := split_path s
  have hz := split_size s
  revert ps hp hz
  generalize uriSplit s = us
  obtain ⟨r, c⟩ := us
  intro ps hp hz
  simp only at ps hp hz
  simp only
  unfold Uri.size at hz
  have pl := p_r1_Equal r.scheme https (by omega) (by decide)
  have pn := p_r1_Index r.authority [64] (by omega) (by decide)
  have hpm := pre_mem r.authority 64
  have hpl := pre_le (· == 64) r.authority
  rw [show (List.contains [64] · : UInt8 → Bool) = (· == 64) from by funext c; simp; exact (Bool.beq_eq_decide_eq _ _).symm] at pn
  have ph := p_r5_Parse r.authority (by omega)
  have p1 := p_r3_Normalize r.path inPath (by decide)
  have p2 := p_r3_Normalize r.query inQuery (by decide)
  have p3 := p_r3_Normalize r.fragment inQuery (by decide)
  (refine callV_pc (ps) ?_; simp only [lawG, ↓Xn, ↓Xo, ↓Xg, ↓Xd, ↓Xe, ↓Xf, Tryz.VΓ, Tryz.Γs, Xp, Xi, Nat.reduceAdd, Nat.reduceSub, Nat.reduceLT, Nat.reduceLeDiff, reduceIte, reduceCtorEq, Nat.reduceEqDiff, implies_true, forall_const, lawV])
  refine ⟨fun h1 => ?_, fun h1 => ?_⟩
  · rw [if_pos (by simpa using h1)]; rfl
  rw [if_neg (by simpa using h1)]
  unfold urlOf
  cases hsc : r.hasScheme
  · simp only [lawG, ↓Xn, ↓Xo, ↓Xg, ↓Xd, ↓Xe, ↓Xf, Tryz.VΓ, Tryz.Γs, Xp, Xi, Nat.reduceAdd, Nat.reduceSub, Nat.reduceLT, Nat.reduceLeDiff, reduceIte, reduceCtorEq, Nat.reduceEqDiff, implies_true, forall_const, lawV, hsc]
    rw [if_pos (.inl trivial)]; rfl
  simp only [lawG, ↓Xn, ↓Xo, ↓Xg, ↓Xd, ↓Xe, ↓Xf, Tryz.VΓ, Tryz.Γs, Xp, Xi, Nat.reduceAdd, Nat.reduceSub, Nat.reduceLT, Nat.reduceLeDiff, reduceIte, reduceCtorEq, Nat.reduceEqDiff, implies_true, forall_const, lawV, hsc]
  rw [show lower https = https by decide] at pl
  (refine callV_pc pl ?_; simp only [lawG, ↓Xn, ↓Xo, ↓Xg, ↓Xd, ↓Xe, ↓Xf, Tryz.VΓ, Tryz.Γs, Xp, Xi, Nat.reduceAdd, Nat.reduceSub, Nat.reduceLT, Nat.reduceLeDiff, reduceIte, reduceCtorEq, Nat.reduceEqDiff, implies_true, forall_const, lawV, hsc])
  refine ⟨fun h2 => ?_, fun h2 => ?_⟩
  · rw [if_pos (.inr (by simpa using h2))]; rfl
  rw [if_neg (by simpa using h2)]
  cases hau : r.hasAuthority
  · simp only [lawG, ↓Xn, ↓Xo, ↓Xg, ↓Xd, ↓Xe, ↓Xf, Tryz.VΓ, Tryz.Γs, Xp, Xi, Nat.reduceAdd, Nat.reduceSub, Nat.reduceLT, Nat.reduceLeDiff, reduceIte, reduceCtorEq, Nat.reduceEqDiff, implies_true, forall_const, lawV, hau]
    rfl
  simp only [lawG, ↓Xn, ↓Xo, ↓Xg, ↓Xd, ↓Xe, ↓Xf, Tryz.VΓ, Tryz.Γs, Xp, Xi, Nat.reduceAdd, Nat.reduceSub, Nat.reduceLT, Nat.reduceLeDiff, reduceIte, reduceCtorEq, Nat.reduceEqDiff, implies_true, forall_const, lawV, hau]
  (refine callD_pc pn ?_; simp only [lawG, ↓Xn, ↓Xo, ↓Xg, ↓Xd, ↓Xe, ↓Xf, Tryz.VΓ, Tryz.Γs, Xp, Xi, Nat.reduceAdd, Nat.reduceSub, Nat.reduceLT, Nat.reduceLeDiff, reduceIte, reduceCtorEq, Nat.reduceEqDiff, implies_true, forall_const, lawV, hau])
  refine ⟨(OkD_fast (by kernel_rfl)), fun h3 => ?_, fun h3 => ?_⟩
  · rw [if_pos (hpm.1 (by simp at h3; omega))]; rfl
  rw [if_neg (fun k => absurd (hpm.2 k) (by simp at h3; omega))]
  unfold urlParts
  (refine callV_pc ph ?_; simp only [lawG, ↓Xn, ↓Xo, ↓Xg, ↓Xd, ↓Xe, ↓Xf, Tryz.VΓ, Tryz.Γs, Xp, Xi, Nat.reduceAdd, Nat.reduceSub, Nat.reduceLT, Nat.reduceLeDiff, reduceIte, reduceCtorEq, Nat.reduceEqDiff, implies_true, forall_const, lawV, hau])
  refine ⟨fun h4 => ?_, fun h4 => ?_⟩
  · rw [if_pos (by simpa using h4)]; rfl
  rw [if_neg (by simpa using h4)]
  have hN1 := pctNorm_len inPath r.path
  have hN2 := pctNorm_len inQuery r.query
  have hN3 := pctNorm_len inQuery r.fragment
  have hH := hostPort_ok r.authority (by simpa using h4)
  have p4 := p_r6_RemoveDots (pctNorm inPath r.path).1 (by omega)
  have hD := removeDots_len (pctNorm inPath r.path).1
  generalize pctNorm inPath r.path = n1 at p1 p4 hN1 hD ⊢
  generalize pctNorm inQuery r.query = n2 at p2 hN2 ⊢
  generalize pctNorm inQuery r.fragment = n3 at p3 hN3 ⊢
  generalize (hostPort r.authority).1 = hp at hH ⊢
  obtain ⟨n1, e1⟩ := n1
  obtain ⟨n2, e2⟩ := n2
  obtain ⟨n3, e3⟩ := n3
  obtain ⟨hh, pp⟩ := hp
  simp only at p1 p2 p3 p4 hN1 hN2 hN3 hH hD ⊢
  (refine callV_pc p1 ?_; simp only [lawG, ↓Xn, ↓Xo, ↓Xg, ↓Xd, ↓Xe, ↓Xf, Tryz.VΓ, Tryz.Γs, Xp, Xi, Nat.reduceAdd, Nat.reduceSub, Nat.reduceLT, Nat.reduceLeDiff, reduceIte, reduceCtorEq, Nat.reduceEqDiff, implies_true, forall_const, lawV])
  refine ⟨fun h5 => ?_, fun h5 => ?_⟩
  · rw [if_pos (by simpa using h5)]; rfl
  rw [if_neg (by simpa using h5)]
  (refine callV_pc p2 ?_; simp only [lawG, ↓Xn, ↓Xo, ↓Xg, ↓Xd, ↓Xe, ↓Xf, Tryz.VΓ, Tryz.Γs, Xp, Xi, Nat.reduceAdd, Nat.reduceSub, Nat.reduceLT, Nat.reduceLeDiff, reduceIte, reduceCtorEq, Nat.reduceEqDiff, implies_true, forall_const, lawV])
  refine ⟨fun h6 => ?_, fun h6 => ?_⟩
  · rw [if_pos (by simpa using h6)]; rfl
  rw [if_neg (by simpa using h6)]
  (refine callV_pc p3 ?_; simp only [lawG, ↓Xn, ↓Xo, ↓Xg, ↓Xd, ↓Xe, ↓Xf, Tryz.VΓ, Tryz.Γs, Xp, Xi, Nat.reduceAdd, Nat.reduceSub, Nat.reduceLT, Nat.reduceLeDiff, reduceIte, reduceCtorEq, Nat.reduceEqDiff, implies_true, forall_const, lawV])
  refine ⟨fun h7 => ?_, fun h7 => ?_⟩
  · rw [if_pos (by simpa using h7)]; rfl
  rw [if_neg (by simpa using h7)]
  unfold urlEnd
  (refine callV_pc p4 ?_; simp only [lawG, ↓Xn, ↓Xo, ↓Xg, ↓Xd, ↓Xe, ↓Xf, Tryz.VΓ, Tryz.Γs, Xp, Xi, Nat.reduceAdd, Nat.reduceSub, Nat.reduceLT, Nat.reduceLeDiff, reduceIte, reduceCtorEq, Nat.reduceEqDiff, implies_true, forall_const, lawV])
  generalize removeDots n1 = d at hD ⊢
  have fin : ∀ d' : Bytes, d'.length ≤ 4096 * 6 → PC Tryz.V 48 [wsv ⟨hh, pp, d', n2, n3, r.hasQuery, r.hasFrag⟩] (.str (urlText ⟨hh, pp, d', n2, n3, r.hasQuery, r.hasFrag⟩)) := fun d' hd' =>
    p_r7_Format _ ⟨by simp only; omega, by simp only; omega, by simp only; omega⟩
  unfold wsv at fin
  refine ⟨fun h8 => ?_, fun h8 => ?_⟩
  · have f1 := fin [47] (by decide)
    have h8' : d = [] := by simpa using h8
    rw [if_pos h8']
    (refine callV_pc f1 ?_; simp only [lawG, ↓Xn, ↓Xo, ↓Xg, ↓Xd, ↓Xe, ↓Xf, Tryz.VΓ, Tryz.Γs, Xp, Xi, Nat.reduceAdd, Nat.reduceSub, Nat.reduceLT, Nat.reduceLeDiff, reduceIte, reduceCtorEq, Nat.reduceEqDiff, implies_true, forall_const, lawV])
    refine ⟨fun h9 => ?_, fun h9 => ?_⟩
    · rw [if_pos (by simp at h9; omega)]; rfl
    · rw [if_neg (by simp at h9; omega)]; rfl
  · have f1 := fin d (by omega)
    have h8' : ¬ d = [] := by simpa using h8
    rw [if_neg h8']
    (refine callV_pc f1 ?_; simp only [lawG, ↓Xn, ↓Xo, ↓Xg, ↓Xd, ↓Xe, ↓Xf, Tryz.VΓ, Tryz.Γs, Xp, Xi, Nat.reduceAdd, Nat.reduceSub, Nat.reduceLT, Nat.reduceLeDiff, reduceIte, reduceCtorEq, Nat.reduceEqDiff, implies_true, forall_const, lawV])
    refine ⟨fun h9 => ?_, fun h9 => ?_⟩
    · rw [if_pos (by simp at h9; omega)]; rfl
    · rw [if_neg (by simp at h9; omega)]; rfl
end Go.Proofs.YtcndmooeglfilaaGreatDoor
/- The walks of Valid and Relative. -/
set_option linter.all false
set_option maxRecDepth 20000
namespace Go.Proofs.YtcndmooeglfilaaGreatDoor
open Go Vc Go.RowKit Wf
set_option linter.unusedSimpArgs false
set_option maxRecDepth 20000 in
set_option maxHeartbeats 2000000 in
theorem p_url_Valid (u : Url) (hk : Fair u) : PC Tryz.V 76 [wsv u] (.bool (urlValid u)) := by
  have pf := p_url_Format u hk
  have pp := p_url_Parse (urlText u)
  unfold wsv at pf pp
  (refine pc_of 3000 Tryz.func76 rfl Tryz.ntmps76 Tryz.results76 Tryz.call76 (by simp) (by simp [flat, flat.flatL, wsv]) (by simp [flat, flat.flatL, wsv]) ?_
   unfold wsv
   simp only [lawG, ↓Xn, ↓Xo, ↓Xg, ↓Xd, ↓Xe, ↓Xf, Tryz.VΓ, Tryz.Γs, Xp, Xi, Nat.reduceAdd, Nat.reduceSub, Nat.reduceLT, Nat.reduceLeDiff, reduceIte, reduceCtorEq, Nat.reduceEqDiff, implies_true, forall_const, lawV])
  (refine callV_pc (pf) ?_; simp only [lawG, ↓Xn, ↓Xo, ↓Xg, ↓Xd, ↓Xe, ↓Xf, Tryz.VΓ, Tryz.Γs, Xp, Xi, Nat.reduceAdd, Nat.reduceSub, Nat.reduceLT, Nat.reduceLeDiff, reduceIte, reduceCtorEq, Nat.reduceEqDiff, implies_true, forall_const, lawV])
  (refine callV_pc (pp) ?_; simp only [lawG, ↓Xn, ↓Xo, ↓Xg, ↓Xd, ↓Xe, ↓Xf, Tryz.VΓ, Tryz.Γs, Xp, Xi, Nat.reduceAdd, Nat.reduceSub, Nat.reduceLT, Nat.reduceLeDiff, reduceIte, reduceCtorEq, Nat.reduceEqDiff, implies_true, forall_const, lawV])
  unfold urlValid
  generalize urlParse (urlText u) = x
  obtain ⟨⟨a, b, c, d, e, f, g⟩, y⟩ := x
  obtain ⟨a', b', c', d', e', f', g'⟩ := u
  simp only [eqS, eqB, eqK, eqK.eqF]
  refine ⟨fun h => ?_, fun h => ?_⟩
  · obtain rfl : y = 0 := by simpa using h
    congr 1
    rw [Bool.eq_iff_iff]
    simp only [Bool.and_eq_true, beq_iff_eq, decide_eq_true_eq, Prod.mk.injEq, Url.mk.injEq, and_true]
    constructor <;> (rintro ⟨rfl, rfl, rfl, rfl, rfl, rfl, rfl⟩; exact ⟨rfl, rfl, rfl, rfl, rfl, rfl, rfl⟩)
  · congr 1
    exact (decide_eq_false (fun k => by rw [(Prod.mk.inj k).2] at h; simp at h)).symm
set_option maxRecDepth 20000 in
set_option maxHeartbeats 2000000 in
theorem p_r7_Valid (u : Url) (hk : Fair u) : PC Tryz.V 18 [wsv u] (.bool (urlValid u)) := by
  have pf := p_r7_Format u hk
  have pp := p_r7_Parse (urlText u)
  unfold wsv at pf pp
  (refine pc_of 3000 Tryz.func18 rfl Tryz.ntmps18 Tryz.results18 Tryz.call18 (by simp) (by simp [flat, flat.flatL, wsv]) (by simp [flat, flat.flatL, wsv]) ?_
   unfold wsv
   simp only [lawG, ↓Xn, ↓Xo, ↓Xg, ↓Xd, ↓Xe, ↓Xf, Tryz.VΓ, Tryz.Γs, Xp, Xi, Nat.reduceAdd, Nat.reduceSub, Nat.reduceLT, Nat.reduceLeDiff, reduceIte, reduceCtorEq, Nat.reduceEqDiff, implies_true, forall_const, lawV])
  (refine callV_pc (pf) ?_; simp only [lawG, ↓Xn, ↓Xo, ↓Xg, ↓Xd, ↓Xe, ↓Xf, Tryz.VΓ, Tryz.Γs, Xp, Xi, Nat.reduceAdd, Nat.reduceSub, Nat.reduceLT, Nat.reduceLeDiff, reduceIte, reduceCtorEq, Nat.reduceEqDiff, implies_true, forall_const, lawV])
  (refine callV_pc (pp) ?_; simp only [lawG, ↓Xn, ↓Xo, ↓Xg, ↓Xd, ↓Xe, ↓Xf, Tryz.VΓ, Tryz.Γs, Xp, Xi, Nat.reduceAdd, Nat.reduceSub, Nat.reduceLT, Nat.reduceLeDiff, reduceIte, reduceCtorEq, Nat.reduceEqDiff, implies_true, forall_const, lawV])
  unfold urlValid
  generalize urlParse (urlText u) = x
  obtain ⟨⟨a, b, c, d, e, f, g⟩, y⟩ := x
  obtain ⟨a', b', c', d', e', f', g'⟩ := u
  simp only [eqS, eqB, eqK, eqK.eqF]
  refine ⟨fun h => ?_, fun h => ?_⟩
  · obtain rfl : y = 0 := by simpa using h
    congr 1
    rw [Bool.eq_iff_iff]
    simp only [Bool.and_eq_true, beq_iff_eq, decide_eq_true_eq, Prod.mk.injEq, Url.mk.injEq, and_true]
    constructor <;> (rintro ⟨rfl, rfl, rfl, rfl, rfl, rfl, rfl⟩; exact ⟨rfl, rfl, rfl, rfl, rfl, rfl, rfl⟩)
  · congr 1
    exact (decide_eq_false (fun k => by rw [(Prod.mk.inj k).2] at h; simp at h)).symm
end Go.Proofs.YtcndmooeglfilaaGreatDoor
/- The walks of Relative. -/
set_option linter.all false
set_option maxRecDepth 20000
namespace Go.Proofs.YtcndmooeglfilaaGreatDoor
open Go Vc Go.RowKit Wf
set_option linter.unusedSimpArgs false
def wsvR (u : Url) : SV := wsv u
end Go.Proofs.YtcndmooeglfilaaGreatDoor
